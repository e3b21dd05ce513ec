/- Script: facts of scripts that bytes say, one by one. -/
import Derived.Test.YtcbppmocgiamiaaSQ
import Derived.Test.YtcbppmocgiamiaaS7
namespace Go.Proofs.Ytcbppmocgiamiaa
open Go.Pv
theorem CM.out {c : Call} (h : CM c) : (0 ≤ c.op ∧ c.op ≤ 11) ∧ (0 ≤ c.r ∧ c.r ≤ 3) ∧ (0 ≤ c.h ∧ c.h ≤ 3) ∧ (0 ≤ c.v ∧ c.v ≤ 3) ∧ (-32768 ≤ c.a ∧ c.a ≤ 32767) ∧ (0 ≤ c.b ∧ c.b ≤ 255) ∧ (0 ≤ c.c ∧ c.c ≤ 7) := h
theorem May.c' {s : Scr} (h : May s) (i j : Nat) : CM ((s.progs.getD i default).getD j default) := by
  have h0 : CM default := by simp [CM, default]
  refine getD_or (p := CM) ?_ h0 j
  exact getD_or (p := fun l => ∀ x ∈ l, CM x) (fun l hl => (h.g l hl).2) (by intro x hx; cases hx) i
theorem May.gl {s : Scr} (h : May s) (i : Nat) : (s.progs.getD i default).length ≤ 64 := getD_or (p := fun l : List Call => l.length ≤ 64) (fun l hl => (h.g l hl).1) (by simp [default]) i
theorem May.fl {s : Scr} (h : May s) (i : Nat) : (s.fins.getD i default).length ≤ 8 := getD_or (p := fun l : List FOp => l.length ≤ 8) (fun l hl => (h.f l hl).1) (by simp [default]) i
theorem May.p' {s : Scr} (h : May s) (i : Nat) : 0 ≤ s.picks.getD i default ∧ s.picks.getD i default ≤ 65535 := getD_or (p := fun n : Int => 0 ≤ n ∧ n ≤ 65535) h.p (by simp [default]) i
theorem OM.one {o : FOp} (h : OM o) : one o = true := by
  unfold OM bA bB at h
  unfold Go.Proofs.Ytcbppmocgiamiaa.one kA kB
  grind
theorem May.o' {s : Scr} (h : May s) (i j : Nat) : OM ((s.fins.getD i default).getD j default) := by
  have h0 : OM default := by simp [OM, default, bA, bB]
  refine getD_or (p := OM) ?_ h0 j
  exact getD_or (p := fun l => ∀ x ∈ l, OM x) (fun l hl => (h.f l hl).2) (by intro x hx; cases hx) i
theorem May.ops {s : Scr} (h : May s) (i j : Nat) (_ : j < (s.fins.getD i default).length) : 0 ≤ ((s.fins.getD i default).getD j default).op ∧ ((s.fins.getD i default).getD j default).op ≤ 255 := by
  have := (h.o' i j).1; omega
theorem May.right {s : Scr} (h : May s) : right s.fins = true := by
  unfold Go.Proofs.Ytcbppmocgiamiaa.right
  have := h.lf
  rw [decide_eq_true (by omega), Bool.true_and, List.all_eq_true]
  intro l hl
  unfold okp
  rw [decide_eq_true (h.f l hl).1, Bool.true_and, List.all_eq_true]
  exact fun o ho => ((h.f l hl).2 o ho).one
theorem May.right05 {s : Scr} (h : May s) : right05 s.sc s.th s.im s.hp = true := by
  have := h.sc; have := h.th; have := h.im; have := h.hp
  unfold Go.Proofs.Ytcbppmocgiamiaa.right05
  rw [decide_eq_true_iff]; omega
end Go.Proofs.Ytcbppmocgiamiaa
