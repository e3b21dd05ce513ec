/- Script: scripts made such as may be put. -/
import Derived.Test.YtcbppmocgiamiaaSR
namespace Go.Proofs.Ytcbppmocgiamiaa
open Go.Pv
def fit1 (o : FOp) : FOp :=
  if o.op % 5 = 0 then ⟨0, o.a % 64, 0⟩ else if o.op % 5 = 1 then ⟨1, o.a % 8 % 6, 0⟩ else if o.op % 5 = 2 then ⟨2, o.a % 8 % 6, o.b % 8 % 6⟩ else if o.op % 5 = 3 then ⟨3, o.a % 8 % 6, o.b % 8⟩ else ⟨4, 0, 0⟩
def fitO (ops : List FOp) : List FOp := (ops.take 8).map fit1
def fitFs (l : List (List FOp)) : List (List FOp) := (l.take 8).map fitO
theorem fitO_end {p : List FOp} {j : Nat} (h : j = 8 ∨ (p.length ≤ j ∧ j ≤ 8)) : (p.take j).map fit1 = fitO p := by
  unfold fitO; congr 1; rw [List.take_eq_take_iff]; omega
theorem fitFs_end {l : List (List FOp)} {j : Nat} (h : j = 8 ∨ (l.length ≤ j ∧ j ≤ 8)) : (l.take j).map fitO = fitFs l := by
  unfold fitFs; congr 1; rw [List.take_eq_take_iff]; omega
theorem fit1_0 {o : FOp} (h : o.op % 5 = 0) : eF (fit1 o) = [.v (.int .u8 (o.op % 5)), .v (.int .i64 (o.a % 64)), .v (.int .i64 0)] := by
  unfold fit1; rw [if_pos h, h]; rfl
theorem fit1_1 {o : FOp} (h0 : ¬ o.op % 5 = 0) (h : o.op % 5 = 1) : eF (fit1 o) = [.v (.int .u8 (o.op % 5)), .v (.int .i64 (o.a % 8 % 6)), .v (.int .i64 0)] := by
  unfold fit1; rw [if_neg h0, if_pos h, h]; rfl
theorem fit1_2 {o : FOp} (h0 : ¬ o.op % 5 = 0) (h1 : ¬ o.op % 5 = 1) (h : o.op % 5 = 2) : eF (fit1 o) = [.v (.int .u8 (o.op % 5)), .v (.int .i64 (o.a % 8 % 6)), .v (.int .i64 (o.b % 8 % 6))] := by
  unfold fit1; rw [if_neg h0, if_neg h1, if_pos h, h]; rfl
theorem fit1_3 {o : FOp} (h0 : ¬ o.op % 5 = 0) (h1 : ¬ o.op % 5 = 1) (h2 : ¬ o.op % 5 = 2) (h : o.op % 5 = 3) : eF (fit1 o) = [.v (.int .u8 (o.op % 5)), .v (.int .i64 (o.a % 8 % 6)), .v (.int .i64 (o.b % 8))] := by
  unfold fit1; rw [if_neg h0, if_neg h1, if_neg h2, if_pos h, h]; rfl
theorem fit1_4 {o : FOp} (h0 : ¬ o.op % 5 = 0) (h1 : ¬ o.op % 5 = 1) (h2 : ¬ o.op % 5 = 2) (h3 : ¬ o.op % 5 = 3) (hp : 0 ≤ o.op) : eF (fit1 o) = [.v (.int .u8 (o.op % 5)), .v (.int .i64 0), .v (.int .i64 0)] := by
  unfold fit1; rw [if_neg h0, if_neg h1, if_neg h2, if_neg h3, show o.op % 5 = 4 by omega]; rfl
theorem OM_fit1 (o : FOp) : OM (fit1 o) := by
  unfold fit1
  split
  · exact ⟨by simp, by simp [bA]; omega, by simp [bB]⟩
  · split
    · exact ⟨by simp, by simp [bA]; omega, by simp [bB]⟩
    · split
      · exact ⟨by simp, by simp [bA]; omega, by simp [bB]; omega⟩
      · split
        · exact ⟨by simp, by simp [bA]; omega, by simp [bB]; omega⟩
        · exact ⟨by simp, by simp [bA], by simp [bB]⟩
def fitC (c : Call) : Call := ⟨c.op % 12, c.r % 4, c.h % 4, c.v % 4, c.a % 65536 - 32768, c.b % 256, c.c % 8⟩
theorem CM_fitC (c : Call) : CM (fitC c) := by unfold CM fitC; simp only; omega
def fF (s : Scr) (i : Nat) : List (List FOp) := (List.range i).map fun k => (fitFs s.fins).getD k default
def fL (s : Scr) (i k : Nat) : List Call := ((s.progs.getD i default).take k).map fitC
def fG (s : Scr) (i : Nat) : List (List Call) := (List.range i).map fun k => fL s k 20
def fP (s : Scr) (i : Nat) : List Int := (s.picks.take i).map (· % 65536)
def fitS (s : Scr) : Scr := ⟨1 + s.sc % 8, 1 + s.th % 4, 8 * (s.im % 64), 8 * (s.hp % 128), fF s 8, fG s (1 + s.th % 4).toNat, fP s 100⟩
theorem fF_next (s : Scr) (i : Nat) : fF s (i + 1) = fF s i ++ [(fitFs s.fins).getD i default] := by simp [fF, List.range_succ]
theorem fG_next (s : Scr) (i : Nat) : fG s (i + 1) = fG s i ++ [fL s i 20] := by simp [fG, List.range_succ]
theorem fL_next {s : Scr} {i k : Nat} (h : k < (s.progs.getD i default).length) : fL s i (k + 1) = fL s i k ++ [fitC ((s.progs.getD i default).getD k default)] := by
  unfold fL; rw [take_one h, List.map_append]; rfl
theorem fL_end {s : Scr} {i k : Nat} (h : k = 20 ∨ ((s.progs.getD i default).length ≤ k ∧ k ≤ 20)) : fL s i k = fL s i 20 := by
  unfold fL; congr 1; rw [List.take_eq_take_iff]; omega
theorem fP_next {s : Scr} {k : Nat} (h : k < s.picks.length) : fP s (k + 1) = fP s k ++ [s.picks.getD k default % 65536] := by
  unfold fP; rw [take_one h, List.map_append]; rfl
theorem fP_end {s : Scr} {k : Nat} (h : k = 100 ∨ (s.picks.length ≤ k ∧ k ≤ 100)) : fP s k = fP s 100 := by
  unfold fP; congr 1; rw [List.take_eq_take_iff]; omega
theorem fF_len (s : Scr) (i : Nat) : (fF s i).length = i := by simp [fF]
theorem fG_len (s : Scr) (i : Nat) : (fG s i).length = i := by simp [fG]
theorem fL_len (s : Scr) (i k : Nat) : (fL s i k).length ≤ k := by simp [fL]; omega
theorem fP_len (s : Scr) (k : Nat) : (fP s k).length ≤ k := by simp [fP]; omega
theorem fitFs_len (l : List (List FOp)) : (fitFs l).length ≤ 8 := by simp [fitFs]; omega
theorem prog_none {s : Scr} {i : Nat} (h : ¬ i < s.progs.length) : (s.progs.getD i default).length = 0 := by
  simp [List.getD, List.getElem?_eq_none (show s.progs.length ≤ i by omega), default]
theorem fins_none {l : List (List FOp)} {i : Nat} (h : ¬ i < l.length) : l.getD i default = [] := by
  simp [List.getD, List.getElem?_eq_none (show l.length ≤ i by omega), default]
theorem may_fit (s : Scr) : May (fitS s) := by
  refine ⟨by simp only [fitS]; omega, by simp only [fitS]; omega, by simp only [fitS]; omega, by simp only [fitS]; omega, by simp [fitS, fF], by simp only [fitS, fG_len]; omega, ?_, ?_, ?_, ?_⟩
  · intro l hl
    simp only [fitS, fF, List.mem_map] at hl
    obtain ⟨k, _, rfl⟩ := hl
    refine getD_or (p := fun l : List FOp => l.length ≤ 8 ∧ ∀ o ∈ l, OM o) (fun l hl => ?_) ⟨by simp [default], by intro o ho; cases ho⟩ k
    simp only [fitFs, List.mem_map] at hl
    obtain ⟨p, _, rfl⟩ := hl
    refine ⟨by simp [fitO]; omega, fun o ho => ?_⟩
    simp only [fitO, List.mem_map] at ho
    obtain ⟨q, _, rfl⟩ := ho
    exact OM_fit1 q
  · intro l hl
    simp only [fitS, fG, List.mem_map] at hl
    obtain ⟨k, _, rfl⟩ := hl
    refine ⟨by have := fL_len s k 20; omega, fun c hc => ?_⟩
    simp only [fL, List.mem_map] at hc
    obtain ⟨q, _, rfl⟩ := hc
    exact CM_fitC q
  · have := fP_len s 100; simp only [fitS]; omega
  · intro n hn
    simp only [fitS, fP, List.mem_map] at hn
    obtain ⟨q, _, rfl⟩ := hn
    omega
end Go.Proofs.Ytcbppmocgiamiaa
