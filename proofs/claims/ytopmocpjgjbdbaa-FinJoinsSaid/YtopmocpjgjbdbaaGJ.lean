/- Programs, one behind the other: plain facts. -/
import Derived.Test.YtopmocpjgjbdbaaGL
namespace Go.Proofs.Ytopmocpjgjbdbaa
open Go.Pv
theorem ok_take {p : List FOp} {n : Nat} (h : ∀ o ∈ p, FOk o) : ∀ o ∈ p.take n, FOk o := fun o ho => h o (List.mem_of_mem_take ho)
theorem ok_drop {p : List FOp} {n : Nat} (h : ∀ o ∈ p, FOk o) : ∀ o ∈ p.drop n, FOk o := fun o ho => h o (List.mem_of_mem_drop ho)
theorem ok_cons {p : List FOp} {c a b : Int} (hc : (0 ≤ c ∧ c ≤ 255) ∧ (0 ≤ b ∧ b ≤ 100)) (h : ∀ o ∈ p, FOk o) : ∀ o ∈ (⟨c, a, b⟩ : FOp) :: p, FOk o := fun o ho => by
  rcases List.mem_cons.1 ho with rfl | ho
  · exact ⟨hc.1, hc.2⟩
  · exact h o ho
theorem step_app (pre p : List FOp) (k : Nat) (s : List Int) (hk : k < p.length) : step (pre ++ p) ((pre.length + k : Nat) : Int) s = ((pre.length : Int) + (step p k s).1, (step p k s).2) := by
  have c1 : 0 ≤ ((pre.length + k : Nat) : Int) ∧ ((pre.length + k : Nat) : Int) < ((pre ++ p).length : Int) := ⟨by omega, by rw [List.length_append]; omega⟩
  have c2 : 0 ≤ (k : Int) ∧ (k : Int) < (p.length : Int) := ⟨by omega, by omega⟩
  unfold step
  rw [if_pos c1, if_pos c2]
  have e : (pre ++ p).getD ((pre.length + k : Nat) : Int).toNat default = p.getD ((k : Nat) : Int).toNat default := by
    simp only [Int.toNat_natCast, List.getD]
    rw [List.getElem?_append_right (by omega), Nat.add_sub_cancel_left]
  rw [e]
  generalize p.getD ((k : Nat) : Int).toNat default = o
  simp only
  by_cases h0 : o.op = 0
  · simp [h0]; omega
  · by_cases h1 : o.op = 1
    · simp [h1]; omega
    · by_cases h2 : o.op = 2
      · simp [h2]; omega
      · by_cases h3 : o.op = 3
        · simp [h3]; omega
        · simp [h0, h1, h2, h3]; omega
theorem runF_acc (p : List FOp) : ∀ (f k n : Nat) (s said : List Int) (held : Bool), runF p f k s said held n = ((runF p f k s [] false 0).1, said ++ (runF p f k s [] false 0).2.1, held || (runF p f k s [] false 0).2.2.1, n + (runF p f k s [] false 0).2.2.2)
  | 0, k, n, s, said, held => by simp [runF]
  | f + 1, k, n, s, said, held => by
    by_cases hk : k < p.length
    · simp only [runF, if_pos hk]
      rw [runF_acc p f _ (n + 1), runF_acc p f _ (0 + 1)]
      simp [List.append_assoc, Bool.or_assoc]; omega
    · simp only [runF, if_neg hk]; simp
theorem runF_shift (pre p : List FOp) (hfo : ∀ o ∈ p, FOk o) : ∀ (f k n : Nat) (s said : List Int) (held : Bool), runF (pre ++ p) f (pre.length + k) s said held n = runF p f k s said held n
  | 0, k, n, s, said, held => by simp [runF]
  | f + 1, k, n, s, said, held => by
    by_cases hk : k < p.length
    · have hk' : pre.length + k < (pre ++ p).length := by rw [List.length_append]; omega
      simp only [runF, if_pos hk, if_pos hk']
      rw [step_app pre p k s hk]
      obtain ⟨_, g2, _⟩ := step_good p k s hfo
      have e : ((pre.length : Int) + (step p k s).1).toNat = pre.length + (step p k s).1.toNat := by omega
      simp only [e]
      exact runF_shift pre p hfo f _ _ _ _ _
    · have hk' : ¬ pre.length + k < (pre ++ p).length := by rw [List.length_append]; omega
      simp only [runF, if_neg hk, if_neg hk']
theorem runF_fuel (p : List FOp) (hfo : ∀ o ∈ p, FOk o) : ∀ (f g k n : Nat) (s said : List Int) (held : Bool), p.length ≤ f + k → p.length ≤ g + k → runF p f k s said held n = runF p g k s said held n
  | 0, g, k, n, s, said, held, h1, h2 => by rw [runF_end (by omega), runF_end (by omega)]
  | f + 1, 0, k, n, s, said, held, h1, h2 => by rw [runF_end (by omega), runF_end (by omega)]
  | f + 1, g + 1, k, n, s, said, held, h1, h2 => by
    by_cases hk : k < p.length
    · simp only [runF, if_pos hk]
      obtain ⟨g1, _⟩ := step_good p k s hfo
      have g1 := g1 hk
      exact runF_fuel p hfo f g _ _ _ _ _ (by omega) (by omega)
    · simp only [runF, if_neg hk]

/-- A skip that goes no further than the end. -/
def SkOk (p : List FOp) (j : Nat) : Prop := (p.getD j default).op = 3 → (p.getD j default).b ≤ (p.length : Int) - 1 - j
theorem step_le {p : List FOp} {k : Nat} {s : List Int} (hk : k < p.length) (h : SkOk p k) (hfo : ∀ o ∈ p, FOk o) : (step p k s).1 ≤ p.length := by
  unfold SkOk at h
  have e : p.getD k default = p[k] := by simp [List.getD, hk]
  have hb := (hfo p[k] (List.getElem_mem hk)).b
  rw [← e] at hb
  have c1 : 0 ≤ ((k : Nat) : Int) ∧ ((k : Nat) : Int) < (p.length : Int) := ⟨by omega, by omega⟩
  unfold step
  rw [if_pos c1, Int.toNat_natCast]
  generalize p.getD k default = o at h hb
  simp only
  by_cases h0 : o.op = 0
  · simp [h0]; omega
  · by_cases h1 : o.op = 1
    · simp [h1]; omega
    · by_cases h2 : o.op = 2
      · simp [h2]; omega
      · by_cases h3 : o.op = 3
        · have h := h h3
          have : skp o.a o.b s ≤ o.b := by unfold skp; split <;> omega
          simp [h3]; omega
        · simp [h0, h1, h2, h3]; omega
theorem step_pre (p q : List FOp) (k : Nat) (s : List Int) (hk : k < p.length) : step (p ++ q) k s = step p k s := by
  have c1 : 0 ≤ (k : Int) ∧ (k : Int) < ((p ++ q).length : Int) := ⟨by omega, by rw [List.length_append]; omega⟩
  have c2 : 0 ≤ (k : Int) ∧ (k : Int) < (p.length : Int) := ⟨by omega, by omega⟩
  unfold step
  rw [if_pos c1, if_pos c2]
  have e : (p ++ q).getD ((k : Nat) : Int).toNat default = p.getD ((k : Nat) : Int).toNat default := by
    simp only [Int.toNat_natCast, List.getD]
    rw [List.getElem?_append_left hk]
  rw [e]
theorem runF_join (p q : List FOp) (hp : ∀ o ∈ p, FOk o) (hq : ∀ o ∈ q, FOk o) (hg : ∀ j, j < p.length → SkOk p j) : ∀ (f g k n : Nat) (s said : List Int) (held : Bool), p.length ≤ f + k → k ≤ p.length → (p ++ q).length ≤ g + k →
    runF (p ++ q) g k s said held n = ((run q (runF p f k s said held n).1).1, (runF p f k s said held n).2.1 ++ (run q (runF p f k s said held n).1).2.1, (runF p f k s said held n).2.2.1 || (run q (runF p f k s said held n).1).2.2.1, (runF p f k s said held n).2.2.2 + (run q (runF p f k s said held n).1).2.2.2) := by
  have base : ∀ (g k n : Nat) (s said : List Int) (held : Bool), k = p.length → (p ++ q).length ≤ g + k → runF (p ++ q) g k s said held n = ((run q s).1, said ++ (run q s).2.1, held || (run q s).2.2.1, n + (run q s).2.2.2) := by
    intro g k n s said held hk h3
    subst hk
    have h := runF_shift p q hq g 0 n s said held
    rw [Nat.add_zero] at h
    rw [h, runF_acc, runF_fuel q hq g q.length 0 0 s [] false (by rw [List.length_append] at h3; omega) (by omega)]
    rfl
  intro f
  induction f with
  | zero =>
    intro g k n s said held h1 h2 h3
    rw [base g k n s said held (by omega) h3]
    rfl
  | succ f ih =>
    intro g k n s said held h1 h2 h3
    by_cases hk : k < p.length
    · cases g with
      | zero => rw [List.length_append] at h3; omega
      | succ g =>
        have hk' : k < (p ++ q).length := by rw [List.length_append]; omega
        simp only [runF, if_pos hk, if_pos hk']
        rw [step_pre p q k s hk]
        have g1 := (step_good p k s hp).1 hk
        have g2 := step_le (s := s) hk (hg k hk) hp
        rw [List.length_append] at h3
        exact ih g _ _ _ _ _ (by omega) (by omega) (by rw [List.length_append]; omega)
    · rw [base g k n s said held (by omega) h3, runF_end hk]
theorem run_join (p q : List FOp) (s : List Int) (hp : ∀ o ∈ p, FOk o) (hq : ∀ o ∈ q, FOk o) (hg : ∀ j, j < p.length → SkOk p j) : run (p ++ q) s = ((run q (run p s).1).1, (run p s).2.1 ++ (run q (run p s).1).2.1, (run p s).2.2.1 || (run q (run p s).1).2.2.1, (run p s).2.2.2 + (run q (run p s).1).2.2.2) :=
  runF_join p q hp hq hg p.length (p ++ q).length 0 0 s [] false (by omega) (by omega) (by omega)
/-- The skip of an op cut to what is left. -/
def clipB (p : List FOp) (i : Nat) (m : Int) : List FOp := p.set i ⟨(p.getD i default).op, (p.getD i default).a, min (p.getD i default).b m⟩
theorem set_mem {p : List FOp} {i : Nat} {x o : FOp} (h : o ∈ p.set i x) : o ∈ p ∨ o = x := List.mem_or_eq_of_mem_set h
theorem clip_ok {p : List FOp} {i : Nat} (hi : i < p.length) (hp : ∀ o ∈ p, FOk o) {m : Int} (hm : 0 ≤ m) : ∀ o ∈ clipB p i m, FOk o := by
  intro o ho
  have e : p.getD i default = p[i] := by simp [List.getD, hi]
  have h1 := hp p[i] (List.getElem_mem hi)
  rcases set_mem ho with h | rfl
  · exact hp o h
  · rw [e]; exact ⟨h1.op, by have := h1.b; simp only; omega⟩
theorem getD_set_self {p : List FOp} {i : Nat} {x : FOp} (hi : i < p.length) : (p.set i x).getD i default = x := by simp [List.getD, hi]
theorem getD_set_ne {p : List FOp} {i j : Nat} {x : FOp} (h : i ≠ j) : (p.set i x).getD j default = p.getD j default := by simp [List.getD, List.getElem?_set, h]
theorem clip_sk {p : List FOp} {i : Nat} (hi : i < p.length) (hg : ∀ j, j < i → SkOk p j) {m : Int} (hm : m = (p.length : Int) - 1 - i) : ∀ j, j < i + 1 → SkOk (clipB p i m) j := by
  intro j hj h3
  unfold clipB at h3 ⊢
  rw [List.length_set]
  by_cases hij : i = j
  · subst hij
    rw [getD_set_self hi] at h3 ⊢
    simp only; omega
  · rw [getD_set_ne hij] at h3 ⊢
    exact hg j (by omega) h3
theorem keep_sk {p : List FOp} {i : Nat} (hg : ∀ j, j < i → SkOk p j) (h : ¬ (p.getD i default).op = 3) : ∀ j, j < i + 1 → SkOk p j := by
  intro j hj h3
  by_cases hij : i = j
  · subst hij; exact absurd h3 h
  · exact hg j (by omega) h3
theorem fitP_next {a : List FOp} {j : Nat} (hj : j < a.length) (h8 : j < 8) : fitP (a.take (j + 1)) = fitP (a.take j) ++ [fit1 (a.getD j default)] := by
  have e1 : (a.take (j + 1)).take 8 = a.take (j + 1) := List.take_of_length_le (by rw [List.length_take]; omega)
  have e2 : (a.take j).take 8 = a.take j := List.take_of_length_le (by rw [List.length_take]; omega)
  unfold fitP
  rw [e1, e2, take_one hj, List.map_append]; rfl
theorem fitP_end {a : List FOp} {j : Nat} (h : j = 8 ∨ (a.length ≤ j ∧ j ≤ 8)) : fitP (a.take j) = fitP a := by
  unfold fitP
  rw [List.take_take]
  congr 1
  rw [List.take_eq_take_iff]; omega
theorem fitP_len {a : List FOp} {j : Nat} (hj : j ≤ a.length) (h8 : j ≤ 8) : (fitP (a.take j)).length = j := by
  unfold fitP; simp; omega
theorem eF_len (x : FOp) : (eF x).length = 3 := rfl
theorem fit1v_0 {o : FOp} (h : o.op % 5 = 0) : fit1 o = ⟨o.op % 5, o.a % 64, 0⟩ := by unfold fit1; rw [if_pos h, h]
theorem fit1v_1 {o : FOp} (h0 : ¬ o.op % 5 = 0) (h : o.op % 5 = 1) : fit1 o = ⟨o.op % 5, o.a % 8 % 6, 0⟩ := by unfold fit1; rw [if_neg h0, if_pos h, h]
theorem fit1v_2 {o : FOp} (h0 : ¬ o.op % 5 = 0) (h1 : ¬ o.op % 5 = 1) (h : o.op % 5 = 2) : fit1 o = ⟨o.op % 5, o.a % 8 % 6, o.b % 8 % 6⟩ := by unfold fit1; rw [if_neg h0, if_neg h1, if_pos h, h]
theorem fit1v_3 {o : FOp} (h0 : ¬ o.op % 5 = 0) (h1 : ¬ o.op % 5 = 1) (h2 : ¬ o.op % 5 = 2) (h : o.op % 5 = 3) : fit1 o = ⟨o.op % 5, o.a % 8 % 6, o.b % 8⟩ := by unfold fit1; rw [if_neg h0, if_neg h1, if_neg h2, if_pos h, h]
theorem fit1v_4 {o : FOp} (h0 : ¬ o.op % 5 = 0) (h1 : ¬ o.op % 5 = 1) (h2 : ¬ o.op % 5 = 2) (h3 : ¬ o.op % 5 = 3) (hp : 0 ≤ o.op) : fit1 o = ⟨o.op % 5, 0, 0⟩ := by unfold fit1; rw [if_neg h0, if_neg h1, if_neg h2, if_neg h3, show o.op % 5 = 4 by omega]
end Go.Proofs.Ytopmocpjgjbdbaa
