/- Runs: plain facts -/
import Derived.Test.YtopmocpjgjbdbaaF10
import Derived.Test.YtopmocpjgjbdbaaF9
namespace Go.Proofs.Ytopmocpjgjbdbaa
open Go.Pv
def holds (p : List FOp) : Bool := p.any fun o => decide (o.op = 4)
theorem holds_next {p : List FOp} {i : Nat} (h : i < p.length) : holds (p.take (i + 1)) = (holds (p.take i) || decide ((p.getD i default).op = 4)) := by
  rw [take_one h]; simp [holds]
def isin (x : Int) (l : List Int) : Bool := decide (x = 0) || l.any fun y => decide (x = y)
theorem isin_next {x : Int} {l : List Int} {i : Nat} (h : i < l.length) : isin x (l.take (i + 1)) = (isin x (l.take i) || decide (x = l.getD i default)) := by
  rw [take_one h]; simp [isin, Bool.or_assoc]
theorem isin_iff {x : Int} {l : List Int} : isin x l = true ↔ x = 0 ∨ x ∈ l := by simp [isin, List.any_eq_true]
theorem mov_in {a b : Int} {s l : List Int} (h : ∀ x ∈ s, x = 0 ∨ x ∈ l) : ∀ x ∈ mov a b s, x = 0 ∨ x ∈ l := by
  unfold mov
  split
  · rename_i hb
    intro x hx
    rcases List.mem_or_eq_of_mem_set hx with hx | hx
    · exact h x hx
    · have hlt : b.toNat < s.length := by omega
      refine h x ?_
      rw [hx]
      have e : s.getD b.toNat default = s[b.toNat] := by simp [List.getD, hlt]
      rw [e]; exact List.getElem_mem hlt
  · exact h
theorem clr_in {a : Int} {s l : List Int} (h : ∀ x ∈ s, x = 0 ∨ x ∈ l) : ∀ x ∈ clr a s, x = 0 ∨ x ∈ l := by
  unfold clr
  split
  · intro x hx
    rcases List.mem_or_eq_of_mem_set hx with hx | hx
    · exact h x hx
    · exact .inl hx
  · exact h
theorem step_in {p : List FOp} {k : Nat} {s l : List Int} (h : ∀ x ∈ s, x = 0 ∨ x ∈ l) : ∀ x ∈ (step p k s).2.1, x = 0 ∨ x ∈ l := by
  unfold step
  split
  · simp only
    split
    · exact h
    · split
      · exact clr_in h
      · split
        · exact mov_in h
        · split
          · exact h
          · exact h
  · exact h
theorem runF_good {p : List FOp} (hfo : ∀ o ∈ p, FOk o) {s0 : List Int} : ∀ (f k n : Nat) (s said : List Int) (held : Bool), p.length ≤ f + k → n ≤ k → said.length ≤ n → s.length = s0.length → (∀ x ∈ s, x = 0 ∨ x ∈ s0) → (held = true → holds p = true) → n ≤ p.length →
    (runF p f k s said held n).1.length = s0.length ∧ (runF p f k s said held n).2.2.2 ≤ p.length ∧ (runF p f k s said held n).2.1.length ≤ (runF p f k s said held n).2.2.2 ∧ (∀ x ∈ (runF p f k s said held n).1, x = 0 ∨ x ∈ s0) ∧ ((runF p f k s said held n).2.2.1 = true → holds p = true)
  | 0, k, n, s, said, held, h1, h2, h3, h4, h5, h6, h7 => by
    simp only [runF]; exact ⟨h4, h7, h3, h5, h6⟩
  | f + 1, k, n, s, said, held, h1, h2, h3, h4, h5, h6, h7 => by
    by_cases hk : k < p.length
    · rw [runF, if_pos hk]
      obtain ⟨g1, g2, g3, g4, g5⟩ := step_good p k s hfo
      have g1 := g1 hk
      have e : p.getD k default = p[k] := by simp [List.getD, hk]
      refine runF_good hfo f _ (n + 1) _ _ _ (by omega) (by omega) (by rw [List.length_append]; omega) (by omega) (step_in h5) ?_ (by omega)
      intro hh
      rw [Bool.or_eq_true] at hh
      rcases hh with hh | hh
      · exact h6 hh
      · unfold step at hh
        rw [if_pos ⟨by omega, by omega⟩] at hh
        simp only [Int.toNat_natCast, e] at hh
        have h4' : p[k].op = 4 := by
          split at hh
          · cases hh
          · split at hh
            · cases hh
            · split at hh
              · cases hh
              · split at hh
                · cases hh
                · simpa using hh
        unfold holds
        rw [List.any_eq_true]
        exact ⟨p[k], List.getElem_mem hk, by simpa using h4'⟩
    · rw [runF, if_neg hk]; exact ⟨h4, h7, h3, h5, h6⟩
theorem run_good (p : List FOp) (s : List Int) (hfo : ∀ o ∈ p, FOk o) : (run p s).1.length = s.length ∧ (run p s).2.2.2 ≤ p.length ∧ (run p s).2.1.length ≤ (run p s).2.2.2 ∧ (∀ x ∈ (run p s).1, x = 0 ∨ x ∈ s) ∧ ((run p s).2.2.1 = true → holds p = true) := runF_good hfo (s0 := s) p.length 0 0 s [] false (by omega) (Nat.le_refl _) (Nat.le_refl _) rfl (fun x hx => .inr hx) (fun h => by cases h) (Nat.zero_le _)
theorem run_len (p : List FOp) (s : List Int) (hfo : ∀ o ∈ p, FOk o) : (run p s).1.length = s.length := (run_good p s hfo).1
theorem run_n (p : List FOp) (s : List Int) (hfo : ∀ o ∈ p, FOk o) : (run p s).2.2.2 ≤ p.length := (run_good p s hfo).2.1
theorem run_said (p : List FOp) (s : List Int) (hfo : ∀ o ∈ p, FOk o) : (run p s).2.1.length ≤ (run p s).2.2.2 := (run_good p s hfo).2.2.1
theorem runs_within (p : List FOp) (s : List Int) (hfo : ∀ o ∈ p, FOk o) : ∀ i, i < (run p s).1.length → isin ((run p s).1.getD i default) s = true := fun i hi => by
  rw [isin_iff]
  have e : (run p s).1.getD i default = (run p s).1[i] := by simp [List.getD, hi]
  rw [e]; exact (run_good p s hfo).2.2.2.1 _ (List.getElem_mem hi)
theorem run_held (p : List FOp) (s : List Int) (hfo : ∀ o ∈ p, FOk o) : (run p s).2.2.1 = true → holds p = true := (run_good p s hfo).2.2.2.2
theorem fit1_one {o : FOp} (h : 0 ≤ o.op) : one (fit1 o) = true := by
  unfold fit1
  split
  · rw [one_0 rfl]; exact decide_eq_true (by simp only; omega)
  · split
    · rw [one_1 rfl]; exact decide_eq_true (by simp only; omega)
    · split
      · rw [one_2 rfl]; exact decide_eq_true (by simp only; omega)
      · split
        · rw [one_3 rfl]; exact decide_eq_true (by simp only; omega)
        · rw [one_4 rfl]; exact decide_eq_true (by simp only; omega)
theorem fit_right (ops : List FOp) (h : ∀ o ∈ ops, 0 ≤ o.op ∧ o.op ≤ 255) : right [fitP ops] = true := by
  unfold right
  rw [decide_eq_true (by simp), Bool.true_and]
  simp only [List.all_cons, List.all_nil, Bool.and_true]
  unfold okp
  rw [decide_eq_true (by simp only [fitP, List.length_map, List.length_take]; omega), Bool.true_and, List.all_eq_true]
  intro o ho
  obtain ⟨x, hx, rfl⟩ := List.mem_map.1 ho
  exact fit1_one (h x (List.mem_of_mem_take hx)).1
theorem right_arg {p : List FOp} (h : ∀ o ∈ p, FOk o) : ∀ i j, j < (([p] : List (List FOp)).getD i default).length → 0 ≤ ((([p] : List (List FOp)).getD i default).getD j default).op ∧ ((([p] : List (List FOp)).getD i default).getD j default).op ≤ 255 := by
  intro i j hj
  match i with
  | 0 =>
    have hj' : j < p.length := hj
    have e : p.getD j default = p[j] := by simp [List.getD, hj']
    show 0 ≤ (p.getD j default).op ∧ (p.getD j default).op ≤ 255
    rw [e]; exact (h _ (List.getElem_mem hj')).op
  | i + 1 => exact absurd hj (Nat.not_lt_zero j)
end Go.Proofs.Ytopmocpjgjbdbaa
