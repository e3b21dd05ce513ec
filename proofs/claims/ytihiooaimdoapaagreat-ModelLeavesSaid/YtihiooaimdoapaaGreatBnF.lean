/- Regions that draw their order. -/
import Derived.Test.YtihiooaimdoapaaGreatBnE
set_option linter.unusedVariables false
set_option linter.unusedSimpArgs false
namespace Go.Bm
noncomputable section
open Go.RowKit
/-! ### steps held against each other -/
def cf (T U : Fp) : Bool := (T.w || U.w) && (T.all || U.all || T.rs.any fun a => U.rs.any (Nat.beq a))
def rch (ops : Array Oper) : Nat → Nat → Nat → Bool
  | 0, _, _ => false
  | f + 1, i, j => dep ops i j || (List.range i).any fun m => dep ops i m && rch ops f m j
theorem rch_down {ops : Array Oper} {L : Nat → Bool} (hd : ∀ k j, L k = true → dep ops k j = true → L j = true) : ∀ (f k j : Nat), L k = true → rch ops f k j = true → L j = true
  | 0, _, _, _, h => by cases h
  | f + 1, k, j, hk, h => by
    simp only [rch, Bool.or_eq_true, List.any_eq_true, Bool.and_eq_true] at h
    rcases h with h | ⟨m, _, h1, h2⟩
    · exact hd k j hk h
    · exact rch_down hd f m j (hd k m hk h1) h2
theorem rch_adm {ops : Array Oper} {L : Nat → Bool} {i : Nat} (h : Adm ops i L) : ∀ (f j : Nat), rch ops f i j = true → L j = true
  | 0, _, h => by cases h
  | f + 1, j, hr => by
    simp only [rch, Bool.or_eq_true, List.any_eq_true, Bool.and_eq_true] at hr
    rcases hr with hr | ⟨m, _, h1, h2⟩
    · exact h.deps j hr
    · exact rch_down h.down f m j (h.deps m h1) h2
def indep (ops : Array Oper) (m : Nat) (Ts : List Fp) : Bool := (List.range m).all fun i => (List.range i).all fun j => !(cf (Ts.getD j .no) (Ts.getD i .no)) || rch ops m i j
/-- Both look at one place, and one changes it. -/
theorem cf_of {T U : Fp} {x : Nat} (h1 : touch T x = true) (h2 : touch U x = true) (hw : T.w = true ∨ U.w = true) : cf T U = true := by
  unfold cf
  rw [Bool.and_eq_true]
  refine ⟨by rcases hw with h | h <;> simp [h], ?_⟩
  unfold touch at h1 h2
  simp only [Bool.or_eq_true, List.any_eq_true] at h1 h2 ⊢
  rcases h1 with h1 | ⟨a, ha, h1⟩
  · exact .inl (.inl h1)
  · rcases h2 with h2 | ⟨b, hb, h2⟩
    · exact .inl (.inr h2)
    · exact .inr ⟨a, ha, b, hb, by rw [← beq_eq h1, ← beq_eq h2]; exact Nat.beq_refl _⟩
/-- What is at a place. -/
def at1 (S : Hp) (x : Nat) : Option Ob × Prop := (S.ob x, S.fr x)
theorem at1_ext {S S' : Hp} (h : ∀ x, at1 S x = at1 S' x) : S = S' := Hp.ext' (fun i => congrArg Prod.fst (h i)) (fun i => by have := congrArg Prod.snd (h i); exact Iff.of_eq this)
def upd1 (T : Fp) (H S : Hp) : Hp := bif T.w then ovr T H S else S
theorem at1_upd (T : Fp) (H S : Hp) (x : Nat) : at1 (upd1 T H S) x = if (T.w && touch T x) = true then at1 H x else at1 S x := by
  unfold upd1
  cases hw : T.w with
  | false => simp
  | true =>
    simp only [cond_true, Bool.true_and]
    show (if touch T x = true then H.ob x else S.ob x, if touch T x = true then H.fr x else S.fr x) = _
    cases touch T x <;> rfl
def sfold (L : Nat → Bool) : List (Fp × Hp) → Nat → Hp → Hp
  | [], _, S => S
  | (T, H) :: r, j, S => sfold L r (j + 1) (bif L j then upd1 T H S else S)
def fx (L : Nat → Bool) (x : Nat) : List (Fp × Hp) → Nat → Option Ob × Prop → Option Ob × Prop
  | [], _, v => v
  | (T, H) :: r, j, v => fx L x r (j + 1) (if (L j && (T.w && touch T x)) = true then at1 H x else v)
theorem at1_sfold (L : Nat → Bool) (x : Nat) : ∀ (r : List (Fp × Hp)) (j : Nat) (S : Hp), at1 (sfold L r j S) x = fx L x r j (at1 S x)
  | [], _, _ => rfl
  | (T, H) :: r, j, S => by
    unfold sfold fx
    rw [at1_sfold L x r]
    congr 1
    cases hl : L j with
    | true => simp only [cond_true, Bool.true_and]; exact at1_upd T H S x
    | false => simp
theorem fx_congr {L L' : Nat → Bool} {x : Nat} : ∀ (r : List (Fp × Hp)) (j : Nat) (v : Option Ob × Prop), (∀ m T H, r[m]? = some (T, H) → (T.w && touch T x) = true → L (j + m) = L' (j + m)) → fx L x r j v = fx L' x r j v
  | [], _, _, _ => rfl
  | (T, H) :: r, j, v, h => by
    unfold fx
    have e : (if (L j && (T.w && touch T x)) = true then at1 H x else v) = (if (L' j && (T.w && touch T x)) = true then at1 H x else v) := by
      cases hw : (T.w && touch T x) with
      | false => simp
      | true => rw [show L j = L' j from h 0 T H rfl hw]
    rw [e]
    exact fx_congr r (j + 1) _ (fun m T' H' hm hw => by have := h (m + 1) T' H' (by simpa using hm) hw; rwa [show j + (m + 1) = j + 1 + m by omega] at this)
/-- The heap ahead of a step. -/
def Pre (H0 : Hp) (rs : List (Fp × Hp)) : Nat → Hp
  | 0 => H0
  | m + 1 => match rs[m]? with
    | some q => q.2
    | none => H0
def Chain (H0 : Hp) (rs : List (Fp × Hp)) : Prop := ∀ m T H, rs[m]? = some (T, H) → (∀ x, touch T x = false → at1 H x = at1 (Pre H0 rs m) x) ∧ (T.w = false → H = Pre H0 rs m)
theorem Pre_cons {H0 : Hp} {q : Fp × Hp} {rs : List (Fp × Hp)} (m : Nat) (hm : m ≤ rs.length) : Pre H0 (q :: rs) (m + 1) = Pre q.2 rs m := by
  cases m with
  | zero => rfl
  | succ m =>
    show (match (q :: rs)[m + 1]? with | some q => q.2 | none => H0) = (match rs[m]? with | some q' => q'.2 | none => q.2)
    rw [List.getElem?_cons_succ, List.getElem?_eq_getElem (show m < rs.length by omega)]
theorem Chain.tail {H0 : Hp} {q : Fp × Hp} {rs : List (Fp × Hp)} (h : Chain H0 (q :: rs)) : Chain q.2 rs := fun m T H hm => by
  have := h (m + 1) T H (by simpa using hm)
  rw [Pre_cons m (Nat.le_of_lt (List.getElem?_eq_some_iff.1 hm).1)] at this
  exact this
/-- In the order of the text. -/
theorem fx_text {x : Nat} : ∀ (rs : List (Fp × Hp)) (H0 : Hp) (j i : Nat), Chain H0 rs → i ≤ rs.length → fx (fun k => decide (k < j + i)) x rs j (at1 H0 x) = at1 (Pre H0 rs i) x
  | [], H0, j, i, _, hi => by
    have : i = 0 := by simpa using hi
    subst this; rfl
  | (T, H) :: rs, H0, j, 0, hc, _ => by
    have none' : ∀ (r : List (Fp × Hp)) (k : Nat) (v : Option Ob × Prop), j ≤ k → fx (fun k => decide (k < j + 0)) x r k v = v := by
      intro r
      induction r with
      | nil => intro k v _; rfl
      | cons q r ih =>
        intro k v hk
        obtain ⟨T, H⟩ := q
        unfold fx
        rw [show (decide (k < j + 0)) = false by simpa using hk]
        simp only [Bool.false_and, Bool.false_eq_true, if_false]
        exact ih (k + 1) v (by omega)
    exact none' _ j _ (Nat.le_refl _)
  | (T, H) :: rs, H0, j, i + 1, hc, hi => by
    unfold fx
    rw [show (decide (j < j + (i + 1))) = true by simp]
    simp only [Bool.true_and]
    have h0 := hc 0 T H rfl
    have e : (if (T.w && touch T x) = true then at1 H x else at1 H0 x) = at1 H x := by
      cases hw : T.w with
      | false => rw [h0.2 hw]; simp [Pre]
      | true =>
        cases ht : touch T x with
        | true => simp
        | false => simp only [Bool.and_false, Bool.false_eq_true, if_false]; exact (h0.1 x ht).symm
    rw [e, Pre_cons i (by simpa using hi)]
    have := fx_text (x := x) rs H (j + 1) i hc.tail (by simpa using hi)
    rw [show j + 1 + i = j + (i + 1) by omega] at this
    exact this
/-- What steps that do not get into each other's way are, in any order. -/
theorem indep_steps {ops : Array Oper} {H0 S2 : Hp} {rs : List (Fp × Hp)} (hc : Chain H0 rs) (hi : indep ops rs.length (rs.map (·.1)) = true) (hA : ∀ T H, (T, H) ∈ rs → Agree T H0 S2) {i : Nat} {T : Fp} {H : Hp} (hr : rs[i]? = some (T, H)) {L : Nat → Bool} (ha : Adm ops i L) :
    Agree T (Pre H0 rs i) (sfold L rs 0 S2) ∧ sfold (ins L i) rs 0 S2 = upd1 T H (sfold L rs 0 S2) := by
  have hlt := (List.getElem?_eq_some_iff.1 hr).1
  have hconf : ∀ (a b : Nat) (Ta Tb : Fp) (Ha Hb : Hp), b < rs.length → a < b → rs[a]? = some (Ta, Ha) → rs[b]? = some (Tb, Hb) → cf Ta Tb = true → rch ops rs.length b a = true := fun a b Ta Tb Ha Hb h1 h2 h3 h4 h5 => by
    unfold indep at hi
    have := List.all_eq_true.1 (List.all_eq_true.1 hi b (List.mem_range.2 h1)) a (List.mem_range.2 h2)
    have ga : (rs.map (·.1)).getD a .no = Ta := by simp [List.getD_eq_getElem?_getD, List.getElem?_map, h3]
    have gb : (rs.map (·.1)).getD b .no = Tb := by simp [List.getD_eq_getElem?_getD, List.getElem?_map, h4]
    rw [ga, gb, h5] at this
    simpa using this
  -- who writes a place that this step looks at
  have seg : ∀ x, touch T x = true → ∀ m T' H', rs[m]? = some (T', H') → (T'.w && touch T' x) = true → m ≠ i → L m = decide (m < i) := fun x hx m T' H' hm hw hne => by
    simp only [Bool.and_eq_true] at hw
    have hml := (List.getElem?_eq_some_iff.1 hm).1
    rcases Nat.lt_or_ge m i with hmi | hmi
    · rw [show decide (m < i) = true by simpa using hmi]
      exact rch_adm ha _ m (hconf m i T' T H' H hlt hmi hm hr (cf_of hw.2 hx (.inl hw.1)))
    · have hmi : i < m := by omega
      rw [show decide (m < i) = false by simp; omega]
      cases hl : L m with
      | false => rfl
      | true =>
        have := rch_down ha.down _ m i hl (hconf i m T T' H H' hml hmi hr hm (cf_of hx hw.2 (.inr hw.1)))
        rw [ha.new] at this; cases this
  have base : ∀ x, touch T x = true → at1 S2 x = at1 H0 x := fun x hx => by
    have := hA T H (List.mem_of_getElem? hr) x hx
    exact Prod.ext this.1 (propext this.2)
  have pre : ∀ x, touch T x = true → at1 (sfold L rs 0 S2) x = at1 (Pre H0 rs i) x := fun x hx => by
    rw [at1_sfold, base x hx, ← fx_text rs H0 0 i hc (Nat.le_of_lt hlt)]
    refine fx_congr rs 0 _ (fun m T' H' hm hw => ?_)
    simp only [Nat.zero_add]
    by_cases hmi : m = i
    · subst hmi; rw [ha.new]; simp
    · exact seg x hx m T' H' hm hw hmi
  refine ⟨fun x hx => ?_, at1_ext fun x => ?_⟩
  · have := pre x hx
    exact ⟨congrArg Prod.fst this, Iff.of_eq (congrArg Prod.snd this)⟩
  · rw [at1_upd]
    by_cases hw : (T.w && touch T x) = true
    · rw [if_pos hw]
      simp only [Bool.and_eq_true] at hw
      have e : Pre H0 rs (i + 1) = H := by
        show (match rs[i]? with | some q => q.2 | none => H0) = H
        rw [hr]
      rw [← e, at1_sfold, base x hw.2, ← fx_text rs H0 0 (i + 1) hc hlt]
      refine fx_congr rs 0 _ (fun m T' H' hm hw' => ?_)
      simp only [Nat.zero_add]
      by_cases hmi : m = i
      · subst hmi; simp [ins]
      · have := seg x hw.2 m T' H' hm hw' hmi
        show (m == i || L m) = decide (m < i + 1)
        rw [this, show (m == i) = false by simpa using hmi, Bool.false_or]
        by_cases h1 : m < i
        · rw [show decide (m < i) = true by simpa using h1, show decide (m < i + 1) = true by simp; omega]
        · rw [show decide (m < i) = false by simpa using h1, show decide (m < i + 1) = false by simp; omega]
    · rw [if_neg hw, at1_sfold, at1_sfold]
      refine fx_congr rs 0 _ (fun m T' H' hm hw' => ?_)
      simp only [Nat.zero_add]
      by_cases hmi : m = i
      · subst hmi; rw [hr] at hm; cases hm; exact absurd hw' hw
      · show (m == i || L m) = L m
        rw [show (m == i) = false by simpa using hmi, Bool.false_or]
end
end Go.Bm
