/- A reckoner, continued: regions that draw their order; code; functions. -/
import Derived.Test.YtopmocpjgjbdbaaPvZ
namespace Go.Pv
open Go.RowKit

/-- Must 'i' wait for 'j', by way of others? -/
def reach (ops : Array Oper) : Nat → Nat → Nat → Bool
  | 0, _, _ => false
  | f + 1, i, j => dep ops i j || (List.range i).any fun k => dep ops i k && reach ops f k j
def cmpOk (ops : Array Oper) (ks : List Nat) : Bool :=
  (List.range ks.length).all fun i => (List.range i).all fun j => Nat.beq (ks.getD i 0) 0 || Nat.beq (ks.getD j 0) 0 || (Nat.beq (ks.getD i 0) 1 && Nat.beq (ks.getD j 0) 1) || reach ops ks.length i j
theorem reach_in {ops : Array Oper} {i : Nat} {L : Nat → Bool} (h : Adm ops i L) : ∀ (f k j : Nat), (k = i ∨ L k = true) → reach ops f k j = true → L j = true
  | 0, _, _, _, h2 => by simp [reach] at h2
  | f + 1, k, j, h1, h2 => by
    simp only [reach, Bool.or_eq_true, List.any_eq_true, Bool.and_eq_true] at h2
    have step : ∀ m, dep ops k m = true → L m = true := fun m hm => by
      rcases h1 with rfl | h1
      · exact h.deps m hm
      · exact h.down k m h1 hm
    rcases h2 with h2 | ⟨m, _, h3, h4⟩
    · exact step j h2
    · exact reach_in h f m j (.inr (step m h3)) h4

section
variable {P : Program} {E : Env} {n : Nat} {ops : Array Oper} {g0 : Gh} {w0 : World} {Q : Exit → St → Prop}

/-- How far those have come that change something. -/
def pos (isE L : Nat → Bool) : Nat → Nat
  | 0 => 0
  | k + 1 => if isE k && L k then k + 1 else pos isE L k
theorem pos_at {Ss : Nat → Sx} {isE L : Nat → Bool} {i m : Nat} (hc : ∀ k, k < m → isE k = false → Ss (k + 1) = Ss k) (hL : ∀ k, k < m → isE k = true → (L k = true ↔ k < i)) : ∀ k, k ≤ m → Ss (pos isE L k) = Ss (min k i)
  | 0, _ => by simp [pos]
  | k + 1, hk => by
    have ih := pos_at hc hL k (by omega)
    unfold pos
    cases he : isE k with
    | true =>
      cases hl : L k with
      | true =>
        have := (hL k (by omega) he).1 hl
        simp only [Bool.and_self, if_true]
        rw [Nat.min_eq_left (by omega)]
      | false =>
        have : ¬ k < i := fun h => by rw [(hL k (by omega) he).2 h] at hl; cases hl
        simp only [Bool.and_false, Bool.false_eq_true, if_false]
        rw [ih, Nat.min_eq_right (by omega), Nat.min_eq_right (by omega)]
    | false =>
      simp only [Bool.false_and, Bool.false_eq_true, if_false]
      rw [ih]
      by_cases h : k < i
      · rw [Nat.min_eq_left (by omega), Nat.min_eq_left (by omega), hc k (by omega) he]
      · rw [Nat.min_eq_right (by omega), Nat.min_eq_right (by omega)]

/-- What a region's reckoning leaves, op by op. -/
structure Trace (P : Program) (n : Nat) (ops : Array Oper) (l : List Oper) (F : Fm) (S : Sx) (F' : Fm) (S' : Sx) (ks : List Nat) (pv : Nat → PV) (Fs : Nat → Fm) (Ss : Nat → Sx) : Prop where
  len : ks.length = l.length
  f0 : Fs 0 = F
  s0 : Ss 0 = S
  fe : Fs l.length = F'
  se : Ss l.length = S'
  step : ∀ (i : Nat) (o : Oper), l[i]? = some o → StepOk P ops o (St.ofL n (Fs i) (Ss i)) (ks.getD i 0) (Ss (i + 1)) (pv i) ∧ Fs (i + 1) = putF o.dst (pv i) (Fs i)
theorem regE_trace (hE : EnvOk P E) : ∀ (l : List Oper) (h : H) (F : Fm) (S : Sx) (φs : List Prop) (h' : H) (F' : Fm) (S' : Sx) (ks : List Nat), regE P E n ops l h F S = some (φs, h', F', S', ks) → AllP φs → ∃ pv Fs Ss, Trace P n ops l F S F' S' ks pv Fs Ss
  | [], h, F, S, φs, h', F', S', ks, hr, hφ => by
    simp only [regE, Option.some.injEq, Prod.mk.injEq] at hr
    obtain ⟨rfl, rfl, rfl, rfl, rfl⟩ := hr
    exact ⟨fun _ => .junk, fun _ => F, fun _ => S, rfl, rfl, rfl, rfl, rfl, fun i o h => by simp at h⟩
  | o :: l, h, F, S, φs, h', F', S', ks, hr, hφ => by
    unfold regE at hr
    split at hr
    · rename_i k φ p S1 hs
      split at hr
      · rename_i φs1 h1 F1 S2 ks1 hr1
        simp only [Option.some.injEq, Prod.mk.injEq] at hr
        obtain ⟨rfl, rfl, rfl, rfl, rfl⟩ := hr
        obtain ⟨hφ1, hφ2⟩ := AllP_app.1 hφ
        obtain ⟨pv, Fs, Ss, t⟩ := regE_trace hE l _ _ _ _ _ _ _ _ hr1 hφ2
        have hst := stepE_ok hE hs hφ1
        refine ⟨fun i => match i with | 0 => p | i + 1 => pv i, fun i => match i with | 0 => F | i + 1 => Fs i, fun i => match i with | 0 => S | i + 1 => Ss i, by simp [t.len], rfl, rfl, t.fe, t.se, fun i o' ho => ?_⟩
        cases i with
        | zero =>
          simp at ho; subst ho
          simp only [t.f0, t.s0]
          exact ⟨hst, trivial⟩
        | succ i =>
          simp only [List.getElem?_cons_succ] at ho
          have := t.step i o' ho
          simpa using this
      · cases hr
    · cases hr

theorem trace_tst {l : List Oper} {F F' : Fm} {S S' : Sx} {ks : List Nat} {pv : Nat → PV} {Fs : Nat → Fm} {Ss : Nat → Sx} (t : Trace P n l.toArray l F S F' S' ks pv Fs Ss) : ∀ i, i ≤ l.length → ∀ S2, (tst l.toArray pv (St.ofL n F S) i).to S2 = St.ofL n (Fs i) S2
  | 0, _, S2 => by simp only [tst, t.f0]; rfl
  | i + 1, hi, S2 => by
    have ih := trace_tst t i (by omega)
    have ho : l[i]? = some l[i] := List.getElem?_eq_getElem (by omega)
    obtain ⟨_, h2⟩ := t.step i _ ho
    have hd : dstOf l.toArray i = l[i].dst := by simp [dstOf, ho]
    simp only [tst, hd, h2]
    have e := ih S2
    rw [← ofL_put (S := S2), ← e]
    cases l[i].dst <;> rfl

theorem opz_to (st : St) (S : Sx) (z : Nat) (x : Operand) : (st.to S).opz z x = st.opz z x := by cases x <;> rfl
theorem gval_to (ops : Array Oper) (st : St) (S : Sx) (j : Nat) (w : Bool) : gval ops (st.to S) j w = gval ops st j w := rfl

theorem regE_draw (hE : EnvOk P E) {l : List Oper} {id : Nat} {h : H} {F : Fm} {S : Sx} {φs : List Prop} {h' : H} {F' : Fm} {S' : Sx} {ks : List Nat} (hr : regE P E n l.toArray l h F S = some (φs, h', F', S', ks)) (hφ : AllP φs)
    (hc : cmpOk l.toArray ks = true) (hk : chk l.toArray = true) (hq : Q .normal (St.ofL n F' S')) : pw P g0 w0 (.region id l.toArray true) Q (St.ofL n F S) := by
  obtain ⟨pv, Fs, Ss, t⟩ := regE_trace hE l h F S φs h' F' S' ks hr hφ
  let isE : Nat → Bool := fun j => Nat.beq (ks.getD j 0) 2
  have hkind : ∀ i o, l[i]? = some o → (isE i = false → Ss (i + 1) = Ss i) := by
    intro i o ho hne
    obtain ⟨h1, _⟩ := t.step i o ho
    unfold StepOk at h1
    have key : ∀ z, OpK P o ((St.ofL n (Fs i) (Ss i)).opz z) (ks.getD i 0) (Ss i) (Ss (i + 1)) (pv i) → Ss (i + 1) = Ss i := by
      rintro z (⟨_, h2, _⟩ | ⟨_, h2, _⟩ | ⟨h2, _⟩)
      · exact h2
      · exact h2
      · simp only [isE, h2] at hne; cases hne
    split at h1
    · obtain ⟨z, hz⟩ := h1; exact key z hz
    · rcases h1 with ⟨_, z, hz⟩ | ⟨_, _, _, h2⟩
      · exact key z hz
      · exact h2
  have hconst : ∀ k, k < l.length → isE k = false → Ss (k + 1) = Ss k := fun k hk' => hkind k l[k] (List.getElem?_eq_getElem hk')
  have hcmp : ∀ i j, i < l.length → j < i → ks.getD i 0 ≠ 0 → ks.getD j 0 ≠ 0 → (isE i = true ∨ isE j = true) → reach l.toArray ks.length i j = true := by
    intro i j hi hj h1 h2 h3
    have := List.all_eq_true.1 hc i (List.mem_range.2 (by rw [t.len]; exact hi))
    have := List.all_eq_true.1 this j (List.mem_range.2 hj)
    simp only [Bool.or_eq_true, Bool.and_eq_true] at this
    rcases this with ((h | h) | h) | h
    · exact absurd (Nat.eq_of_beq_eq_true h) h1
    · exact absurd (Nat.eq_of_beq_eq_true h) h2
    · have e1 := Nat.eq_of_beq_eq_true h.1
      have e2 := Nat.eq_of_beq_eq_true h.2
      simp only [isE, e1, e2] at h3
      rcases h3 with h3 | h3 <;> cases h3
    · exact h
  have hne0 : ∀ j, isE j = true → ks.getD j 0 ≠ 0 := fun j hj h0 => by simp only [isE, h0] at hj; cases hj
  let Sf : (Nat → Bool) → Sx := fun L => Ss (pos isE L l.length)
  -- who reads or writes meets what the text's order has
  have hat : ∀ i L, i < l.length → Adm l.toArray i L → ks.getD i 0 ≠ 0 → ∀ k, k < l.length → isE k = true → (L k = true ↔ k < i) := by
    intro i L hi hL h0 k hk' hek
    constructor
    · intro hLk
      rcases Nat.lt_trichotomy k i with h | h | h
      · exact h
      · subst h; rw [hL.new] at hLk; cases hLk
      · have := reach_in hL ks.length k i (.inr hLk) (hcmp k i hk' h (hne0 k hek) h0 (.inl hek))
        rw [hL.new] at this; cases this
    · intro h
      exact reach_in hL ks.length i k (.inl rfl) (hcmp i k hi h h0 (hne0 k hek) (.inr hek))
  have hSf : ∀ i L, i < l.length → Adm l.toArray i L → ks.getD i 0 ≠ 0 → Sf L = Ss i := fun i L hi hL h0 => by
    have := pos_at hconst (hat i L hi hL h0) l.length (Nat.le_refl _)
    rw [Nat.min_eq_right (by omega)] at this
    exact this
  have hSfi : ∀ i L, i < l.length → isE i = false → Sf (ins L i) = Sf L := by
    intro i L hi he
    have : ∀ k, pos isE (ins L i) k = pos isE L k := by
      intro k
      induction k with
      | zero => rfl
      | succ k ih =>
        simp only [pos, ih]
        by_cases hki : k = i
        · subst hki; simp [he]
        · simp [ins, hki]
    simp only [Sf, this]
  have hSfe : ∀ i L, i < l.length → Adm l.toArray i L → isE i = true → Sf (ins L i) = Ss (i + 1) := by
    intro i L hi hL he
    have h1 := hat i L hi hL (hne0 i he)
    have h2 : ∀ k, k < l.length → isE k = true → (ins L i k = true ↔ k < i + 1) := by
      intro k hk' hek
      by_cases hki : k = i
      · subst hki; simp [ins]
      · simp only [ins, show (k == i) = false by simp [hki], Bool.false_or]
        rw [h1 k hk' hek]; omega
    have := pos_at hconst h2 l.length (Nat.le_refl _)
    rw [Nat.min_eq_right (by omega)] at this
    exact this
  have hlast : Sf (fun j => decide (j < l.length)) = S' := by
    have := pos_at (i := l.length) (L := fun j => decide (j < l.length)) hconst (fun k hk' _ => by simp) l.length (Nat.le_refl _)
    rw [Nat.min_self] at this
    exact this.trans t.se
  intro a w hrw
  obtain ⟨g, hI, hEx, hd, hs, hv⟩ := hrw
  refine wp_region_any hE.mixed ?_
  have hLf : (fun j => (Array.replicate l.toArray.size false).getD j false) = fun _ => false := by
    funext j
    by_cases hj : j < l.length <;> simp [Array.getD, hj]
  have h0 : Sf (fun _ => false) = S := by
    have := pos_at (i := 0) (L := fun _ => false) hconst (fun k hk' _ => by simp) l.length (Nat.le_refl _)
    rw [Nat.min_eq_right (Nat.zero_le _)] at this
    exact this.trans t.s0
  refine draw_any (st := St.ofL n F S) (Sf := Sf) (pv := pv) hk (fun i o ho => ?_) ?_ _ _ a w.drew g (by simp) (by omega) (fun k j hk _ => ?_) (by rw [hLf, h0]; exact hI.drew) (hEx.trans (.drew g w)) hd ⟨hs, fun d hdn _ => hv d hdn, fun d u hdn _ => ?_⟩
  · have ho' : l[i]? = some o := by simpa using ho
    have hi : i < l.length := (List.getElem?_eq_some_iff.1 ho').1
    obtain ⟨h1, _⟩ := t.step i o ho'
    have htst := trace_tst t i (by omega) (Ss i)
    have key : ∀ z, OpK P o ((St.ofL n (Fs i) (Ss i)).opz z) (ks.getD i 0) (Ss i) (Ss (i + 1)) (pv i) → ∀ L, Adm l.toArray i L → OpS P o ((tst l.toArray pv (St.ofL n F S) i).opz z) (Sf L) (Sf (ins L i)) (pv i) := by
      intro z hz L hL
      rw [← htst] at hz
      have hρ : ((tst l.toArray pv (St.ofL n F S) i).to (Ss i)).opz z = (tst l.toArray pv (St.ofL n F S) i).opz z := by funext x; exact opz_to _ _ _ _
      rw [hρ] at hz
      rcases hz with ⟨k1, k2, k3⟩ | ⟨k1, k2, k3⟩ | ⟨k1, k2⟩
      · rw [hSfi i L hi (by simp only [isE, k1]; rfl)]; exact k3 _
      · rw [hSfi i L hi (by simp only [isE, k1]; rfl), hSf i L hi hL (by rw [k1]; decide)]; exact k3
      · rw [hSfe i L hi hL (by simp only [isE, k1]; rfl), hSf i L hi hL (by rw [k1]; decide)]; exact k2
    unfold StepOk at h1
    unfold stepD
    split at h1
    · rename_i hg; rw [hg]
      obtain ⟨z, hz⟩ := h1
      exact ⟨z, key z hz⟩
    · rename_i j want hg; rw [hg]
      rw [← htst, gval_to] at h1
      rcases h1 with ⟨hb, z, hz⟩ | ⟨hb, hun, hk1, _⟩
      · refine .inl ⟨hb, z, key z ?_⟩
        rw [htst] at hz; exact hz
      · refine .inr ⟨hb, hun, fun L _ => hSfi i L hi ?_⟩
        simp only [isE]
        cases hx : Nat.beq (ks.getD i 0) 2 with
        | false => rfl
        | true => have := Nat.eq_of_beq_eq_true hx; omega
  · rw [List.size_toArray, hlast, trace_tst t l.length (Nat.le_refl _), t.fe]; exact hq
  · have := congrFun hLf k
    rw [this] at hk; cases hk
  · have := congrFun hLf u
    simp only [this]
    exact hv d hdn
end
end Go.Pv
