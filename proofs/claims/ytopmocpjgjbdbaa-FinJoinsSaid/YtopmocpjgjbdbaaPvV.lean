/- A reckoner, continued: regions that draw their order; code; functions. -/
import Derived.Test.YtopmocpjgjbdbaaPvZ
namespace Go.Pv
open Go.RowKit

/-- Must 'i' wait for 'j', by way of others? -/
def reach (ops : Array Oper) : Nat → Nat → Nat → Bool
  | 0, _, _ => false
  | f + 1, i, j => dep ops i j || (List.range i).any fun k => dep ops i k && reach ops f k j
def touch (ks : List Inf) (i : Nat) : Inf := ks.getD i (none, none)
def pairOk (a b : Inf) : Bool :=
  match a, b with
  | (some _, none), (some _, none) => true
  | (some T, _), (some U, _) => !overlap T U
  | _, _ => true
def cmpOk (ops : Array Oper) (ks : List Inf) : Bool :=
  (List.range ks.length).all fun i => (List.range i).all fun j => pairOk (touch ks i) (touch ks j) || reach ops ks.length i j
theorem reach_in {ops : Array Oper} {i : Nat} {L : Nat → Bool} (h : Adm ops i L) : ∀ (f k j : Nat), (k = i ∨ L k = true) → reach ops f k j = true → L j = true
  | 0, _, _, _, h2 => by simp [reach] at h2
  | f + 1, k, j, h1, h2 => by
    simp only [reach, Bool.or_eq_true, List.any_eq_true, Bool.and_eq_true] at h2
    have step : ∀ m, dep ops k m = true → L m = true := fun m hm => by
      rcases h1 with rfl | h1
      · exact h.deps m hm
      · exact h.down k m h1 hm
    rcases h2 with h2 | ⟨m, _, h3, h4⟩
    · exact step j h2
    · exact reach_in h f m j (.inr (step m h3)) h4

section
variable {P : Program} {E : Env} {n : Nat} {ops : Array Oper} {g0 : Gh} {w0 : World} {Q : Exit → St → Prop}

/-- The state when just L have come. -/
def At (ks : List Inf) (S : Sx) (L : Nat → Bool) : Nat → Sx
  | 0 => S
  | k + 1 => if L k then eff (touch ks k).2 (At ks S L k) else At ks S L k
theorem overlap_comm (T U : Rs) : overlap T U = overlap U T := by
  have hb : ∀ m n, Nat.beq m n = Nat.beq n m := fun m n => by
    rw [Bool.eq_iff_iff]; simp only [Nat.beq_eq]; exact eq_comm
  cases T <;> cases U <;> simp only [overlap] <;> (try exact hb _ _)
  rw [hb, Bool.and_comm (Nat.blt _ _)]

/-- What a region's reckoning leaves, op by op. -/
structure Trace (P : Program) (n : Nat) (ops : Array Oper) (l : List Oper) (F : Fm) (S : Sx) (F' : Fm) (S' : Sx) (ks : List Inf) (pv : Nat → PV) (Fs : Nat → Fm) (Ss : Nat → Sx) : Prop where
  len : ks.length = l.length
  f0 : Fs 0 = F
  s0 : Ss 0 = S
  fe : Fs l.length = F'
  se : Ss l.length = S'
  step : ∀ (i : Nat) (o : Oper), l[i]? = some o → (StepOk P ops o (St.ofL n (Fs i) (Ss i)) (touch ks i) (pv i) ∧ Ss (i + 1) = eff (touch ks i).2 (Ss i)) ∧ Fs (i + 1) = putF o.dst (pv i) (Fs i)
theorem regE_trace (hE : EnvOk P E) : ∀ (l : List Oper) (h : H) (F : Fm) (S : Sx) (φs : List Prop) (h' : H) (F' : Fm) (S' : Sx) (ks : List Inf), regE P E n ops l h F S = some (φs, h', F', S', ks) → AllP φs → ∃ pv Fs Ss, Trace P n ops l F S F' S' ks pv Fs Ss
  | [], h, F, S, φs, h', F', S', ks, hr, hφ => by
    simp only [regE, Option.some.injEq, Prod.mk.injEq] at hr
    obtain ⟨rfl, rfl, rfl, rfl, rfl⟩ := hr
    exact ⟨fun _ => .junk, fun _ => F, fun _ => S, rfl, rfl, rfl, rfl, rfl, fun i o h => by simp at h⟩
  | o :: l, h, F, S, φs, h', F', S', ks, hr, hφ => by
    unfold regE at hr
    split at hr
    · rename_i k φ p hs
      split at hr
      · rename_i φs1 h1 F1 S2 ks1 hr1
        simp only [Option.some.injEq, Prod.mk.injEq] at hr
        obtain ⟨rfl, rfl, rfl, rfl, rfl⟩ := hr
        obtain ⟨hφ1, hφ2⟩ := AllP_app.1 hφ
        obtain ⟨pv, Fs, Ss, t⟩ := regE_trace hE l _ _ _ _ _ _ _ _ hr1 hφ2
        have hst := stepE_ok hE hs hφ1
        refine ⟨fun i => match i with | 0 => p | i + 1 => pv i, fun i => match i with | 0 => F | i + 1 => Fs i, fun i => match i with | 0 => S | i + 1 => Ss i, by simp [t.len], rfl, rfl, t.fe, t.se, fun i o' ho => ?_⟩
        cases i with
        | zero =>
          simp at ho; subst ho
          simp only [t.f0, t.s0]
          exact ⟨⟨hst, rfl⟩, trivial⟩
        | succ i =>
          simp only [List.getElem?_cons_succ] at ho
          have := t.step i o' ho
          have ht : touch (k :: ks1) (i + 1) = touch ks1 i := by simp [touch]
          rw [ht]; exact this
      · cases hr
    · cases hr

theorem trace_tst {l : List Oper} {F F' : Fm} {S S' : Sx} {ks : List Inf} {pv : Nat → PV} {Fs : Nat → Fm} {Ss : Nat → Sx} (t : Trace P n l.toArray l F S F' S' ks pv Fs Ss) : ∀ i, i ≤ l.length → ∀ S2, (tst l.toArray pv (St.ofL n F S) i).to S2 = St.ofL n (Fs i) S2
  | 0, _, S2 => by simp only [tst, t.f0]; rfl
  | i + 1, hi, S2 => by
    have ih := trace_tst t i (by omega)
    have ho : l[i]? = some l[i] := List.getElem?_eq_getElem (by omega)
    obtain ⟨_, h2⟩ := t.step i _ ho
    have hd : dstOf l.toArray i = l[i].dst := by simp [dstOf, ho]
    simp only [tst, hd, h2]
    have e := ih S2
    rw [← ofL_put (S := S2), ← e]
    cases l[i].dst <;> rfl

theorem opz_to (st : St) (S : Sx) (z : Nat) (x : Operand) : (st.to S).opz z x = st.opz z x := by cases x <;> rfl
theorem gval_to (ops : Array Oper) (st : St) (S : Sx) (j : Nat) (w : Bool) : gval ops (st.to S) j w = gval ops st j w := rfl

theorem regE_draw (hE : EnvOk P E) {l : List Oper} {id : Nat} {h : H} {F : Fm} {S : Sx} {φs : List Prop} {h' : H} {F' : Fm} {S' : Sx} {ks : List Inf} (hr : regE P E n l.toArray l h F S = some (φs, h', F', S', ks)) (hφ : AllP φs)
    (hc : cmpOk l.toArray ks = true) (hk : chk l.toArray = true) (hq : Q .normal (St.ofL n F' S')) : pw P g0 w0 (.region id l.toArray true) Q (St.ofL n F S) := by
  obtain ⟨pv, Fs, Ss, t⟩ := regE_trace hE l h F S φs h' F' S' ks hr hφ
  have hStep : ∀ i, i < l.length → ∃ o, l[i]? = some o ∧ StepOk P l.toArray o (St.ofL n (Fs i) (Ss i)) (touch ks i) (pv i) ∧ Ss (i + 1) = eff (touch ks i).2 (Ss i) := fun i hi => by
    have ho : l[i]? = some l[i] := List.getElem?_eq_getElem hi
    obtain ⟨⟨h1, h2⟩, _⟩ := t.step i _ ho
    exact ⟨_, ho, h1, h2⟩
  have hcmp : ∀ i j, i < l.length → j < i → pairOk (touch ks i) (touch ks j) = false → reach l.toArray ks.length i j = true := by
    intro i j hi hj h1
    have := List.all_eq_true.1 hc i (List.mem_range.2 (by rw [t.len]; exact hi))
    have := List.all_eq_true.1 this j (List.mem_range.2 hj)
    rw [h1, Bool.false_or] at this; exact this
  let Sf : (Nat → Bool) → Sx := fun L => At ks S L l.length
  -- what an operation looks at is as the text's order has it
  have hag : ∀ i L T, i < l.length → Adm l.toArray i L → (touch ks i).1 = some T → (∀ j ef, j ≠ i → j < l.length → (touch ks j) = (some ef.rs, some ef) → overlap ef.rs T = true → (j < i → L j = true) ∧ (i < j → L j = false)) → (∀ j, j < l.length → (touch ks j).2 = none ∨ ∃ ef : Ef, touch ks j = (some ef.rs, some ef)) →
      ∀ k, k ≤ l.length → Agree (Ss (min k i)) (At ks S L k) T := by
    intro i L T hi hL hT hov hform k
    induction k with
    | zero => intro _; rw [Nat.zero_min, t.s0]; exact .refl _ _
    | succ k ih =>
      intro hk
      have ih := ih (by omega)
      obtain ⟨o, _, _, hSs⟩ := hStep k (by omega)
      rcases hform k (by omega) with he | ⟨ef, he⟩
      · have e1 : At ks S L (k + 1) = At ks S L k := by simp only [At, he, eff, ite_self]
        rw [e1]
        by_cases hki : k < i
        · rw [Nat.min_eq_left (by omega), hSs, he]
          rw [Nat.min_eq_left (by omega)] at ih; exact ih
        · rw [Nat.min_eq_right (by omega)]
          rw [Nat.min_eq_right (by omega)] at ih; exact ih
      · have he2 : (touch ks k).2 = some ef := by rw [he]
        cases ho : overlap ef.rs T with
        | true =>
          by_cases hki : k = i
          · subst hki
            have e1 : At ks S L (k + 1) = At ks S L k := by simp only [At, hL.new, Bool.false_eq_true, if_false]
            rw [e1, Nat.min_eq_right (by omega)]
            rw [Nat.min_self] at ih; exact ih
          · obtain ⟨h1, h2⟩ := hov k ef hki (by omega) he ho
            by_cases hlt : k < i
            · have e1 : At ks S L (k + 1) = ef.app (At ks S L k) := by simp only [At, h1 hlt, if_true, he2, eff]
              rw [e1, Nat.min_eq_left (by omega), hSs, he2]
              rw [Nat.min_eq_left (by omega)] at ih
              exact app_agree ef ih
            · have e1 : At ks S L (k + 1) = At ks S L k := by simp only [At, h2 (by omega), Bool.false_eq_true, if_false]
              rw [e1, Nat.min_eq_right (by omega)]
              rw [Nat.min_eq_right (by omega)] at ih; exact ih
        | false =>
          have e1 : Agree (At ks S L k) (At ks S L (k + 1)) T := by
            cases hl : L k with
            | true =>
              have : At ks S L (k + 1) = ef.app (At ks S L k) := by simp only [At, hl, if_true, he2, eff]
              rw [this]; exact app_keeps _ ho
            | false =>
              have : At ks S L (k + 1) = At ks S L k := by simp only [At, hl, Bool.false_eq_true, if_false]
              rw [this]; exact .refl _ _
          by_cases hki : k < i
          · rw [Nat.min_eq_left (by omega)] at ih ⊢
            rw [hSs, he2]
            exact ((app_keeps _ ho).symm.trans ih).trans e1
          · rw [Nat.min_eq_right (by omega)] at ih ⊢
            exact ih.trans e1
  have hcom : ∀ i L, i < l.length → L i = false → (∀ j, i < j → j < l.length → L j = true → ∀ e f, (touch ks i).2 = some e → (touch ks j).2 = some f → overlap f.rs e.rs = false) → ∀ k, i < k → k ≤ l.length → At ks S (ins L i) k = eff (touch ks i).2 (At ks S L k) := by
    intro i L hi hLi hno k hik hk
    induction k with
    | zero => omega
    | succ k ih =>
      by_cases hki : k = i
      · subst hki
        have same : ∀ m, m ≤ k → At ks S (ins L k) m = At ks S L m := by
          intro m
          induction m with
          | zero => intro _; rfl
          | succ m ihm =>
            intro hm
            have : ins L k m = L m := by simp [ins, show ¬ m = k by omega]
            simp only [At, this, ihm (by omega)]
        have : ins L k k = true := by simp [ins]
        simp only [At, this, if_true, hLi, Bool.false_eq_true, if_false, same k (Nat.le_refl _)]
      · have ih := ih (by omega) (by omega)
        have : ins L i k = L k := by simp [ins, hki]
        simp only [At, this, ih]
        cases hl : L k with
        | false => simp
        | true =>
          simp only [if_true]
          cases he : (touch ks i).2 with
          | none => rfl
          | some e =>
            cases hf : (touch ks k).2 with
            | none => rfl
            | some f => exact app_comm _ (hno k (by omega) (by omega) hl e f he hf)
  intro a w hrw
  obtain ⟨g, hI, hEx, hd, hs, hv⟩ := hrw
  refine wp_region_any hE.mixed ?_
  have hLf : (fun j => (Array.replicate l.toArray.size false).getD j false) = fun _ => false := by
    funext j
    by_cases hj : j < l.length <;> simp [Array.getD, hj]
  have h0 : Sf (fun _ => false) = S := by
    have : ∀ k, At ks S (fun _ => false) k = S := fun k => by
      induction k with
      | zero => rfl
      | succ k ih => simp only [At, Bool.false_eq_true, if_false, ih]
    exact this _
  have hlast : Sf (fun j => decide (j < l.length)) = S' := by
    have : ∀ k, k ≤ l.length → At ks S (fun j => decide (j < l.length)) k = Ss k := fun k => by
      induction k with
      | zero => intro _; exact t.s0.symm
      | succ k ih =>
        intro hk
        obtain ⟨_, _, _, hSs⟩ := hStep k (by omega)
        simp only [At, decide_eq_true (show k < l.length by omega), if_true, ih (by omega), hSs]
    exact (this _ (Nat.le_refl _)).trans t.se
  refine draw_any (st := St.ofL n F S) (Sf := Sf) (pv := pv) hk (fun i o ho => ?_) ?_ _ _ a w.drew g (by simp) (by omega) (fun k j hk _ => ?_) (by rw [hLf, h0]; exact hI.drew) (hEx.trans (.drew g w)) hd ⟨hs, fun d hdn _ => hv d hdn, fun d u hdn _ => ?_⟩
  · have ho' : l[i]? = some o := by simpa using ho
    have hi : i < l.length := (List.getElem?_eq_some_iff.1 ho').1
    obtain ⟨⟨h1, _⟩, _⟩ := t.step i o ho'
    have htst := trace_tst t i (by omega) (Ss i)
    -- every operation's form
    have hform0 : ∀ j, j < l.length → (touch ks j).2 = none ∨ ∃ ef : Ef, touch ks j = (some ef.rs, some ef) := by
      intro j hj
      obtain ⟨oj, hoj, hsj, _⟩ := hStep j hj
      unfold StepOk at hsj
      have key : ∀ ρ, OpI P oj ρ (Ss j) (pv j) (touch ks j) → (touch ks j).2 = none ∨ ∃ ef : Ef, touch ks j = (some ef.rs, some ef) := by
        intro ρ hk
        generalize touch ks j = inf at hk
        obtain ⟨T, ef⟩ := inf
        cases ef with
        | none => exact .inl rfl
        | some ef => cases T with
          | none => exact hk.elim
          | some T => obtain ⟨rfl, _⟩ := hk; exact .inr ⟨ef, rfl⟩
      split at hsj
      · obtain ⟨z, hz⟩ := hsj; exact key _ hz
      · rcases hsj with ⟨_, z, hz⟩ | ⟨_, _, hz⟩
        · exact key _ hz
        · exact .inl hz
    have hpair : ∀ {T : Rs} {ef : Ef} {j : Nat} {u : Option Ef} {L : Nat → Bool}, Adm l.toArray i L → touch ks i = (some T, u) → j ≠ i → j < l.length → touch ks j = (some ef.rs, some ef) → overlap ef.rs T = true → (j < i → L j = true) ∧ (i < j → L j = false) := by
      intro T ef j u L hL hTi hji hjl hj hov
      constructor
      · intro hlt
        refine reach_in hL ks.length i j (.inl rfl) (hcmp i j hi hlt ?_)
        rw [hTi, hj]; unfold pairOk
        cases u <;> simp [overlap_comm T, hov]
      · intro hlt
        have hr := hcmp j i hjl hlt (by rw [hTi, hj]; unfold pairOk; cases u <;> simp [hov])
        cases hx : L j with
        | false => rfl
        | true =>
          have := reach_in hL ks.length j i (.inr hx) hr
          rw [hL.new] at this; cases this
    have hall : ∀ L, Adm l.toArray i L → (∀ T, (touch ks i).1 = some T → Agree (Ss i) (Sf L) T) := by
      intro L hL T hT
      have hTi : touch ks i = (some T, (touch ks i).2) := by rw [← hT]
      have := hag i L T hi hL hT (fun j ef hji hjl hj hov => hpair hL hTi hji hjl hj hov) hform0 l.length (Nat.le_refl _)
      rw [Nat.min_eq_right (by omega)] at this; exact this
    have hnone : ∀ L, Adm l.toArray i L → (touch ks i).2 = none → Sf (ins L i) = Sf L := by
      intro L hL hn
      have := hcom i L hi hL.new (fun j _ _ _ e f he _ => by rw [hn] at he; cases he) l.length hi (Nat.le_refl _)
      rw [hn] at this; exact this
    have key : ∀ z, OpI P o ((St.ofL n (Fs i) (Ss i)).opz z) (Ss i) (pv i) (touch ks i) → ∀ L, Adm l.toArray i L → OpS P o ((tst l.toArray pv (St.ofL n F S) i).opz z) (Sf L) (Sf (ins L i)) (pv i) := by
      intro z hz L hL
      rw [← htst] at hz
      have hρ : ((tst l.toArray pv (St.ofL n F S) i).to (Ss i)).opz z = (tst l.toArray pv (St.ofL n F S) i).opz z := by funext x; exact opz_to _ _ _ _
      rw [hρ] at hz
      have hA := hall L hL
      have hN := hnone L hL
      have hC : ∀ e : Ef, touch ks i = (some e.rs, some e) → Sf (ins L i) = e.app (Sf L) := by
        intro e he
        have := hcom i L hi hL.new (fun j hij hjl hLj e' f he' hf => by
          rw [he] at he'; cases he'
          rcases hform0 j hjl with h | ⟨f', hf'⟩
          · rw [h] at hf; cases hf
          · rw [hf'] at hf; cases hf
            rename_i ff
            cases hov : overlap f.rs e.rs with
            | false => rfl
            | true =>
              have := (hpair hL he (by omega) hjl hf' hov).2 hij
              rw [hLj] at this; cases this) l.length hi (Nat.le_refl _)
        rw [he] at this; exact this
      generalize hinf : touch ks i = inf at hz hA hN hC
      obtain ⟨T, ef⟩ := inf
      cases T with
      | none => cases ef with
        | none => rw [hN rfl]; exact hz _
        | some ef => exact hz.elim
      | some T => cases ef with
        | none => rw [hN rfl]; exact hz _ (hA T rfl)
        | some ef =>
          obtain ⟨rfl, hz⟩ := hz
          rw [hC ef rfl]; exact hz _ (hA _ rfl)
    unfold StepOk at h1
    unfold stepD
    split at h1
    · rename_i hg; rw [hg]
      obtain ⟨z, hz⟩ := h1
      exact ⟨z, key z hz⟩
    · rename_i j want hg; rw [hg]
      rw [← htst, gval_to] at h1
      rcases h1 with ⟨hb, z, hz⟩ | ⟨hb, hun, hk1⟩
      · refine .inl ⟨hb, z, key z ?_⟩
        rw [htst] at hz; exact hz
      · exact .inr ⟨hb, hun, fun L hL => hnone L hL hk1⟩
  · rw [List.size_toArray, hlast, trace_tst t l.length (Nat.le_refl _), t.fe]; exact hq
  · have := congrFun hLf k
    rw [this] at hk; cases hk
  · have := congrFun hLf u
    simp only [this]
    exact hv d hdn
end
end Go.Pv
