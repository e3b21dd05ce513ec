/- Regions that draw their order, run. -/
import Derived.Test.YtihiooaimdoapaaGreatBnF
set_option linter.unusedVariables false
set_option linter.unusedSimpArgs false
namespace Go.Bm
noncomputable section
open Go.RowKit
section
variable {P : Program} {E : Env} {cx : Cx} {n : Nat} {β : Type} {r : β}
def ucat : List Fp → Fp
  | [] => .no
  | T :: r => T.cat (ucat r)
def drwK (E : Env) (cx : Cx) (n : Nat) (l0 : List Oper) : List Oper → Tr A → H → List Fp → (Tr A → H → List Fp → Option β) → Option β
  | [], F, h, acc, K => K F h acc
  | o :: l, F, h, acc, K => match o.guard with
    | none => opP E cx n o.op F h (fun F pv h' T => putF F o.dst pv (fun F' => drwK E cx n l0 l F' h' (acc ++ [T]) K))
    | some (j, want) => grdK l0 n F j want (fun F b => bif b then opP E cx n o.op F h (fun F pv h' T => putF F o.dst pv (fun F' => drwK E cx n l0 l F' h' (acc ++ [T]) K)) else putF F o.dst .un (fun F' => drwK E cx n l0 l F' h (acc ++ [.no]) K))
def drK (E : Env) (cx : Cx) (n : Nat) (β : Type) (_id : Nat) (ops : List Oper) (F : Tr A) (h : H) (U : Fp) (K : Tr A → H → Fp → Option β) : Option β :=
  bif chk ops.toArray then drwK E cx n ops ops F h [] (fun F h Ts => bif indep ops.toArray ops.length Ts then K F h (U.cat (ucat Ts)) else none) else none
/-- A step is as it should be, whatever came ahead of it. -/
def StepsOk (ops : Array Oper) (H0 : Hp) (rs : List (Fp × Hp)) (Sf : (Nat → Bool) → Hp) (k : Nat) : Prop :=
  ∀ m T H, rs[m]? = some (T, H) → ∀ L, Adm ops (k + m) L → Agree T (Pre H0 rs m) (Sf L) ∧ Sf (ins L (k + m)) = upd1 T H (Sf L)
theorem StepsOk.tail {ops : Array Oper} {H0 : Hp} {q : Fp × Hp} {rs : List (Fp × Hp)} {Sf : (Nat → Bool) → Hp} {k : Nat} (h : StepsOk ops H0 (q :: rs) Sf k) : StepsOk ops q.2 rs Sf (k + 1) := fun m T H hm L ha => by
  have := h (m + 1) T H (by simpa using hm) L (by rwa [show k + (m + 1) = k + 1 + m by omega])
  rw [Pre_cons m (Nat.le_of_lt (List.getElem?_eq_some_iff.1 hm).1), show k + (m + 1) = k + 1 + m by omega] at this
  exact this
theorem Chain.cons {H0 : Hp} {T : Fp} {H : Hp} {rs : List (Fp × Hp)} (h1 : ∀ x, touch T x = false → at1 H x = at1 H0 x) (h2 : T.w = false → H = H0) (h : Chain H rs) : Chain H0 ((T, H) :: rs) := fun m T' H' hm => by
  cases m with
  | zero => simp at hm; obtain ⟨rfl, rfl⟩ := hm; exact ⟨h1, h2⟩
  | succ m =>
    have hm' : rs[m]? = some (T', H') := by simpa using hm
    rw [Pre_cons m (Nat.le_of_lt (List.getElem?_eq_some_iff.1 hm').1)]
    exact h m T' H' hm'
theorem drwK_ok (hE : EnvOk P E) (hx : CxOk P cx) {l0 : List Oper} : ∀ (l : List Oper) (F : Tr A) (h : H) (acc : List Fp) (K : Tr A → H → List Fp → Option β), drwK E cx n l0 l F h acc K = some r →
    ∃ F' h' rs, K F' h' (acc ++ rs.map (·.1)) = some r ∧ Kp (asgO l) F F' ∧ rs.length = l.length ∧ Chain (hp h) rs ∧ (∀ x, wt (ucat (rs.map (·.1))) x = false → at1 (hp h') x = at1 (hp h) x) ∧ Pre (hp h) rs rs.length = hp h' ∧ ∀ Sf k, StepsOk l0.toArray (hp h) rs Sf k → ∀ ds S (Kf : St → Prop), Kf (stF n F' ds S) → drawOk P l0.toArray Sf l k (stF n F ds S) Kf
  | [], F, h, acc, K, hr => ⟨F, h, [], by have hr : K F h acc = some r := hr; simpa using hr, .refl _ F, rfl, fun m T H hm => by simp at hm, fun _ _ => rfl, rfl, fun Sf k _ ds S Kf hk => hk⟩
  | o :: l, F, h, acc, K, hr => by
    have yes : ∀ (F : Tr A), opP E cx n o.op F h (fun F pv h' T => putF F o.dst pv (fun F' => drwK E cx n l0 l F' h' (acc ++ [T]) K)) = some r →
        (∀ ds S, o.guard = none ∨ ∃ j want, o.guard = some (j, want) ∧ gval l0.toArray (stF n F ds S) j want = some true) →
        ∃ F' h' rs, K F' h' (acc ++ rs.map (·.1)) = some r ∧ Kp (asgO (o :: l)) F F' ∧ rs.length = (o :: l).length ∧ Chain (hp h) rs ∧ (∀ x, wt (ucat (rs.map (·.1))) x = false → at1 (hp h') x = at1 (hp h) x) ∧ Pre (hp h) rs rs.length = hp h' ∧ ∀ Sf k, StepsOk l0.toArray (hp h) rs Sf k → ∀ ds S (Kf : St → Prop), Kf (stF n F' ds S) → drawOk P l0.toArray Sf (o :: l) k (stF n F ds S) Kf := fun F hr hg => by
      obtain ⟨F0, e0, pv, h1, T1, k1, k2⟩ := opP_ok hE hx hr
      obtain ⟨F1, k3, kp1, k4⟩ := putF_ok k1
      obtain ⟨F2, h2, rs, k5, kp2, k6, k7, kw, k8, k9⟩ := drwK_ok hE hx l F1 h1 (acc ++ [T1]) K k3
      have hg : ∀ ds S, o.guard = none ∨ ∃ j want, o.guard = some (j, want) ∧ gval l0.toArray (stF n F0 ds S) j want = some true := fun ds S => by rw [e0]; exact hg ds S
      refine ⟨F2, h2, (T1, hp h1) :: rs, by simpa using k5, (Kp.of (l := []) e0).trans (m := asgO (o :: l)) (kp1.trans kp2 (fun i hi => List.mem_append_left _ hi) (fun i hi => List.mem_append_right _ hi)) (fun i hi => by cases hi) (fun i hi => hi), by simp [k6], Chain.cons (fun x hx => Prod.ext (k2.out x hx).1 (propext (k2.out x hx).2)) (fun hw => at1_ext fun x => Prod.ext (k2.rd x (wt_w hw)).1 (propext (k2.rd x (wt_w hw)).2)) k7, fun x hx => (kw x (wt_cat hx).2).trans (Prod.ext (k2.rd x (wt_cat hx).1).1 (propext (k2.rd x (wt_cat hx).1).2)), by rw [List.length_cons, Pre_cons _ (Nat.le_refl _)]; exact k8, fun Sf k hs ds S Kf hk => ?_⟩
      rw [← e0 ds S]
      refine ⟨pv, ?_, ?_⟩
      · have hop : ∀ L, Adm l0.toArray k L → OpR P o ((stF n F0 ds S).opz 0) (Sf L) (Sf (ins L k)) pv := fun L ha => by
          obtain ⟨q1, q2⟩ := hs 0 T1 (hp h1) rfl L ha
          have q1 : Agree T1 (hp h) (Sf L) := q1
          have q2 : Sf (ins L k) = upd1 T1 (hp h1) (Sf L) := q2
          rw [← opd_eq, q2]
          have := k2.ok (Sf L) q1
          unfold upd1
          cases hw : T1.w with
          | true => exact this
          | false =>
            rw [show hp h1 = hp h from at1_ext fun x => Prod.ext (k2.rd x (wt_w hw)).1 (propext (k2.rd x (wt_w hw)).2), ovr_self q1] at this
            exact this
        unfold stepD
        rcases hg ds S with hg | ⟨j, want, hg, hv⟩
        · rw [hg]; exact ⟨0, hop⟩
        · rw [hg]; exact .inl ⟨hv, 0, hop⟩
      · have := k9 Sf (k + 1) hs.tail ds S Kf hk
        rw [← k4 n ds S S, show ((stF n F0 ds S).put o.dst pv).to S = (stF n F0 ds S).put o.dst pv from put_to _ _] at this
        exact this
    unfold drwK at hr
    split at hr
    · rename_i hg
      exact yes F hr (fun _ _ => .inl hg)
    · rename_i j want hg
      obtain ⟨F1, b, k1, k2, k3⟩ := grdK_ok hr
      cases b with
      | true =>
        simp only [cond_true] at k1
        obtain ⟨F', h', rs, q1, qp, q2, q3, qw, q4, q5⟩ := yes F1 k1 (fun ds S => .inr ⟨j, want, hg, by rw [k2]; exact k3 ds S⟩)
        refine ⟨F', h', rs, q1, (Kp.of (l := []) k2).trans qp (fun i hi => by cases hi) (fun i hi => hi), q2, q3, qw, q4, fun Sf k hs ds S Kf hk => ?_⟩
        rw [← k2]
        exact q5 Sf k hs ds S Kf hk
      | false =>
        simp only [cond_false] at k1
        obtain ⟨F2, k4, kp1, k5⟩ := putF_ok k1
        obtain ⟨F', h', rs, q1, qp, q2, q3, qw, q4, q5⟩ := drwK_ok hE hx l F2 h (acc ++ [.no]) K k4
        refine ⟨F', h', (.no, hp h) :: rs, by simpa using q1, (Kp.of (l := []) k2).trans (m := asgO (o :: l)) (kp1.trans qp (fun i hi => List.mem_append_left _ hi) (fun i hi => List.mem_append_right _ hi)) (fun i hi => by cases hi) (fun i hi => hi), by simp [q2], .cons (fun _ _ => rfl) (fun _ => rfl) q3, fun x hx => qw x (wt_cat hx).2, by rw [List.length_cons, Pre_cons _ (Nat.le_refl _)]; exact q4, fun Sf k hs ds S Kf hk => ⟨.un, ?_, ?_⟩⟩
        · unfold stepD
          rw [hg]
          exact .inr ⟨k3 ds S, fun g => .un, fun L ha => (hs 0 .no (hp h) rfl L ha).2⟩
        · have := q5 Sf (k + 1) hs.tail ds S Kf hk
          rw [← k5 n ds S S, show ((stF n F1 ds S).put o.dst .un).to S = (stF n F1 ds S).put o.dst .un from put_to _ _] at this
          rw [← k2]
          exact this
theorem touch_ucat {x : Nat} : ∀ (Ts : List Fp), touch (ucat Ts) x = Ts.any fun T => touch T x
  | [] => rfl
  | T :: r => by
    show touch (T.cat (ucat r)) x = _
    rw [touch_cat, touch_ucat r, List.any_cons]
theorem w_ucat : ∀ (Ts : List Fp), (ucat Ts).w = Ts.any (·.w)
  | [] => rfl
  | T :: r => by
    show (T.w || (ucat r).w) = _
    rw [w_ucat r, List.any_cons]
theorem chain_end {H0 : Hp} : ∀ (rs : List (Fp × Hp)), Chain H0 rs → (∀ x, touch (ucat (rs.map (·.1))) x = false → at1 (Pre H0 rs rs.length) x = at1 H0 x) ∧ ((ucat (rs.map (·.1))).w = false → Pre H0 rs rs.length = H0) := fun rs => by
  induction rs generalizing H0 with
  | nil => exact fun _ => ⟨fun _ _ => rfl, fun _ => rfl⟩
  | cons q rs ih =>
    intro hc
    obtain ⟨T, H⟩ := q
    obtain ⟨i1, i2⟩ := ih hc.tail
    have h0 := hc 0 T H rfl
    rw [List.length_cons, Pre_cons _ (Nat.le_refl _)]
    refine ⟨fun x hx => ?_, fun hw => ?_⟩
    · have hx : touch (T.cat (ucat (rs.map (·.1)))) x = false := hx
      rw [touch_cat, Bool.or_eq_false_iff] at hx
      exact (i1 x hx.2).trans (h0.1 x hx.1)
    · have hw : (T.w || (ucat (rs.map (·.1))).w) = false := hw
      rw [Bool.or_eq_false_iff] at hw
      exact (i2 hw.2).trans (h0.2 hw.1)
theorem drK_ok (hE : EnvOk P E) (hx : CxOk P cx) (hm : P.follows .mixedOrders = true) (n : Nat) (β : Type) : DrOk P n (drK E cx n β) := fun id ops F h U K r hr => by
  obtain ⟨hch, hr⟩ := cond_some hr
  obtain ⟨F', h', rs, k1, kp, k2, k3, kw, k4, k5⟩ := drwK_ok hE hx ops F h [] _ hr
  rw [List.nil_append] at k1
  obtain ⟨hi, k1⟩ := cond_some k1
  rw [← k2] at hi
  refine ⟨F', h', ucat (rs.map (·.1)), k1, kp, fun inr ds => ?_⟩
  obtain ⟨e1, e2⟩ := chain_end rs k3
  rw [k4] at e1 e2
  refine ⟨⟨fun x hx => ⟨congrArg Prod.fst (e1 x hx), Iff.of_eq (congrArg Prod.snd (e1 x hx))⟩, fun x hx => ⟨congrArg Prod.fst (kw x hx), Iff.of_eq (congrArg Prod.snd (kw x hx))⟩⟩, fun ro _ S0 g0 w0 S2 hA Q hq => ?_⟩
  have hA' : ∀ T H, (T, H) ∈ rs → Agree T (hp h) S2 := fun T H hmem x hx => hA x (by
    rw [touch_ucat, List.any_eq_true]
    exact ⟨T, List.mem_map.2 ⟨_, hmem, rfl⟩, hx⟩)
  have zero : ∀ (r : List (Fp × Hp)) (j : Nat) (S : Hp), sfold (fun _ => false) r j S = S := fun r => by
    induction r with
    | nil => exact fun _ _ => rfl
    | cons q r ih => exact fun j S => ih (j + 1) S
  refine pw_draw (fun L => sfold L rs 0 S2) hm hch (zero rs 0 S2) ?_
  refine k5 (fun L => sfold L rs 0 S2) 0 (fun m T H hmr L ha => ?_) ds S2 _ ?_
  · rw [Nat.zero_add] at ha ⊢
    exact indep_steps k3 hi hA' hmr ha
  · have e : sfold (fun j => decide (j < ops.length)) rs 0 S2 = ovr (ucat (rs.map (·.1))) (hp h') S2 := at1_ext fun x => by
      rw [at1_sfold]
      cases ht : touch (ucat (rs.map (·.1))) x with
      | true =>
        have b : at1 S2 x = at1 (hp h) x := Prod.ext (hA x ht).1 (propext (hA x ht).2)
        have := fx_text (x := x) rs (hp h) 0 rs.length k3 (Nat.le_refl _)
        rw [Nat.zero_add, k4, k2] at this
        rw [b, this]
        show at1 (hp h') x = (if touch (ucat (rs.map (·.1))) x = true then (hp h').ob x else S2.ob x, if touch (ucat (rs.map (·.1))) x = true then (hp h').fr x else S2.fr x)
        rw [if_pos ht, if_pos ht]; rfl
      | false =>
        rw [fx_congr (L' := fun _ => false) rs 0 _ (fun m T H hmr hw => by
          simp only [Bool.and_eq_true] at hw
          have : touch (ucat (rs.map (·.1))) x = true := by
            rw [touch_ucat, List.any_eq_true]
            exact ⟨T, List.mem_map.2 ⟨_, List.mem_of_getElem? hmr, rfl⟩, hw.2⟩
          rw [this] at ht; cases ht), ← at1_sfold, zero]
        show at1 S2 x = (if touch (ucat (rs.map (·.1))) x = true then (hp h').ob x else S2.ob x, if touch (ucat (rs.map (·.1))) x = true then (hp h').fr x else S2.fr x)
        rw [if_neg (by rw [ht]; simp), if_neg (by rw [ht]; simp)]; rfl
    show Q .normal ((stF n F' ds S2).to (sfold (fun j => decide (j < ops.length)) rs 0 S2))
    rw [e]
    exact hq
end
end
end Go.Bm
