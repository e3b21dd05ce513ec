/- Contracts, used. -/
import Derived.Test.YtihiooaimdoapaaGreatBnK
set_option linter.unusedVariables false
set_option linter.unusedSimpArgs false
namespace Go.Bm
noncomputable section
open Go.RowKit
def putRs : (l : List (Nat × RK)) → Rgs l → List Rg → List Rg
  | [], _, rg => rg
  | p :: l, x, rg => rput (putRs l x.2 rg) p.1 p.2 x.1
theorem putRs_find : ∀ (l : List (Nat × RK)) (rg : List Rg) (c' : Rgs l), (∀ r, kpOf l r = true → ∃ x, rfind rg r = some x) → ∀ r, rfind (putRs l c' rg) r = if kpOf l r = true then rfind (rgsL l c') r else rfind rg r
  | [], rg, c', _, r => by simp [putRs, kpOf]
  | p :: l, rg, c', hx, r => by
    have ih := putRs_find l rg c'.2 (fun r hr => hx r (by show (Nat.beq p.1 r || kpOf l r) = true; rw [hr, Bool.or_true]))
    have hp : ∃ x, rfind (putRs l c'.2 rg) p.1 = some x := by
      rw [ih]
      split
      · rename_i hk
        exact rfind_rgsL_some l c'.2 p.1 hk
      · exact hx p.1 (by show (Nat.beq p.1 p.1 || kpOf l p.1) = true; rw [Nat.beq_refl]; rfl)
    obtain ⟨x, hp⟩ := hp
    show rfind (rput (putRs l c'.2 rg) p.1 p.2 c'.1) r = if (Nat.beq p.1 r || kpOf l r) = true then (bif Nat.beq p.1 r then some (⟨p.1, p.2, c'.1⟩ : Rg) else rfind (rgsL l c'.2) r) else rfind rg r
    rw [rfind_put _ p.1 p.2 c'.1 r x hp, ih]
    by_cases hr : r = p.1
    · subst hr; rw [if_pos rfl, Nat.beq_refl]; simp
    · have : Nat.beq p.1 r = false := by
        cases hb : Nat.beq p.1 r with
        | false => rfl
        | true => exact absurd (beq_eq hb).symm hr
      rw [if_neg hr, this]; simp
def Sig.al (sg : Sig) : List (Nat × RK) := sg.wg ++ sg.rg
theorem kpOf_app (l k : List (Nat × RK)) (r : Nat) : kpOf (l ++ k) r = (kpOf l r || kpOf k r) := List.any_append
def sgOk (sg : Sig) (h : H) : Bool := (sg.al.all fun p => Nat.blt p.1 64 && p.2.inK (kpOf sg.al)) && (sg.wg.all fun p => !(lkd h (rgn p.1))) && (sg.ps.all fun p => inK (kpOf sg.al) p.2) && (sg.rs.all fun p => inK (kpOf sg.al) p.2)
def ctT (sg : Sig) : Fp := ⟨false, sg.al.map fun p => rgn p.1, !sg.wg.isEmpty, sg.wg.map fun p => rgn p.1⟩
section
variable {β : Type}
def ctR (sg : Sig) (F : Plain sg) (as : List A) (h : H) (K : A → H → Fp → Option β) : Option β := match unA sg.ps as, getR sg.rg h.rg, getR sg.wg h.rg with
  | some x, some c, some d => bif sgOk sg h then bd (F x c d) (fun p => spK (retA sg.rs p.1) (fun v => K v { h with rg := putRs sg.wg p.2 h.rg } (ctT sg))) else none
  | _, _, _ => none
def ctK (sg : Sig) (F : Plain sg) (as : List A) (h : H) (K : A → H → Fp → Option β) : Option β := match fixL sg.ps as h with
  | some (as', h1, T1) => ctR sg F as' h1 (fun v h2 T => K v h2 ((Fp.wr T1).cat T))
  | none => none
theorem kin_loc {kp : Nat → Bool} {i : Nat} (h : i < 16777216) : kin kp i = false := by
  unfold kin
  rw [lt_blt h]; rfl
theorem kin_ge {kp : Nat → Bool} {i : Nat} (h : ¬ i < 16777216) : kin kp i = kp (rOf i) := by
  unfold kin
  rw [nlt_blt h]; rfl
theorem any_rgn (l : List (Nat × RK)) (r : Nat) : (l.map fun p => rgn p.1).any (Nat.beq (rgn r)) = kpOf l r := by
  induction l with
  | nil => rfl
  | cons p l ih =>
    show (Nat.beq (rgn r) (rgn p.1) || (l.map fun p => rgn p.1).any (Nat.beq (rgn r))) = (Nat.beq p.1 r || kpOf l r)
    rw [ih]
    have : Nat.beq (rgn r) (rgn p.1) = Nat.beq p.1 r := by
      cases h1 : Nat.beq p.1 r with
      | true => rw [beq_eq h1]; exact Nat.beq_refl _
      | false =>
        cases h2 : Nat.beq (rgn r) (rgn p.1) with
        | false => rfl
        | true =>
          have : p.1 = r := by have := beq_eq h2; unfold rgn at this; omega
          rw [this, Nat.beq_refl] at h1; cases h1
    rw [this]
theorem any_rlo (l : List (Nat × RK)) (i : Nat) : (l.map fun p => rgn p.1).any (Nat.beq (rlo i)) = false := by
  induction l with
  | nil => rfl
  | cons p l ih =>
    show (Nat.beq (rlo i) (rgn p.1) || (l.map fun p => rgn p.1).any (Nat.beq (rlo i))) = false
    rw [ih, Bool.or_false]
    cases h2 : Nat.beq (rlo i) (rgn p.1) with
    | false => rfl
    | true => have := beq_eq h2; unfold rgn rlo at this; omega
theorem touch_ct (sg : Sig) (i : Nat) : touch (ctT sg) i = kin (kpOf sg.al) i := by
  have e : touch (ctT sg) i = (sg.al.map fun p => rgn p.1).any (Nat.beq (res i)) := Bool.false_or _
  rw [e]
  by_cases h : i < 16777216
  · rw [res_loc h, kin_loc h]; exact any_rlo _ _
  · rw [res_ge h, kin_ge h]; exact any_rgn _ _
theorem wt_ct {sg : Sig} {i : Nat} (h : wt (ctT sg) i = false) (hl : ¬ i < 16777216) : kpOf sg.wg (rOf i) = false := by
  have e : (!sg.wg.isEmpty && (sg.wg.map fun p => rgn p.1).any (Nat.beq (res i))) = false := h
  rw [res_ge hl, any_rgn] at e
  cases hw : sg.wg with
  | nil => rfl
  | cons p l => rw [hw] at e; simpa using e
theorem argsA_VK {kp : Nat → Bool} : ∀ (l : List (Bool × Ty)) (x : Tup l), (l.all fun p => inK kp p.2) = true → ∀ a ∈ argsA l x, VK kp a
  | [], _, _, a, ha => by cases ha
  | p :: l, x, h, a, ha => by
    simp only [List.all_cons, Bool.and_eq_true] at h
    rcases List.mem_cons.1 ha with rfl | ha
    · exact .pack _ h.1
    · exact argsA_VK l x.2 h.2 a ha
theorem rgsL_inK {kp : Nat → Bool} : ∀ (l : List (Nat × RK)) (c : Rgs l), (∀ p ∈ l, p.2.inK kp = true) → ∀ r q, rfind (rgsL l c) r = some q → q.k.inK kp = true
  | [], c, _, r, q, h => by cases h
  | p :: l, c, hl, r, q, h => by
    have h : (bif Nat.beq p.1 r then some (⟨p.1, p.2, c.1⟩ : Rg) else rfind (rgsL l c.2) r) = some q := h
    cases hb : Nat.beq p.1 r with
    | true => rw [hb] at h; cases h; exact hl p (.head _)
    | false => rw [hb] at h; exact rgsL_inK l c.2 (fun p hp => hl p (.tail _ hp)) r q h
theorem ctR_ok {P : Program} {f : FuncId} {sg : Sig} {F : Plain sg} (hF : CtOk P f sg F) {as : List A} {h : H} {K : A → H → Fp → Option β} {r : β} (hr : ctR sg F as h K = some r) : ∃ pv h' T, K pv h' T = some r ∧ CStep P f as h h' T pv := by
  unfold ctR at hr
  split at hr
  · rename_i x c d hx hc hd
    obtain ⟨hs, hr⟩ := cond_some hr
    obtain ⟨⟨y, d'⟩, hy, hr⟩ := bd_inv hr
    obtain ⟨pv, hr, hpv⟩ := spK_ok hr
    unfold sgOk at hs
    simp only [Bool.and_eq_true] at hs
    obtain ⟨⟨⟨hs1, _⟩, hs2⟩, hs3⟩ := hs
    obtain ⟨t, nid, lk, hpc⟩ := hF.pc x c d y d' hy
    have hfc := getR_find _ _ _ hc
    have hfd := getR_find _ _ _ hd
    have hput := putRs_find sg.wg h.rg d' (fun r hr => (hfd r hr).2)
    have kpa : ∀ r, kpOf sg.al r = (kpOf sg.wg r || kpOf sg.rg r) := fun r => kpOf_app _ _ r
    have fA : ∀ r, kpOf sg.al r = true → rfind (rgsL sg.wg d ++ rgsL sg.rg c) r = rfind h.rg r := fun r hk => by
      rw [rfind_app]
      cases hw : kpOf sg.wg r with
      | true => obtain ⟨e, q, hq⟩ := hfd r hw; rw [e, hq]
      | false =>
        rw [rfind_rgsL_none _ _ _ hw]
        exact (hfc r (by rw [kpa, hw] at hk; simpa using hk)).1
    have fB : ∀ r, kpOf sg.al r = true → rfind (rgsL sg.wg d' ++ rgsL sg.rg c) r = rfind (putRs sg.wg d' h.rg) r := fun r hk => by
      rw [rfind_app, hput]
      cases hw : kpOf sg.wg r with
      | true => obtain ⟨q, hq⟩ := rfind_rgsL_some sg.wg d' r hw; rw [hq]; simp
      | false =>
        rw [rfind_rgsL_none _ _ _ hw]
        exact (hfc r (by rw [kpa, hw] at hk; simpa using hk)).1
    have fC : ∀ r, kpOf sg.al r = false → rfind (rgsL sg.wg d ++ rgsL sg.rg c) r = none := fun r hk => by
      rw [kpa, Bool.or_eq_false_iff] at hk
      rw [rfind_app, rfind_rgsL_none _ _ _ hk.1]
      exact rfind_rgsL_none _ _ _ hk.2
    have fD : ∀ i, (¬ i < lim → kpOf sg.wg (rOf i) = false) → (hp { h with rg := putRs sg.wg d' h.rg }).ob i = (hp h).ob i ∧ ((hp { h with rg := putRs sg.wg d' h.rg }).fr i ↔ (hp h).fr i) := fun i hi => by
      show (if i < lim then tOb h.t i else regAt (putRs sg.wg d' h.rg) i) = (if i < lim then tOb h.t i else regAt h.rg i) ∧ ((if i < lim then h.nid ≤ i else regFr (putRs sg.wg d' h.rg) i) ↔ (if i < lim then h.nid ≤ i else regFr h.rg i))
      by_cases hl : i < lim
      · rw [if_pos hl, if_pos hl, if_pos hl, if_pos hl]; exact ⟨rfl, Iff.rfl⟩
      · rw [if_neg hl, if_neg hl, if_neg hl, if_neg hl]
        have := hput (rOf i)
        rw [hi hl, if_neg (by simp)] at this
        unfold regAt regFr
        rw [this]; exact ⟨rfl, Iff.rfl⟩
    have nlim : ∀ {i}, kin (kpOf sg.al) i = true → ¬ i < lim ∧ kpOf sg.al (rOf i) = true := fun {i} hi => by
      unfold kin at hi
      simp only [Bool.and_eq_true, Bool.not_eq_true'] at hi
      refine ⟨fun hl => ?_, hi.2⟩
      have : Nat.blt i 16777216 = true := lt_blt hl
      rw [this] at hi; cases hi.1
    have out' : ∀ {i}, kin (kpOf sg.al) i = false → ¬ i < lim → kpOf sg.al (rOf i) = false := fun {i} hi hl => by
      rw [kin_ge hl] at hi; exact hi
    have inL : ∀ (l : List Rg), (∀ r q, rfind l r = some q → q.k.inK (kpOf sg.al) = true) → ∀ i x, ¬ i < lim → regAt l i = some x → ObK (kpOf sg.al) x := fun l hl i x _ hx => by
      unfold regAt at hx
      split at hx
      · rename_i q hq
        exact regOb_inK (hl _ q hq) hx
      · cases hx
    have inA : ∀ (d1 : Rgs sg.wg) r q, rfind (rgsL sg.wg d1 ++ rgsL sg.rg c) r = some q → q.k.inK (kpOf sg.al) = true := fun d1 r q hq => by
      have hall : ∀ p ∈ sg.al, p.2.inK (kpOf sg.al) = true := fun p hp => by
        have := List.all_eq_true.1 hs1 p hp
        simp only [Bool.and_eq_true] at this
        exact this.2
      rw [rfind_app] at hq
      split at hq
      · rename_i q1 h1
        cases hq
        exact rgsL_inK sg.wg d1 (fun p hp => hall p (List.mem_append_left _ hp)) _ _ h1
      · exact rgsL_inK sg.rg c (fun p hp => hall p (List.mem_append_right _ hp)) _ _ hq
    refine ⟨pv, _, _, hr, ⟨fun i hi => fD i (fun hl => ?_), fun i hi => fD i (fun hl => wt_ct hi hl), hF.fn x c d _ hy, fun S2 hA => ?_⟩⟩
    · rw [touch_ct] at hi
      have := out' hi hl
      rw [kpa, Bool.or_eq_false_iff] at this
      exact this.1
    · have hpc2 := PC.frame (kp := kpOf sg.al) (S := S2) (fun i hi => ?_) (fun i hi => ?_) (fun i q hq => ?_) (fun i q hi hq => ?_) (argsA_VK sg.ps x hs2) (r := retA sg.rs y) ?_ hpc
      · have e : Hp.join (kpOf sg.al) (hp ⟨t, nid, rgsL sg.wg d' ++ rgsL sg.rg c, lk⟩) S2 = ovr (ctT sg) (hp { h with rg := putRs sg.wg d' h.rg }) S2 := by
          refine Hp.ext' (fun i => ?_) (fun i => ?_)
          · show (if kin (kpOf sg.al) i = true then _ else _) = (if touch (ctT sg) i = true then _ else _)
            rw [touch_ct]
            by_cases hi : kin (kpOf sg.al) i = true
            · obtain ⟨n1, n2⟩ := nlim hi
              rw [if_pos hi, if_pos hi, (hp_ge n1).1, (hp_ge n1).1]
              unfold regAt
              rw [fB _ n2]
            · rw [if_neg hi, if_neg hi]
          · show (if kin (kpOf sg.al) i = true then _ else _) ↔ (if touch (ctT sg) i = true then _ else _)
            rw [touch_ct]
            by_cases hi : kin (kpOf sg.al) i = true
            · obtain ⟨n1, n2⟩ := nlim hi
              rw [if_pos hi, if_pos hi, (hp_ge n1).2, (hp_ge n1).2]
              unfold regFr
              rw [fB _ n2]
            · rw [if_neg hi, if_neg hi]
        rw [e] at hpc2
        obtain ⟨u1, u2⟩ := unA_ok _ _ _ hx
        intro g w vs hI hl hv
        refine (hpc2 g w vs hI (by rw [← u1]; exact hl) (fun i p v e1 e2 => ?_)).mono ?_
        · have hi : i < as.length := by rw [u1]; exact (List.getElem?_eq_some_iff.1 e1).1
          exact u2 i _ p (List.getElem?_eq_getElem hi) e1 g v (hv i _ v (List.getElem?_eq_getElem hi) e2)
        · rintro e w' ⟨v, g', rfl, q1, q2, q3⟩
          exact ⟨v, g', rfl, hpv g' v q1, q2, q3⟩
      · by_cases hl : i < lim
        · show (if i < lim then tOb .nil i else _) = none
          rw [if_pos hl]; rfl
        · rw [(hp_ge hl).1]
          show regAt (rgsL sg.wg d ++ rgsL sg.rg c) i = none
          unfold regAt
          rw [fC _ (out' hi hl)]
      · obtain ⟨n1, n2⟩ := nlim hi
        obtain ⟨a1, a2⟩ := hA i (by rw [touch_ct]; exact hi)
        rw [a1, a2, (hp_ge n1).1, (hp_ge n1).2, (hp_ge n1).1, (hp_ge n1).2]
        show regAt h.rg i = regAt (rgsL sg.wg d ++ rgsL sg.rg c) i ∧ (regFr h.rg i ↔ regFr (rgsL sg.wg d ++ rgsL sg.rg c) i)
        unfold regAt regFr
        rw [fA _ n2]; exact ⟨rfl, Iff.rfl⟩
      · by_cases hl : i < lim
        · have hq : (if i < lim then tOb .nil i else _) = some q := hq
          rw [if_pos hl] at hq; cases hq
        · rw [(hp_ge hl).1] at hq
          exact inL _ (inA d) i q hl hq
      · rw [(hp_ge (nlim hi).1).1] at hq
        exact inL _ (inA d') i q (nlim hi).1 hq
      · have hall := argsA_VK (kp := kpOf sg.al) sg.rs y hs3
        unfold retA
        generalize argsA sg.rs y = ps at hall
        match ps, hall with
        | [p], hall => exact hall p (.head _)
        | [], hall => exact .tup hall
        | p :: q :: ps, hall => exact .tup hall
  · cases hr
theorem ctK_ok {P : Program} {f : FuncId} {sg : Sig} {F : Plain sg} (hF : CtOk P f sg F) {as : List A} {h : H} {K : A → H → Fp → Option β} {r : β} (hr : ctK sg F as h K = some r) : ∃ pv h' T, K pv h' T = some r ∧ CStep P f as h h' T pv := by
  unfold ctK at hr
  split at hr
  · rename_i as' h1 T1 hfx
    obtain ⟨pv, h2, T, k1, k2⟩ := ctR_ok hF hr
    obtain ⟨hl, us, c1, c2, c3⟩ := fixL_ok hfx
    have out : ∀ i, touch (.wr T1) i = false → (hp h1).ob i = (hp h).ob i ∧ ((hp h1).fr i ↔ (hp h).fr i) := fun i hi => by
      rw [c1]; exact app_out us _ i (fun u hu e => by rw [e, c2 u hu] at hi; cases hi)
    have f1 : Fr2 h h1 (.wr T1) := ⟨out, fun i hi => out i (wt_wr hi)⟩
    have f2 : Fr2 h1 h2 T := ⟨k2.out, k2.rd⟩
    refine ⟨pv, h2, _, k1, (f1.trans f2).out, (f1.trans f2).rd, k2.fn, fun S2 hA => ?_⟩
    rw [← ovr_cat f2]
    have A1 := hA.left
    have A2 := Agree.right f1 hA
    have e : ovr (.wr T1) (hp h1) S2 = app us S2 := by rw [c1]; exact ovr_app c2 A1
    rw [e] at A2 ⊢
    intro g w vs hI hlv hv
    obtain ⟨g1, q1, q2, q3⟩ := c3 g S2 w vs hI A1 hlv hv
    refine (k2.ok _ A2 g1 w vs q1 (by rw [hl]; exact hlv) q3).mono ?_
    rintro e w' ⟨v, g', rfl, z1, z2, z3⟩
    exact ⟨v, g', rfl, z1, z2, q2.trans z3⟩
  · cases hr
end
end
end Go.Bm
