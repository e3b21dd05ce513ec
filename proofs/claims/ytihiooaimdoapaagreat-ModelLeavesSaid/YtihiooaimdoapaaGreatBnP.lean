/- Where states meet: what is shown. -/
import Derived.Test.YtihiooaimdoapaaGreatBnO
set_option linter.unusedVariables false
set_option linter.unusedSimpArgs false
namespace Go.Bm
noncomputable section
open Go.RowKit
theorem any_beq {l : List Nat} {i : Nat} : l.any (Nat.beq i) = true ↔ i ∈ l := by
  rw [List.any_eq_true]
  exact ⟨fun ⟨x, h1, h2⟩ => by rw [beq_eq h2]; exact h1, fun h => ⟨i, h, Nat.beq_refl i⟩⟩
theorem chkW_own {N : Nat} {bs dels : List Nat} {regs : List (Nat × RK)} {T : Fp} (h : chkW N bs dels regs T.ws = true) {i : Nat} (hl : i < lim) (h1 : i < N) (h2 : i ∉ dels ++ bs) : wt T i = false := by
  cases hx : wt T i with
  | false => rfl
  | true =>
    unfold wt at hx
    rw [Bool.and_eq_true] at hx
    obtain ⟨q, q1, q2⟩ := List.any_eq_true.1 hx.2
    obtain rfl := beq_eq q2
    have := List.all_eq_true.1 h _ q1
    rw [res_loc hl] at this
    unfold rlo at this
    rw [show Nat.beq (2 * i % 2) 0 = true by rw [show 2 * i % 2 = 0 by omega]; rfl, show 2 * i / 2 = i by omega] at this
    simp only [cond_true, Bool.or_eq_true] at this
    rcases this with (this | this) | this
    · have := Nat.le_of_ble_eq_true this; omega
    · exact absurd (List.mem_append_right _ (any_beq.1 this)) h2
    · exact absurd (List.mem_append_left _ (any_beq.1 this)) h2
theorem chkW_reg {N : Nat} {bs dels : List Nat} {regs : List (Nat × RK)} {T : Fp} (h : chkW N bs dels regs T.ws = true) {i : Nat} (hl : ¬ i < lim) (h1 : kpOf regs (rOf i) = false) : wt T i = false := by
  cases hx : wt T i with
  | false => rfl
  | true =>
    unfold wt at hx
    rw [Bool.and_eq_true] at hx
    obtain ⟨q, q1, q2⟩ := List.any_eq_true.1 hx.2
    obtain rfl := beq_eq q2
    have := List.all_eq_true.1 h _ q1
    rw [res_ge hl] at this
    unfold rgn at this
    rw [show Nat.beq ((2 * rOf i + 1) % 2) 0 = false by rw [show (2 * rOf i + 1) % 2 = 1 by omega]; rfl] at this
    simp only [cond_false] at this
    obtain ⟨p, p1, p2⟩ := List.any_eq_true.1 this
    have e : p.1 = rOf i := by have := beq_eq p2; unfold rgn at this; omega
    rw [show kpOf regs (rOf i) = true from List.any_eq_true.2 ⟨p, p1, by rw [e]; exact Nat.beq_refl _⟩] at h1
    cases h1
theorem pjV_ok {n : Nat} {F : Tr A} {good : Nat → A → Prop} (hg : ∀ i a t x, i < n → packK a t (slotA F.get i) = some x → good i (packA a t x)) : ∀ (l : List (Nat × Bool × Ty)) (x : Tup (l.map (·.2))), pjV n l F = some x → allV good l x
  | [], _, _ => trivial
  | p :: l, x, h => by
    unfold pjV at h
    obtain ⟨hn, h⟩ := cond_some h
    split at h
    · rename_i y z h1 h2
      cases h
      exact ⟨hg _ _ _ _ (blt_lt hn) h1, pjV_ok hg l z h2⟩
    · cases h
/-- A row's name. -/
def RowN (t : Ty) (tt : Tr MOb) (l : List t.T) : Option Nat → Prop
  | some o => o < lim ∧ tOb tt o = some (.cells (l.flatMap (encA t)))
  | none => l = []
def SlotN (z : Nat) (a : A) : Option Nat → Prop
  | some o => a = .tw (.loc o) z
  | none => ∀ g v, V g a v → ∃ ad, v = .slice ad 0 0
theorem rowR_ok {t : Ty} {tt : Tr MOb} {a : A} {l : List t.T} {nm : Option Nat} (h : rowR t tt a = some (l, nm)) : RowN t tt l nm ∧ SlotN t.size a nm := by
  unfold rowR at h
  split at h
  · rename_i o z
    split at h
    · rename_i t' l' h1
      obtain ⟨h2, h⟩ := cond_some h
      rw [Bool.and_eq_true] at h2
      split at h
      · rename_i l1 hl1
        obtain ⟨e, e2⟩ := castT_eq hl1
        cases e
        cases e2
        simp only [Option.some.injEq, Prod.mk.injEq] at h
        obtain ⟨rfl, rfl⟩ := h
        refine ⟨⟨blt_lt h2.2, ?_⟩, by rw [beq_eq h2.1]; rfl⟩
        unfold tOb
        rw [h1]; rfl
      · cases h
    · cases h
  · simp only [Option.some.injEq, Prod.mk.injEq] at h
    obtain ⟨rfl, rfl⟩ := h
    exact ⟨rfl, fun g v hv => by cases hv; exact ⟨_, rfl⟩⟩
  · simp only [Option.some.injEq, Prod.mk.injEq] at h
    obtain ⟨rfl, rfl⟩ := h
    exact ⟨rfl, fun g v hv => by cases hv; exact ⟨_, rfl⟩⟩
  · cases h
theorem pjG_ok {n : Nat} {F : Tr A} {tt : Tr MOb} : ∀ (l : List (Nat × Ty)) (x : Tup (l.map fun p => (false, Ty.slc p.2))) (names : List (Option Nat)), pjG n l F tt = some (x, names) → names.length = l.length ∧
    ∀ (good : Nat → A → Prop) (goodO : Nat → Option Ob → Prop) (j : Nat),
      (∀ (k : Nat) (nm : Option Nat) (i z : Nat), names[k]? = some nm → i < n → SlotN z (slotA F.get i) nm → good i (.tw (.loc (j + k)) z)) →
      (∀ (k : Nat) (nm : Option Nat) (t : Ty) (l : List t.T), names[k]? = some nm → RowN t tt l nm → goodO (j + k) (some (.cells (l.flatMap (encA t))))) → allW good l j ∧ allG goodO l j x
  | [], x, names, h => by
    simp only [pjG, Option.some.injEq, Prod.mk.injEq] at h
    obtain ⟨_, rfl⟩ := h
    exact ⟨rfl, fun _ _ _ _ _ => ⟨trivial, trivial⟩⟩
  | p :: l, x, names, h => by
    unfold pjG at h
    obtain ⟨hn, h⟩ := cond_some h
    split at h
    · rename_i y z h1 h2
      simp only [Option.some.injEq, Prod.mk.injEq] at h
      obtain ⟨rfl, rfl⟩ := h
      obtain ⟨q1, q2⟩ := pjG_ok l z.1 z.2 h2
      obtain ⟨r1, r2⟩ := rowR_ok (l := y.1) (nm := y.2) h1
      refine ⟨by simp [q1], fun good goodO j k1 k2 => ?_⟩
      obtain ⟨u1, u2⟩ := q2 good goodO (j + 1) (fun k nm i z e => by have := k1 (k + 1) nm i z (by simpa using e); rwa [show j + (k + 1) = j + 1 + k by omega] at this) (fun k nm t l e => by have := k2 (k + 1) nm t l (by simpa using e); rwa [show j + (k + 1) = j + 1 + k by omega] at this)
      exact ⟨⟨k1 0 y.2 p.1 p.2.size rfl (blt_lt hn) r2, u1⟩, ⟨k2 0 y.2 p.2 y.1 rfl r1, u2⟩⟩
    · cases h
theorem rowlim {n : Nat} {F : Tr A} {tt : Tr MOb} : ∀ {l : List (Nat × Ty)} {x : Tup (l.map fun p => (false, Ty.slc p.2))} {names : List (Option Nat)}, pjG n l F tt = some (x, names) → ∀ (k o : Nat), names[k]? = some (some o) → o < lim
  | [], x, names, h, k, o, e => by
    simp only [pjG, Option.some.injEq, Prod.mk.injEq] at h
    obtain ⟨_, rfl⟩ := h
    simp at e
  | p :: l, x, names, h, k, o, e => by
    unfold pjG at h
    obtain ⟨hn, h⟩ := cond_some h
    split at h
    · rename_i y z h1 h2
      simp only [Option.some.injEq, Prod.mk.injEq] at h
      obtain ⟨rfl, rfl⟩ := h
      cases k with
      | zero =>
        have e : y.2 = some o := by simpa using e
        have := (rowR_ok (l := y.1) (nm := y.2) h1).1
        rw [e] at this
        exact this.1
      | succ k => exact rowlim (x := z.1) (names := z.2) h2 k o (by simpa using e)
    · cases h
theorem pjB_ok {tt : Tr MOb} {good : Nat → Option Ob → Prop} : ∀ (l : List ((Nat × Option Nat) × Ty)) (bs : List Nat) (x : Tup (l.map fun p => (false, p.2))), (∀ b t (y : t.T), b ∈ bs → tOb tt b = some (.cells (encA t y)) → good b (some (.cells (encA t y)))) → pjB l bs tt = some x → allB good l bs x
  | [], _, _, _, _ => trivial
  | p :: l, b :: bs, x, hg, h => by
    unfold pjB at h
    split at h
    · rename_i t' y h1
      split at h
      · rename_i y' z h2 h3
        cases h
        obtain ⟨e, e2⟩ := castT_eq h2
        obtain ⟨p1, p2⟩ := p
        simp only at e
        subst e
        cases e2
        exact ⟨hg b t' y (.head _) (by unfold tOb; rw [h1]; rfl), pjB_ok l bs z (fun b t y hb => hg b t y (.tail _ hb)) h3⟩
      · cases h
    · cases h
  | _ :: _, [], _, _, h => by cases h
theorem Vs.uncons {g : G} {c : A} {cs : List A} {vs : List Value} (h : Vs g (c :: cs) vs) : ∃ v us, vs = v :: us ∧ V g c v ∧ v.oneCell' = true ∧ Vs g cs us := by
  match vs, h with
  | [], h => exact absurd h.1 (by simp)
  | v :: us, h =>
    have h0 := h.2 0 c v rfl rfl
    exact ⟨v, us, rfl, h0.1, h0.2, by simpa using h.1, fun j c x e1 e2 => h.2 (j + 1) c x (by simpa using e1) (by simpa using e2)⟩
theorem pjR_ok {tt : Tr MOb} : ∀ (ks : List (Bool × Ty)) (cs : List A) (x : Tup (cbT ks)) (names : List (Option Nat)), pjR ks cs tt = some (x, names) → names.length = nrow ks ∧ (∀ (k o : Nat), names[k]? = some (some o) → o < lim) ∧ ∀ j, (cbA ks x j).length = cs.length ∧
    (∀ (goodO : Nat → Option Ob → Prop), (∀ (k : Nat) (nm : Option Nat) (t : Ty) (l : List t.T), names[k]? = some nm → RowN t tt l nm → goodO (j + k) (some (.cells (l.flatMap (encA t))))) → allR goodO ks x j) ∧
    ∀ (N : Nat) (g g' : G), Gsub N g g' → (∀ (k : Nat) (nm : Option Nat) (z : Nat) (c : A), names[k]? = some nm → SlotN z c nm → ∀ v, V g c v → V g' (.tw (.loc (j + k)) z) v) → ∀ vs, Vs g cs vs → Vs g' (cbA ks x j) vs
  | [], [], x, names, h => by
    simp only [pjR, Option.some.injEq, Prod.mk.injEq] at h
    obtain ⟨_, rfl⟩ := h
    exact ⟨rfl, fun k o e => by simp at e, fun j => ⟨rfl, fun _ _ => trivial, fun N g g' _ _ vs hv => ⟨hv.1, fun j c x e => by simp [cbA] at e⟩⟩⟩
  | (true, u) :: l, c :: cs, x, names, h => by
    unfold pjR at h
    split at h
    · rename_i y z h1 h2
      simp only [Option.some.injEq, Prod.mk.injEq] at h
      obtain ⟨rfl, rfl⟩ := h
      obtain ⟨q1, q1', q2⟩ := pjR_ok l cs z.1 z.2 h2
      obtain ⟨r1, r2⟩ := rowR_ok (l := y.1) (nm := y.2) h1
      refine ⟨by simp [q1, nrow], fun k o e => ?_, fun j => ?_⟩
      · cases k with
        | zero =>
          have e : y.2 = some o := by simpa using e
          rw [e] at r1
          exact r1.1
        | succ k => exact q1' k o (by simpa using e)
      · obtain ⟨u1, u2, u3⟩ := q2 (j + 1)
        refine ⟨congrArg Nat.succ u1, fun goodO k2 => ⟨k2 0 y.2 u y.1 rfl r1, u2 goodO (fun k nm t l e => by have := k2 (k + 1) nm t l (by simpa using e); rwa [show j + (k + 1) = j + 1 + k by omega] at this)⟩, fun N g g' hs hk vs hv => ?_⟩
        obtain ⟨v, us, rfl, v1, v2, v3⟩ := hv.uncons
        exact .cons (hk 0 y.2 u.size c rfl r2 v v1) v2 (u3 N g g' hs (fun k nm z c e => by have := hk (k + 1) nm z c (by simpa using e); rwa [show j + (k + 1) = j + 1 + k by omega] at this) us v3)
    · cases h
  | (false, u) :: l, c :: cs, x, names, h => by
    unfold pjR at h
    split at h
    · rename_i y z h1 h2
      simp only [Option.some.injEq, Prod.mk.injEq] at h
      obtain ⟨rfl, rfl⟩ := h
      obtain ⟨q1, q1', q2⟩ := pjR_ok l cs z.1 z.2 h2
      refine ⟨by simp [q1, nrow], q1', fun j => ?_⟩
      obtain ⟨u1, u2, u3⟩ := q2 j
      refine ⟨congrArg Nat.succ u1, u2, fun N g g' hs hk vs hv => ?_⟩
      obtain ⟨v, us, rfl, v1, v2, v3⟩ := hv.uncons
      exact .cons (packA_VP false u y g g' v hs (packK_ok h1 v1)) v2 (u3 N g g' hs hk us v3)
    · cases h
  | [], _ :: _, _, _, h => by cases h
  | (true, _) :: _, [], _, _, h => by cases h
  | (false, _) :: _, [], _, _, h => by cases h
theorem pjCb_ok {tt : Tr MOb} : ∀ (l : List ((Nat × Option Nat) × List (Bool × Ty))) (bs : List Nat) (x : CB l) (names : List (Option Nat)), pjCb l bs tt = some (x, names) → names.length = nrows l ∧ (∀ (k o : Nat), names[k]? = some (some o) → o < lim) ∧
    ∀ (N : Nat) (g g' : G) (j : Nat) (good : Nat → Option Ob → Prop), Gsub N g g' →
      (∀ (k : Nat) (nm : Option Nat) (z : Nat) (c : A), names[k]? = some nm → SlotN z c nm → ∀ v, V g c v → V g' (.tw (.loc (j + k)) z) v) →
      (∀ (k : Nat) (nm : Option Nat) (t : Ty) (l : List t.T), names[k]? = some nm → RowN t tt l nm → good (j + k) (some (.cells (l.flatMap (encA t))))) →
      (∀ b cs cs', b ∈ bs → tOb tt b = some (.cells cs) → cs'.length = cs.length → (∀ vs, Vs g cs vs → Vs g' cs' vs) → good b (some (.cells cs'))) → allC good l bs j x
  | [], _, x, names, h => by
    simp only [pjCb, Option.some.injEq, Prod.mk.injEq] at h
    obtain ⟨_, rfl⟩ := h
    exact ⟨rfl, fun k o e => by simp at e, fun _ _ _ _ _ _ _ _ _ => trivial⟩
  | p :: l, b :: bs, x, names, h => by
    unfold pjCb at h
    split at h
    · rename_i cs hcs
      split at h
      · rename_i y z h1 h2
        simp only [Option.some.injEq, Prod.mk.injEq] at h
        obtain ⟨rfl, rfl⟩ := h
        obtain ⟨q1, q1', q2⟩ := pjR_ok p.2 cs y.1 y.2 h1
        obtain ⟨r1, r1', r2⟩ := pjCb_ok l bs z.1 z.2 h2
        have ap : ∀ (k : Nat) (nm : Option Nat), y.2[k]? = some nm → (y.2 ++ z.2)[k]? = some nm := fun k nm e => by rw [List.getElem?_append_left (List.getElem?_eq_some_iff.1 e).1]; exact e
        have aq : ∀ (k : Nat) (nm : Option Nat), z.2[k]? = some nm → (y.2 ++ z.2)[nrow p.2 + k]? = some nm := fun k nm e => by rw [List.getElem?_append_right (by omega), q1, Nat.add_sub_cancel_left]; exact e
        refine ⟨by simp [q1, r1, nrows], fun k o e => ?_, fun N g g' j good hs hk hr hb => ?_⟩
        · by_cases hk : k < y.2.length
          · rw [List.getElem?_append_left hk] at e; exact q1' k o e
          · rw [List.getElem?_append_right (by omega)] at e; exact r1' _ o e
        · obtain ⟨u1, u2, u3⟩ := q2 j
          refine ⟨hb b cs _ (.head _) (by unfold tOb; rw [hcs]; rfl) u1 (u3 N g g' hs (fun k nm zz c e => hk k nm zz c (ap k nm e))), u2 good (fun k nm t l e => hr k nm t l (ap k nm e)), ?_⟩
          exact r2 N g g' (j + nrow p.2) good hs (fun k nm zz c e => by have := hk (nrow p.2 + k) nm zz c (aq k nm e); rwa [← Nat.add_assoc] at this) (fun k nm t l e => by have := hr (nrow p.2 + k) nm t l (aq k nm e); rwa [← Nat.add_assoc] at this) (fun b cs cs' hm => hb b cs cs' (.tail _ hm))
      · cases h
    · cases h
  | _ :: _, [], _, _, h => by cases h
theorem nmOk_ok {N : Nat} {dels : List Nat} : ∀ {names : List (Option Nat)}, nmOk N dels names = true → (∀ (k o : Nat), names[k]? = some (some o) → N ≤ o ∨ o ∈ dels) ∧ ∀ (k k' o : Nat), names[k]? = some (some o) → names[k']? = some (some o) → k = k'
  | [], _ => ⟨fun k o h => by simp at h, fun k k' o h => by simp at h⟩
  | none :: l, h => by
    obtain ⟨h1, h2⟩ := nmOk_ok (show nmOk N dels l = true from h)
    refine ⟨fun k o e => ?_, fun k k' o e e' => ?_⟩
    · cases k with
      | zero => cases e
      | succ k => exact h1 k o (by simpa using e)
    · cases k with
      | zero => cases e
      | succ k =>
        cases k' with
        | zero => cases e'
        | succ k' => rw [h2 k k' o (by simpa using e) (by simpa using e')]
  | some q :: l, h => by
    have h : ((Nat.ble N q || dels.any (Nat.beq q)) && !(l.any (nmFar q)) && nmOk N dels l) = true := h
    simp only [Bool.and_eq_true, Bool.or_eq_true, Bool.not_eq_true'] at h
    obtain ⟨⟨ha, hb⟩, hc⟩ := h
    obtain ⟨h1, h2⟩ := nmOk_ok hc
    have far : ∀ k, l[k]? = some (some q) → False := fun k e => by
      have : l.any (nmFar q) = true := List.any_eq_true.2 ⟨some q, List.mem_of_getElem? e, Nat.beq_refl q⟩
      rw [hb] at this; cases this
    refine ⟨fun k o e => ?_, fun k k' o e e' => ?_⟩
    · cases k with
      | zero =>
        simp only [List.getElem?_cons_zero, Option.some.injEq] at e
        subst e
        exact ha.imp Nat.le_of_ble_eq_true any_beq.1
      | succ k => exact h1 k o (by simpa using e)
    · cases k with
      | zero =>
        simp only [List.getElem?_cons_zero, Option.some.injEq] at e
        subst e
        cases k' with
        | zero => rfl
        | succ k' => exact (far k' (by simpa using e')).elim
      | succ k =>
        cases k' with
        | zero =>
          simp only [List.getElem?_cons_zero, Option.some.injEq] at e'
          subst e'
          exact (far k (by simpa using e)).elim
        | succ k' => rw [h2 k k' o (by simpa using e) (by simpa using e')]
structure EntOk (H : LH) (E : Ent) (ds : List Nat) (F : Tr A) (h : Go.Bm.H) : Prop where
  slot : ∀ i, VP h.nid (slotA F.get i)
  mem : ∀ i x, tOb h.t i = some x → obP h.nid x
  top : h.nid + H.m ≤ lim
  bsl : ∀ b ∈ E.bs ++ E.cs, b < h.nid
  del : ∀ b ∈ E.dels, b < h.nid
  dsl : ∀ b ∈ ds, b < h.nid
  apart : ∀ b ∈ E.bs ++ E.cs, b ∉ E.dels
  loop : ∀ q ∈ E.qs, rdyQ h.t q = true ∧ q ∉ E.dels ++ (E.bs ++ E.cs)
  regs : ∀ r, kpOf H.regs r = true → ∃ x, rfind h.rg r = some x
theorem entOk_ok {H : LH} {E : Ent} {ds : List Nat} {F : Tr A} {h : Go.Bm.H} (k : entOk H E ds F h = true) : EntOk H E ds F h := by
  unfold entOk at k
  rw [Bool.and_eq_true, Bool.and_eq_true, Bool.and_eq_true, Bool.and_eq_true, Bool.and_eq_true, Bool.and_eq_true, Bool.and_eq_true, Bool.and_eq_true] at k
  obtain ⟨⟨⟨⟨⟨⟨⟨⟨k1, k2⟩, k3⟩, k4⟩, k5⟩, k6⟩, k7⟩, k9⟩, k8⟩ := k
  rw [List.all_eq_true] at k4 k5 k6 k7 k8 k9
  refine ⟨slotA_VP k1, fun i x e => ?_, Nat.le_of_ble_eq_true k3, fun b hb => blt_lt (k4 b hb), fun b hb => blt_lt (k5 b hb), fun b hb => blt_lt (k6 b hb), fun b hb hd => ?_, fun q hq => ?_, fun r hr => ?_⟩
  · unfold tOb at e
    split at e
    · rename_i m hm
      cases e
      exact okMOb_P (trAll_get k2 i m hm)
    · cases e
  · have := k7 b hb
    rw [any_beq.2 hd] at this; cases this
  · have := k9 q hq
    rw [Bool.and_eq_true] at this
    refine ⟨this.1, fun hm => ?_⟩
    have h2 := this.2
    rw [any_beq.2 hm] at h2; cases h2
  · obtain ⟨p, p1, p2⟩ := List.any_eq_true.1 hr
    have := k8 p p1
    rw [beq_eq p2] at this
    exact Option.isSome_iff_exists.1 this
theorem rdyQ_ob {t : Tr MOb} {q : Nat} (h : rdyQ t q = true) : tOb t q = some (.oth (.loop .ready none)) := by
  unfold rdyQ at h
  split at h
  · rename_i hq; unfold tOb; rw [hq]; rfl
  · cases h
section
variable {H : LH} {asg ds0 : List Nat} {E : Ent} {Fe : Tr A} {he : Go.Bm.H} {s : H.S} {Fc : Tr A} {hc : Go.Bm.H}
/-- What is put in lies in boxes, and in new rows. -/
theorem allB_of {good : Nat → Option Ob → Prop} : ∀ (l : List ((Nat × Option Nat) × Ty)) (bs : List Nat) (x : Tup (l.map fun p => (false, p.2))), (∀ b ∈ bs, ∀ ob, good b ob) → allB good l bs x
  | [], _, _, _ => trivial
  | _ :: _, [], _, _ => trivial
  | p :: l, b :: bs, x, h => ⟨h b (.head _) _, allB_of l bs x.2 (fun b hb => h b (.tail _ hb))⟩
theorem allG_of {good : Nat → Option Ob → Prop} {m : Nat} : ∀ (l : List (Nat × Ty)) (j : Nat) (x : Tup (l.map fun p => (false, Ty.slc p.2))), j + l.length ≤ m → (∀ i, j ≤ i → i < m → ∀ ob, good i ob) → allG good l j x
  | [], _, _, _, _ => trivial
  | p :: l, j, x, hm, h => by
    have hm : j + (l.length + 1) ≤ m := hm
    exact ⟨h j (Nat.le_refl _) (by omega) _, allG_of l (j + 1) x.2 (by omega) (fun i h1 h2 => h i (by omega) h2)⟩
theorem allR_of {good : Nat → Option Ob → Prop} {m : Nat} : ∀ (ks : List (Bool × Ty)) (x : Tup (cbT ks)) (j : Nat), j + nrow ks ≤ m → (∀ i, j ≤ i → i < m → ∀ ob, good i ob) → allR good ks x j
  | [], _, _, _, _ => trivial
  | (true, _) :: l, x, j, hm, h => by
    have hm : j + (nrow l + 1) ≤ m := hm
    exact ⟨h j (Nat.le_refl _) (by omega) _, allR_of l x.2 (j + 1) (by omega) (fun i h1 h2 => h i (by omega) h2)⟩
  | (false, _) :: l, x, j, hm, h => allR_of l x.2 j hm h
theorem allC_of {good : Nat → Option Ob → Prop} {m : Nat} : ∀ (l : List ((Nat × Option Nat) × List (Bool × Ty))) (bs : List Nat) (j : Nat) (x : CB l), j + nrows l ≤ m → (∀ b ∈ bs, ∀ ob, good b ob) → (∀ i, j ≤ i → i < m → ∀ ob, good i ob) → allC good l bs j x
  | [], _, _, _, _, _, _ => trivial
  | _ :: _, [], _, _, _, _, _ => trivial
  | p :: l, b :: bs, j, x, hm, hb, h => by
    have hm : j + (nrow p.2 + nrows l) ≤ m := hm
    exact ⟨hb b (.head _) _, allR_of p.2 x.1 j (by omega) h, allC_of l bs _ x.2 (by omega) (fun b hb' => hb b (.tail _ hb')) (fun i h1 h2 => h i (by omega) h2)⟩
/-- What the state where all meet has of the first one. -/
theorem inj_same (EO : EntOk H E ds0 Fe he) (J : InjOk H asg E Fe he s Fc hc) : (∀ i, i < he.nid → i ∉ E.dels ++ (E.bs ++ E.cs) → (hp hc).ob i = (hp he).ob i) ∧
    (∀ i, ¬ i < lim → kpOf H.regs (rOf i) = false → (hp hc).ob i = (hp he).ob i ∧ ((hp hc).fr i ↔ (hp he).fr i)) ∧
    ∀ i, wt (jT H he.nid E) i = false → (hp hc).ob i = (hp he).ob i ∧ ((hp hc).fr i ↔ (hp he).fr i) := by
  have Elim := EO.top
  have hm : H.m = H.grow.length + nrows H.cbox := rfl
  have hgood : ∀ i, i ∉ E.dels ++ (E.bs ++ E.cs) → (∀ k, k < H.m → i ≠ he.nid + k) → tOb hc.t i = tOb he.t i := fun i h1 h2 => by
    have bsn : ∀ b ∈ E.bs ++ E.cs, ∀ ob, b ∉ E.dels ++ (E.bs ++ E.cs) → (∀ k, k < H.m → b ≠ he.nid + k) → ob = tOb he.t b := fun b hb ob hn => absurd (List.mem_append_right _ hb) hn
    have rown : ∀ i, he.nid ≤ i → i < he.nid + H.m → ∀ ob, i ∉ E.dels ++ (E.bs ++ E.cs) → (∀ k, k < H.m → i ≠ he.nid + k) → ob = tOb he.t i := fun i q1 q2 ob _ hn => absurd (show i = he.nid + (i - he.nid) by omega) (hn (i - he.nid) (by omega))
    exact J.t (fun i ob => i ∉ E.dels ++ (E.bs ++ E.cs) → (∀ k, k < H.m → i ≠ he.nid + k) → ob = tOb he.t i) (fun i hi hn => absurd hi hn) (fun i _ _ _ => rfl)
      (allB_of _ _ _ (fun b hb => bsn b (List.mem_append_left _ hb))) (allC_of (m := he.nid + H.m) _ _ _ _ (by omega) (fun b hb => bsn b (List.mem_append_right _ hb)) (fun i q1 q2 => rown i (by omega) q2)) (allG_of (m := he.nid + H.m) _ _ _ (by omega) rown) i h1 h2
  have reg : ∀ i, ¬ i < lim → kpOf H.regs (rOf i) = false → (hp hc).ob i = (hp he).ob i ∧ ((hp hc).fr i ↔ (hp he).fr i) := fun i hl hk => by
    rw [(hp_ge hl).1, (hp_ge hl).2, (hp_ge hl).1, (hp_ge hl).2]
    unfold regAt regFr
    rw [J.rg, putRs_find _ _ _ EO.regs, hk, if_neg (by simp)]
    exact ⟨rfl, Iff.rfl⟩
  refine ⟨fun i h1 h2 => ?_, reg, fun i hw => ?_⟩
  · have hl : i < lim := by omega
    show (if i < lim then tOb hc.t i else _) = (if i < lim then tOb he.t i else _)
    rw [if_pos hl, if_pos hl]
    exact hgood i h2 (fun k _ => by omega)
  · have hw : (((E.bs ++ E.cs).map rlo ++ E.dels.map rlo) ++ ((List.range H.m).map (fun k => rlo (he.nid + k)) ++ H.regs.map fun p => rgn p.1)).any (Nat.beq (res i)) = false := hw
    rw [List.any_append, List.any_append, List.any_append] at hw
    simp only [Bool.or_eq_false_iff] at hw
    obtain ⟨⟨w1, w2⟩, w3, w4⟩ := hw
    by_cases hl : i < lim
    · have nin : ∀ l : List Nat, (l.map rlo).any (Nat.beq (res i)) = false → i ∉ l := fun l h hm => by
        rw [any_beq.2 (by rw [res_loc hl]; exact List.mem_map.2 ⟨i, hm, rfl⟩)] at h; cases h
      have n3 : ∀ k, k < H.m → i ≠ he.nid + k := fun k hk e => by
        rw [any_beq.2 (by rw [res_loc hl, e]; exact List.mem_map.2 ⟨k, List.mem_range.2 hk, rfl⟩)] at w3; cases w3
      refine ⟨?_, ?_⟩
      · show (if i < lim then tOb hc.t i else _) = (if i < lim then tOb he.t i else _)
        rw [if_pos hl, if_pos hl]
        exact hgood i (fun h => (List.mem_append.1 h).elim (nin _ w2) (nin _ w1)) n3
      · show (if i < lim then hc.nid ≤ i else _) ↔ (if i < lim then he.nid ≤ i else _)
        rw [if_pos hl, if_pos hl, J.nid]
        refine ⟨fun h => by omega, fun h => ?_⟩
        rcases Nat.lt_or_ge i (he.nid + H.m) with h1 | h1
        · exact absurd (show i = he.nid + (i - he.nid) by omega) (n3 (i - he.nid) (by omega))
        · exact h1
    · refine reg i hl ?_
      rw [res_ge hl, any_rgn] at w4
      exact w4
/-- From any state to where all meet. -/
theorem rj_ok {n : Nat} {F' : Tr A} {h' : Go.Bm.H} {ds' : List Nat} {T : Fp} (EO : EntOk H E ds0 Fe he) (hemp : ∀ i, he.nid ≤ i → i < lim → tOb he.t i = none) (hlive : ∀ i, i ∉ asg → slotA F'.get i = slotA Fe.get i)
    (hsame : ∀ i, i < he.nid → i ∉ E.dels ++ (E.bs ++ E.cs ++ E.qs) → (hp h').ob i = (hp he).ob i) (hreg : ∀ i, ¬ i < lim → kpOf H.regs (rOf i) = false → (hp h').ob i = (hp he).ob i ∧ ((hp h').fr i ↔ (hp he).fr i))
    (hpj : pjC H n he.nid E.bs E.cs E.qs E.dels ds0 F' h' ds' T = some s) (J : InjOk H asg E Fe he s Fc hc) {S0 : Hp} {g0 : G} {w0 w : World} {a : Act} (hf : ∀ o, he.nid ≤ o → o < lim → S0.fr o ∧ g0.at' o = none)
    (hR : R S0 g0 w0 (stF n F' ds' (hp h')) a w) : R S0 g0 w0 (stF n Fc ds0 (hp hc)) a w := by
  have Elim := EO.top
  have hm : H.m = H.grow.length + nrows H.cbox := rfl
  unfold pjC at hpj
  obtain ⟨hck, hpj1⟩ := cond_some hpj
  clear hpj
  rw [Bool.and_eq_true, Bool.and_eq_true] at hck
  obtain ⟨⟨_, hds⟩, hqs⟩ := hck
  rw [List.all_eq_true] at hqs
  obtain rfl := eqL_eq hds
  split at hpj1
  · rename_i v gg b ee c hv hg hb hee hc'
    obtain ⟨hnm, hpj2⟩ := cond_some hpj1
    clear hpj1
    cases hpj2
    obtain ⟨gr, nG⟩ := gg
    obtain ⟨er, nC⟩ := ee
    obtain ⟨n1, n2⟩ := nmOk_ok hnm
    obtain ⟨p1, p2⟩ := pjG_ok _ _ _ hg
    obtain ⟨c1, c2, c3⟩ := pjCb_ok _ _ _ _ hee
    obtain ⟨g, hI, hE, hD, hs, hV⟩ := hR
    have hV : ∀ i, i < n → V g (slotA F'.get i) (a.tmps.getD i undef) := hV
    have hnl : (nG ++ nC).length = H.m := by rw [List.length_append, p1, c1]; exact hm.symm
    have nmlim : ∀ (k o : Nat), (nG ++ nC)[k]? = some (some o) → o < lim := fun k o e => by
      by_cases hk : k < nG.length
      · rw [List.getElem?_append_left hk] at e; exact rowlim hg k o e
      · rw [List.getElem?_append_right (by omega)] at e; exact c2 _ o e
    have gap : ∀ (k : Nat) (nm : Option Nat), nG[k]? = some nm → (nG ++ nC)[k]? = some nm := fun k nm e => by rw [List.getElem?_append_left (List.getElem?_eq_some_iff.1 e).1]; exact e
    have cap : ∀ (k : Nat) (nm : Option Nat), nC[k]? = some nm → (nG ++ nC)[H.grow.length + k]? = some nm := fun k nm e => by rw [List.getElem?_append_right (by omega), p1, Nat.add_sub_cancel_left]; exact e
    have hnm1 : ∀ (k o : Nat), (nG ++ nC)[k]? = some (some o) → he.nid ≤ o ∨ o ∈ E.dels := n1
    have hnm2 : ∀ (k k' o : Nat), (nG ++ nC)[k]? = some (some o) → (nG ++ nC)[k']? = some (some o) → k = k' := n2
    generalize hnames : nG ++ nC = names at hnl nmlim gap cap hnm1 hnm2
    have hlN : he.nid + names.length ≤ lim := by rw [hnl]; exact Elim
    have hsub := gj_sub he.nid names g
    -- a row's new name
    have rowV : ∀ (k : Nat) (nm : Option Nat) (z : Nat) (cc : A), names[k]? = some nm → SlotN z cc nm → ∀ v, V g cc v → V (gj he.nid names g) (.tw (.loc (he.nid + k)) z) v := fun k nm z cc e hsn v hvi => by
      cases nm with
      | some o =>
        have hsn : cc = .tw (.loc o) z := hsn
        rw [hsn] at hvi
        have hat : (gj he.nid names g).at' (he.nid + k) = g.at' o := gj_at e hlN
        cases hvi with
        | tw0 _ _ ad h1 => exact .tw0 (.loc (he.nid + k)) z ad (hat.trans h1)
        | tw _ _ m b cap t h1 hn hx hp d hd => exact .tw (.loc (he.nid + k)) z m b cap t (hat.trans h1) hn hx hp d hd
      | none =>
        obtain ⟨ad, h1⟩ := hsn g _ hvi
        rw [h1]
        exact .tw0 (.loc (he.nid + k)) z ad (gj_at e hlN)
    -- what is told of a thing in memory
    have rowO : ∀ (k : Nat) (nm : Option Nat) (t : Ty) (l : List t.T), names[k]? = some nm → RowN t h'.t l nm → ∀ x, some (Ob.cells (l.flatMap (encA t))) = some x → (he.nid + k < he.nid → (((hp h').ob (he.nid + k) = some x ∧ obP he.nid x) ∨ ∃ cs cs', (hp h').ob (he.nid + k) = some (.cells cs) ∧ x = .cells cs' ∧ cs'.length = cs.length ∧ ∀ vs, Vs g cs vs → Vs (gj he.nid names g) cs' vs)) ∧
        (he.nid ≤ he.nid + k → he.nid + k < lim → ∃ k' nm, he.nid + k = he.nid + k' ∧ names[k']? = some nm ∧ (∀ o, nm = some o → (hp h').ob o = some x ∧ obP he.nid x) ∧ (nm = none → x = .cells [])) := fun k nm t l e hrn x hx => by
      cases hx
      refine ⟨fun hlt => by omega, fun _ hlt => ⟨k, nm, rfl, e, fun o ho => ?_, fun ho => ?_⟩⟩
      · subst ho
        have hrn : o < lim ∧ tOb h'.t o = some (.cells (l.flatMap (encA t))) := hrn
        refine ⟨?_, fun c hc => by obtain ⟨y, _, hy⟩ := List.mem_flatMap.1 hc; exact encA_VP t y c hy⟩
        show (if o < lim then _ else _) = _
        rw [if_pos hrn.1]; exact hrn.2
      · subst ho
        have hrn : l = [] := hrn
        subst hrn; rfl
    have hob : ∀ i, i < lim → (hp h').ob i = tOb h'.t i := fun i hi => if_pos hi
    have slots := p2 (fun i c => i < n → V (gj he.nid names g) c (a.tmps.getD i undef)) (fun i ob => ∀ x, ob = some x → (i < he.nid → (((hp h').ob i = some x ∧ obP he.nid x) ∨ ∃ cs cs', (hp h').ob i = some (.cells cs) ∧ x = .cells cs' ∧ cs'.length = cs.length ∧ ∀ vs, Vs g cs vs → Vs (gj he.nid names g) cs' vs)) ∧ (he.nid ≤ i → i < lim → ∃ k nm, i = he.nid + k ∧ names[k]? = some nm ∧ (∀ o, nm = some o → (hp h').ob o = some x ∧ obP he.nid x) ∧ (nm = none → x = .cells []))) he.nid
      (fun k nm i z e hi hsn _ => rowV k nm z _ (gap k nm e) hsn _ (hV i hi)) (fun k nm t l e hrn => rowO k nm t l (gap k nm e) hrn)
    have hF := J.F (fun i c => i < n → V (gj he.nid names g) c (a.tmps.getD i undef)) (fun i _ _ => .junk _)
      (fun i hi hn => by
        have := hV i hn
        rw [hlive i hi] at this
        exact EO.slot i g _ _ hsub this)
      (pjV_ok (fun i ag t x hi hx _ => packA_VP ag t x g _ _ hsub (packK_ok hx (hV i hi))) _ _ hv) slots.1
    have hT := J.t _ (fun i _ x hx => by cases hx)
      (fun i hi x hx => by
        refine ⟨fun hlt => .inl ?_, fun h1 h2 => by rw [hemp i h1 h2] at hx; cases hx⟩
        have he1 : (hp h').ob i = tOb he.t i := by
          by_cases hq : i ∈ E.qs
          · rw [hob i (by omega), rdyQ_ob (hqs i hq), rdyQ_ob (EO.loop i hq).1]
          · rw [hsame i hlt (fun h => by
              rcases List.mem_append.1 h with h | h
              · exact hi (List.mem_append_left _ h)
              · rcases List.mem_append.1 h with h | h
                · exact hi (List.mem_append_right _ h)
                · exact hq h)]
            exact if_pos (by omega)
        exact ⟨he1.trans hx, EO.mem i x hx⟩)
      (pjB_ok (tt := h'.t) _ _ _ (fun b t y hbm hbt x hx => by
        cases hx
        have hlt := EO.bsl b (List.mem_append_left _ hbm)
        exact ⟨fun _ => .inl ⟨by rw [hob b (by omega)]; exact hbt, encA_VP t y⟩, fun h => by omega⟩) hb)
      (c3 he.nid g (gj he.nid names g) (he.nid + H.grow.length) _ hsub (fun k nm z cc e hsn v hv => by have := rowV (H.grow.length + k) nm z cc (cap k nm e) hsn v hv; rwa [← Nat.add_assoc] at this) (fun k nm t l e hrn => by have := rowO (H.grow.length + k) nm t l (cap k nm e) hrn; rwa [← Nat.add_assoc] at this)
        (fun b cs cs' hbm hbt hl hcv x hx => by
          cases hx
          have hlt := EO.bsl b (List.mem_append_right _ hbm)
          exact ⟨fun _ => .inr ⟨cs, cs', by rw [hob b (by omega)]; exact hbt, rfl, hl, hcv⟩, fun h => by omega⟩)) slots.2
    have hDl : ∀ i, i ∈ E.dels → tOb hc.t i = none := fun i hi => by
      have rown : ∀ i, he.nid ≤ i → i < he.nid + H.m → ∀ ob : Option Ob, i ∈ E.dels → ob = none := fun i q1 _ ob hn => by have := EO.del _ hn; omega
      have bsn : ∀ b ∈ E.bs ++ E.cs, ∀ ob : Option Ob, b ∈ E.dels → ob = none := fun b hb ob hn => absurd hn (EO.apart b hb)
      exact J.t (fun i ob => i ∈ E.dels → ob = none) (fun _ _ _ => rfl) (fun i hn hd => absurd (List.mem_append_left _ hd) hn) (allB_of _ _ _ (fun b hb => bsn b (List.mem_append_left _ hb))) (allC_of (m := he.nid + H.m) _ _ _ _ (by omega) (fun b hb => bsn b (List.mem_append_right _ hb)) (fun i q1 q2 => rown i (by omega) q2)) (allG_of (m := he.nid + H.m) _ _ _ (by omega) rown) i hi
    have hfind := getR_find _ _ _ hc'
    have hRg : ∀ i, ¬ i < lim → (hp hc).ob i = (hp h').ob i ∧ ((hp hc).fr i ↔ (hp h').fr i) := fun i hl => by
      cases hk : kpOf H.regs (rOf i) with
      | true =>
        obtain ⟨q1, _⟩ := hfind _ hk
        rw [(hp_ge hl).1, (hp_ge hl).2, (hp_ge hl).1, (hp_ge hl).2]
        unfold regAt regFr
        rw [J.rg, putRs_find _ _ _ EO.regs, hk, if_pos rfl, q1]
        exact ⟨rfl, Iff.rfl⟩
      | false =>
        have e1 := (inj_same EO J).2.1 i hl hk
        have e2 := hreg i hl hk
        exact ⟨e1.1.trans e2.1.symm, e1.2.trans e2.2.symm⟩
    have hcob : ∀ i, i < lim → (hp hc).ob i = tOb hc.t i := fun i hi => if_pos hi
    have hstay : ∀ {i}, ¬ stay he.nid i → he.nid ≤ i ∧ i < lim := fun {i} h => by unfold stay at h; omega
    have hrj := rejoin (S' := hp hc) hlN (fun i x hi e => ?_) (fun i x hi e => ?_) hnm2 (fun k o e hi => ?_) (fun i e => ⟨fun hi => ?_, fun hi => ?_⟩) hf hI hE
    · refine ⟨_, hrj.1, hrj.2, ⟨hD.1, fun i d e e1 e2 => ?_⟩, hs, fun i hi => hF i hi⟩
      obtain ⟨b', s', q1, q2⟩ := hD.2 i d e e1 e2
      exact ⟨b', s', (hsub.at' d (.inl (EO.dsl d (List.mem_of_getElem? e1)))).trans q1, q2⟩
    · rcases hi with hi | hi
      · rw [hcob i (by omega)] at e
        exact (hT i x e).1 hi
      · refine .inl ⟨(hRg i hi).1.symm.trans e, ?_⟩
        rw [(hp_ge hi).1] at e
        unfold regAt at e
        split at e
        · exact regOb_VP e
        · cases e
    · obtain ⟨h1, h2⟩ := hstay hi
      rw [hcob i h2] at e
      exact (hT i x e).2 h1 h2
    · have hol := nmlim k o e
      rcases hnm1 k o e with h1 | h1
      · rcases hi with hi | hi
        · omega
        · exact absurd hol hi
      · rw [hcob o hol]; exact hDl o h1
    · obtain ⟨h1, h2⟩ := hstay hi
      have e : (if i < lim then hc.nid ≤ i else _) := e
      rw [if_pos h2, J.nid] at e
      rw [hnl]; exact e
    · rcases hi with hi | hi
      · have e : (if i < lim then hc.nid ≤ i else _) := e
        rw [if_pos (show i < lim by omega), J.nid] at e
        omega
      · exact (hRg i hi).2.1 e
  · cases hpj1
end
end
end Go.Bm
