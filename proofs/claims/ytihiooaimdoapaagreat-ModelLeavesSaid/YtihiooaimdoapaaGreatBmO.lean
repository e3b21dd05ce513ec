/- Places in typed things, read and written. -/
import Derived.Test.YtihiooaimdoapaaGreatBmN
set_option linter.unusedVariables false
set_option linter.unusedSimpArgs false
namespace Go.Bm
noncomputable section
open Go.RowKit

theorem set_ob {S : Hp} {i : Nat} {x : Ob} : (S.set i x).ob i = some x := if_pos rfl
theorem lt15 {o : Nat} (h : o < 16777215) : o < 16777216 := by omega
theorem blt_lt {a b : Nat} (h : Nat.blt a b = true) : a < b := Nat.le_of_ble_eq_true h
theorem upd_len {α : Type} (l : List α) (i : Nat) (x : α) : (upd l i x).length = l.length := List.length_set
theorem regOb_updR {t : Ty} {c : List (Option (List t.T))} {j : Nat} {l : List t.T} (hj : j < c.length) (i : Nat) : regOb (.row t) (upd c j (some l)) i = if i = j then some (.cells (l.flatMap (encA t))) else regOb (.row t) c i := by
  show (match gtA (upd c j (some l)) i with | some (some l) => some (Ob.cells (l.flatMap (encA t))) | _ => none) = if i = j then some (Ob.cells (l.flatMap (encA t))) else (match gtA c i with | some (some l) => some (Ob.cells (l.flatMap (encA t))) | _ => none)
  rw [gtA_upd]
  by_cases h : i = j
  · rw [if_pos ⟨h, hj⟩, if_pos h]
  · rw [if_neg (fun k => h k.1), if_neg h]
theorem regOb_updB {t : Ty} {c : List t.T} {j : Nat} {x : t.T} (hj : j < c.length) (i : Nat) : regOb (.box t) (upd c j x) i = if i = j then some (.cells (encA t x)) else regOb (.box t) c i := by
  show (match gtA (upd c j x) i with | some x => some (Ob.cells (encA t x)) | none => none) = if i = j then some (Ob.cells (encA t x)) else (match gtA c i with | some x => some (Ob.cells (encA t x)) | none => none)
  rw [gtA_upd]
  by_cases h : i = j
  · rw [if_pos ⟨h, hj⟩, if_pos h]
  · rw [if_neg (fun k => h k.1), if_neg h]
def rs1 : Ref → Nat
  | .loc o => rlo o
  | .reg r _ => rgn r
/-- Its name may be. -/
def okR : Ref → Bool
  | .loc o => Nat.blt o 16777216
  | .reg r _ => Nat.blt r 64
theorem touch_ref {X : Ref} (h : okR X = true) {l : List Nat} {w : Bool} {s : List Nat} (hm : rs1 X ∈ l) : touch ⟨false, l, w, s⟩ X.id = true := by
  cases X with
  | loc o => exact touch_loc (o := o) (blt_lt h) hm
  | reg r j => exact touch_reg (r := r) (j := j) (blt_lt h) hm
/-- A row. -/
def rowK {β : Type} (h : H) (X : Ref) (k : (t : Ty) → List t.T → Option β) : Option β := match X with
  | .loc o => match h.t.get o with
    | some (.row t l) => bif Nat.blt o 16777216 then k t l else none
    | _ => none
  | .reg r j => match rfind h.rg r with
    | some ⟨_, .row t, c⟩ => bif Nat.blt r 64 then bd (rwA (α := t.T) c j) (fun l => k t l) else none
    | _ => none
theorem rowAt_some {α : Type} {c : List (Option (List α))} {j : Nat} {l : List α} (h : rwA c j = some l) : gtA c j = some (some l) := by
  unfold rwA at h
  unfold gtA
  rw [List.getD_eq_getElem?_getD] at h
  cases hc : c[j]? with
  | none => rw [hc] at h; cases h
  | some x => rw [hc] at h; simp at h; rw [h]
theorem gtA_lt {α : Type} {c : List α} {j : Nat} {x : α} (h : gtA c j = some x) : j < c.length := (List.getElem?_eq_some_iff.1 h).1
theorem regOb_row {t : Ty} {c : List (Option (List t.T))} {j : Nat} {l : List t.T} (h : gtA c j = some (some l)) : regOb (.row t) c j = some (.cells (l.flatMap (encA t))) := by
  show (match gtA c j with | some (some l) => some (Ob.cells (l.flatMap (encA t))) | _ => none) = _
  rw [h]
theorem rowK_ok {β : Type} {h : H} {X : Ref} {k : (t : Ty) → List t.T → Option β} {r : β} (hr : rowK h X k = some r) : ∃ t l, k t l = some r ∧ okR X = true ∧ (hp h).ob X.id = some (.cells (l.flatMap (encA t))) := by
  cases X with
  | loc o =>
    unfold rowK at hr
    simp only at hr
    split at hr
    · rename_i t l hg
      obtain ⟨h1, h2⟩ := cond_some hr
      exact ⟨t, l, h2, h1, ob_row (blt_lt h1) hg⟩
    · cases hr
  | reg r j =>
    unfold rowK at hr
    simp only at hr
    split at hr
    · rename_i _ t c hf
      obtain ⟨h1, h2⟩ := cond_some hr
      obtain ⟨l, h3, h4⟩ := bd_inv h2
      refine ⟨t, l, h4, h1, ?_⟩
      show (hp h).ob (rid r j) = _
      rw [hp_reg.1, regAt_eq (blt_lt h1) hf]
      exact regOb_row (rowAt_some h3)
    · cases hr
/-- A box. -/
def boxK {β : Type} (h : H) (X : Ref) (k : (t : Ty) → t.T → Option β) : Option β := match X with
  | .loc o => match h.t.get o with
    | some (.one t x) => bif Nat.blt o 16777216 then k t x else none
    | _ => none
  | .reg r j => match rfind h.rg r with
    | some ⟨_, .box t, c⟩ => bif Nat.blt r 64 then k t (nth (α := t.T) t.dflt c j) else none
    | _ => none
theorem regOb_box {t : Ty} {c : List t.T} {j : Nat} (h : j < c.length) : regOb (.box t) c j = some (.cells (encA t (nth t.dflt c j))) := by
  show (match gtA c j with | some x => some (Ob.cells (encA t x)) | none => none) = _
  have e : gtA c j = some (nth t.dflt c j) := by simp [gtA, nth, List.getD_eq_getElem?_getD, List.getElem?_eq_getElem h]
  rw [e]
theorem boxK_ok {β : Type} {h : H} {X : Ref} {k : (t : Ty) → t.T → Option β} {r : β} (hr : boxK h X k = some r) : ∃ t x, k t x = some r ∧ okR X = true ∧ ∀ g S w b s, Inv g S w → S.ob X.id = (hp h).ob X.id → (S.fr X.id ↔ (hp h).fr X.id) → g.at' X.id = some (some b, s) → S.ob X.id = some (.cells (encA t x)) := by
  cases X with
  | loc o =>
    unfold boxK at hr
    simp only at hr
    split at hr
    · rename_i t x hg
      obtain ⟨h1, h2⟩ := cond_some hr
      refine ⟨t, x, h2, h1, fun g S w b s _ e _ _ => ?_⟩
      rw [e]
      show (hp h).ob o = _
      rw [hp_loc (blt_lt h1)]; unfold tOb; rw [hg]; rfl
    · cases hr
  | reg r j =>
    unfold boxK at hr
    simp only at hr
    split at hr
    · rename_i _ t c hf
      obtain ⟨h1, h2⟩ := cond_some hr
      have h3 : r < 64 := blt_lt h1
      refine ⟨t, _, h2, h1, fun g S w b s hI e e2 hg => ?_⟩
      have hlt : j < List.length (α := t.T) c := by
        rcases Nat.lt_or_ge j (List.length (α := t.T) c) with hlt | hge
        · exact hlt
        · have : S.fr (rid r j) := e2.2 (by rw [show (Ref.reg r j).id = rid r j from rfl, hp_reg.2, regFr_eq h3 hf]; exact hge)
          have := hI.fresh _ this
          rw [show (Ref.reg r j).id = rid r j from rfl, this] at hg; cases hg
      rw [e]
      show (hp h).ob (rid r j) = _
      rw [hp_reg.1, regAt_eq h3 hf]
      exact regOb_box hlt
    · cases hr
/-- A row's element, in its row. -/
theorem flatA_split (t : Ty) (l : List t.T) {i : Nat} (hi : i < l.length) : l.flatMap (encA t) = (l.take i).flatMap (encA t) ++ (encA t (nth t.dflt l i) ++ (l.drop (i + 1)).flatMap (encA t)) ∧ ((l.take i).flatMap (encA t)).length = i * t.size := by
  refine ⟨?_, by rw [flatA_len, List.length_take, Nat.min_eq_left (Nat.le_of_lt hi)]⟩
  have e : l = l.take i ++ nth t.dflt l i :: l.drop (i + 1) := by
    rw [show nth t.dflt l i = l[i] by simp [nth, List.getD_eq_getElem?_getD, List.getElem?_eq_getElem hi], List.getElem_cons_drop, List.take_append_drop]
  conv => lhs; rw [e]
  rw [List.flatMap_append, List.flatMap_cons]
def placeK {β : Type} (h : H) (X : Ref) (π : List Sp) (k : Sg → Option β) : Option β := match π with
  | .ix i z :: π' => rowK h X (fun t l => bif Nat.beq z t.size && Nat.blt 0 z then (match getP π' t (nth t.dflt l i) with
    | some s => k s
    | none => none) else none)
  | π => boxK h X (fun t x => match getP π t x with
    | some s => k s
    | none => none)
def notIx : List Sp → Bool
  | .ix _ _ :: _ => false
  | _ => true
theorem placeK_ok {β : Type} {h : H} {X : Ref} {π : List Sp} {k : Sg → Option β} {r : β} (hr : placeK h X π k = some r) : ∃ sg, k sg = some r ∧ okR X = true ∧ ∀ g S w v, Inv g S w → S.ob X.id = (hp h).ob X.id → (S.fr X.id ↔ (hp h).fr X.id) → V g (.tp X π) v → ∃ a c, S.ob X.id = some (.cells (a ++ (encA sg.t sg.x ++ c))) ∧ a.length = offS π := by
  unfold placeK at hr
  split at hr
  · rename_i i z π'
    obtain ⟨t, l, h1, h2, h3⟩ := rowK_ok hr
    obtain ⟨h4, h5⟩ := cond_some h1
    simp only [Bool.and_eq_true] at h4
    obtain rfl := beq_eq h4.1
    have h0 : 0 < t.size := blt_lt h4.2
    split at h5
    · rename_i sg hg
      refine ⟨sg, h5, h2, fun g S w v hI e _ hv => ?_⟩
      cases hv with
      | tp _ _ b s hat hk =>
        have hob := e.trans h3
        rcases hI.cells _ _ hob with ⟨k1, _⟩ | ⟨b', tt, k1, _⟩
        · rw [k1] at hat; cases hat
        rw [k1] at hat
        simp only [Option.some.injEq, Prod.mk.injEq] at hat
        obtain ⟨_, rfl⟩ := hat
        have hi : i < l.length := by
          have := hk.1
          simp only [flatA_len] at this
          exact Nat.lt_of_succ_le (Nat.le_of_mul_le_mul_right this h0)
        obtain ⟨a, c, q1, q2⟩ := getP_ok π' t _ _ _ hg hk.2
        obtain ⟨f1, f2⟩ := flatA_split t l hi
        refine ⟨(l.take i).flatMap (encA t) ++ a, c ++ (l.drop (i + 1)).flatMap (encA t), ?_, ?_⟩
        · rw [hob, f1, q1]; simp
        · rw [List.length_append, f2, q2]; rfl
    · cases h5
  · obtain ⟨t, x, h1, h2, h3⟩ := boxK_ok hr
    split at h1
    · rename_i sg hg
      refine ⟨sg, h1, h2, fun g S w v hI e e2 hv => ?_⟩
      cases hv with
      | tp _ _ b s hat hk =>
        obtain ⟨a, c, q1, q2⟩ := getP_ok π t x _ _ hg hk
        exact ⟨a, c, by rw [h3 g S w b s hI e e2 hat, q1], q2⟩
    · cases h1
/-- A row written. -/
def putRow {β : Type} (h : H) (X : Ref) (t : Ty) (l : List t.T) (k : H → Option β) : Option β := bif lkd h (rs1 X) then none else match X with
  | .loc o => setT h.t o (some (.row t l)) (fun t1 => k { h with t := t1 })
  | .reg r j => match rfind h.rg r with
    | some ⟨_, .row t', c⟩ => match castT (.slc t) (.slc t') l with
      | some l' => k { h with rg := rput h.rg r (.row t') (upd (α := Option (List t'.T)) c j (some l')) }
      | none => none
    | _ => none
def putBox {β : Type} (h : H) (X : Ref) (t : Ty) (x : t.T) (k : H → Option β) : Option β := bif lkd h (rs1 X) then none else match X with
  | .loc o => setT h.t o (some (.one t x)) (fun t1 => k { h with t := t1 })
  | .reg r j => match rfind h.rg r with
    | some ⟨_, .box t', c⟩ => match castT t t' x with
      | some x' => k { h with rg := rput h.rg r (.box t') (upd (α := t'.T) c j x') }
      | none => none
    | _ => none
theorem bif_none {α : Type} {c : Bool} {x : Option α} {r : α} (h : (bif c then none else x) = some r) : c = false ∧ x = some r := by
  cases c with
  | true => cases h
  | false => exact ⟨rfl, h⟩
/-- The type of a place. -/
def subT : List Sp → Ty → Option Ty
  | [], t => some t
  | .fst :: π, .pair a _ => subT π a
  | .snd _ :: π, .pair _ b => subT π b
  | .ai _ _ _ :: π, .arr _ t => subT π t
  | _, _ => none
def subR (π : List Sp) (t : Ty) : Option Ty := match π with
  | .ix _ _ :: π' => subT π' t
  | _ => none
def plT (h : H) (X : Ref) (π : List Sp) : Option Ty := match X with
  | .loc o => match h.t.get o with
    | some (.one t _) => subT π t
    | some (.row t _) => subR π t
    | _ => none
  | .reg r _ => match rfind h.rg r with
    | some ⟨_, .box t, _⟩ => subT π t
    | some ⟨_, .row t, _⟩ => subR π t
    | _ => none
/-- Only X changed; and if it is there, it is what was put. -/
def PutOk (h h' : H) (X : Ref) (x : Ob) : Prop := (∀ i, touch (.wr [rs1 X]) i = false → (hp h').ob i = (hp h).ob i ∧ ((hp h').fr i ↔ (hp h).fr i)) ∧ (¬ (hp h).fr X.id → hp h' = app [.set X.id x] (hp h))
theorem touch_rg {r i : Nat} {w : Bool} {s : List Nat} (hr : r < 64) (h : touch ⟨false, [rgn r], w, s⟩ i = false) : ¬ (¬ i < lim ∧ rOf i = r) := fun ⟨h1, h2⟩ => by
  have e := rid_of h1
  rw [h2] at e
  rw [e, touch_reg (r := r) (j := jOf i) hr (.head _)] at h
  cases h
theorem out_loc {h h' : H} {o : Nat} {x : Ob} (ho : o < 16777215) (e : hp h' = app [.set o x] (hp h)) (i : Nat) (hi : touch (.wr [rs1 (.loc o)]) i = false) : (hp h').ob i = (hp h).ob i ∧ ((hp h').fr i ↔ (hp h).fr i) := by
  rw [e]
  refine app_out _ _ i (fun u hu he => ?_)
  rcases List.mem_singleton.1 hu with rfl
  have h2 : i = o := he
  subst h2
  rw [show touch (.wr [rs1 (.loc i)]) i = true from touch_loc (o := i) (lt15 ho) (.head _)] at hi
  cases hi
theorem putRow_ok {β : Type} {h : H} {X : Ref} {t : Ty} {l : List t.T} {k : H → Option β} {r : β} (hx : okR X = true) (hr : putRow h X t l k = some r) : ∃ h', k h' = some r ∧ PutOk h h' X (.cells (l.flatMap (encA t))) := by
  obtain ⟨_, hr⟩ := bif_none hr
  cases X with
  | loc o =>
    obtain ⟨hq, t1, k1, k2⟩ := setT_inv hr
    have e := hp_set (h := h) (x := .row t l) (lt15 hq) k2
    exact ⟨_, k1, out_loc hq e, fun _ => e⟩
  | reg r j =>
    simp only at hr
    split at hr
    · rename_i _ t' c hf
      split at hr
      · rename_i l' hl
        obtain ⟨e, rfl⟩ := castT_eq hl
        cases e
        have h3 : r < 64 := blt_lt hx
        refine ⟨_, hr, fun i hi => ?_, fun hfr => ?_⟩
        · have hn := touch_rg h3 hi
          have := hp_rput (h := h) (k := .row t) (c := upd (α := Option (List t.T)) c j (some l)) hf i
          rw [if_neg hn, if_neg hn] at this
          exact this
        · have hlt : j < List.length (α := Option (List t.T)) c := by
            rcases Nat.lt_or_ge j (List.length (α := Option (List t.T)) c) with hlt | hge
            · exact hlt
            · exact absurd (by rw [show (Ref.reg r j).id = rid r j from rfl, hp_reg.2, regFr_eq h3 hf]; exact hge) hfr
          exact hp_mem (j := j) (u := .set (rid r j) _) h3 hf (upd_len (α := Option (List t.T)) c j _) (fun i hi => by rw [regOb_updR (c := c) hlt, if_neg hi]) rfl (by rw [regOb_updR (c := c) hlt, if_pos rfl]; exact set_ob) rfl
      · cases hr
    · cases hr
theorem putBox_ok {β : Type} {h : H} {X : Ref} {t : Ty} {x : t.T} {k : H → Option β} {r : β} (hx : okR X = true) (hr : putBox h X t x k = some r) : ∃ h', k h' = some r ∧ PutOk h h' X (.cells (encA t x)) := by
  obtain ⟨_, hr⟩ := bif_none hr
  cases X with
  | loc o =>
    obtain ⟨hq, t1, k1, k2⟩ := setT_inv hr
    have e := hp_set (h := h) (x := .one t x) (lt15 hq) k2
    exact ⟨_, k1, out_loc hq e, fun _ => e⟩
  | reg r j =>
    simp only at hr
    split at hr
    · rename_i _ t' c hf
      split at hr
      · rename_i l' hl
        obtain ⟨e, rfl⟩ := castT_eq hl
        cases e
        have h3 : r < 64 := blt_lt hx
        refine ⟨_, hr, fun i hi => ?_, fun hfr => ?_⟩
        · have hn := touch_rg h3 hi
          have := hp_rput (h := h) (k := .box t) (c := upd (α := t.T) c j x) hf i
          rw [if_neg hn, if_neg hn] at this
          exact this
        · have hlt : j < List.length (α := t.T) c := by
            rcases Nat.lt_or_ge j (List.length (α := t.T) c) with hlt | hge
            · exact hlt
            · exact absurd (by rw [show (Ref.reg r j).id = rid r j from rfl, hp_reg.2, regFr_eq h3 hf]; exact hge) hfr
          exact hp_mem (j := j) (u := .set (rid r j) _) h3 hf (upd_len (α := t.T) c j _) (fun i hi => by rw [regOb_updB (c := c) hlt, if_neg hi]) rfl (by rw [regOb_updB (c := c) hlt, if_pos rfl]; exact set_ob) rfl
      · cases hr
    · cases hr
def setK {β : Type} (h : H) (X : Ref) (π : List Sp) (u : Ty) (y : u.T) (k : H → Option β) : Option β := match π with
  | .ix i z :: π' => rowK h X (fun t l => bif Nat.beq z t.size && Nat.blt 0 z then (match setP u y π' t (nth t.dflt l i) with
    | some x => putRow h X t (upd l i x) k
    | none => none) else none)
  | π => boxK h X (fun t x => match setP u y π t x with
    | some x => putBox h X t x k
    | none => none)
theorem upd_flat (t : Ty) (l : List t.T) {i : Nat} (hi : i < l.length) (x : t.T) {k : Nat} {ps : List A} (he : encA t x = put (encA t (nth t.dflt l i)) k ps) (hk : k + ps.length ≤ t.size) : (upd l i x).flatMap (encA t) = put (l.flatMap (encA t)) (i * t.size + k) ps := by
  obtain ⟨f1, f2⟩ := flatA_split t l hi
  have hu : i < (upd l i x).length := by simpa [upd] using hi
  obtain ⟨g1, g2⟩ := flatA_split t (upd l i x) hu
  have e1 : (upd l i x).take i = l.take i := by simp [upd, List.take_set_of_le]
  have e2 : (upd l i x).drop (i + 1) = l.drop (i + 1) := by simp [upd, List.drop_set]
  have e3 : nth t.dflt (upd l i x) i = x := by simp [nth, upd, List.getD_eq_getElem?_getD, hi]
  rw [g1, f1, e1, e2, e3, ← f2, put_in (by rw [encA_len]; exact hk), he]
theorem setK_ok {β : Type} {h : H} {X : Ref} {π : List Sp} {u : Ty} {y : u.T} {k : H → Option β} {r : β} (hr : setK h X π u y k = some r) : ∃ h', k h' = some r ∧ okR X = true ∧ (∀ i, touch (.wr [rs1 X]) i = false → (hp h').ob i = (hp h).ob i ∧ ((hp h').fr i ↔ (hp h).fr i)) ∧
    ∀ T, rs1 X ∈ T → ∀ g S w v, Inv g S w → Agree (Fp.wr (T)) (hp h) S → V g (.tp X π) v → ∃ cs, S.ob X.id = some (.cells cs) ∧ offS π + u.size ≤ cs.length ∧ ovr (Fp.wr (T)) (hp h') S = S.set X.id (.cells (put cs (offS π) (encA u y))) := by
  have fin : ∀ {h' : H} {x : Ob} {T : List Nat}, okR X = true → rs1 X ∈ T → PutOk h h' X x → ∀ g S w b s, Inv g S w → Agree (Fp.wr (T)) (hp h) S → g.at' X.id = some (some b, s) → ovr (Fp.wr (T)) (hp h') S = S.set X.id x := fun hx hT hp' g S w b s hI hA hat => by
    have hT := touch_ref hx (l := _) (w := true) (s := []) hT
    have hnf : ¬ (hp h).fr X.id := fun hf => by rw [hI.fresh _ ((hA _ hT).2.2 hf)] at hat; cases hat
    rw [hp'.2 hnf, ovr_app (fun u hu => by rcases List.mem_singleton.1 hu with rfl; exact hT) hA]; rfl
  unfold setK at hr
  split at hr
  · rename_i i z π'
    obtain ⟨t, l, h1, h2, h3⟩ := rowK_ok hr
    obtain ⟨h4, h5⟩ := cond_some h1
    simp only [Bool.and_eq_true] at h4
    obtain rfl := beq_eq h4.1
    have h0 : 0 < t.size := blt_lt h4.2
    split at h5
    · rename_i x hg
      obtain ⟨h', k1, k2⟩ := putRow_ok h2 h5
      refine ⟨h', k1, h2, k2.1, fun T hT g S w v hI hA hv => ?_⟩
      cases hv with
      | tp _ _ b s hat hk =>
        have hob := ((hA _ (touch_ref h2 hT)).1).trans h3
        have hov := fin h2 hT k2 g S w b s hI hA hat
        rcases hI.cells _ _ hob with ⟨k1, _⟩ | ⟨b', tt, k1, _⟩
        · rw [k1] at hat; cases hat
        rw [k1] at hat
        simp only [Option.some.injEq, Prod.mk.injEq] at hat
        obtain ⟨_, rfl⟩ := hat
        have hi : i < l.length := by
          have := hk.1
          simp only [flatA_len] at this
          exact Nat.lt_of_succ_le (Nat.le_of_mul_le_mul_right this h0)
        obtain ⟨q1, q2⟩ := setP_ok u y π' t _ x _ hg hk.2
        have hpl : offS (.ix i t.size :: π') = i * t.size + offS π' := rfl
        refine ⟨_, hob, ?_, ?_⟩
        · rw [flatA_len, hpl]
          have := Nat.mul_le_mul_right t.size (show i + 1 ≤ l.length from hi)
          rw [Nat.add_mul, Nat.one_mul] at this
          omega
        · rw [hov, upd_flat t l hi x q1 (by rw [encA_len]; exact q2), hpl]
    · cases h5
  · obtain ⟨t, x, h1, h2, h3⟩ := boxK_ok hr
    split at h1
    · rename_i x' hg
      obtain ⟨h', k1, k2⟩ := putBox_ok h2 h1
      refine ⟨h', k1, h2, k2.1, fun T hT g S w v hI hA hv => ?_⟩
      cases hv with
      | tp _ _ b s hat hk =>
        have hT' := hA _ (touch_ref h2 hT)
        obtain ⟨q1, q2⟩ := setP_ok u y π t x x' _ hg hk
        exact ⟨_, h3 g S w b s hI hT'.1 hT'.2 hat, by rw [encA_len]; exact q2, by rw [fin h2 hT k2 g S w b s hI hA hat, q1]⟩
    · cases h1
end
end Go.Bm
