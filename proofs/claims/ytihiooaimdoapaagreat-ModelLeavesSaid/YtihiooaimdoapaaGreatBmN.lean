/- Values made what a type asks for. -/
import Derived.Test.YtihiooaimdoapaaGreatBmM
set_option linter.unusedVariables false
set_option linter.unusedSimpArgs false
namespace Go.Bm
noncomputable section
open Go.RowKit

def lkd (h : H) (i : Nat) : Bool := h.lk.any (Nat.beq i)
/-- What is told of cells, and memory, otherwise; the world stays. -/
def Cv (h h' : H) (T : List Nat) (cs cs' : List A) : Prop :=
  ∃ us, hp h' = app us (hp h) ∧ (∀ u ∈ us, touch (Fp.wr (T)) u.id = true) ∧ ∀ g S w vs, Inv g S w → Agree (Fp.wr (T)) (hp h) S → Vs g cs vs → ∃ g', Inv g' (app us S) w ∧ Ext S g w (app us S) g' w ∧ Vs g' cs' vs
theorem touch_mono {T U : List Nat} {w w' : Bool} {s s' : List Nat} (h : ∀ i ∈ T, i ∈ U) {i : Nat} (k : touch ⟨false, T, w, s⟩ i = true) : touch ⟨false, U, w', s'⟩ i = true := by
  unfold touch at k ⊢
  simp only [Bool.false_or, List.any_eq_true] at k ⊢
  obtain ⟨j, h1, h2⟩ := k
  exact ⟨j, h j h1, h2⟩
theorem app_app : ∀ (us vs : List Up) (S : Hp), app (us ++ vs) S = app vs (app us S)
  | [], _, _ => rfl
  | u :: us, vs, S => app_app us vs (u.app S)
theorem Agree.mono {T U : List Nat} {w w' : Bool} {s s' : List Nat} {S S2 : Hp} (h : ∀ i ∈ T, i ∈ U) (k : Agree ⟨false, U, w, s⟩ S S2) : Agree ⟨false, T, w', s'⟩ S S2 := fun i hi => k i (touch_mono h hi)
theorem Agree.app {T : Fp} {S S2 : Hp} (us : List Up) (k : Agree T S S2) : Agree T (app us S) (app us S2) := fun i hi => app_congr us S S2 i (k i hi).1 (k i hi).2
theorem Cv.refl (h : H) (T : List Nat) (cs : List A) : Cv h h T cs cs := ⟨[], rfl, fun u hu => (by simp at hu), fun g S w vs hI _ hv => ⟨g, hI, .refl S g w, hv⟩⟩
theorem Cv.trans {h h1 h2 : H} {T1 T2 : List Nat} {cs cs1 cs2 : List A} (a : Cv h h1 T1 cs cs1) (b : Cv h1 h2 T2 cs1 cs2) : Cv h h2 (T1 ++ T2) cs cs2 := by
  obtain ⟨us, a1, a2, a3⟩ := a
  obtain ⟨vs, b1, b2, b3⟩ := b
  refine ⟨us ++ vs, by rw [app_app, ← a1, b1], fun u hu => ?_, fun g S w xs hI hA hv => ?_⟩
  · rcases List.mem_append.1 hu with h | h
    · exact touch_mono (fun i hi => List.mem_append_left _ hi) (a2 u h)
    · exact touch_mono (fun i hi => List.mem_append_right _ hi) (b2 u h)
  · obtain ⟨g1, k1, k2, k3⟩ := a3 g S w xs hI (hA.mono fun i hi => List.mem_append_left _ hi) hv
    have hA2 : Agree (Fp.wr (T2)) (hp h1) (app us S) := by rw [a1]; exact (hA.mono (fun i hi => List.mem_append_right _ hi)).app us
    obtain ⟨g2, q1, q2, q3⟩ := b3 g1 _ w xs k1 hA2 k3
    rw [app_app]
    exact ⟨g2, q1, k2.trans q2, q3⟩
/-- Others stay what they are. -/
theorem Cv.append {h h1 h2 : H} {T1 T2 : List Nat} {cs cs1 ds ds1 : List A} (a : Cv h h1 T1 cs cs1) (b : Cv h1 h2 T2 ds ds1) : Cv h h2 (T1 ++ T2) (cs ++ ds) (cs1 ++ ds1) := by
  have a' : Cv h h1 T1 (cs ++ ds) (cs1 ++ ds) := by
    obtain ⟨us, a1, a2, a3⟩ := a
    refine ⟨us, a1, a2, fun g S w xs hI hA hv => ?_⟩
    obtain ⟨v1, v2⟩ := hv.split
    obtain ⟨g1, k1, k2, k3⟩ := a3 g S w _ hI hA v1
    have := k3.append (v2.mono k2.le)
    rw [List.take_append_drop] at this
    exact ⟨g1, k1, k2, this⟩
  have b' : Cv h1 h2 T2 (cs1 ++ ds) (cs1 ++ ds1) := by
    obtain ⟨us, a1, a2, a3⟩ := b
    refine ⟨us, a1, a2, fun g S w xs hI hA hv => ?_⟩
    obtain ⟨v1, v2⟩ := hv.split
    obtain ⟨g1, k1, k2, k3⟩ := a3 g S w _ hI hA v2
    have := (v1.mono k2.le).append k3
    rw [List.take_append_drop] at this
    exact ⟨g1, k1, k2, this⟩
  exact a'.trans b'
theorem Vs.one' {g : G} {c : A} {vs : List Value} (h : Vs g [c] vs) : ∃ v, vs = [v] ∧ V g c v ∧ v.oneCell' = true := by
  match vs, h with
  | [v], h => exact ⟨v, rfl, h.2 0 c v rfl rfl⟩
  | [], h => exact absurd h.1 (by simp)
  | _ :: _ :: _, h => exact absurd h.1 (by simp)
/-- A row of its own is data from now on. -/
def frzO {β : Type} (t : Ty) (o : Nat) (h : H) (k : List t.T → H → Option β) : Option β := match h.t.get o with
  | some (.row t' l) => match castT (.slc t') (.slc t) l with
    | some l' => bif t.data && Nat.blt 0 t.size && !(lkd h (rlo o)) then setT h.t o none (fun t1 => k l' { h with t := t1 }) else none
    | none => none
  | _ => none
theorem frzO_ok {β : Type} {t : Ty} {o : Nat} {h : H} {k : List t.T → H → Option β} {r : β} (hr : frzO t o h k = some r) : ∃ l h', k l h' = some r ∧ o < 16777216 ∧ h.t.get o = some (.row t l) ∧ hp h' = app [.del o] (hp h) ∧ t.data = true ∧ 0 < t.size := by
  unfold frzO at hr
  split at hr
  · rename_i t' l hg
    split at hr
    · rename_i l' hl
      obtain ⟨e, rfl⟩ := castT_eq hl
      cases e
      obtain ⟨h1, h2⟩ := cond_some hr
      simp only [Bool.and_eq_true] at h1
      obtain ⟨hq, t1, k1, k2⟩ := setT_inv h2
      exact ⟨l, _, k1, by omega, hg, hp_del (by omega) k2, h1.1.1, by simpa using h1.1.2⟩
    · cases hr
  · cases hr
theorem ob_row {h : H} {o : Nat} {t : Ty} {l : List t.T} (ho : o < 16777216) (hg : h.t.get o = some (.row t l)) : (hp h).ob o = some (.cells (l.flatMap (encA t))) := by
  rw [hp_loc ho]; unfold tOb; rw [hg]; rfl
def mrow {α : Type} (m : Option Nat) (l : List α) : List α := match m with
  | none => l
  | some m => tk m l
theorem len_cat {α : Type} (l : List α) (x : α) : (cat l [x]).length = l.length + 1 := by simp [cat]
/-- A row of its own becomes a region's (or its beginning does). -/
def adR {β : Type} (r z o : Nat) (m : Option Nat) (h : H) (k : Nat → H → Option β) : Option β := match h.t.get o, rfind h.rg r with
  | some (.row t' l), some ⟨_, .row t, c⟩ => match castT (.slc t') (.slc t) l with
    | some l' => bif Nat.blt r 64 && Nat.beq z t.size && Nat.blt 0 t.size && !(lkd h (rlo o)) && !(lkd h (rgn r)) then setT h.t o none (fun t1 => k (len (α := Option (List t.T)) c) { h with t := t1, rg := rput h.rg r (.row t) (cat (α := Option (List t.T)) c [some (mrow m l')]) }) else none
    | none => none
  | _, _ => none
theorem regOb_cat {t : Ty} {c : List (Option (List t.T))} {l : List t.T} (j : Nat) : regOb (.row t) (cat c [some l]) j = if j = c.length then some (.cells (l.flatMap (encA t))) else regOb (.row t) c j := by
  show (match gtA (cat c [some l]) j with | some (some l) => some (Ob.cells (l.flatMap (encA t))) | _ => none) = if j = c.length then some (Ob.cells (l.flatMap (encA t))) else (match gtA c j with | some (some l) => some (Ob.cells (l.flatMap (encA t))) | _ => none)
  rw [gtA_cat]
  by_cases h : j = c.length
  · rw [if_pos h, if_pos h]
  · rw [if_neg h, if_neg h]
theorem adR_ok {β : Type} {r z o : Nat} {m : Option Nat} {h : H} {k : Nat → H → Option β} {x : β} (hr : adR r z o m h k = some x) : ∃ (t : Ty) (l : List t.T) (j : Nat) (h' : H), k j h' = some x ∧ o < 16777216 ∧ r < 64 ∧ z = t.size ∧ 0 < t.size ∧ h.t.get o = some (.row t l) ∧ (hp h).fr (rid r j) ∧ hp h' = app [.del o, .new (rid r j) (.cells ((mrow m l).flatMap (encA t)))] (hp h) := by
  unfold adR at hr
  split at hr
  · rename_i t' l _ t c hg hf
    split at hr
    · rename_i l' hl
      obtain ⟨e, rfl⟩ := castT_eq hl
      cases e
      obtain ⟨h1, h2⟩ := cond_some hr
      simp only [Bool.and_eq_true] at h1
      obtain ⟨⟨⟨⟨h3, h4⟩, h5⟩, _⟩, _⟩ := h1
      have h3 : r < 64 := by simpa using h3
      obtain ⟨hq, t1, k1, k2⟩ := setT_inv h2
      refine ⟨t', l, _, _, k1, by omega, h3, beq_eq h4, by simpa using h5, hg, ?_, ?_⟩
      · rw [hp_reg.2, regFr_eq h3 hf]; exact Nat.le_refl _
      · have e1 := hp_del (h := h) (q := o) (by omega) k2
        have e2 := hp_push (h := { h with t := t1 }) (k := .row t') (c := cat (α := Option (List t'.T)) c [some (mrow m l)]) (n := List.length (α := Option (List t'.T)) c) h3 hf rfl (len_cat (α := Option (List t'.T)) c _) (fun j => regOb_cat (c := c) (l := mrow m l) j)
        rw [e1] at e2
        exact e2
    · cases hr
  · cases hr
theorem regOb_catB {t : Ty} {c : List t.T} {x : t.T} (j : Nat) : regOb (.box t) (cat c [x]) j = if j = c.length then some (.cells (encA t x)) else regOb (.box t) c j := by
  show (match gtA (cat c [x]) j with | some x => some (Ob.cells (encA t x)) | none => none) = if j = c.length then some (Ob.cells (encA t x)) else (match gtA c j with | some x => some (Ob.cells (encA t x)) | none => none)
  rw [gtA_cat]
  by_cases h : j = c.length
  · rw [if_pos h, if_pos h]
  · rw [if_neg h, if_neg h]
theorem regOb_catM {ka va : Bool} {tk tv : Ty} {c : List (List (tk.T × tv.T))} (j : Nat) : regOb (.map ka tk va tv) (cat c [[]]) j = if j = c.length then some (.oth (.map [])) else regOb (.map ka tk va tv) c j := by
  show (match gtA (cat c [[]]) j with | some es => some (Ob.oth (.map (es.map fun e => (packA ka tk e.1, packA va tv e.2)))) | none => none) = if j = c.length then some (Ob.oth (.map [])) else (match gtA c j with | some es => some (Ob.oth (.map (es.map fun e => (packA ka tk e.1, packA va tv e.2)))) | none => none)
  rw [gtA_cat]
  by_cases h : j = c.length
  · rw [if_pos h, if_pos h]; rfl
  · rw [if_neg h, if_neg h]
/-- The beginning of a region's row, that is a row of its own from now on. -/
def adV {β : Type} (r z i n : Nat) (h : H) (k : Nat → H → Option β) : Option β := match rfind h.rg r with
  | some ⟨_, .row t, c⟩ => bif Nat.blt r 64 && Nat.beq z t.size && Nat.blt 0 t.size && !(lkd h (rgn r)) then bd (rwA (α := t.T) c i) (fun l => k (len (α := Option (List t.T)) c) { h with rg := rput (rput h.rg r (.row t) (upd (α := Option (List t.T)) c i none)) r (.row t) (cat (α := Option (List t.T)) (upd (α := Option (List t.T)) c i none) [some (tk n l)]) }) else none
  | _ => none
theorem rowAt_gtA {α : Type} {c : List (Option (List α))} {j : Nat} {l : List α} (h : rwA c j = some l) : gtA c j = some (some l) := by
  unfold rwA at h
  unfold gtA
  rw [List.getD_eq_getElem?_getD] at h
  cases hc : c[j]? with
  | none => rw [hc] at h; cases h
  | some x => rw [hc] at h; simp at h; rw [h]
theorem upd_len' {α : Type} (l : List α) (i : Nat) (x : α) : (upd l i x).length = l.length := List.length_set ..
theorem regOb_updN' {t : Ty} {c : List (Option (List t.T))} {j : Nat} (hj : j < c.length) (i : Nat) : regOb (.row t) (upd c j none) i = if i = j then none else regOb (.row t) c i := by
  show (match gtA (upd c j none) i with | some (some l) => some (Ob.cells (l.flatMap (encA t))) | _ => none) = if i = j then none else (match gtA c i with | some (some l) => some (Ob.cells (l.flatMap (encA t))) | _ => none)
  rw [gtA_upd]
  by_cases h : i = j
  · subst h; rw [if_pos ⟨rfl, hj⟩, if_pos rfl]
  · rw [if_neg (fun k => h k.1), if_neg h]
theorem adV_ok {β : Type} {r z i n : Nat} {h : H} {k : Nat → H → Option β} {x : β} (hr : adV r z i n h k = some x) : ∃ (t : Ty) (l : List t.T) (j : Nat) (h' : H), k j h' = some x ∧ r < 64 ∧ z = t.size ∧ 0 < t.size ∧ (hp h).ob (rid r i) = some (.cells (l.flatMap (encA t))) ∧ (hp h).fr (rid r j) ∧ hp h' = app [.del (rid r i), .new (rid r j) (.cells ((tk n l).flatMap (encA t)))] (hp h) := by
  unfold adV at hr
  split at hr
  · rename_i _ t c hf
    obtain ⟨h1, h2⟩ := cond_some hr
    simp only [Bool.and_eq_true] at h1
    obtain ⟨⟨⟨h3, h4⟩, h5⟩, _⟩ := h1
    have h3 : r < 64 := by simpa using h3
    obtain ⟨l, hl, hk⟩ := bd_inv h2
    have hg := rowAt_gtA hl
    have hlt : i < List.length (α := Option (List t.T)) c := (List.getElem?_eq_some_iff.1 hg).1
    refine ⟨t, l, _, _, hk, h3, beq_eq h4, by simpa using h5, ?_, ?_, ?_⟩
    · rw [hp_reg.1, regAt_eq h3 hf]
      show (match gtA (α := Option (List t.T)) c i with | some (some l) => some (Ob.cells (l.flatMap (encA t))) | _ => none) = _
      rw [hg]
    · rw [hp_reg.2, regFr_eq h3 hf]; exact Nat.le_refl _
    · have e1 := hp_mem (h := h) (k := .row t) (c := upd (α := Option (List t.T)) c i none) (j := i) (u := .del (rid r i)) h3 hf (upd_len' (α := Option (List t.T)) c i _) (fun m hm => by rw [regOb_updN' (c := c) hlt, if_neg hm]) rfl (by rw [regOb_updN' (c := c) hlt, if_pos rfl]; exact if_pos rfl) rfl
      have hf2 : rfind (rput h.rg r (.row t) (upd (α := Option (List t.T)) c i none)) r = some ⟨r, .row t, upd (α := Option (List t.T)) c i none⟩ := (rfind_put h.rg r (.row t) (upd (α := Option (List t.T)) c i none) r _ hf).trans (if_pos rfl)
      have hle : List.length (α := Option (List t.T)) (upd (α := Option (List t.T)) c i none) = List.length (α := Option (List t.T)) c := upd_len' (α := Option (List t.T)) c i _
      have e2 := hp_push (h := { h with rg := rput h.rg r (.row t) (upd (α := Option (List t.T)) c i none) }) (k := .row t) (c := cat (α := Option (List t.T)) (upd (α := Option (List t.T)) c i none) [some (tk n l)]) (n := List.length (α := Option (List t.T)) c) (ob := .cells ((tk n l).flatMap (encA t))) h3 hf2 hle ((len_cat (α := Option (List t.T)) _ _).trans (congrArg (· + 1) hle)) (fun m => by rw [regOb_cat (c := upd (α := Option (List t.T)) c i none) (l := tk n l) m, hle])
      rw [e1] at e2
      exact e2
  · cases hr
/-- A map that holds nothing becomes a region's. -/
def adM {β : Type} (r o : Nat) (h : H) (k : Nat → H → Option β) : Option β := match h.t.get o, rfind h.rg r with
  | some (.oth (.map [])), some ⟨_, .map ka tk va tv, c⟩ => bif Nat.blt r 64 && !(lkd h (rlo o)) && !(lkd h (rgn r)) then setT h.t o none (fun t1 => k (len (α := List (tk.T × tv.T)) c) { h with t := t1, rg := rput h.rg r (.map ka tk va tv) (cat (α := List (tk.T × tv.T)) c [[]]) }) else none
  | _, _ => none
theorem adM_ok {β : Type} {r o : Nat} {h : H} {k : Nat → H → Option β} {x : β} (hr : adM r o h k = some x) : ∃ (j : Nat) (h' : H), k j h' = some x ∧ o < 16777216 ∧ r < 64 ∧ (hp h).ob o = some (.oth (.map [])) ∧ (hp h).fr (rid r j) ∧ hp h' = app [.del o, .new (rid r j) (.oth (.map []))] (hp h) := by
  unfold adM at hr
  split at hr
  · rename_i _ ka tk va tv c hg hf
    obtain ⟨h1, h2⟩ := cond_some hr
    simp only [Bool.and_eq_true] at h1
    have h3 : r < 64 := by simpa using h1.1.1
    obtain ⟨hq, t1, k1, k2⟩ := setT_inv h2
    refine ⟨_, _, k1, by omega, h3, ?_, ?_, ?_⟩
    · rw [hp_loc (by omega)]; unfold tOb; rw [hg]; rfl
    · rw [hp_reg.2, regFr_eq h3 hf]; exact Nat.le_refl _
    · have e1 := hp_del (h := h) (q := o) (by omega) k2
      have e2 := hp_push (h := { h with t := t1 }) (k := .map ka tk va tv) (c := cat (α := List (tk.T × tv.T)) c [[]]) (n := List.length (α := List (tk.T × tv.T)) c) (ob := .oth (.map [])) h3 hf rfl (len_cat (α := List (tk.T × tv.T)) c _) (fun j => regOb_catM (c := c) j)
      rw [e1] at e2
      exact e2
  · cases hr
/-- Own cells. -/
def ownC (h : H) (o : Nat) : Option (List A) := match h.t.get o with
  | some (.cells cs) => some cs
  | some (.one t x) => some (encA t x)
  | _ => none
/-- A thing of its own becomes a region's. -/
def adB {β : Type} (r o : Nat) (t : Ty) (x : t.T) (h : H) (k : Nat → H → Option β) : Option β := match rfind h.rg r with
  | some ⟨_, .box t', c⟩ => match castT t t' x with
    | some x' => bif Nat.blt r 64 && !(lkd h (rlo o)) && !(lkd h (rgn r)) then setT h.t o none (fun t1 => k (len (α := t'.T) c) { h with t := t1, rg := rput h.rg r (.box t') (cat (α := t'.T) c [x']) }) else none
    | none => none
  | _ => none
theorem adB_ok {β : Type} {r o : Nat} {t : Ty} {y : t.T} {h : H} {k : Nat → H → Option β} {x : β} (hr : adB r o t y h k = some x) : ∃ (j : Nat) (h' : H), k j h' = some x ∧ o < 16777216 ∧ r < 64 ∧ (hp h).fr (rid r j) ∧ hp h' = app [.del o, .new (rid r j) (.cells (encA t y))] (hp h) := by
  unfold adB at hr
  split at hr
  · rename_i _ t' c hf
    split at hr
    · rename_i x' hx
      obtain ⟨e, rfl⟩ := castT_eq hx
      cases e
      obtain ⟨h1, h2⟩ := cond_some hr
      simp only [Bool.and_eq_true] at h1
      have h3 : r < 64 := by simpa using h1.1.1
      obtain ⟨hq, t1, k1, k2⟩ := setT_inv h2
      refine ⟨_, _, k1, by omega, h3, ?_, ?_⟩
      · rw [hp_reg.2, regFr_eq h3 hf]; exact Nat.le_refl _
      · have e1 := hp_del (h := h) (q := o) (by omega) k2
        have e2 := hp_push (h := { h with t := t1 }) (k := .box t) (c := cat (α := t.T) c [y]) (n := List.length (α := t.T) c) (ob := .cells (encA t y)) h3 hf rfl (len_cat (α := t.T) c _) (fun j => regOb_catB (c := c) (x := y) j)
        rw [e1] at e2
        exact e2
    · cases hr
  · cases hr
/-- What region's boxes are. -/
def boxTy (h : H) (r : Nat) : Option Ty := match rfind h.rg r with
  | some ⟨_, .box t, _⟩ => some t
  | _ => none
/-- Cells made what a type asks for: rows become data, or a region's; own things become a region's. -/
def fixC : Nat → Ty → List A → H → Option (List A × H × List Nat)
  | 0, _, _, _ => none
  | f + 1, t, cs, h => match t with
    | .pair a b => match fixC f a (cs.take a.size) h with
      | some (cs1, h1, T1) => match fixC f b (cs.drop a.size) h1 with
        | some (cs2, h2, T2) => some (cs1 ++ cs2, h2, T1 ++ T2)
        | none => none
      | none => none
    | .slc t => match cs with
      | [.tw (.loc o) z] => bif Nat.beq z t.size then frzO t o h (fun l h' => some ([.tl t false l], h', [rlo o])) else none
      | [.ts (.loc o) z off n] => match h.t.get o with
        | some (.row _ l0) => bif Nat.beq z t.size then frzO t o h (fun l h' => some ([.tl t false (tk n (dr off l))], h', [rlo o])) else none
        | _ => none
      | cs => some (cs, h, [])
    | .rsl r z => match cs with
      | [.tw (.loc o) z'] => bif Nat.beq z z' then adR r z o none h (fun j h' => some ([.tw (.reg r j) z], h', [rlo o, rgn r])) else none
      | [.ts (.loc o) z' 0 n] => bif Nat.beq z z' then adR r z o (some n) h (fun j h' => some ([.tw (.reg r j) z], h', [rlo o, rgn r])) else none
      | cs => some (cs, h, [])
    | .mp r => match cs with
      | [.mp (.loc o)] => adM r o h (fun j h' => some ([.mp (.reg r j)], h', [rlo o, rgn r]))
      | cs => some (cs, h, [])
    | .ptr r => match cs with
      | [.ptr o 0] => match ownC h o, boxTy h r with
        | some ds, some t => match fixC f t ds h with
          | some (ds', h1, T1) => match toC t ds' with
            | some x => bif T1.any (Nat.beq (rlo o)) then none else adB r o t x h1 (fun j h' => some ([.tp (.reg r j) []], h', T1 ++ [rlo o, rgn r]))
            | none => none
          | none => none
        | _, _ => none
      | cs => some (cs, h, [])
    | _ => some (cs, h, [])

theorem ts_le {g : G} {S : Hp} {w : World} (h : Inv g S w) {X : Ref} {t : Ty} {l : List t.T} (h0 : 0 < t.size) (ho : S.ob X.id = some (.cells (l.flatMap (encA t)))) {off n : Nat} {v : Value} (hv : V g (.ts X t.size off n) v) : off + n ≤ l.length := by
  cases hv with
  | ts0 _ _ _ _ _ _ hn => omega
  | ts _ _ _ _ b cap s h1 hn hx hs hp d hd =>
    rcases h.cells _ _ ho with ⟨k1, _⟩ | ⟨b', tt, k1, _⟩
    · rw [k1] at h1; cases h1
    · rw [k1] at h1
      simp only [Option.some.injEq, Prod.mk.injEq] at h1
      obtain ⟨_, rfl⟩ := h1
      rw [flatA_len] at hs
      exact Nat.le_of_mul_le_mul_right hs h0
theorem touch_self {o : Nat} {T : List Nat} {w : Bool} {s : List Nat} (ho : o < 16777216) (h : touch ⟨false, T, w, s⟩ o = true) : T.any (Nat.beq (rlo o)) = true := by
  unfold touch at h
  rw [res_loc ho, Bool.false_or] at h
  exact h
theorem two_up {T : Fp} {o i : Nat} {x : Ob} (ha : touch T o = true) (hb : touch T i = true) {u : Up} (hu : u ∈ [.del o, .new i x]) : touch T u.id = true := by
  rcases List.mem_cons.1 hu with rfl | hu
  · exact ha
  · rcases List.mem_singleton.1 hu with rfl; exact hb
theorem fixC_ok : ∀ (f : Nat) (t : Ty) (cs : List A) (h : H) (cs' : List A) (h' : H) (T : List Nat), fixC f t cs h = some (cs', h', T) → Cv h h' T cs cs' := by
  intro f
  induction f with
  | zero => intro t cs h cs' h' T e; cases e
  | succ f ih =>
    intro t cs h cs' h' T e
    have keep : ∀ {cs : List A}, some (cs, h, ([] : List Nat)) = some (cs', h', T) → Cv h h' T cs cs' := fun e => by
      simp only [Option.some.injEq, Prod.mk.injEq] at e
      obtain ⟨rfl, rfl, rfl⟩ := e
      exact Cv.refl h [] _
    unfold fixC at e
    split at e
    · rename_i a b
      split at e
      · rename_i cs1 h1 T1 e1
        split at e
        · rename_i cs2 h2 T2 e2
          simp only [Option.some.injEq, Prod.mk.injEq] at e
          obtain ⟨rfl, rfl, rfl⟩ := e
          have := (ih _ _ _ _ _ _ e1).append (ih _ _ _ _ _ _ e2)
          rwa [List.take_append_drop] at this
        · cases e
      · cases e
    · rename_i t
      split at e
      · rename_i o z
        obtain ⟨hz, e0⟩ := cond_some e
        obtain rfl := beq_eq hz
        obtain ⟨l, h1, e1, ho, hg, hh, hd, h0⟩ := frzO_ok e0
        simp only [Option.some.injEq, Prod.mk.injEq] at e1
        obtain ⟨rfl, rfl, rfl⟩ := e1
        refine ⟨_, hh, fun u hu => by rcases List.mem_singleton.1 hu with rfl; exact touch_loc (o := o) ho (.head _), fun g S w vs hI hA hv => ?_⟩
        obtain ⟨v, rfl, hv, h1v⟩ := hv.one'
        obtain ⟨g', k1, k2, k3, _⟩ := hI.freeze hd h0 ((hA o (touch_loc ho (.head _))).1.trans (ob_row ho hg))
        exact ⟨g', k1, k2, .cons (k3 v hv) h1v .nil⟩
      · rename_i o z off n
        split at e
        · obtain ⟨hz, e0⟩ := cond_some e
          obtain rfl := beq_eq hz
          obtain ⟨l, h1, e1, ho, hg, hh, hd, h0⟩ := frzO_ok e0
          simp only [Option.some.injEq, Prod.mk.injEq] at e1
          obtain ⟨rfl, rfl, rfl⟩ := e1
          refine ⟨_, hh, fun u hu => by rcases List.mem_singleton.1 hu with rfl; exact touch_loc (o := o) ho (.head _), fun g S w vs hI hA hv => ?_⟩
          obtain ⟨v, rfl, hv, h1v⟩ := hv.one'
          have hob := (hA o (touch_loc ho (.head _))).1.trans (ob_row ho hg)
          obtain ⟨g', k1, k2, _, k3⟩ := hI.freeze hd h0 hob
          exact ⟨g', k1, k2, .cons (k3 off n v (ts_le hI (X := .loc o) h0 hob hv) hv) h1v .nil⟩
        · cases e
      · exact keep e
    · rename_i r z
      split at e
      · rename_i o z'
        obtain ⟨hz, e0⟩ := cond_some e
        obtain rfl := beq_eq hz
        obtain ⟨t, l, j, h1, e1, ho, hr, rfl, h0, hg, hf, hh⟩ := adR_ok e0
        simp only [Option.some.injEq, Prod.mk.injEq] at e1
        obtain ⟨rfl, rfl, rfl⟩ := e1
        refine ⟨_, hh, fun u hu => two_up (touch_loc (o := o) ho (.head _)) (touch_reg (r := r) (j := j) hr (.tail _ (.head _))) hu, fun g S w vs hI hA hv => ?_⟩
        obtain ⟨v, rfl, hv, h1v⟩ := hv.one'
        have hob := (hA o (touch_loc ho (.head _))).1.trans (ob_row ho hg)
        obtain ⟨g', k1, k2, k3, _⟩ := hI.moveRow (X := .reg r j) (Y := .loc o) (i := rid r j) rfl rfl h0 hob ((hA (rid r j) (touch_reg (r := r) (j := j) hr (.tail _ (.head _)))).2.2 hf) (Nat.le_refl l.length)
        have e2 : tk l.length l = l := by simp [tk]
        rw [e2] at k1 k2
        exact ⟨g', k1, k2, .cons (k3 v rfl hv) h1v .nil⟩
      · rename_i o z' n
        obtain ⟨hz, e0⟩ := cond_some e
        obtain rfl := beq_eq hz
        obtain ⟨t, l, j, h1, e1, ho, hr, rfl, h0, hg, hf, hh⟩ := adR_ok e0
        simp only [Option.some.injEq, Prod.mk.injEq] at e1
        obtain ⟨rfl, rfl, rfl⟩ := e1
        refine ⟨_, hh, fun u hu => two_up (touch_loc (o := o) ho (.head _)) (touch_reg (r := r) (j := j) hr (.tail _ (.head _))) hu, fun g S w vs hI hA hv => ?_⟩
        obtain ⟨v, rfl, hv, h1v⟩ := hv.one'
        have hob := (hA o (touch_loc ho (.head _))).1.trans (ob_row ho hg)
        have hle := ts_le hI (X := .loc o) h0 hob hv
        obtain ⟨g', k1, k2, _, k3⟩ := hI.moveRow (X := .reg r j) (Y := .loc o) (i := rid r j) rfl rfl h0 hob ((hA (rid r j) (touch_reg (r := r) (j := j) hr (.tail _ (.head _)))).2.2 hf) (m := n) (by omega)
        exact ⟨g', k1, k2, .cons (k3 v hv) h1v .nil⟩
      · exact keep e
    · rename_i r
      split at e
      · rename_i o
        obtain ⟨j, h1, e1, ho, hr, hob0, hf, hh⟩ := adM_ok e
        simp only [Option.some.injEq, Prod.mk.injEq] at e1
        obtain ⟨rfl, rfl, rfl⟩ := e1
        refine ⟨_, hh, fun u hu => two_up (touch_loc (o := o) ho (.head _)) (touch_reg (r := r) (j := j) hr (.tail _ (.head _))) hu, fun g S w vs hI hA hv => ?_⟩
        obtain ⟨v, rfl, hv, h1v⟩ := hv.one'
        have hob := (hA o (touch_loc ho (.head _))).1.trans hob0
        have hfr := (hA (rid r j) (touch_reg (r := r) (j := j) hr (.tail _ (.head _)))).2.2 hf
        obtain ⟨b, s, ob, k1, k2, k3⟩ := hI.oth o _ hob
        obtain ⟨q1, q2⟩ := hI.mvw (s' := s) (x' := .oth (.map [])) hob hfr k1 rfl (fun _ _ => rfl) rfl rfl rfl ⟨ob, k2, k3.mono (gput_le (hI.fresh _ hfr))⟩
        refine ⟨_, q1, q2, .cons ?_ h1v .nil⟩
        cases hv with
        | mp _ b' s' h1 =>
          rw [show (Ref.loc o).id = o from rfl, k1] at h1
          cases h1
          exact .mp (.reg r j) b s gput_at
      · exact keep e
    · rename_i r
      split at e
      · rename_i o
        split at e
        · rename_i ds t hds ht
          split at e
          · rename_i ds' h1 T1 e1
            split at e
            · rename_i x hx
              cases hT : T1.any (Nat.beq (rlo o)) with
              | true => rw [hT] at e; cases e
              | false =>
                rw [hT] at e; simp only [cond_false] at e
                obtain ⟨j, h2, e2, ho, hr, hf, hh⟩ := adB_ok e
                simp only [Option.some.injEq, Prod.mk.injEq] at e2
                obtain ⟨rfl, rfl, rfl⟩ := e2
                obtain ⟨us, c1, c2, c3⟩ := ih _ _ _ _ _ _ e1
                have hob0 : (hp h).ob o = some (.cells ds) := by
                  rw [hp_loc ho]
                  unfold tOb
                  unfold ownC at hds
                  split at hds <;> simp_all [MOb.low]
                refine ⟨us ++ [.del o, .new (rid r j) (.cells (encA t x))], by rw [app_app, ← c1, hh], fun u hu => ?_, fun g S w vs hI hA hv => ?_⟩
                · rcases List.mem_append.1 hu with hu | hu
                  · exact touch_mono (fun i hi => List.mem_append_left _ hi) (c2 u hu)
                  · exact two_up (touch_loc (o := o) ho (List.mem_append_right _ (.head _))) (touch_reg (r := r) (j := j) hr (List.mem_append_right _ (.tail _ (.head _)))) hu
                · obtain ⟨v, rfl, hv, h1v⟩ := hv.one'
                  have hob := (hA o (touch_loc ho (List.mem_append_right _ (.head _)))).1.trans hob0
                  cases hv with
                  | ptr _ _ b s hg =>
                    rcases hI.cells o ds hob with ⟨k1, _⟩ | ⟨b', tt, k1, cur, ty, k2, k2', k3⟩
                    · rw [k1] at hg; cases hg
                    rw [k1] at hg; cases hg
                    obtain ⟨g1, q1, q2, q3⟩ := c3 g S w _ hI (hA.mono fun i hi => List.mem_append_left _ hi) k3
                    obtain ⟨z1, z2⟩ := toC_ok (g := g1) t ds' x hx
                    have z3 := z2 _ q3
                    have hob1 : (app us S).ob o = some (.cells ds) := by
                      rw [(app_out us S o (fun u hu e => by have := touch_self ho (e ▸ c2 u hu); rw [hT] at this; cases this)).1]; exact hob
                    have hfr1 : (app us S).fr (rid r j) := by
                      have hA1 := (hA.mono (T := [rgn r]) (w' := true) (s' := []) (fun i hi => by rcases List.mem_singleton.1 hi with rfl; exact List.mem_append_right _ (.tail _ (.head _)))).app us
                      rw [← c1] at hA1
                      exact (hA1 (rid r j) (touch_reg (r := r) (j := j) hr (.head _))).2.2 hf
                    have hl : ds.length = (encA t x).length := by rw [k3.1, z3.1]
                    obtain ⟨y1, y2⟩ := q1.mvw (s' := ((encA t x).length, tt)) (x' := .cells (encA t x)) hob1 hfr1 (q2.le.at' _ _ k1) rfl (fun _ _ => rfl) rfl rfl rfl ⟨rfl, cur, ty, k2, k2', by rw [← hl]; exact z3.mono (gput_le (q1.fresh _ hfr1))⟩
                    rw [app_app]
                    exact ⟨_, y1, q2.trans y2, .cons (.tp (.reg r j) [] _ _ gput_at trivial) h1v .nil⟩
            · cases e
          · cases e
        · cases e
      · exact keep e
    · exact keep e
/-- The same, where a piece of a region's row may become the row. -/
def fixP {β : Type} (u : Ty) (ps : List A) (h : H) (k : List A → H → List Nat → Option β) : Option β := match u, ps with
  | .rsl r z, [.ts (.reg r' i) z' 0 n] => bif Nat.beq z z' && Nat.beq r r' then adV r z i n h (fun j h' => k [.tw (.reg r j) z] h' [rgn r]) else none
  | u, ps => match fixC 64 u ps h with
    | some (ps', h', T) => k ps' h' T
    | none => none
theorem fixP_ok {β : Type} {u : Ty} {ps : List A} {h : H} {k : List A → H → List Nat → Option β} {x : β} (hr : fixP u ps h k = some x) : ∃ ps' h' T, k ps' h' T = some x ∧ Cv h h' T ps ps' := by
  unfold fixP at hr
  split at hr
  · rename_i r z r' i z' n
    obtain ⟨hz, e0⟩ := cond_some hr
    rw [Bool.and_eq_true] at hz
    obtain rfl := beq_eq hz.1
    obtain rfl := beq_eq hz.2
    obtain ⟨t, l, j, h1, e1, hr6, rfl, h0, hg, hf, hh⟩ := adV_ok e0
    refine ⟨_, _, _, e1, _, hh, fun u hu => two_up (touch_reg (r := r) (j := i) hr6 (.head _)) (touch_reg (r := r) (j := j) hr6 (.head _)) hu, fun g S w vs hI hA hv => ?_⟩
    obtain ⟨v, rfl, hv, h1v⟩ := hv.one'
    have hob := (hA (rid r i) (touch_reg (r := r) (j := i) hr6 (.head _))).1.trans hg
    have hle := ts_le hI (X := .reg r i) h0 hob hv
    obtain ⟨g', k1, k2, _, k3⟩ := hI.moveRow (X := .reg r j) (Y := .reg r i) (i := rid r j) rfl rfl h0 hob ((hA (rid r j) (touch_reg (r := r) (j := j) hr6 (.head _))).2.2 hf) (m := n) (by omega)
    exact ⟨g', k1, k2, .cons (k3 v hv) h1v .nil⟩
  · split at hr
    · rename_i ps' h' T hf
      exact ⟨_, _, _, hr, fixC_ok _ _ _ _ _ _ _ hf⟩
    · cases hr
end
end Go.Bm
