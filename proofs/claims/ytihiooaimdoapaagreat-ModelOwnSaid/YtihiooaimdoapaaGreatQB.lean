/- Texts of one proof, put together: see each part. -/
import Derived.Test.YtihiooaimdoapaaGreatQA
set_option linter.unusedVariables false
set_option linter.unusedSimpArgs false
namespace Go.Bm
noncomputable section
open Go.RowKit
def lkd (h : H) (i : Nat) : Bool := h.lk.any (Nat.beq i)
def Cv (h h' : H) (T : List Nat) (cs cs' : List A) : Prop :=
 ∃ us, hp h' = app us (hp h) ∧ (∀ u ∈ us, touch (Fp.wr (T)) u.id = true) ∧ ∀ g S w vs, Inv g S w → Agree (Fp.wr (T)) (hp h) S → Vs g cs vs → ∃ g', Inv g' (app us S) w ∧ Ext S g w (app us S) g' w ∧ Vs g' cs' vs
theorem touch_mono {T U : List Nat} {w w' : Bool} {s s' : List Nat} (h : ∀ i ∈ T, i ∈ U) {i : Nat} (k : touch ⟨false, T, w, s⟩ i = true) : touch ⟨false, U, w', s'⟩ i = true := by
 unfold touch at k ⊢
 simp only [Bool.false_or, List.any_eq_true] at k ⊢
 obtain ⟨j, h1, h2⟩ := k
 exact ⟨j, h j h1, h2⟩
theorem app_app : ∀ (us vs : List Up) (S : Hp), app (us ++ vs) S = app vs (app us S)
 | [], _, _ => rfl
 | u :: us, vs, S => app_app us vs (u.app S)
theorem Agree.mono {T U : List Nat} {w w' : Bool} {s s' : List Nat} {S S2 : Hp} (h : ∀ i ∈ T, i ∈ U) (k : Agree ⟨false, U, w, s⟩ S S2) : Agree ⟨false, T, w', s'⟩ S S2 := fun i hi => k i (touch_mono h hi)
theorem Agree.app {T : Fp} {S S2 : Hp} (us : List Up) (k : Agree T S S2) : Agree T (app us S) (app us S2) := fun i hi => app_congr us S S2 i (k i hi).1 (k i hi).2
theorem Cv.refl (h : H) (T : List Nat) (cs : List A) : Cv h h T cs cs := ⟨[], rfl, fun u hu => (by simp at hu), fun g S w vs hI _ hv => ⟨g, hI, .refl S g w, hv⟩⟩
theorem Cv.trans {h h1 h2 : H} {T1 T2 : List Nat} {cs cs1 cs2 : List A} (a : Cv h h1 T1 cs cs1) (b : Cv h1 h2 T2 cs1 cs2) : Cv h h2 (T1 ++ T2) cs cs2 := by
 obtain ⟨us, a1, a2, a3⟩ := a
 obtain ⟨vs, b1, b2, b3⟩ := b
 refine ⟨us ++ vs, by rw [app_app, ← a1, b1], fun u hu => ?_, fun g S w xs hI hA hv => ?_⟩
 ·rcases List.mem_append.1 hu with h | h
  ·exact touch_mono (fun i hi => List.mem_append_left _ hi) (a2 u h)
  ·exact touch_mono (fun i hi => List.mem_append_right _ hi) (b2 u h)
 ·obtain ⟨g1, k1, k2, k3⟩ := a3 g S w xs hI (hA.mono fun i hi => List.mem_append_left _ hi) hv
  have hA2 : Agree (Fp.wr (T2)) (hp h1) (app us S) := by rw [a1]; exact (hA.mono (fun i hi => List.mem_append_right _ hi)).app us
  obtain ⟨g2, q1, q2, q3⟩ := b3 g1 _ w xs k1 hA2 k3
  rw [app_app]
  exact ⟨g2, q1, k2.trans q2, q3⟩
theorem Cv.append {h h1 h2 : H} {T1 T2 : List Nat} {cs cs1 ds ds1 : List A} (a : Cv h h1 T1 cs cs1) (b : Cv h1 h2 T2 ds ds1) : Cv h h2 (T1 ++ T2) (cs ++ ds) (cs1 ++ ds1) := by
 have a' : Cv h h1 T1 (cs ++ ds) (cs1 ++ ds) := by
  obtain ⟨us, a1, a2, a3⟩ := a
  refine ⟨us, a1, a2, fun g S w xs hI hA hv => ?_⟩
  obtain ⟨v1, v2⟩ := hv.split
  obtain ⟨g1, k1, k2, k3⟩ := a3 g S w _ hI hA v1
  have := k3.append (v2.mono k2.le)
  rw [List.take_append_drop] at this
  exact ⟨g1, k1, k2, this⟩
 have b' : Cv h1 h2 T2 (cs1 ++ ds) (cs1 ++ ds1) := by
  obtain ⟨us, a1, a2, a3⟩ := b
  refine ⟨us, a1, a2, fun g S w xs hI hA hv => ?_⟩
  obtain ⟨v1, v2⟩ := hv.split
  obtain ⟨g1, k1, k2, k3⟩ := a3 g S w _ hI hA v2
  have := (v1.mono k2.le).append k3
  rw [List.take_append_drop] at this
  exact ⟨g1, k1, k2, this⟩
 exact a'.trans b'
theorem Vs.one' {g : G} {c : A} {vs : List Value} (h : Vs g [c] vs) : ∃ v, vs = [v] ∧ V g c v ∧ v.oneCell' = true := by
 match vs, h with
 | [v], h => exact ⟨v, rfl, h.2 0 c v rfl rfl⟩
 | [], h => exact absurd h.1 (by simp)
 | _ :: _ :: _, h => exact absurd h.1 (by simp)
def frzO {β : Type} (t : Ty) (o : Nat) (h : H) (k : List t.T → H → Option β) : Option β := match h.t.get o with
 | some (.row t' l) => match castT (.slc t') (.slc t) l with
  | some l' => bif t.data && Nat.blt 0 t.size && !(lkd h (rlo o)) then setT h.t o none (fun t1 => k l' { h with t := t1 }) else none
  | none => none
 | _ => none
theorem frzO_ok {β : Type} {t : Ty} {o : Nat} {h : H} {k : List t.T → H → Option β} {r : β} (hr : frzO t o h k = some r) : ∃ l h', k l h' = some r ∧ o < 16777216 ∧ h.t.get o = some (.row t l) ∧ hp h' = app [.del o] (hp h) ∧ t.data = true ∧ 0 < t.size := by
 unfold frzO at hr
 split at hr
 ·rename_i t' l hg
  split at hr
  ·rename_i l' hl
   obtain ⟨e, rfl⟩ := castT_eq hl
   cases e
   obtain ⟨h1, h2⟩ := cond_some hr
   simp only [Bool.and_eq_true] at h1
   obtain ⟨hq, t1, k1, k2⟩ := setT_inv h2
   exact ⟨l, _, k1, by omega, hg, hp_del (by omega) k2, h1.1.1, by simpa using h1.1.2⟩
  ·cases hr
 ·cases hr
theorem ob_row {h : H} {o : Nat} {t : Ty} {l : List t.T} (ho : o < 16777216) (hg : h.t.get o = some (.row t l)) : (hp h).ob o = some (.cells (l.flatMap (encA t))) := by
 rw [hp_loc ho]; unfold tOb; rw [hg]; rfl
def mrow {α : Type} (m : Option Nat) (l : List α) : List α := match m with
 | none => l
 | some m => tk m l
theorem len_cat {α : Type} (l : List α) (x : α) : (cat l [x]).length = l.length + 1 := by simp [cat]
def adR {β : Type} (r z o : Nat) (m : Option Nat) (h : H) (k : Nat → H → Option β) : Option β := match h.t.get o, rfind h.rg r with
 | some (.row t' l), some ⟨_, .row t, c⟩ => match castT (.slc t') (.slc t) l with
  | some l' => bif Nat.blt r 64 && Nat.beq z t.size && Nat.blt 0 t.size && !(lkd h (rlo o)) && !(lkd h (rgn r)) then setT h.t o none (fun t1 => k (len (α := Option (List t.T)) c) { h with t := t1, rg := rput h.rg r (.row t) (cat (α := Option (List t.T)) c [some (mrow m l')]) }) else none
  | none => none
 | _, _ => none
theorem regOb_cat {t : Ty} {c : List (Option (List t.T))} {l : List t.T} (j : Nat) : regOb (.row t) (cat c [some l]) j = if j = c.length then some (.cells (l.flatMap (encA t))) else regOb (.row t) c j := by
 show (match gtA (cat c [some l]) j with | some (some l) => some (Ob.cells (l.flatMap (encA t))) | _ => none) = if j = c.length then some (Ob.cells (l.flatMap (encA t))) else (match gtA c j with | some (some l) => some (Ob.cells (l.flatMap (encA t))) | _ => none)
 rw [gtA_cat]
 by_cases h : j = c.length
 ·rw [if_pos h, if_pos h]
 ·rw [if_neg h, if_neg h]
theorem adR_ok {β : Type} {r z o : Nat} {m : Option Nat} {h : H} {k : Nat → H → Option β} {x : β} (hr : adR r z o m h k = some x) : ∃ (t : Ty) (l : List t.T) (j : Nat) (h' : H), k j h' = some x ∧ o < 16777216 ∧ r < 64 ∧ z = t.size ∧ 0 < t.size ∧ h.t.get o = some (.row t l) ∧ (hp h).fr (rid r j) ∧ hp h' = app [.del o, .new (rid r j) (.cells ((mrow m l).flatMap (encA t)))] (hp h) := by
 unfold adR at hr
 split at hr
 ·rename_i t' l _ t c hg hf
  split at hr
  ·rename_i l' hl
   obtain ⟨e, rfl⟩ := castT_eq hl
   cases e
   obtain ⟨h1, h2⟩ := cond_some hr
   simp only [Bool.and_eq_true] at h1
   obtain ⟨⟨⟨⟨h3, h4⟩, h5⟩, _⟩, _⟩ := h1
   have h3 : r < 64 := by simpa using h3
   obtain ⟨hq, t1, k1, k2⟩ := setT_inv h2
   refine ⟨t', l, _, _, k1, by omega, h3, beq_eq h4, by simpa using h5, hg, ?_, ?_⟩
   ·rw [hp_reg.2, regFr_eq h3 hf]; exact Nat.le_refl _
   ·have e1 := hp_del (h := h) (q := o) (by omega) k2
    have e2 := hp_push (h := { h with t := t1 }) (k := .row t') (c := cat (α := Option (List t'.T)) c [some (mrow m l)]) (n := List.length (α := Option (List t'.T)) c) h3 hf rfl (len_cat (α := Option (List t'.T)) c _) (fun j => regOb_cat (c := c) (l := mrow m l) j)
    rw [e1] at e2
    exact e2
  ·cases hr
 ·cases hr
theorem regOb_catB {t : Ty} {c : List t.T} {x : t.T} (j : Nat) : regOb (.box t) (cat c [x]) j = if j = c.length then some (.cells (encA t x)) else regOb (.box t) c j := by
 show (match gtA (cat c [x]) j with | some x => some (Ob.cells (encA t x)) | none => none) = if j = c.length then some (Ob.cells (encA t x)) else (match gtA c j with | some x => some (Ob.cells (encA t x)) | none => none)
 rw [gtA_cat]
 by_cases h : j = c.length
 ·rw [if_pos h, if_pos h]
 ·rw [if_neg h, if_neg h]
theorem regOb_catM {ka va : Bool} {tk tv : Ty} {c : List (List (tk.T × tv.T))} (j : Nat) : regOb (.map ka tk va tv) (cat c [[]]) j = if j = c.length then some (.oth (.map [])) else regOb (.map ka tk va tv) c j := by
 show (match gtA (cat c [[]]) j with | some es => some (Ob.oth (.map (es.map fun e => (packA ka tk e.1, packA va tv e.2)))) | none => none) = if j = c.length then some (Ob.oth (.map [])) else (match gtA c j with | some es => some (Ob.oth (.map (es.map fun e => (packA ka tk e.1, packA va tv e.2)))) | none => none)
 rw [gtA_cat]
 by_cases h : j = c.length
 ·rw [if_pos h, if_pos h]; rfl
 ·rw [if_neg h, if_neg h]
def adV {β : Type} (r z i n : Nat) (h : H) (k : Nat → H → Option β) : Option β := match rfind h.rg r with
 | some ⟨_, .row t, c⟩ => bif Nat.blt r 64 && Nat.beq z t.size && Nat.blt 0 t.size && !(lkd h (rgn r)) then bd (rwA (α := t.T) c i) (fun l => k (len (α := Option (List t.T)) c) { h with rg := rput (rput h.rg r (.row t) (upd (α := Option (List t.T)) c i none)) r (.row t) (cat (α := Option (List t.T)) (upd (α := Option (List t.T)) c i none) [some (tk n l)]) }) else none
 | _ => none
theorem rowAt_gtA {α : Type} {c : List (Option (List α))} {j : Nat} {l : List α} (h : rwA c j = some l) : gtA c j = some (some l) := by
 unfold rwA at h
 unfold gtA
 rw [List.getD_eq_getElem?_getD] at h
 cases hc : c[j]? with
 | none => rw [hc] at h; cases h
 | some x => rw [hc] at h; simp at h; rw [h]
theorem upd_len' {α : Type} (l : List α) (i : Nat) (x : α) : (upd l i x).length = l.length := List.length_set ..
theorem regOb_updN' {t : Ty} {c : List (Option (List t.T))} {j : Nat} (hj : j < c.length) (i : Nat) : regOb (.row t) (upd c j none) i = if i = j then none else regOb (.row t) c i := by
 show (match gtA (upd c j none) i with | some (some l) => some (Ob.cells (l.flatMap (encA t))) | _ => none) = if i = j then none else (match gtA c i with | some (some l) => some (Ob.cells (l.flatMap (encA t))) | _ => none)
 rw [gtA_upd]
 by_cases h : i = j
 ·subst h; rw [if_pos ⟨rfl, hj⟩, if_pos rfl]
 ·rw [if_neg (fun k => h k.1), if_neg h]
theorem adV_ok {β : Type} {r z i n : Nat} {h : H} {k : Nat → H → Option β} {x : β} (hr : adV r z i n h k = some x) : ∃ (t : Ty) (l : List t.T) (j : Nat) (h' : H), k j h' = some x ∧ r < 64 ∧ z = t.size ∧ 0 < t.size ∧ (hp h).ob (rid r i) = some (.cells (l.flatMap (encA t))) ∧ (hp h).fr (rid r j) ∧ hp h' = app [.del (rid r i), .new (rid r j) (.cells ((tk n l).flatMap (encA t)))] (hp h) := by
 unfold adV at hr
 split at hr
 ·rename_i _ t c hf
  obtain ⟨h1, h2⟩ := cond_some hr
  simp only [Bool.and_eq_true] at h1
  obtain ⟨⟨⟨h3, h4⟩, h5⟩, _⟩ := h1
  have h3 : r < 64 := by simpa using h3
  obtain ⟨l, hl, hk⟩ := bd_inv h2
  have hg := rowAt_gtA hl
  have hlt : i < List.length (α := Option (List t.T)) c := (List.getElem?_eq_some_iff.1 hg).1
  refine ⟨t, l, _, _, hk, h3, beq_eq h4, by simpa using h5, ?_, ?_, ?_⟩
  ·rw [hp_reg.1, regAt_eq h3 hf]
   show (match gtA (α := Option (List t.T)) c i with | some (some l) => some (Ob.cells (l.flatMap (encA t))) | _ => none) = _
   rw [hg]
  ·rw [hp_reg.2, regFr_eq h3 hf]; exact Nat.le_refl _
  ·have e1 := hp_mem (h := h) (k := .row t) (c := upd (α := Option (List t.T)) c i none) (j := i) (u := .del (rid r i)) h3 hf (upd_len' (α := Option (List t.T)) c i _) (fun m hm => by rw [regOb_updN' (c := c) hlt, if_neg hm]) rfl (by rw [regOb_updN' (c := c) hlt, if_pos rfl]; exact if_pos rfl) rfl
   have hf2 : rfind (rput h.rg r (.row t) (upd (α := Option (List t.T)) c i none)) r = some ⟨r, .row t, upd (α := Option (List t.T)) c i none⟩ := (rfind_put h.rg r (.row t) (upd (α := Option (List t.T)) c i none) r _ hf).trans (if_pos rfl)
   have hle : List.length (α := Option (List t.T)) (upd (α := Option (List t.T)) c i none) = List.length (α := Option (List t.T)) c := upd_len' (α := Option (List t.T)) c i _
   have e2 := hp_push (h := { h with rg := rput h.rg r (.row t) (upd (α := Option (List t.T)) c i none) }) (k := .row t) (c := cat (α := Option (List t.T)) (upd (α := Option (List t.T)) c i none) [some (tk n l)]) (n := List.length (α := Option (List t.T)) c) (ob := .cells ((tk n l).flatMap (encA t))) h3 hf2 hle ((len_cat (α := Option (List t.T)) _ _).trans (congrArg (· + 1) hle)) (fun m => by rw [regOb_cat (c := upd (α := Option (List t.T)) c i none) (l := tk n l) m, hle])
   rw [e1] at e2
   exact e2
 ·cases hr
def adM {β : Type} (r o : Nat) (h : H) (k : Nat → H → Option β) : Option β := match h.t.get o, rfind h.rg r with
 | some (.oth (.map [])), some ⟨_, .map ka tk va tv, c⟩ => bif Nat.blt r 64 && !(lkd h (rlo o)) && !(lkd h (rgn r)) then setT h.t o none (fun t1 => k (len (α := List (tk.T × tv.T)) c) { h with t := t1, rg := rput h.rg r (.map ka tk va tv) (cat (α := List (tk.T × tv.T)) c [[]]) }) else none
 | _, _ => none
theorem adM_ok {β : Type} {r o : Nat} {h : H} {k : Nat → H → Option β} {x : β} (hr : adM r o h k = some x) : ∃ (j : Nat) (h' : H), k j h' = some x ∧ o < 16777216 ∧ r < 64 ∧ (hp h).ob o = some (.oth (.map [])) ∧ (hp h).fr (rid r j) ∧ hp h' = app [.del o, .new (rid r j) (.oth (.map []))] (hp h) := by
 unfold adM at hr
 split at hr
 ·rename_i _ ka tk va tv c hg hf
  obtain ⟨h1, h2⟩ := cond_some hr
  simp only [Bool.and_eq_true] at h1
  have h3 : r < 64 := by simpa using h1.1.1
  obtain ⟨hq, t1, k1, k2⟩ := setT_inv h2
  refine ⟨_, _, k1, by omega, h3, ?_, ?_, ?_⟩
  ·rw [hp_loc (by omega)]; unfold tOb; rw [hg]; rfl
  ·rw [hp_reg.2, regFr_eq h3 hf]; exact Nat.le_refl _
  ·have e1 := hp_del (h := h) (q := o) (by omega) k2
   have e2 := hp_push (h := { h with t := t1 }) (k := .map ka tk va tv) (c := cat (α := List (tk.T × tv.T)) c [[]]) (n := List.length (α := List (tk.T × tv.T)) c) (ob := .oth (.map [])) h3 hf rfl (len_cat (α := List (tk.T × tv.T)) c _) (fun j => regOb_catM (c := c) j)
   rw [e1] at e2
   exact e2
 ·cases hr
def ownC (h : H) (o : Nat) : Option (List A) := match h.t.get o with
 | some (.cells cs) => some cs
 | some (.one t x) => some (encA t x)
 | _ => none
def adB {β : Type} (r o : Nat) (t : Ty) (x : t.T) (h : H) (k : Nat → H → Option β) : Option β := match rfind h.rg r with
 | some ⟨_, .box t', c⟩ => match castT t t' x with
  | some x' => bif Nat.blt r 64 && !(lkd h (rlo o)) && !(lkd h (rgn r)) then setT h.t o none (fun t1 => k (len (α := t'.T) c) { h with t := t1, rg := rput h.rg r (.box t') (cat (α := t'.T) c [x']) }) else none
  | none => none
 | _ => none
theorem adB_ok {β : Type} {r o : Nat} {t : Ty} {y : t.T} {h : H} {k : Nat → H → Option β} {x : β} (hr : adB r o t y h k = some x) : ∃ (j : Nat) (h' : H), k j h' = some x ∧ o < 16777216 ∧ r < 64 ∧ (hp h).fr (rid r j) ∧ hp h' = app [.del o, .new (rid r j) (.cells (encA t y))] (hp h) := by
 unfold adB at hr
 split at hr
 ·rename_i _ t' c hf
  split at hr
  ·rename_i x' hx
   obtain ⟨e, rfl⟩ := castT_eq hx
   cases e
   obtain ⟨h1, h2⟩ := cond_some hr
   simp only [Bool.and_eq_true] at h1
   have h3 : r < 64 := by simpa using h1.1.1
   obtain ⟨hq, t1, k1, k2⟩ := setT_inv h2
   refine ⟨_, _, k1, by omega, h3, ?_, ?_⟩
   ·rw [hp_reg.2, regFr_eq h3 hf]; exact Nat.le_refl _
   ·have e1 := hp_del (h := h) (q := o) (by omega) k2
    have e2 := hp_push (h := { h with t := t1 }) (k := .box t) (c := cat (α := t.T) c [y]) (n := List.length (α := t.T) c) (ob := .cells (encA t y)) h3 hf rfl (len_cat (α := t.T) c _) (fun j => regOb_catB (c := c) (x := y) j)
    rw [e1] at e2
    exact e2
  ·cases hr
 ·cases hr
def boxTy (h : H) (r : Nat) : Option Ty := match rfind h.rg r with
 | some ⟨_, .box t, _⟩ => some t
 | _ => none
def fixC : Nat → Ty → List A → H → Option (List A × H × List Nat)
 | 0, _, _, _ => none
 | f + 1, t, cs, h => match t with
  | .pair a b => match fixC f a (cs.take a.size) h with
   | some (cs1, h1, T1) => match fixC f b (cs.drop a.size) h1 with
    | some (cs2, h2, T2) => some (cs1 ++ cs2, h2, T1 ++ T2)
    | none => none
   | none => none
  | .slc t => match cs with
   | [.tw (.loc o) z] => bif Nat.beq z t.size then frzO t o h (fun l h' => some ([.tl t false l], h', [rlo o])) else none
   | [.ts (.loc o) z off n] => match h.t.get o with
    | some (.row _ l0) => bif Nat.beq z t.size then frzO t o h (fun l h' => some ([.tl t false (tk n (dr off l))], h', [rlo o])) else none
    | _ => none
   | cs => some (cs, h, [])
  | .rsl r z => match cs with
   | [.tw (.loc o) z'] => bif Nat.beq z z' then adR r z o none h (fun j h' => some ([.tw (.reg r j) z], h', [rlo o, rgn r])) else none
   | [.ts (.loc o) z' 0 n] => bif Nat.beq z z' then adR r z o (some n) h (fun j h' => some ([.tw (.reg r j) z], h', [rlo o, rgn r])) else none
   | cs => some (cs, h, [])
  | .mp r => match cs with
   | [.mp (.loc o)] => adM r o h (fun j h' => some ([.mp (.reg r j)], h', [rlo o, rgn r]))
   | cs => some (cs, h, [])
  | .ptr r => match cs with
   | [.ptr o 0] => match ownC h o, boxTy h r with
    | some ds, some t => match fixC f t ds h with
     | some (ds', h1, T1) => match toC t ds' with
      | some x => bif T1.any (Nat.beq (rlo o)) then none else adB r o t x h1 (fun j h' => some ([.tp (.reg r j) []], h', T1 ++ [rlo o, rgn r]))
      | none => none
     | none => none
    | _, _ => none
   | cs => some (cs, h, [])
  | _ => some (cs, h, [])
theorem ts_le {g : G} {S : Hp} {w : World} (h : Inv g S w) {X : Ref} {t : Ty} {l : List t.T} (h0 : 0 < t.size) (ho : S.ob X.id = some (.cells (l.flatMap (encA t)))) {off n : Nat} {v : Value} (hv : V g (.ts X t.size off n) v) : off + n ≤ l.length := by
 cases hv with
 | ts0 _ _ _ _ _ _ hn => omega
 | ts _ _ _ _ b cap s h1 hn hx hs hp d hd =>
  rcases h.cells _ _ ho with ⟨k1, _⟩ | ⟨b', tt, k1, _⟩
  ·rw [k1] at h1; cases h1
  ·rw [k1] at h1
   simp only [Option.some.injEq, Prod.mk.injEq] at h1
   obtain ⟨_, rfl⟩ := h1
   rw [flatA_len] at hs
   exact Nat.le_of_mul_le_mul_right hs h0
theorem touch_self {o : Nat} {T : List Nat} {w : Bool} {s : List Nat} (ho : o < 16777216) (h : touch ⟨false, T, w, s⟩ o = true) : T.any (Nat.beq (rlo o)) = true := by
 unfold touch at h
 rw [res_loc ho, Bool.false_or] at h
 exact h
theorem two_up {T : Fp} {o i : Nat} {x : Ob} (ha : touch T o = true) (hb : touch T i = true) {u : Up} (hu : u ∈ [.del o, .new i x]) : touch T u.id = true := by
 rcases List.mem_cons.1 hu with rfl | hu
 ·exact ha
 ·rcases List.mem_singleton.1 hu with rfl; exact hb
theorem fixC_ok : ∀ (f : Nat) (t : Ty) (cs : List A) (h : H) (cs' : List A) (h' : H) (T : List Nat), fixC f t cs h = some (cs', h', T) → Cv h h' T cs cs' := by
 intro f
 induction f with
 | zero => intro t cs h cs' h' T e; cases e
 | succ f ih =>
  intro t cs h cs' h' T e
  have keep : ∀ {cs : List A}, some (cs, h, ([] : List Nat)) = some (cs', h', T) → Cv h h' T cs cs' := fun e => by
   simp only [Option.some.injEq, Prod.mk.injEq] at e
   obtain ⟨rfl, rfl, rfl⟩ := e
   exact Cv.refl h [] _
  unfold fixC at e
  split at e
  ·rename_i a b
   split at e
   ·rename_i cs1 h1 T1 e1
    split at e
    ·rename_i cs2 h2 T2 e2
     simp only [Option.some.injEq, Prod.mk.injEq] at e
     obtain ⟨rfl, rfl, rfl⟩ := e
     have := (ih _ _ _ _ _ _ e1).append (ih _ _ _ _ _ _ e2)
     rwa [List.take_append_drop] at this
    ·cases e
   ·cases e
  ·rename_i t
   split at e
   ·rename_i o z
    obtain ⟨hz, e0⟩ := cond_some e
    obtain rfl := beq_eq hz
    obtain ⟨l, h1, e1, ho, hg, hh, hd, h0⟩ := frzO_ok e0
    simp only [Option.some.injEq, Prod.mk.injEq] at e1
    obtain ⟨rfl, rfl, rfl⟩ := e1
    refine ⟨_, hh, fun u hu => by rcases List.mem_singleton.1 hu with rfl; exact touch_loc (o := o) ho (.head _), fun g S w vs hI hA hv => ?_⟩
    obtain ⟨v, rfl, hv, h1v⟩ := hv.one'
    obtain ⟨g', k1, k2, k3, _⟩ := hI.freeze hd h0 ((hA o (touch_loc ho (.head _))).1.trans (ob_row ho hg))
    exact ⟨g', k1, k2, .cons (k3 v hv) h1v .nil⟩
   ·rename_i o z off n
    split at e
    ·obtain ⟨hz, e0⟩ := cond_some e
     obtain rfl := beq_eq hz
     obtain ⟨l, h1, e1, ho, hg, hh, hd, h0⟩ := frzO_ok e0
     simp only [Option.some.injEq, Prod.mk.injEq] at e1
     obtain ⟨rfl, rfl, rfl⟩ := e1
     refine ⟨_, hh, fun u hu => by rcases List.mem_singleton.1 hu with rfl; exact touch_loc (o := o) ho (.head _), fun g S w vs hI hA hv => ?_⟩
     obtain ⟨v, rfl, hv, h1v⟩ := hv.one'
     have hob := (hA o (touch_loc ho (.head _))).1.trans (ob_row ho hg)
     obtain ⟨g', k1, k2, _, k3⟩ := hI.freeze hd h0 hob
     exact ⟨g', k1, k2, .cons (k3 off n v (ts_le hI (X := .loc o) h0 hob hv) hv) h1v .nil⟩
    ·cases e
   ·exact keep e
  ·rename_i r z
   split at e
   ·rename_i o z'
    obtain ⟨hz, e0⟩ := cond_some e
    obtain rfl := beq_eq hz
    obtain ⟨t, l, j, h1, e1, ho, hr, rfl, h0, hg, hf, hh⟩ := adR_ok e0
    simp only [Option.some.injEq, Prod.mk.injEq] at e1
    obtain ⟨rfl, rfl, rfl⟩ := e1
    refine ⟨_, hh, fun u hu => two_up (touch_loc (o := o) ho (.head _)) (touch_reg (r := r) (j := j) hr (.tail _ (.head _))) hu, fun g S w vs hI hA hv => ?_⟩
    obtain ⟨v, rfl, hv, h1v⟩ := hv.one'
    have hob := (hA o (touch_loc ho (.head _))).1.trans (ob_row ho hg)
    obtain ⟨g', k1, k2, k3, _⟩ := hI.moveRow (X := .reg r j) (Y := .loc o) (i := rid r j) rfl rfl h0 hob ((hA (rid r j) (touch_reg (r := r) (j := j) hr (.tail _ (.head _)))).2.2 hf) (Nat.le_refl l.length)
    have e2 : tk l.length l = l := by simp [tk]
    rw [e2] at k1 k2
    exact ⟨g', k1, k2, .cons (k3 v rfl hv) h1v .nil⟩
   ·rename_i o z' n
    obtain ⟨hz, e0⟩ := cond_some e
    obtain rfl := beq_eq hz
    obtain ⟨t, l, j, h1, e1, ho, hr, rfl, h0, hg, hf, hh⟩ := adR_ok e0
    simp only [Option.some.injEq, Prod.mk.injEq] at e1
    obtain ⟨rfl, rfl, rfl⟩ := e1
    refine ⟨_, hh, fun u hu => two_up (touch_loc (o := o) ho (.head _)) (touch_reg (r := r) (j := j) hr (.tail _ (.head _))) hu, fun g S w vs hI hA hv => ?_⟩
    obtain ⟨v, rfl, hv, h1v⟩ := hv.one'
    have hob := (hA o (touch_loc ho (.head _))).1.trans (ob_row ho hg)
    have hle := ts_le hI (X := .loc o) h0 hob hv
    obtain ⟨g', k1, k2, _, k3⟩ := hI.moveRow (X := .reg r j) (Y := .loc o) (i := rid r j) rfl rfl h0 hob ((hA (rid r j) (touch_reg (r := r) (j := j) hr (.tail _ (.head _)))).2.2 hf) (m := n) (by omega)
    exact ⟨g', k1, k2, .cons (k3 v hv) h1v .nil⟩
   ·exact keep e
  ·rename_i r
   split at e
   ·rename_i o
    obtain ⟨j, h1, e1, ho, hr, hob0, hf, hh⟩ := adM_ok e
    simp only [Option.some.injEq, Prod.mk.injEq] at e1
    obtain ⟨rfl, rfl, rfl⟩ := e1
    refine ⟨_, hh, fun u hu => two_up (touch_loc (o := o) ho (.head _)) (touch_reg (r := r) (j := j) hr (.tail _ (.head _))) hu, fun g S w vs hI hA hv => ?_⟩
    obtain ⟨v, rfl, hv, h1v⟩ := hv.one'
    have hob := (hA o (touch_loc ho (.head _))).1.trans hob0
    have hfr := (hA (rid r j) (touch_reg (r := r) (j := j) hr (.tail _ (.head _)))).2.2 hf
    obtain ⟨b, s, ob, k1, k2, k3⟩ := hI.oth o _ hob
    obtain ⟨q1, q2⟩ := hI.mvw (s' := s) (x' := .oth (.map [])) hob hfr k1 rfl (fun _ _ => rfl) rfl rfl rfl ⟨ob, k2, k3.mono (gput_le (hI.fresh _ hfr))⟩
    refine ⟨_, q1, q2, .cons ?_ h1v .nil⟩
    cases hv with
    | mp _ b' s' h1 =>
     rw [show (Ref.loc o).id = o from rfl, k1] at h1
     cases h1
     exact .mp (.reg r j) b s gput_at
   ·exact keep e
  ·rename_i r
   split at e
   ·rename_i o
    split at e
    ·rename_i ds t hds ht
     split at e
     ·rename_i ds' h1 T1 e1
      split at e
      ·rename_i x hx
       cases hT : T1.any (Nat.beq (rlo o)) with
       | true => rw [hT] at e; cases e
       | false =>
        rw [hT] at e; simp only [cond_false] at e
        obtain ⟨j, h2, e2, ho, hr, hf, hh⟩ := adB_ok e
        simp only [Option.some.injEq, Prod.mk.injEq] at e2
        obtain ⟨rfl, rfl, rfl⟩ := e2
        obtain ⟨us, c1, c2, c3⟩ := ih _ _ _ _ _ _ e1
        have hob0 : (hp h).ob o = some (.cells ds) := by
         rw [hp_loc ho]
         unfold tOb
         unfold ownC at hds
         split at hds <;> simp_all [MOb.low]
        refine ⟨us ++ [.del o, .new (rid r j) (.cells (encA t x))], by rw [app_app, ← c1, hh], fun u hu => ?_, fun g S w vs hI hA hv => ?_⟩
        ·rcases List.mem_append.1 hu with hu | hu
         ·exact touch_mono (fun i hi => List.mem_append_left _ hi) (c2 u hu)
         ·exact two_up (touch_loc (o := o) ho (List.mem_append_right _ (.head _))) (touch_reg (r := r) (j := j) hr (List.mem_append_right _ (.tail _ (.head _)))) hu
        ·obtain ⟨v, rfl, hv, h1v⟩ := hv.one'
         have hob := (hA o (touch_loc ho (List.mem_append_right _ (.head _)))).1.trans hob0
         cases hv with
         | ptr _ _ b s hg =>
          rcases hI.cells o ds hob with ⟨k1, _⟩ | ⟨b', tt, k1, cur, ty, k2, k2', k3⟩
          ·rw [k1] at hg; cases hg
          rw [k1] at hg; cases hg
          obtain ⟨g1, q1, q2, q3⟩ := c3 g S w _ hI (hA.mono fun i hi => List.mem_append_left _ hi) k3
          obtain ⟨z1, z2⟩ := toC_ok (g := g1) t ds' x hx
          have z3 := z2 _ q3
          have hob1 : (app us S).ob o = some (.cells ds) := by
           rw [(app_out us S o (fun u hu e => by have := touch_self ho (e ▸ c2 u hu); rw [hT] at this; cases this)).1]; exact hob
          have hfr1 : (app us S).fr (rid r j) := by
           have hA1 := (hA.mono (T := [rgn r]) (w' := true) (s' := []) (fun i hi => by rcases List.mem_singleton.1 hi with rfl; exact List.mem_append_right _ (.tail _ (.head _)))).app us
           rw [← c1] at hA1
           exact (hA1 (rid r j) (touch_reg (r := r) (j := j) hr (.head _))).2.2 hf
          have hl : ds.length = (encA t x).length := by rw [k3.1, z3.1]
          obtain ⟨y1, y2⟩ := q1.mvw (s' := ((encA t x).length, tt)) (x' := .cells (encA t x)) hob1 hfr1 (q2.le.at' _ _ k1) rfl (fun _ _ => rfl) rfl rfl rfl ⟨rfl, cur, ty, k2, k2', by rw [← hl]; exact z3.mono (gput_le (q1.fresh _ hfr1))⟩
          rw [app_app]
          exact ⟨_, y1, q2.trans y2, .cons (.tp (.reg r j) [] _ _ gput_at trivial) h1v .nil⟩
      ·cases e
     ·cases e
    ·cases e
   ·exact keep e
  ·exact keep e
def fixP {β : Type} (u : Ty) (ps : List A) (h : H) (k : List A → H → List Nat → Option β) : Option β := match u, ps with
 | .rsl r z, [.ts (.reg r' i) z' 0 n] => bif Nat.beq z z' && Nat.beq r r' then adV r z i n h (fun j h' => k [.tw (.reg r j) z] h' [rgn r]) else none
 | u, ps => match fixC 64 u ps h with
  | some (ps', h', T) => k ps' h' T
  | none => none
theorem fixP_ok {β : Type} {u : Ty} {ps : List A} {h : H} {k : List A → H → List Nat → Option β} {x : β} (hr : fixP u ps h k = some x) : ∃ ps' h' T, k ps' h' T = some x ∧ Cv h h' T ps ps' := by
 unfold fixP at hr
 split at hr
 ·rename_i r z r' i z' n
  obtain ⟨hz, e0⟩ := cond_some hr
  rw [Bool.and_eq_true] at hz
  obtain rfl := beq_eq hz.1
  obtain rfl := beq_eq hz.2
  obtain ⟨t, l, j, h1, e1, hr6, rfl, h0, hg, hf, hh⟩ := adV_ok e0
  refine ⟨_, _, _, e1, _, hh, fun u hu => two_up (touch_reg (r := r) (j := i) hr6 (.head _)) (touch_reg (r := r) (j := j) hr6 (.head _)) hu, fun g S w vs hI hA hv => ?_⟩
  obtain ⟨v, rfl, hv, h1v⟩ := hv.one'
  have hob := (hA (rid r i) (touch_reg (r := r) (j := i) hr6 (.head _))).1.trans hg
  have hle := ts_le hI (X := .reg r i) h0 hob hv
  obtain ⟨g', k1, k2, _, k3⟩ := hI.moveRow (X := .reg r j) (Y := .reg r i) (i := rid r j) rfl rfl h0 hob ((hA (rid r j) (touch_reg (r := r) (j := j) hr6 (.head _))).2.2 hf) (m := n) (by omega)
  exact ⟨g', k1, k2, .cons (k3 v hv) h1v .nil⟩
 ·split at hr
  ·rename_i ps' h' T hf
   exact ⟨_, _, _, hr, fixC_ok _ _ _ _ _ _ _ hf⟩
  ·cases hr
end
end Go.Bm
set_option linter.unusedVariables false
set_option linter.unusedSimpArgs false
namespace Go.Bm
noncomputable section
open Go.RowKit
theorem set_ob {S : Hp} {i : Nat} {x : Ob} : (S.set i x).ob i = some x := if_pos rfl
theorem lt15 {o : Nat} (h : o < 16777215) : o < 16777216 := by omega
theorem blt_lt {a b : Nat} (h : Nat.blt a b = true) : a < b := Nat.le_of_ble_eq_true h
theorem upd_len {α : Type} (l : List α) (i : Nat) (x : α) : (upd l i x).length = l.length := List.length_set
theorem regOb_updR {t : Ty} {c : List (Option (List t.T))} {j : Nat} {l : List t.T} (hj : j < c.length) (i : Nat) : regOb (.row t) (upd c j (some l)) i = if i = j then some (.cells (l.flatMap (encA t))) else regOb (.row t) c i := by
 show (match gtA (upd c j (some l)) i with | some (some l) => some (Ob.cells (l.flatMap (encA t))) | _ => none) = if i = j then some (Ob.cells (l.flatMap (encA t))) else (match gtA c i with | some (some l) => some (Ob.cells (l.flatMap (encA t))) | _ => none)
 rw [gtA_upd]
 by_cases h : i = j
 ·rw [if_pos ⟨h, hj⟩, if_pos h]
 ·rw [if_neg (fun k => h k.1), if_neg h]
theorem regOb_updB {t : Ty} {c : List t.T} {j : Nat} {x : t.T} (hj : j < c.length) (i : Nat) : regOb (.box t) (upd c j x) i = if i = j then some (.cells (encA t x)) else regOb (.box t) c i := by
 show (match gtA (upd c j x) i with | some x => some (Ob.cells (encA t x)) | none => none) = if i = j then some (Ob.cells (encA t x)) else (match gtA c i with | some x => some (Ob.cells (encA t x)) | none => none)
 rw [gtA_upd]
 by_cases h : i = j
 ·rw [if_pos ⟨h, hj⟩, if_pos h]
 ·rw [if_neg (fun k => h k.1), if_neg h]
def rs1 : Ref → Nat
 | .loc o => rlo o
 | .reg r _ => rgn r
def okR : Ref → Bool
 | .loc o => Nat.blt o 16777216
 | .reg r _ => Nat.blt r 64
theorem touch_ref {X : Ref} (h : okR X = true) {l : List Nat} {w : Bool} {s : List Nat} (hm : rs1 X ∈ l) : touch ⟨false, l, w, s⟩ X.id = true := by
 cases X with
 | loc o => exact touch_loc (o := o) (blt_lt h) hm
 | reg r j => exact touch_reg (r := r) (j := j) (blt_lt h) hm
def rowK {β : Type} (h : H) (X : Ref) (k : (t : Ty) → List t.T → Option β) : Option β := match X with
 | .loc o => match h.t.get o with
  | some (.row t l) => bif Nat.blt o 16777216 then k t l else none
  | _ => none
 | .reg r j => match rfind h.rg r with
  | some ⟨_, .row t, c⟩ => bif Nat.blt r 64 then bd (rwA (α := t.T) c j) (fun l => k t l) else none
  | _ => none
theorem rowAt_some {α : Type} {c : List (Option (List α))} {j : Nat} {l : List α} (h : rwA c j = some l) : gtA c j = some (some l) := by
 unfold rwA at h
 unfold gtA
 rw [List.getD_eq_getElem?_getD] at h
 cases hc : c[j]? with
 | none => rw [hc] at h; cases h
 | some x => rw [hc] at h; simp at h; rw [h]
theorem regOb_row {t : Ty} {c : List (Option (List t.T))} {j : Nat} {l : List t.T} (h : gtA c j = some (some l)) : regOb (.row t) c j = some (.cells (l.flatMap (encA t))) := by
 show (match gtA c j with | some (some l) => some (Ob.cells (l.flatMap (encA t))) | _ => none) = _
 rw [h]
theorem rowK_ok {β : Type} {h : H} {X : Ref} {k : (t : Ty) → List t.T → Option β} {r : β} (hr : rowK h X k = some r) : ∃ t l, k t l = some r ∧ okR X = true ∧ (hp h).ob X.id = some (.cells (l.flatMap (encA t))) := by
 cases X with
 | loc o =>
  unfold rowK at hr
  simp only at hr
  split at hr
  ·rename_i t l hg
   obtain ⟨h1, h2⟩ := cond_some hr
   exact ⟨t, l, h2, h1, ob_row (blt_lt h1) hg⟩
  ·cases hr
 | reg r j =>
  unfold rowK at hr
  simp only at hr
  split at hr
  ·rename_i _ t c hf
   obtain ⟨h1, h2⟩ := cond_some hr
   obtain ⟨l, h3, h4⟩ := bd_inv h2
   refine ⟨t, l, h4, h1, ?_⟩
   show (hp h).ob (rid r j) = _
   rw [hp_reg.1, regAt_eq (blt_lt h1) hf]
   exact regOb_row (rowAt_some h3)
  ·cases hr
def boxK {β : Type} (h : H) (X : Ref) (k : (t : Ty) → t.T → Option β) : Option β := match X with
 | .loc o => match h.t.get o with
  | some (.one t x) => bif Nat.blt o 16777216 then k t x else none
  | _ => none
 | .reg r j => match rfind h.rg r with
  | some ⟨_, .box t, c⟩ => bif Nat.blt r 64 then k t (nth (α := t.T) t.dflt c j) else none
  | _ => none
theorem regOb_box {t : Ty} {c : List t.T} {j : Nat} (h : j < c.length) : regOb (.box t) c j = some (.cells (encA t (nth t.dflt c j))) := by
 show (match gtA c j with | some x => some (Ob.cells (encA t x)) | none => none) = _
 have e : gtA c j = some (nth t.dflt c j) := by simp [gtA, nth, List.getD_eq_getElem?_getD, List.getElem?_eq_getElem h]
 rw [e]
theorem boxK_ok {β : Type} {h : H} {X : Ref} {k : (t : Ty) → t.T → Option β} {r : β} (hr : boxK h X k = some r) : ∃ t x, k t x = some r ∧ okR X = true ∧ ∀ g S w b s, Inv g S w → S.ob X.id = (hp h).ob X.id → (S.fr X.id ↔ (hp h).fr X.id) → g.at' X.id = some (some b, s) → S.ob X.id = some (.cells (encA t x)) := by
 cases X with
 | loc o =>
  unfold boxK at hr
  simp only at hr
  split at hr
  ·rename_i t x hg
   obtain ⟨h1, h2⟩ := cond_some hr
   refine ⟨t, x, h2, h1, fun g S w b s _ e _ _ => ?_⟩
   rw [e]
   show (hp h).ob o = _
   rw [hp_loc (blt_lt h1)]; unfold tOb; rw [hg]; rfl
  ·cases hr
 | reg r j =>
  unfold boxK at hr
  simp only at hr
  split at hr
  ·rename_i _ t c hf
   obtain ⟨h1, h2⟩ := cond_some hr
   have h3 : r < 64 := blt_lt h1
   refine ⟨t, _, h2, h1, fun g S w b s hI e e2 hg => ?_⟩
   have hlt : j < List.length (α := t.T) c := by
    rcases Nat.lt_or_ge j (List.length (α := t.T) c) with hlt | hge
    ·exact hlt
    ·have : S.fr (rid r j) := e2.2 (by rw [show (Ref.reg r j).id = rid r j from rfl, hp_reg.2, regFr_eq h3 hf]; exact hge)
     have := hI.fresh _ this
     rw [show (Ref.reg r j).id = rid r j from rfl, this] at hg; cases hg
   rw [e]
   show (hp h).ob (rid r j) = _
   rw [hp_reg.1, regAt_eq h3 hf]
   exact regOb_box hlt
  ·cases hr
theorem flatA_split (t : Ty) (l : List t.T) {i : Nat} (hi : i < l.length) : l.flatMap (encA t) = (l.take i).flatMap (encA t) ++ (encA t (nth t.dflt l i) ++ (l.drop (i + 1)).flatMap (encA t)) ∧ ((l.take i).flatMap (encA t)).length = i * t.size := by
 refine ⟨?_, by rw [flatA_len, List.length_take, Nat.min_eq_left (Nat.le_of_lt hi)]⟩
 have e : l = l.take i ++ nth t.dflt l i :: l.drop (i + 1) := by
  rw [show nth t.dflt l i = l[i] by simp [nth, List.getD_eq_getElem?_getD, List.getElem?_eq_getElem hi], List.getElem_cons_drop, List.take_append_drop]
 conv => lhs; rw [e]
 rw [List.flatMap_append, List.flatMap_cons]
def placeK {β : Type} (h : H) (X : Ref) (π : List Sp) (k : Sg → Option β) : Option β := match π with
 | .ix i z :: π' => rowK h X (fun t l => bif Nat.beq z t.size && Nat.blt 0 z then (match getP π' t (nth t.dflt l i) with
  | some s => k s
  | none => none) else none)
 | π => boxK h X (fun t x => match getP π t x with
  | some s => k s
  | none => none)
theorem placeK_ok {β : Type} {h : H} {X : Ref} {π : List Sp} {k : Sg → Option β} {r : β} (hr : placeK h X π k = some r) : ∃ sg, k sg = some r ∧ okR X = true ∧ ∀ g S w v, Inv g S w → S.ob X.id = (hp h).ob X.id → (S.fr X.id ↔ (hp h).fr X.id) → V g (.tp X π) v → ∃ a c, S.ob X.id = some (.cells (a ++ (encA sg.t sg.x ++ c))) ∧ a.length = offS π := by
 unfold placeK at hr
 split at hr
 ·rename_i i z π'
  obtain ⟨t, l, h1, h2, h3⟩ := rowK_ok hr
  obtain ⟨h4, h5⟩ := cond_some h1
  simp only [Bool.and_eq_true] at h4
  obtain rfl := beq_eq h4.1
  have h0 : 0 < t.size := blt_lt h4.2
  split at h5
  ·rename_i sg hg
   refine ⟨sg, h5, h2, fun g S w v hI e _ hv => ?_⟩
   cases hv with
   | tp _ _ b s hat hk =>
    have hob := e.trans h3
    rcases hI.cells _ _ hob with ⟨k1, _⟩ | ⟨b', tt, k1, _⟩
    ·rw [k1] at hat; cases hat
    rw [k1] at hat
    simp only [Option.some.injEq, Prod.mk.injEq] at hat
    obtain ⟨_, rfl⟩ := hat
    have hi : i < l.length := by
     have := hk.1
     simp only [flatA_len] at this
     exact Nat.lt_of_succ_le (Nat.le_of_mul_le_mul_right this h0)
    obtain ⟨a, c, q1, q2⟩ := getP_ok π' t _ _ _ hg hk.2
    obtain ⟨f1, f2⟩ := flatA_split t l hi
    refine ⟨(l.take i).flatMap (encA t) ++ a, c ++ (l.drop (i + 1)).flatMap (encA t), ?_, ?_⟩
    ·rw [hob, f1, q1]; simp
    ·rw [List.length_append, f2, q2]; rfl
  ·cases h5
 ·obtain ⟨t, x, h1, h2, h3⟩ := boxK_ok hr
  split at h1
  ·rename_i sg hg
   refine ⟨sg, h1, h2, fun g S w v hI e e2 hv => ?_⟩
   cases hv with
   | tp _ _ b s hat hk =>
    obtain ⟨a, c, q1, q2⟩ := getP_ok π t x _ _ hg hk
    exact ⟨a, c, by rw [h3 g S w b s hI e e2 hat, q1], q2⟩
  ·cases h1
def putRow {β : Type} (h : H) (X : Ref) (t : Ty) (l : List t.T) (k : H → Option β) : Option β := bif lkd h (rs1 X) then none else match X with
 | .loc o => setT h.t o (some (.row t l)) (fun t1 => k { h with t := t1 })
 | .reg r j => match rfind h.rg r with
  | some ⟨_, .row t', c⟩ => match castT (.slc t) (.slc t') l with
   | some l' => k { h with rg := rput h.rg r (.row t') (upd (α := Option (List t'.T)) c j (some l')) }
   | none => none
  | _ => none
def putBox {β : Type} (h : H) (X : Ref) (t : Ty) (x : t.T) (k : H → Option β) : Option β := bif lkd h (rs1 X) then none else match X with
 | .loc o => setT h.t o (some (.one t x)) (fun t1 => k { h with t := t1 })
 | .reg r j => match rfind h.rg r with
  | some ⟨_, .box t', c⟩ => match castT t t' x with
   | some x' => k { h with rg := rput h.rg r (.box t') (upd (α := t'.T) c j x') }
   | none => none
  | _ => none
theorem bif_none {α : Type} {c : Bool} {x : Option α} {r : α} (h : (bif c then none else x) = some r) : c = false ∧ x = some r := by
 cases c with
 | true => cases h
 | false => exact ⟨rfl, h⟩
def subT : List Sp → Ty → Option Ty
 | [], t => some t
 | .fst :: π, .pair a _ => subT π a
 | .snd _ :: π, .pair _ b => subT π b
 | .ai _ _ _ :: π, .arr _ t => subT π t
 | _, _ => none
def subR (π : List Sp) (t : Ty) : Option Ty := match π with
 | .ix _ _ :: π' => subT π' t
 | _ => none
def plT (h : H) (X : Ref) (π : List Sp) : Option Ty := match X with
 | .loc o => match h.t.get o with
  | some (.one t _) => subT π t
  | some (.row t _) => subR π t
  | _ => none
 | .reg r _ => match rfind h.rg r with
  | some ⟨_, .box t, _⟩ => subT π t
  | some ⟨_, .row t, _⟩ => subR π t
  | _ => none
def PutOk (h h' : H) (X : Ref) (x : Ob) : Prop := (∀ i, touch (.wr [rs1 X]) i = false → (hp h').ob i = (hp h).ob i ∧ ((hp h').fr i ↔ (hp h).fr i)) ∧ (¬ (hp h).fr X.id → hp h' = app [.set X.id x] (hp h))
theorem touch_rg {r i : Nat} {w : Bool} {s : List Nat} (hr : r < 64) (h : touch ⟨false, [rgn r], w, s⟩ i = false) : ¬ (¬ i < lim ∧ rOf i = r) := fun ⟨h1, h2⟩ => by
 have e := rid_of h1
 rw [h2] at e
 rw [e, touch_reg (r := r) (j := jOf i) hr (.head _)] at h
 cases h
theorem out_loc {h h' : H} {o : Nat} {x : Ob} (ho : o < 16777215) (e : hp h' = app [.set o x] (hp h)) (i : Nat) (hi : touch (.wr [rs1 (.loc o)]) i = false) : (hp h').ob i = (hp h).ob i ∧ ((hp h').fr i ↔ (hp h).fr i) := by
 rw [e]
 refine app_out _ _ i (fun u hu he => ?_)
 rcases List.mem_singleton.1 hu with rfl
 have h2 : i = o := he
 subst h2
 rw [show touch (.wr [rs1 (.loc i)]) i = true from touch_loc (o := i) (lt15 ho) (.head _)] at hi
 cases hi
theorem putRow_ok {β : Type} {h : H} {X : Ref} {t : Ty} {l : List t.T} {k : H → Option β} {r : β} (hx : okR X = true) (hr : putRow h X t l k = some r) : ∃ h', k h' = some r ∧ PutOk h h' X (.cells (l.flatMap (encA t))) := by
 obtain ⟨_, hr⟩ := bif_none hr
 cases X with
 | loc o =>
  obtain ⟨hq, t1, k1, k2⟩ := setT_inv hr
  have e := hp_set (h := h) (x := .row t l) (lt15 hq) k2
  exact ⟨_, k1, out_loc hq e, fun _ => e⟩
 | reg r j =>
  simp only at hr
  split at hr
  ·rename_i _ t' c hf
   split at hr
   ·rename_i l' hl
    obtain ⟨e, rfl⟩ := castT_eq hl
    cases e
    have h3 : r < 64 := blt_lt hx
    refine ⟨_, hr, fun i hi => ?_, fun hfr => ?_⟩
    ·have hn := touch_rg h3 hi
     have := hp_rput (h := h) (k := .row t) (c := upd (α := Option (List t.T)) c j (some l)) hf i
     rw [if_neg hn, if_neg hn] at this
     exact this
    ·have hlt : j < List.length (α := Option (List t.T)) c := by
      rcases Nat.lt_or_ge j (List.length (α := Option (List t.T)) c) with hlt | hge
      ·exact hlt
      ·exact absurd (by rw [show (Ref.reg r j).id = rid r j from rfl, hp_reg.2, regFr_eq h3 hf]; exact hge) hfr
     exact hp_mem (j := j) (u := .set (rid r j) _) h3 hf (upd_len (α := Option (List t.T)) c j _) (fun i hi => by rw [regOb_updR (c := c) hlt, if_neg hi]) rfl (by rw [regOb_updR (c := c) hlt, if_pos rfl]; exact set_ob) rfl
   ·cases hr
  ·cases hr
theorem putBox_ok {β : Type} {h : H} {X : Ref} {t : Ty} {x : t.T} {k : H → Option β} {r : β} (hx : okR X = true) (hr : putBox h X t x k = some r) : ∃ h', k h' = some r ∧ PutOk h h' X (.cells (encA t x)) := by
 obtain ⟨_, hr⟩ := bif_none hr
 cases X with
 | loc o =>
  obtain ⟨hq, t1, k1, k2⟩ := setT_inv hr
  have e := hp_set (h := h) (x := .one t x) (lt15 hq) k2
  exact ⟨_, k1, out_loc hq e, fun _ => e⟩
 | reg r j =>
  simp only at hr
  split at hr
  ·rename_i _ t' c hf
   split at hr
   ·rename_i l' hl
    obtain ⟨e, rfl⟩ := castT_eq hl
    cases e
    have h3 : r < 64 := blt_lt hx
    refine ⟨_, hr, fun i hi => ?_, fun hfr => ?_⟩
    ·have hn := touch_rg h3 hi
     have := hp_rput (h := h) (k := .box t) (c := upd (α := t.T) c j x) hf i
     rw [if_neg hn, if_neg hn] at this
     exact this
    ·have hlt : j < List.length (α := t.T) c := by
      rcases Nat.lt_or_ge j (List.length (α := t.T) c) with hlt | hge
      ·exact hlt
      ·exact absurd (by rw [show (Ref.reg r j).id = rid r j from rfl, hp_reg.2, regFr_eq h3 hf]; exact hge) hfr
     exact hp_mem (j := j) (u := .set (rid r j) _) h3 hf (upd_len (α := t.T) c j _) (fun i hi => by rw [regOb_updB (c := c) hlt, if_neg hi]) rfl (by rw [regOb_updB (c := c) hlt, if_pos rfl]; exact set_ob) rfl
   ·cases hr
  ·cases hr
def setK {β : Type} (h : H) (X : Ref) (π : List Sp) (u : Ty) (y : u.T) (k : H → Option β) : Option β := match π with
 | .ix i z :: π' => rowK h X (fun t l => bif Nat.beq z t.size && Nat.blt 0 z then (match setP u y π' t (nth t.dflt l i) with
  | some x => putRow h X t (upd l i x) k
  | none => none) else none)
 | π => boxK h X (fun t x => match setP u y π t x with
  | some x => putBox h X t x k
  | none => none)
theorem upd_flat (t : Ty) (l : List t.T) {i : Nat} (hi : i < l.length) (x : t.T) {k : Nat} {ps : List A} (he : encA t x = put (encA t (nth t.dflt l i)) k ps) (hk : k + ps.length ≤ t.size) : (upd l i x).flatMap (encA t) = put (l.flatMap (encA t)) (i * t.size + k) ps := by
 obtain ⟨f1, f2⟩ := flatA_split t l hi
 have hu : i < (upd l i x).length := by simpa [upd] using hi
 obtain ⟨g1, g2⟩ := flatA_split t (upd l i x) hu
 have e1 : (upd l i x).take i = l.take i := by simp [upd, List.take_set_of_le]
 have e2 : (upd l i x).drop (i + 1) = l.drop (i + 1) := by simp [upd, List.drop_set]
 have e3 : nth t.dflt (upd l i x) i = x := by simp [nth, upd, List.getD_eq_getElem?_getD, hi]
 rw [g1, f1, e1, e2, e3, ← f2, put_in (by rw [encA_len]; exact hk), he]
theorem setK_ok {β : Type} {h : H} {X : Ref} {π : List Sp} {u : Ty} {y : u.T} {k : H → Option β} {r : β} (hr : setK h X π u y k = some r) : ∃ h', k h' = some r ∧ okR X = true ∧ (∀ i, touch (.wr [rs1 X]) i = false → (hp h').ob i = (hp h).ob i ∧ ((hp h').fr i ↔ (hp h).fr i)) ∧
  ∀ T, rs1 X ∈ T → ∀ g S w v, Inv g S w → Agree (Fp.wr (T)) (hp h) S → V g (.tp X π) v → ∃ cs, S.ob X.id = some (.cells cs) ∧ offS π + u.size ≤ cs.length ∧ ovr (Fp.wr (T)) (hp h') S = S.set X.id (.cells (put cs (offS π) (encA u y))) := by
 have fin : ∀ {h' : H} {x : Ob} {T : List Nat}, okR X = true → rs1 X ∈ T → PutOk h h' X x → ∀ g S w b s, Inv g S w → Agree (Fp.wr (T)) (hp h) S → g.at' X.id = some (some b, s) → ovr (Fp.wr (T)) (hp h') S = S.set X.id x := fun hx hT hp' g S w b s hI hA hat => by
  have hT := touch_ref hx (l := _) (w := true) (s := []) hT
  have hnf : ¬ (hp h).fr X.id := fun hf => by rw [hI.fresh _ ((hA _ hT).2.2 hf)] at hat; cases hat
  rw [hp'.2 hnf, ovr_app (fun u hu => by rcases List.mem_singleton.1 hu with rfl; exact hT) hA]; rfl
 unfold setK at hr
 split at hr
 ·rename_i i z π'
  obtain ⟨t, l, h1, h2, h3⟩ := rowK_ok hr
  obtain ⟨h4, h5⟩ := cond_some h1
  simp only [Bool.and_eq_true] at h4
  obtain rfl := beq_eq h4.1
  have h0 : 0 < t.size := blt_lt h4.2
  split at h5
  ·rename_i x hg
   obtain ⟨h', k1, k2⟩ := putRow_ok h2 h5
   refine ⟨h', k1, h2, k2.1, fun T hT g S w v hI hA hv => ?_⟩
   cases hv with
   | tp _ _ b s hat hk =>
    have hob := ((hA _ (touch_ref h2 hT)).1).trans h3
    have hov := fin h2 hT k2 g S w b s hI hA hat
    rcases hI.cells _ _ hob with ⟨k1, _⟩ | ⟨b', tt, k1, _⟩
    ·rw [k1] at hat; cases hat
    rw [k1] at hat
    simp only [Option.some.injEq, Prod.mk.injEq] at hat
    obtain ⟨_, rfl⟩ := hat
    have hi : i < l.length := by
     have := hk.1
     simp only [flatA_len] at this
     exact Nat.lt_of_succ_le (Nat.le_of_mul_le_mul_right this h0)
    obtain ⟨q1, q2⟩ := setP_ok u y π' t _ x _ hg hk.2
    have hpl : offS (.ix i t.size :: π') = i * t.size + offS π' := rfl
    refine ⟨_, hob, ?_, ?_⟩
    ·rw [flatA_len, hpl]
     have := Nat.mul_le_mul_right t.size (show i + 1 ≤ l.length from hi)
     rw [Nat.add_mul, Nat.one_mul] at this
     omega
    ·rw [hov, upd_flat t l hi x q1 (by rw [encA_len]; exact q2), hpl]
  ·cases h5
 ·obtain ⟨t, x, h1, h2, h3⟩ := boxK_ok hr
  split at h1
  ·rename_i x' hg
   obtain ⟨h', k1, k2⟩ := putBox_ok h2 h1
   refine ⟨h', k1, h2, k2.1, fun T hT g S w v hI hA hv => ?_⟩
   cases hv with
   | tp _ _ b s hat hk =>
    have hT' := hA _ (touch_ref h2 hT)
    obtain ⟨q1, q2⟩ := setP_ok u y π t x x' _ hg hk
    exact ⟨_, h3 g S w b s hI hT'.1 hT'.2 hat, by rw [encA_len]; exact q2, by rw [fin h2 hT k2 g S w b s hI hA hat, q1]⟩
  ·cases h1
end
end Go.Bm
set_option linter.unusedVariables false
set_option linter.unusedSimpArgs false
namespace Go.Bm
noncomputable section
open Go.RowKit
theorem Pok_app {s : Nat} : ∀ (π σ : List Sp), Pok s (π ++ σ) ↔ Pok s π ∧ Pok s σ
 | [], σ => ⟨fun h => ⟨trivial, h⟩, fun h => h.2⟩
 | .fst :: π, σ => Pok_app π σ
 | .snd _ :: π, σ => Pok_app π σ
 | .ix _ _ :: π, σ => (and_congr_right fun _ => Pok_app π σ).trans and_assoc.symm
 | .ai _ _ _ :: π, σ => (and_congr_right fun _ => Pok_app π σ).trans and_assoc.symm
theorem offS_app : ∀ (π σ : List Sp), offS (π ++ σ) = offS π + offS σ
 | [], σ => (Nat.zero_add _).symm
 | .fst :: π, σ => offS_app π σ
 | .snd c :: π, σ => by show c + offS (π ++ σ) = c + offS π + offS σ; rw [offS_app π σ, Nat.add_assoc]
 | .ix i z :: π, σ => by show i * z + offS (π ++ σ) = i * z + offS π + offS σ; rw [offS_app π σ, Nat.add_assoc]
 | .ai i n z :: π, σ => by show i * z + offS (π ++ σ) = i * z + offS π + offS σ; rw [offS_app π σ, Nat.add_assoc]
section
variable {P : Program} {E : Env} {o : Oper} {ρ : Operand → A} {h : H} {β : Type} {K : A → H → Fp → Option β} {r : β}
theorem Step.weak {h h' : H} {T : Fp} {pv pv' : A} (k : Step P o ρ h h' T pv) (hv : ∀ g v, V g pv v → V g pv' v) : Step P o ρ h h' T pv' where
 out := k.out
 rd := k.rd
 ok := fun S2 hS => fun r g w a next Q hI hx K' => k.ok S2 hS r g w a next Q hI hx (fun v g' w' h1 h2 h3 => K' v g' w' (hv _ _ h1) h2 h3)
def spK (v : A) (k : A → Option β) : Option β := match v with
 | .op r o => opt o (k (.v (.pointer none))) (fun j => k (.tp (.reg r j) []))
 | .os r z o => opt o (k .e0) (fun j => k (.tw (.reg r j) z))
 | .om r o => opt o (k (.v (.map none))) (fun j => k (.mp (.reg r j)))
 | v => k v
theorem spK_ok {v : A} {k : A → Option β} (hr : spK v k = some r) : ∃ v', k v' = some r ∧ ∀ g x, V g v x → V g v' x := by
 unfold spK at hr
 split at hr
 ·rcases opt_inv hr with ⟨e, h1⟩ | ⟨j, e, h1⟩
  ·exact ⟨_, h1, fun g x hv => by cases hv with | op _ _ _ h0 _ => rw [h0 e]; exact .v _⟩
  ·exact ⟨_, h1, fun g x hv => by cases hv with | op _ _ _ _ h0 => exact h0 j e⟩
 ·rcases opt_inv hr with ⟨e, h1⟩ | ⟨j, e, h1⟩
  ·exact ⟨_, h1, fun g x hv => by cases hv with | os _ _ _ _ h0 _ => exact h0 e⟩
  ·exact ⟨_, h1, fun g x hv => by cases hv with | os _ _ _ _ _ h0 => exact h0 j e⟩
 ·rcases opt_inv hr with ⟨e, h1⟩ | ⟨j, e, h1⟩
  ·exact ⟨_, h1, fun g x hv => by cases hv with | om _ _ _ h0 _ => rw [h0 e]; exact .v _⟩
  ·exact ⟨_, h1, fun g x hv => by cases hv with | om _ _ _ _ h0 => exact h0 j e⟩
 ·exact ⟨_, hr, fun g x hv => hv⟩
def Out (P : Program) (o : Oper) (ρ : Operand → A) (h : H) (K : A → H → Fp → Option β) (r : β) : Prop := ∃ pv h' T, K pv h' T = some r ∧ Step P o ρ h h' T pv
theorem Out.pure {v : A} (hr : K v h .no = some r) (k : ∀ S2, OpS P o ρ S2 S2 v) (hd : ∀ c, o.op ≠ .defer c) : Out P o ρ h K r := ⟨v, h, .no, hr, .pure k hd⟩
theorem Out.read {v : A} (T : List Nat) (hr : K v h (.rd T) = some r) (k : ∀ S2, Agree (.rd T) (hp h) S2 → OpS P o ρ S2 S2 v) (hd : ∀ c, o.op ≠ .defer c) : Out P o ρ h K r := ⟨v, h, .rd T, hr, .read _ k hd⟩
theorem Out.sp {h' : H} {T : Fp} {v : A} (hr : spK v (fun v => K v h' T) = some r) (k : Step P o ρ h h' T v) : Out P o ρ h K r := by
 obtain ⟨v', h1, h2⟩ := spK_ok hr
 exact ⟨v', h', T, h1, k.weak h2⟩
def mvK (x : A) (h : H) (K : A → H → Fp → Option β) : Option β := K x h .no
def extK (px : A) (ix : Nat) (h : H) (K : A → H → Fp → Option β) : Option β := match px with
 | .tup cs => match cs[ix]? with
  | some p => spK p (fun v => K v h .no)
  | none => none
 | _ => none
theorem extK_ok {x : Operand} {ix : Nat} (ho : o.op = .extract x ix) (hr : extK (ρ x) ix h K = some r) : Out P o ρ h K r := by
 unfold extK at hr
 split at hr
 ·rename_i cs hx
  split at hr
  ·rename_i p hp
   exact .sp hr (.pure (fun S2 => opS_extract ho hx hp) (by rw [ho]; intro c e; cases e))
  ·cases hr
 ·cases hr
def pickK (px py pz : A) (h : H) (K : A → H → Fp → Option β) : Option β := match px with
 | .v (.bool b) => br b (K py h .no) (K pz h .no)
 | _ => none
theorem pickK_ok {x y z : Operand} (ho : o.op = .pick x y z) (hr : pickK (ρ x) (ρ y) (ρ z) h K = some r) : Out P o ρ h K r := by
 unfold pickK at hr
 split at hr
 ·rename_i b hx
  rcases br_inv hr with ⟨rfl, h1⟩ | ⟨rfl, h1⟩
  ·exact .pure h1 (fun S2 => by have := opS_pick (P := P) (S := S2) ho hx; simpa using this) (by rw [ho]; intro c e; cases e)
  ·exact .pure h1 (fun S2 => by have := opS_pick (P := P) (S := S2) ho hx; simpa using this) (by rw [ho]; intro c e; cases e)
 ·cases hr
def binI (op : BinOp) (k : IntKind) (m n : Int) (K : Value → Option β) : Option β := match op with
 | .add => K (.int k (iadd k m n))
 | .sub => K (.int k (isub k m n))
 | .mul => K (.int k (imul k m n))
 | .quo => gd (ine n) (K (.int k (iquo k m n)))
 | .rem => gd (ine n) (K (.int k (irem m n)))
 | .and => K (.int k (bits .and k m n))
 | .or => K (.int k (bits .or k m n))
 | .xor => K (.int k (bits .xor k m n))
 | .andNot => K (.int k (bits .andNot k m n))
 | .eql => K (.bool (ieql m n))
 | .neq => K (.bool (bnot (ieql m n)))
 | .lss => K (.bool (ilss m n))
 | .leq => K (.bool (ileq m n))
 | .gtr => K (.bool (ilss n m))
 | .geq => K (.bool (ileq n m))
 | _ => none
theorem binI_ok {op : BinOp} {k : IntKind} {m n : Int} {K : Value → Option β} (hr : binI op k m n K = some r) : ∃ v, K v = some r ∧ ibin op k m n = some v := by
 cases op with
 | quo =>
  obtain ⟨h1, h2⟩ := gd_inv (show gd (ine n) (K (.int k (iquo k m n))) = some r from hr)
  exact ⟨_, h2, if_neg h1⟩
 | rem =>
  obtain ⟨h1, h2⟩ := gd_inv (show gd (ine n) (K (.int k (irem m n))) = some r from hr)
  exact ⟨_, h2, if_neg h1⟩
 | _ => first | exact ⟨_, hr, rfl⟩ | cases hr
def shI (op : BinOp) (k : IntKind) (m n : Int) (K : Value → Option β) : Option β := match op with
 | .shl => gd (ige n) (K (.int k (ishl k m n)))
 | .shr => gd (ige n) (K (.int k (ishr k m n)))
 | _ => none
theorem shI_ok {op : BinOp} {k : IntKind} {m n : Int} {K : Value → Option β} (hr : shI op k m n K = some r) : ∃ v, K v = some r ∧ ishift op k m n = some v := by
 cases op with
 | shl =>
  obtain ⟨h1, h2⟩ := gd_inv (show gd (ige n) (K (.int k (ishl k m n))) = some r from hr)
  exact ⟨_, h2, if_neg (by unfold ige at h1; omega)⟩
 | shr =>
  obtain ⟨h1, h2⟩ := gd_inv (show gd (ige n) (K (.int k (ishr k m n))) = some r from hr)
  exact ⟨_, h2, if_neg (by unfold ige at h1; omega)⟩
 | _ => cases hr
def isShf : BinOp → Bool
 | .shl => true
 | .shr => true
 | _ => false
def isEq : BinOp → Bool
 | .eql => true
 | .neq => true
 | _ => false
theorem isEq_or {op : BinOp} (h : isEq op = true) : op = .eql ∨ op = .neq := by cases op <;> first | exact .inl rfl | exact .inr rfl | cases h
def neg1 (op : BinOp) (b : Bool) : Bool := match op with
 | .eql => b
 | _ => bnot b
theorem neg1_eq {op : BinOp} (b : Bool) (h : isEq op = true) : neg1 op b = if op = .eql then b else !b := by
 rcases isEq_or h with rfl | rfl <;> rfl
def nilS (p q : A) : Option Bool := match q with
 | .v (.slice none 0 0) => match p with
  | .v (.slice none _ _) => some true
  | .nn _ _ => some false
  | .as _ _ _ _ => some false
  | .sl _ _ _ _ => some false
  | _ => none
 | _ => none
theorem nilS_ok {g : G} {p q : A} {u v : Value} {b : Bool} (h : nilS p q = some b) (hp : V g p u) (hq : V g q v) : v = .slice none 0 0 ∧ ∃ A n c, u = .slice A n c ∧ A.isNone = b := by
 unfold nilS at h
 split at h
 ·cases hq
  refine ⟨rfl, ?_⟩
  split at h
  ·cases h; cases hp; exact ⟨_, _, _, rfl, rfl⟩
  ·cases h; cases hp; exact ⟨_, _, _, rfl, rfl⟩
  ·cases h; cases hp; exact ⟨_, _, _, rfl, rfl⟩
  ·cases h; cases hp; exact ⟨_, _, _, rfl, rfl⟩
  ·cases h
 ·cases h
theorem run_eqs' (d : Nat) (w : World) {T E : TypeId} (hT : P.underlying T = some (.slice E)) (A : Option Addr) (n c : Nat) : (Op.equalIn (d + 1) T (.slice A n c) (.slice none 0 0)).run P w = .ok A.isNone w := by
 cases A <;> simp [Op.equalIn, run_underlying hT]
theorem run_eqs (w : World) {T E : TypeId} (hT : P.underlying T = some (.slice E)) (A : Option Addr) (n c : Nat) : (Op.equalIn 10000 T (.slice A n c) (.slice none 0 0)).run P w = .ok A.isNone w := run_eqs' 9999 w hT A n c
theorem opS_eqs {S : Hp} {op : BinOp} {T T' E : TypeId} {x y : Operand} {b : Bool} (ho : o.op = .binOp op T x y T') (hT : P.underlying T = some (.slice E)) (hop : op = .eql ∨ op = .neq)
  (hb : nilS (ρ x) (ρ y) = some b) : OpS P o ρ S S (.v (.bool (if op = .eql then b else !b))) :=
 .value fun g w a _ hv => by
  obtain ⟨e2, A, n, c, h1, h2⟩ := nilS_ok hb (hv x (by simp [ho, Op.operands])) (hv y (by simp [ho, Op.operands]))
  have hrun := run_eqs (P := P) w hT A n c
  rw [h2] at hrun
  refine ⟨.bool (if op = .eql then b else !b), ?_, .v _⟩
  have hguard : (eqGuard op T x y (.slice A n c) (.slice none 0 0)).run P w = .ok () w := by
   rcases hop with rfl | rfl <;> rfl
  rcases hop with rfl | rfl
  ·have hb : (binOp .eql T (.slice A n c) (.slice none 0 0)).run P w = .ok (.bool b) w := by
    simp only [binOp]; simp [Op.equal, Op.maxDepth, hrun]
   simp only [execOp, ho, h1, e2, Sem.run_bind, hguard, Result.andThen_ok, if_true, hb, Sem.run_pure]
  ·have hb : (binOp .neq T (.slice A n c) (.slice none 0 0)).run P w = .ok (.bool (!b)) w := by
    simp only [binOp]; simp [Op.equal, Op.maxDepth, hrun]
   simp only [execOp, ho, h1, e2, Sem.run_bind, hguard, Result.andThen_ok, hb, Sem.run_pure]
   rfl
def binK (E : Env) (op : BinOp) (T : Nat) (px py : A) (h : H) (K : A → H → Fp → Option β) : Option β := match px, py with
 | .v (.int k m), .v (.int k' n) => bif isShf op then shI op k m n (fun v => K (.v v) h .no) else if k = k' then binI op k m n (fun v => K (.v v) h .no) else none
 | .v (.bool p), .v (.bool q) => bif isEq op then (match tget E.tab T with
  | some ⟨.bool, _, _, _, _, _, _⟩ => K (.v (.bool (neg1 op (beql p q)))) h .no
  | _ => none) else none
 | px, py => bif isEq op then (match tget E.tab T with
  | some e => match e.d with
   | .pointer _ => match nilEq px py with
    | some b => K (.v (.bool (neg1 op b))) h .no
    | none => none
   | .slice _ => match nilS px py with
    | some b => K (.v (.bool (neg1 op b))) h .no
    | none => none
   | .struct _ => bif isAggP px && isAggP py && E.eqs.any (Nat.beq T) then (match px.cells, py.cells with
    | some cs, some ds => match eqC E 6 T cs ds with
     | some b => K (.v (.bool (neg1 op b))) h .no
     | none => none
    | _, _ => none) else none
   | _ => none
  | none => none) else none
theorem binK_ok (hE : EnvOk P E) {op : BinOp} {T T' : TypeId} {x y : Operand} (ho : o.op = .binOp op T x y T') (hr : binK E op T (ρ x) (ρ y) h K = some r) : Out P o ρ h K r := by
 have hd : ∀ c, o.op ≠ .defer c := by rw [ho]; intro c e; cases e
 unfold binK at hr
 split at hr
 ·rename_i k m k' n hx hy
  cases hs : isShf op with
  | true =>
   rw [hs] at hr
   simp only [cond_true] at hr
   obtain ⟨v, h1, h2⟩ := shI_ok hr
   exact .pure h1 (fun S2 => opS_shift ho hx hy h2) hd
  | false =>
   rw [hs] at hr
   simp only [cond_false] at hr
   split at hr
   ·rename_i hk; subst hk
    obtain ⟨v, h1, h2⟩ := binI_ok hr
    exact .pure h1 (fun S2 => opS_bin ho hx hy h2) hd
   ·cases hr
 ·rename_i p q hx hy
  obtain ⟨hq, hr⟩ := cond_some hr
  split at hr
  ·rename_i ht
   refine .pure hr (fun S2 => ?_) hd
   have := opS_eqb (P := P) (S := S2) ho (hE.tab _ _ ht).u hx hy (isEq_or hq)
   rw [neg1_eq _ hq]
   rcases isEq_or hq with rfl | rfl <;> exact this
  ·cases hr
 ·obtain ⟨hq, hr⟩ := cond_some hr
  split at hr
  ·rename_i e ht
   split at hr
   ·rename_i el hdd
    split at hr
    ·rename_i b hb
     refine .pure hr (fun S2 => ?_) hd
     rw [neg1_eq _ hq]
     exact opS_eqptr ho (by rw [(hE.tab _ _ ht).u, hdd]) hb (isEq_or hq)
    ·cases hr
   ·rename_i el hdd
    split at hr
    ·rename_i b hb
     refine .pure hr (fun S2 => ?_) hd
     rw [neg1_eq _ hq]
     exact opS_eqs ho (by rw [(hE.tab _ _ ht).u, hdd]) (isEq_or hq) hb
    ·cases hr
   ·rename_i fs hdd
    obtain ⟨hc, hr⟩ := cond_some hr
    simp only [Bool.and_eq_true] at hc
    split at hr
    ·rename_i cs ds h1 h2
     split at hr
     ·rename_i b hb
      refine .pure hr (fun S2 => ?_) hd
      rw [neg1_eq _ hq]
      exact opS_eqagg hE ho ht (by rw [hdd]; rfl) (hE.eqs _ hc.2) hc.1.1 hc.1.2 h1 h2 hb (by omega) (isEq_or hq)
     ·cases hr
    ·cases hr
   ·cases hr
  ·cases hr
def unK (op : UnOp) (px : A) (h : H) (K : A → H → Fp → Option β) : Option β := match op, px with
 | .not, .v (.bool b) => K (.v (.bool (bnot b))) h .no
 | _, _ => none
theorem unK_ok {op : UnOp} {T : TypeId} {x : Operand} (ho : o.op = .unOp op T x) (hr : unK op (ρ x) h K = some r) : Out P o ρ h K r := by
 unfold unK at hr
 split at hr
 ·rename_i b hx
  exact .pure hr (fun S2 => opS_not ho hx) (by rw [ho]; intro c e; cases e)
 ·cases hr
def cvK (E : Env) (s d : Nat) (px : A) (h : H) (K : A → H → Fp → Option β) : Option β := match tget E.tab s, tget E.tab d, px with
 | some _, some ⟨.int k', _, _, _, _, _, _⟩, .v (.int _ n) => K (.v (.int k' (wrp k' n))) h .no
 | _, _, _ => none
theorem cvK_ok (hE : EnvOk P E) {s d : TypeId} {x : Operand} (ho : o.op = .convert s d x) (hr : cvK E s d (ρ x) h K = some r) : Out P o ρ h K r := by
 unfold cvK at hr
 split at hr
 ·rename_i es _ _ _ _ _ _ _ _ _ hs hd' hx
  exact .pure hr (fun S2 => opS_conv ho (by rw [(hE.tab _ _ hs).u]; rfl) (hE.tab _ _ hd').u hx) (by rw [ho]; intro c e; cases e)
 ·cases hr
def nilK (px : A) (h : H) (K : A → H → Fp → Option β) : Option β := bif isP px then K px h .no else none
theorem nilK_ok {x : Operand} (ho : o.op = .nilCheck x) (hr : nilK (ρ x) h K = some r) : Out P o ρ h K r := by
 obtain ⟨h1, h2⟩ := cond_some hr
 exact .pure h2 (fun S2 => opS_nilCheck ho h1) (by rw [ho]; intro c e; cases e)
end
end
end Go.Bm
set_option linter.unusedVariables false
set_option linter.unusedSimpArgs false
namespace Go.Bm
noncomputable section
open Go.RowKit
section
variable {P : Program} {E : Env} {o : Oper} {ρ : Operand → A} {h : H} {β : Type} {K : A → H → Fp → Option β} {r : β}
def fldS : Nat → Ty → Nat → Option (List Sp)
 | 1, _, 0 => some []
 | _ + 2, .pair _ _, 0 => some [.fst]
 | n + 2, .pair a b, f + 1 => match fldS (n + 1) b f with
  | some π => some (.snd a.size :: π)
  | none => none
 | _, _, _ => none
theorem fldS_ok {s : Nat} : ∀ (n : Nat) (t : Ty) (f : Nat) (π : List Sp), fldS n t f = some π → Pok s π
 | 0, _, _, _, h => by simp [fldS] at h
 | 1, _, 0, _, h => by simp [fldS] at h; subst h; trivial
 | 1, _, f + 1, _, h => by simp [fldS] at h
 | n + 2, .pair a b, 0, _, h => by simp [fldS] at h; subst h; trivial
 | n + 2, .pair a b, f + 1, _, h => by
  simp only [fldS] at h
  split at h
  ·rename_i π' h'
   cases h
   exact fldS_ok (s := s) (n + 1) b f π' h'
  ·cases h
 | n + 2, .int _, f, _, h => by cases f <;> simp [fldS] at h
 | n + 2, .bool, f, _, h => by cases f <;> simp [fldS] at h
 | n + 2, .unit, f, _, h => by cases f <;> simp [fldS] at h
 | n + 2, .arr _ _, f, _, h => by cases f <;> simp [fldS] at h
 | n + 2, .slc _, f, _, h => by cases f <;> simp [fldS] at h
 | n + 2, .ptr _, f, _, h => by cases f <;> simp [fldS] at h
 | n + 2, .nptr _, f, _, h => by cases f <;> simp [fldS] at h
 | n + 2, .rsl _ _, f, _, h => by cases f <;> simp [fldS] at h
 | n + 2, .wrg _ _, f, _, h => by cases f <;> simp [fldS] at h
 | n + 2, .mp _, f, _, h => by cases f <;> simp [fldS] at h
def fldK (E : Env) (T f : Nat) (px : A) (h : H) (K : A → H → Fp → Option β) : Option β := match tget E.tab T with
 | some ⟨.struct fs, _, _, _, _, t, _⟩ => match fs[f]? with
  | some fd => match tget E.tab fd.type with
   | some e => bif Nat.blt 0 e.size then (match px with
    | .ptr o off => K (.ptr o (off + fd.offset)) h .no
    | .tp X π => match t with
     | some t => match fldS fs.size t f with
      | some σ => bif Nat.beq (offS σ) fd.offset then K (.tp X (π ++ σ)) h .no else none
      | none => none
     | none => none
    | .dp t x => match fldS fs.size t f with
     | some σ => bif Nat.beq (offS σ) fd.offset then (match getP σ t x with
      | some s => K (.dp s.t s.x) h .no
      | none => none) else none
     | none => none
    | _ => none) else none
   | none => none
  | none => none
 | _ => none
theorem fldK_ok (hE : EnvOk P E) {T f : Nat} {x : Operand} (ho : o.op = .fieldAddr T x f) (hr : fldK E T f (ρ x) h K = some r) : Out P o ρ h K r := by
 have hd : ∀ c, o.op ≠ .defer c := by rw [ho]; intro c e; cases e
 unfold fldK at hr
 split at hr
 ·rename_i fs _ _ _ _ t _ ht
  split at hr
  ·rename_i fd hf
   split at hr
   ·rename_i e he
    obtain ⟨h0, hr⟩ := cond_some hr
    have h0 := blt_lt h0
    have rule : ∀ {v : A}, (∀ g u, V g (ρ x) u → ∃ b off, u = .pointer (some ⟨b, off, none⟩) ∧ V g v (.pointer (some ⟨b, off + fd.offset, none⟩))) → ∀ S2, OpS P o ρ S2 S2 v := fun hv S2 =>
     opS_field ho (hE.tab _ _ ht).u hf (hE.tab _ _ he).ti.size (by omega) hv
    split at hr
    ·rename_i q off hx
     refine .pure hr (rule fun g u hu => ?_) hd
     rw [hx] at hu
     cases hu with
     | ptr _ _ b s hb => exact ⟨b, off, rfl, .ptr _ _ b s hb⟩
    ·rename_i X π hx
     split at hr
     ·rename_i t'
      split at hr
      ·rename_i σ hσ
       obtain ⟨hc, hr⟩ := cond_some hr
       refine .pure hr (rule fun g u hu => ?_) hd
       rw [hx] at hu
       cases hu with
       | tp _ _ b s hb hk =>
        refine ⟨b, offS π, rfl, ?_⟩
        rw [← beq_eq hc, ← offS_app]
        exact .tp X _ b s hb ((Pok_app π σ).2 ⟨hk, fldS_ok _ _ _ _ hσ⟩)
      ·cases hr
     ·cases hr
    ·rename_i t' y hx
     split at hr
     ·rename_i σ hσ
      obtain ⟨hc, hr⟩ := cond_some hr
      split at hr
      ·rename_i sg hsg
       refine .pure hr (rule fun g u hu => ?_) hd
       rw [hx] at hu
       cases hu with
       | dp _ _ b off f hm =>
        obtain ⟨a, c, q1, q2⟩ := getPD_ok σ t' y 0 sg hsg (fldS_ok _ _ _ _ hσ)
        refine ⟨b, off, rfl, .dp sg.t sg.x b _ (fun j => f (offS σ + j)) (fun j d hj => ?_)⟩
        have := hm (offS σ + j) d (by
         rw [q1, List.getElem?_append_right (by omega), show offS σ + j - a.length = j by omega, List.getElem?_append_left (List.getElem?_eq_some_iff.1 hj).1]; exact hj)
        rw [← beq_eq hc, Nat.add_assoc]
        exact this
      ·cases hr
     ·cases hr
    ·cases hr
   ·cases hr
  ·cases hr
 ·cases hr
def spl : Nat → Nat → Int → (Nat → Option β) → Option β
 | 0, _, _, _ => none
 | n + 1, i, m, k => br (ieql m (zN i)) (k i) (spl n (i + 1) m k)
theorem spl_ok {m : Int} {k : Nat → Option β} : ∀ (n i : Nat), spl n i m k = some r → ∃ j, k j = some r ∧ m = ((j : Nat) : Int) ∧ i ≤ j ∧ j < i + n
 | 0, i, h => by cases h
 | n + 1, i, h => by
  rcases br_inv h with ⟨e, h1⟩ | ⟨e, h1⟩
  ·exact ⟨i, h1, of_decide_eq_true e, Nat.le_refl _, by omega⟩
  ·obtain ⟨j, k1, k2, k3, k4⟩ := spl_ok n (i + 1) h1
   exact ⟨j, k1, k2, by omega, by omega⟩
def litN : Operand → Option Nat
 | .const (.int _ (.ofNat n)) => some n
 | _ => none
theorem nN_eq {n : Int} (h : ige n) : ((nN n : Nat) : Int) = n := Int.toNat_of_nonneg h
def ixK (E : Env) (T : Nat) (px : A) (y : Operand) (py : A) (h : H) (K : A → H → Fp → Option β) : Option β := match py with
 | .v (.int _ n) => match tget E.tab T with
  | some ⟨.array len el, _, _, _, _, _, _⟩ => match tget E.tab el with
   | some e => match px with
    | .ptr q off => match litN y with
     | some i => gd (neq (nN n) i) (bif Nat.blt i len then gd (ige n) (K (.ptr q (off + i * e.size)) h .no) else none)
     | none => spl len 0 n (fun i => K (.ptr q (off + i * e.size)) h .no)
    | .tp X π => gd (ige n) (gd (nlt (nN n) len) (K (.tp X (π ++ [.ai (nN n) len e.size])) h .no))
    | .dp t x => gd (ige n) (gd (nlt (nN n) len) (bif Nat.blt 0 e.size then (match getP [.ai (nN n) len e.size] t x with
     | some s => K (.dp s.t s.x) h .no
     | none => none) else none))
    | _ => none
   | none => none
  | some ⟨.slice el, _, _, _, _, _, _⟩ => match tget E.tab el with
   | some e => bif Nat.blt 0 e.size then (match px with
    | .tl t _ l => bif Nat.beq t.size e.size then gd (ige n) (gd (nlt (nN n) (len l)) (K (.dp t (nth t.dflt l (nN n))) h .no)) else none
    | .tw X z => bif Nat.beq z e.size then rowK h X (fun t l => bif Nat.beq z t.size then gd (ige n) (gd (nlt (nN n) (len l)) (K (.tp X [.ix (nN n) z]) h (.rd [rs1 X]))) else none) else none
    | .ts X z off m => bif Nat.beq z e.size then gd (ige n) (gd (nlt (nN n) m) (K (.tp X [.ix (nadd off (nN n)) z]) h .no)) else none
    | .tf X z off m => bif Nat.beq z e.size then gd (ige n) (gd (nlt (nN n) m) (K (.tp X [.ix (nadd off (nN n)) z]) h .no)) else none
    | .as X π m z => bif Nat.beq z e.size then gd (ige n) (gd (nlt (nN n) m) (K (.tp X (π ++ [.ai (nN n) m z])) h .no)) else none
    | .sl q off z m => bif Nat.beq z e.size then spl m 0 n (fun i => K (.ptr q (off + i * z)) h .no) else none
    | _ => none) else none
   | none => none
  | _ => none
 | _ => none
theorem flat_at {t : Ty} {l : List t.T} {i : Nat} (hi : i < l.length) {j : Nat} {c : D} (hj : (encD t (nth t.dflt l i))[j]? = some c) : (l.map (encD t)).flatten[i * t.size + j]? = some c := by
 have e : l = l.take i ++ nth t.dflt l i :: l.drop (i + 1) := by
  rw [show nth t.dflt l i = l[i] by simp [nth, List.getD_eq_getElem?_getD, List.getElem?_eq_getElem hi], List.getElem_cons_drop, List.take_append_drop]
 have hl : ((l.take i).flatMap (encD t)).length = i * t.size := by
  have : ∀ m : List t.T, (m.flatMap (encD t)).length = m.length * t.size := fun m => by
   induction m with
   | nil => simp
   | cons a m ih => rw [List.flatMap_cons, List.length_append, ih, encD_len, List.length_cons, Nat.succ_mul, Nat.add_comm]
  rw [this, List.length_take, Nat.min_eq_left (Nat.le_of_lt hi)]
 rw [flat_map]
 conv => lhs; rw [e]
 rw [List.flatMap_append, List.flatMap_cons, List.getElem?_append_right (by omega), hl, show i * t.size + j - i * t.size = j by omega, List.getElem?_append_left (List.getElem?_eq_some_iff.1 hj).1]
 exact hj
theorem ixK_ok (hE : EnvOk P E) {T : Nat} {x y : Operand} (ho : o.op = .indexAddr T x y) (hr : ixK E T (ρ x) y (ρ y) h K = some r) : Out P o ρ h K r := by
 have hd : ∀ c, o.op ≠ .defer c := by rw [ho]; intro c e; cases e
 unfold ixK at hr
 split at hr
 ·rename_i k n hy
  split at hr
  ·rename_i len el _ _ _ _ _ _ ht
   split at hr
   ·rename_i e he
    have rule : ∀ {v : A}, 0 ≤ n ∧ n < len → (∀ g u, V g (ρ x) u → ∃ b off, u = .pointer (some ⟨b, off, none⟩) ∧ V g v (.pointer (some ⟨b, off + n.toNat * e.size, none⟩))) → ∀ S2, OpS P o ρ S2 S2 v := fun hn hv S2 =>
     opS_index_arr ho (hE.tab _ _ ht).u (hE.tab _ _ he).ti.size hy hn hv
    split at hr
    ·rename_i q off hx
     have ptr : ∀ i : Nat, n.toNat = i → ∀ g u, V g (ρ x) u → ∃ b off', u = .pointer (some ⟨b, off', none⟩) ∧ V g (.ptr q (off + i * e.size)) (.pointer (some ⟨b, off' + n.toNat * e.size, none⟩)) := fun i hi g u hu => by
      rw [hx] at hu
      cases hu with
      | ptr _ _ b s hb => exact ⟨b, off, rfl, by rw [hi]; exact .ptr _ _ b s hb⟩
     split at hr
     ·rename_i i _
      obtain ⟨h1, hr⟩ := gd_inv hr
      obtain ⟨h2, hr⟩ := cond_some hr
      obtain ⟨h3, hr⟩ := gd_inv hr
      have h4 := nN_eq h3
      have h1 : nN n = i := h1
      have h5 := blt_lt h2
      exact .pure hr (rule ⟨h3, by omega⟩ (ptr i h1)) hd
     ·obtain ⟨i, h1, h2, h3, h4⟩ := spl_ok _ _ hr
      exact .pure h1 (rule ⟨by omega, by omega⟩ (ptr i (by omega))) hd
    ·rename_i X π hx
     obtain ⟨h3, hr⟩ := gd_inv hr
     obtain ⟨h4, hr⟩ := gd_inv hr
     have h5 := nN_eq h3
     have h4 : nN n < len := h4
     refine .pure hr (rule ⟨h3, by omega⟩ (fun g u hu => ?_)) hd
     rw [hx] at hu
     cases hu with
     | tp _ _ b s hb hk =>
      refine ⟨b, offS π, rfl, ?_⟩
      have := V.tp (g := g) X (π ++ [.ai (nN n) len e.size]) b s hb ((Pok_app π [.ai (nN n) len e.size]).2 ⟨hk, show nN n < len ∧ True from ⟨h4, trivial⟩⟩)
      rw [offS_app] at this
      exact this
    ·rename_i t z hx
     obtain ⟨h3, hr⟩ := gd_inv hr
     obtain ⟨h4, hr⟩ := gd_inv hr
     obtain ⟨_, hr⟩ := cond_some hr
     have h5 := nN_eq h3
     have h4 : nN n < len := h4
     split at hr
     ·rename_i sg hsg
      refine .pure hr (rule ⟨h3, by omega⟩ (fun g u hu => ?_)) hd
      rw [hx] at hu
      cases hu with
      | dp _ _ b off f hm =>
       obtain ⟨a, c, q1, q2⟩ := getPD_ok _ t z 0 sg hsg ⟨h4, trivial⟩
       have q2 : a.length = nN n * e.size := q2
       refine ⟨b, off, rfl, .dp sg.t sg.x b _ (fun j => f (nN n * e.size + j)) (fun j d hj => ?_)⟩
       have := hm (nN n * e.size + j) d (by
        rw [q1, List.getElem?_append_right (by omega), show nN n * e.size + j - a.length = j by omega, List.getElem?_append_left (List.getElem?_eq_some_iff.1 hj).1]; exact hj)
       rw [Nat.add_assoc]
       exact this
     ·cases hr
    ·cases hr
   ·cases hr
  ·rename_i el _ _ _ _ _ _ ht
   split at hr
   ·rename_i e he
    obtain ⟨h0, hr⟩ := cond_some hr
    have h0 := blt_lt h0
    have rule : ∀ {v : A} {S2 : Hp}, (∀ g w u, Inv g S2 w → V g (ρ x) u → ∃ b off m cap, u = .slice (some ⟨b, off, none⟩) m cap ∧ (0 ≤ n ∧ n < m) ∧ V g v (.pointer (some ⟨b, off + n.toNat * e.size, none⟩))) → OpS P o ρ S2 S2 v := fun hv =>
     opS_index_sl ho (hE.tab _ _ ht).u (hE.tab _ _ he).ti.size hy hv
    split at hr
    ·rename_i t f l hx
     obtain ⟨h1, hr⟩ := cond_some hr
     obtain ⟨h3, hr⟩ := gd_inv hr
     obtain ⟨h4, hr⟩ := gd_inv hr
     have h5 := nN_eq h3
     have h4 : nN n < l.length := h4
     refine .pure hr (fun S2 => rule (fun g w u hI hu => ?_)) hd
     rw [hx] at hu
     cases hu with
     | tl _ _ _ _ hv =>
      rw [← beq_eq h1] at *
      generalize hes : List.map (encD t) l = es at hv
      have hesl : es.length = l.length := by rw [← hes, List.length_map]
      cases hv with
      | sl0 => simp at hesl; omega
      | sl _ _ _ a cap vs hz hc hf hn hx' hl hm hvv =>
       obtain ⟨p, rfl⟩ : ∃ p, a = some p := by
        cases a with
        | none => have := hn rfl; omega
        | some p => exact ⟨p, rfl⟩
       refine ⟨p.1, p.2, es.length, cap, rfl, ⟨h3, by omega⟩, .dp t _ p.1 _ (fun j => vs.getD (nN n * t.size + j) undef) (fun j c hj => ?_)⟩
       have hfl := flat_at (t := t) (l := l) h4 hj
       rw [hes] at hfl
       have hlt := (List.getElem?_eq_some_iff.1 hfl).1
       have hvs : vs[nN n * t.size + j]? = some (vs.getD (nN n * t.size + j) undef) := by
        rw [List.getD_eq_getElem?_getD, List.getElem?_eq_getElem (by rw [← hl]; exact hlt)]; rfl
       refine ⟨?_, hvv _ c _ hfl hvs⟩
       have := hm p _ _ rfl hvs
       rw [Nat.add_assoc]; exact this
    ·rename_i X z hx
     obtain ⟨h1, hr⟩ := cond_some hr
     obtain rfl := beq_eq h1
     obtain ⟨t, l, hr, hX, hob⟩ := rowK_ok hr
     obtain ⟨h2, hr⟩ := cond_some hr
     obtain ⟨h3, hr⟩ := gd_inv hr
     obtain ⟨h4, hr⟩ := gd_inv hr
     have h5 := nN_eq h3
     have h4 : nN n < l.length := h4
     have h2 := beq_eq h2
     refine .read _ hr (fun S2 hA => rule (fun g w u hI hu => ?_)) hd
     have hob2 := (hA _ (touch_ref hX (.head _))).1.trans hob
     rw [hx] at hu
     cases hu with
     | tw0 _ _ ad hat =>
      rcases hI.cells _ _ hob2 with ⟨_, k2⟩ | ⟨b, tt, k1, _⟩
      ·have := flatA_len t l
       rw [k2] at this
       have : 0 < l.length * t.size := Nat.mul_pos (by omega) (by omega)
       simp at *; omega
      ·rw [k1] at hat; cases hat
     | tw _ _ m b cap tt hat hn hx' hp d hd' =>
      rcases hI.cells _ _ hob2 with ⟨k1, _⟩ | ⟨b', tt', k1, _⟩
      ·rw [k1] at hat; cases hat
      have hat0 := hat
      rw [k1] at hat
      simp only [Option.some.injEq, Prod.mk.injEq] at hat
      obtain ⟨rfl, hlen, _⟩ := hat
      rw [flatA_len, h2] at hlen
      have hm : l.length = m := Nat.eq_of_mul_eq_mul_right (by omega) hlen
      refine ⟨b', d, m, cap, rfl, ⟨h3, by omega⟩, ?_⟩
      obtain rfl := hd' (by omega)
      have := V.tp (g := g) X [.ix (nN n) e.size] b' _ hat0 ⟨Nat.mul_le_mul_right _ (by omega), trivial⟩
      rw [show offS [.ix (nN n) e.size] = nN n * e.size from rfl] at this
      rw [Nat.zero_add]; exact this
    ·rename_i X z off m hx
     obtain ⟨h1, hr⟩ := cond_some hr
     obtain rfl := beq_eq h1
     obtain ⟨h3, hr⟩ := gd_inv hr
     obtain ⟨h4, hr⟩ := gd_inv hr
     have h5 := nN_eq h3
     have h4 : nN n < m := h4
     refine .pure hr (fun S2 => rule (fun g w u hI hu => ?_)) hd
     rw [hx] at hu
     cases hu with
     | ts0 _ _ _ _ _ _ hn => omega
     | ts _ _ _ _ b cap s hat hn hx' hs hp d hd' =>
      refine ⟨b, d, m, cap, rfl, ⟨h3, by omega⟩, ?_⟩
      obtain rfl := hd' (by omega)
      have := V.tp (g := g) X [.ix (nadd off (nN n)) e.size] b _ hat ⟨Nat.le_trans (Nat.mul_le_mul_right _ (show nadd off (nN n) + 1 ≤ off + m by unfold nadd; omega)) hs, trivial⟩
      rw [show offS [.ix (nadd off (nN n)) e.size] = (off + nN n) * e.size from rfl, Nat.add_mul] at this
      exact this
    ·rename_i X z off m hx
     obtain ⟨h1, hr⟩ := cond_some hr
     obtain rfl := beq_eq h1
     obtain ⟨h3, hr⟩ := gd_inv hr
     obtain ⟨h4, hr⟩ := gd_inv hr
     have h5 := nN_eq h3
     have h4 : nN n < m := h4
     refine .pure hr (fun S2 => rule (fun g w u hI hu => ?_)) hd
     rw [hx] at hu
     cases hu with
     | tf0 _ _ _ _ _ _ hn => omega
     | tf _ _ _ _ b s hat hx' hs d hd' =>
      refine ⟨b, d, m, m, rfl, ⟨h3, by omega⟩, ?_⟩
      obtain rfl := hd' (by omega)
      have := V.tp (g := g) X [.ix (nadd off (nN n)) e.size] b _ hat ⟨Nat.le_trans (Nat.mul_le_mul_right _ (show nadd off (nN n) + 1 ≤ off + m by unfold nadd; omega)) hs, trivial⟩
      rw [show offS [.ix (nadd off (nN n)) e.size] = (off + nN n) * e.size from rfl, Nat.add_mul] at this
      exact this
    ·rename_i X π m z hx
     obtain ⟨h1, hr⟩ := cond_some hr
     obtain rfl := beq_eq h1
     obtain ⟨h3, hr⟩ := gd_inv hr
     obtain ⟨h4, hr⟩ := gd_inv hr
     have h5 := nN_eq h3
     have h4 : nN n < m := h4
     refine .pure hr (fun S2 => rule (fun g w u hI hu => ?_)) hd
     rw [hx] at hu
     cases hu with
     | as _ _ _ _ b cap s hat hk hn hx' =>
      refine ⟨b, offS π, m, cap, rfl, ⟨h3, by omega⟩, ?_⟩
      have := V.tp (g := g) X (π ++ [.ai (nN n) m e.size]) b s hat ((Pok_app π [.ai (nN n) m e.size]).2 ⟨hk, show nN n < m ∧ True from ⟨h4, trivial⟩⟩)
      rw [offS_app] at this
      exact this
    ·rename_i q off z m hx
     obtain ⟨h1, hr⟩ := cond_some hr
     obtain rfl := beq_eq h1
     obtain ⟨i, k1, k2, k3, k4⟩ := spl_ok _ _ hr
     refine .pure k1 (fun S2 => rule (fun g w u hI hu => ?_)) hd
     rw [hx] at hu
     cases hu with
     | sl _ _ _ _ b cap s hat hn hx' hs =>
      refine ⟨b, off, m, cap, rfl, ⟨by omega, by omega⟩, ?_⟩
      rw [show n.toNat = i by omega]
      exact .ptr _ _ b s hat
    ·cases hr
   ·cases hr
  ·cases hr
 ·cases hr
end
end
end Go.Bm
set_option linter.unusedVariables false
set_option linter.unusedSimpArgs false
namespace Go.Bm
noncomputable section
open Go.RowKit
section
variable {P : Program} {E : Env} {o : Oper} {ρ : Operand → A} {h : H} {β : Type} {K : A → H → Fp → Option β} {r : β}
def ldK (E : Env) (T : Nat) (px : A) (h : H) (K : A → H → Fp → Option β) : Option β := match tget E.tab T with
 | some e => match px with
  | .ptr q off => bif Nat.blt q 16777216 then (match h.t.get q with
   | some (.cells cs) => bif aggT e.d then (bif Nat.ble (off + e.size) cs.length then K (.agg ((cs.drop off).take e.size)) h (.rd [rlo q]) else none) else (match cs[off]? with
    | some c => spK c (fun v => K v h (.rd [rlo q]))
    | none => none)
   | _ => none) else none
  | .tp X π => placeK h X π (fun s => bif Nat.beq s.t.size e.size then (bif aggT e.d then K (.agg (encA s.t s.x)) h (.rd [rs1 X]) else (match encA s.t s.x with
   | [c] => spK c (fun v => K v h (.rd [rs1 X]))
   | _ => none)) else none)
  | .dp t x => bif t.data && Nat.beq t.size e.size then (bif aggT e.d then K (.agg (encA t x)) h .no else (match encA t x with
   | [c] => spK c (fun v => K v h .no)
   | _ => none)) else none
  | _ => none
 | none => none
theorem ldV_ok (hE : EnvOk P E) {T : Nat} {px : A} (hr : ldK E T px h K = some r) : ∃ v l, K v h (.rd l) = some r ∧ ∀ S2, Agree (.rd l) (hp h) S2 → ∀ (o : Oper) (ρ : Operand → A) (x : Operand), o.op = .load T x → ρ x = px → OpV P o ρ S2 v := by
 have sp : ∀ {c : A} {l : List Nat}, spK c (fun v => K v h (.rd l)) = some r → (∀ S2, Agree (.rd l) (hp h) S2 → ∀ (o : Oper) (ρ : Operand → A) (x : Operand), o.op = .load T x → ρ x = px → OpV P o ρ S2 c) →
   ∃ v l, K v h (.rd l) = some r ∧ ∀ S2, Agree (.rd l) (hp h) S2 → ∀ (o : Oper) (ρ : Operand → A) (x : Operand), o.op = .load T x → ρ x = px → OpV P o ρ S2 v := fun h1 h2 => by
  obtain ⟨v, k1, k2⟩ := spK_ok h1
  exact ⟨v, _, k1, fun S2 hA o ρ x ho hx g w a hI hv => let ⟨u, q1, q2⟩ := h2 S2 hA o ρ x ho hx g w a hI hv; ⟨u, q1, k2 g u q2⟩⟩
 unfold ldK at hr
 split at hr
 ·rename_i e ht
  have hk := hE.tab _ _ ht
  split at hr
  ·rename_i q off
   obtain ⟨hq, hr⟩ := cond_some hr
   have hq := blt_lt hq
   split at hr
   ·rename_i cs hg
    have hob : (hp h).ob q = some (.cells cs) := by rw [hp_loc hq]; unfold tOb; rw [hg]; rfl
    cases ha : aggT e.d with
    | true =>
     rw [ha] at hr; simp only [cond_true] at hr
     obtain ⟨h1, hr⟩ := cond_some hr
     exact ⟨_, _, hr, fun S2 hA o ρ x ho hx => opV_load_agg ho hk.u ha hk.ti.size (by rw [hx]; rfl) ((hA q (touch_loc hq (.head _))).1.trans hob) (Nat.le_of_ble_eq_true h1)⟩
    | false =>
     rw [ha] at hr; simp only [cond_false] at hr
     split at hr
     ·rename_i c hc
      exact sp hr (fun S2 hA o ρ x ho hx => opV_load ho hk.u ha (by rw [hx]; rfl) ((hA q (touch_loc hq (.head _))).1.trans hob) hc)
     ·cases hr
   ·cases hr
  ·rename_i X π
   obtain ⟨sg, h1, hX, h2⟩ := placeK_ok hr
   obtain ⟨h3, h1⟩ := cond_some h1
   have h3 := beq_eq h3
   have at' : ∀ {S2 : Hp} {v : A} {o : Oper} {ρ : Operand → A} {x : Operand}, o.op = .load T x → ρ x = .tp X π → Agree (.rd [rs1 X]) (hp h) S2 → (∀ a c, S2.ob X.id = some (.cells (a ++ (encA sg.t sg.x ++ c))) → a.length = offS π → OpV P o ρ S2 v) → OpV P o ρ S2 v := fun {S2 v o ρ x} ho hx hA k => .at' fun g w a hI hv => by
    have hv1 := hv x (by simp [ho, Op.operands])
    rw [hx] at hv1
    have ha := hA _ (touch_ref hX (.head _))
    obtain ⟨a, c, q1, q2⟩ := h2 g _ w _ hI ha.1 ha.2 hv1
    exact k a c q1 q2
   have hpl : ∀ {ρ : Operand → A} {x : Operand}, ρ x = .tp X π → Pl (ρ x) = some (X.id, offS π) := fun hx => by rw [hx]; rfl
   cases ha : aggT e.d with
   | true =>
    rw [ha] at h1; simp only [cond_true] at h1
    refine ⟨_, _, h1, fun S2 hA o ρ x ho hx => at' ho hx hA fun a c q1 q2 => ?_⟩
    have := opV_load_agg (P := P) ho hk.u ha hk.ti.size (hpl hx) q1 (by simp only [List.length_append, encA_len]; omega)
    rwa [← q2, List.drop_left, ← h3, ← encA_len sg.t sg.x, List.take_left] at this
   | false =>
    rw [ha] at h1; simp only [cond_false] at h1
    split at h1
    ·rename_i c0 hc0
     refine sp h1 (fun S2 hA o ρ x ho hx => at' ho hx hA fun a c q1 q2 => ?_)
     refine opV_load ho hk.u ha (hpl hx) q1 ?_
     rw [← q2, List.getElem?_append_right (Nat.le_refl _), Nat.sub_self, hc0]; rfl
    ·cases h1
  ·rename_i t y
   obtain ⟨h1, hr⟩ := cond_some hr
   simp only [Bool.and_eq_true] at h1
   have h3 := beq_eq h1.2
   cases ha : aggT e.d with
   | true =>
    rw [ha] at hr; simp only [cond_true] at hr
    exact ⟨_, [], hr, fun S2 _ o ρ x ho hx => opV_load_dp ho hk.u (by rw [h3]; exact hk.ti.size) hx h1.1 (by rw [ha, if_pos rfl])⟩
   | false =>
    rw [ha] at hr; simp only [cond_false] at hr
    split at hr
    ·rename_i c0 hc0
     exact sp (l := []) hr (fun S2 _ o ρ x ho hx => opV_load_dp ho hk.u (by rw [h3]; exact hk.ti.size) hx h1.1 (by rw [ha, if_neg (by simp)]; exact hc0))
    ·cases hr
  ·cases hr
 ·cases hr
theorem ldK_ok (hE : EnvOk P E) {T : Nat} {x : Operand} (ho : o.op = .load T x) (hr : ldK E T (ρ x) h K = some r) : Out P o ρ h K r := by
 have hd : ∀ c, o.op ≠ .defer c := by rw [ho]; intro c e; cases e
 obtain ⟨v, l, k1, k2⟩ := ldV_ok hE hr
 exact .read _ k1 (fun S2 hA => .value (k2 S2 hA o ρ x ho rfl)) hd
def OpAt (P : Program) (o : Oper) (S S' : Hp) (pv : A) (g : G) (w : World) (a : Act) : Prop :=
 ∀ (next : Act → World → Prop) (Q : Exit → Act → World → Prop), (∀ v g' w', V g' pv v → Inv g' S' w' → Ext S g w S' g' w' → next (a.put o.dst v) w') → o.wp P a w next Q
theorem OpAt.pre {S S1 S' : Hp} {pv : A} {g g1 : G} {w : World} {a : Act} (k : OpAt P o S1 S' pv g1 w a) (e : Ext S g w S1 g1 w) : OpAt P o S S' pv g w a := fun next Q K => k next Q (fun v g' w' h1 h2 h3 => K v g' w' h1 h2 (e.trans h3))
theorem store_at {S : Hp} {T : TypeId} {x y : Operand} {p off n : Nat} {cs ps : List A} {g : G} {w : World} {a : Act} (ho : o.op = .store T x y) (hs : SizeIs P T n) (hI : Inv g S w) (hx : ∃ b s, g.at' p = some (some b, s) ∧ a.eval x = .pointer (some ⟨b, off, none⟩)) (hy : Vs g ps (a.eval y).cells.toList) (hl : ps.length = n)
  (hp : S.ob p = some (.cells cs)) (hn : off + n ≤ cs.length) : OpAt P o S (S.set p (.cells (put cs off ps))) .junk g w a := by
 intro next Q K
 obtain ⟨b, s, h, hu⟩ := hx
 obtain ⟨cur, ty, k2, k2', h3, h4⟩ := hI.store (off := off) hp h hy (by omega)
 unfold Oper.wp
 have hsz : (a.eval y).cells.size = n := by have := hy.1; simp at this; omega
 have hst := run_storeCells_at P b off ty (a.eval y).cells.toList 0 cur w k2 (by simpa using k2') hy.one
 simp only [execOp, ho, hu, Instr.storeAt, Instr.sureAddr, pure_bind, storeVar, Sem.run_bind, hs.run w, Result.andThen_ok, hsz, ne_eq, not_true_eq_false, if_false]
 simp only [Nat.add_zero] at hst
 simp only [hst, Result.andThen_ok, Sem.run_pure]
 exact K _ g _ (.junk _) h3 h4
theorem ovr_pre {T : Fp} {us : List Up} {S' S2 : Hp} (hT : ∀ u ∈ us, touch T u.id = true) : ovr T S' (app us S2) = ovr T S' S2 := by
 refine Hp.ext' (fun i => ?_) (fun i => ?_)
 ·show (if touch T i = true then _ else _) = (if touch T i = true then _ else _)
  split
  ·rfl
  ·rename_i hi; exact (app_out us S2 i (fun u hu e => hi (e ▸ hT u hu))).1
 ·show (if touch T i = true then _ else _) ↔ (if touch T i = true then _ else _)
  split
  ·exact Iff.rfl
  ·rename_i hi; exact (app_out us S2 i (fun u hu e => hi (e ▸ hT u hu))).2
def stK (E : Env) (T : Nat) (px py : A) (h : H) (K : A → H → Fp → Option β) : Option β := match tget E.tab T, py.cells with
 | some e, some ps => match px with
  | .ptr q off => bif Nat.blt q 16777216 then (match h.t.get q with
   | some (.cells cs) => bif Nat.beq ps.length e.size && Nat.ble (off + e.size) cs.length && !(lkd h (rlo q)) then setT h.t q (some (.cells (put cs off ps))) (fun t1 => K .junk { h with t := t1 } (.wr [rlo q])) else none
   | _ => none) else none
  | .tp X π => match plT h X π with
   | some u => bif Nat.beq u.size e.size then (fixP u ps h (fun ps' h1 T1 => match toC u ps' with
     | some y => setK h1 X π u y (fun h2 => K .junk h2 (.wr (rs1 X :: T1)))
     | none => none)) else none
   | none => none
  | _ => none
 | _, _ => none
theorem touch_app {T U : List Nat} {w : Bool} {s : List Nat} {i : Nat} (hU : ∀ j ∈ U, j ∈ T) (k : touch ⟨false, T, w, s⟩ i = false) : touch ⟨false, U, w, s⟩ i = false := by
 cases hx : touch ⟨false, U, w, s⟩ i with
 | false => rfl
 | true => rw [touch_mono hU hx] at k; cases k
theorem stK_ok (hE : EnvOk P E) {T : Nat} {x y : Operand} (ho : o.op = .store T x y) (hr : stK E T (ρ x) (ρ y) h K = some r) : Out P o ρ h K r := by
 have hd : ∀ c, o.op ≠ .defer c := by rw [ho]; intro c e; cases e
 unfold stK at hr
 split at hr
 ·rename_i e ps ht hps
  have hk := hE.tab _ _ ht
  split at hr
  ·rename_i q off hx
   obtain ⟨hq, hr⟩ := cond_some hr
   have hq := blt_lt hq
   split at hr
   ·rename_i cs hg
    have hob : (hp h).ob q = some (.cells cs) := by rw [hp_loc hq]; unfold tOb; rw [hg]; rfl
    obtain ⟨h1, hr⟩ := cond_some hr
    simp only [Bool.and_eq_true] at h1
    obtain ⟨_, t1, k1, k2⟩ := setT_inv hr
    exact ⟨_, _, _, k1, .of [.set q (.cells (put cs off ps))] (hp_set (x := .cells (put cs off ps)) hq k2) rfl (fun u hu => by rcases List.mem_singleton.1 hu with rfl; exact touch_loc (o := q) hq (.head _))
     (fun S2 hA => opS_store ho hk.ti.size (by rw [hx]; rfl) hps (beq_eq h1.1.1) ((hA q (touch_loc hq (.head _))).1.trans hob) (Nat.le_of_ble_eq_true h1.1.2)) hd⟩
   ·cases hr
  ·rename_i X π hx
   split at hr
   ·rename_i u hu
    obtain ⟨hsz0, hr⟩ := cond_some hr
    obtain ⟨ps', h1, T1, hr, us, c1, c2, c3⟩ := fixP_ok hr
    split at hr
    ·rename_i y' hy
     obtain ⟨h2, k1, hX, k2, k3⟩ := setK_ok hr
     have hus : ∀ u ∈ us, touch (Fp.wr (rs1 X :: T1)) u.id = true := fun u hu => touch_mono (fun i hi => .tail _ hi) (c2 u hu)
     have out : ∀ i, touch (Fp.wr (rs1 X :: T1)) i = false → (hp h2).ob i = (hp h).ob i ∧ ((hp h2).fr i ↔ (hp h).fr i) := fun i hi => by
      have e1 := k2 i (touch_app (T := rs1 X :: T1) (fun j hj => by rcases List.mem_singleton.1 hj with rfl; exact .head _) hi)
      have e2 := app_out us (hp h) i (fun u hu e => by have := hus u hu; rw [← e] at this; rw [show touch (Fp.wr (rs1 X :: T1)) i = false from hi] at this; cases this)
      rw [← c1] at e2
      exact ⟨e1.1.trans e2.1, e1.2.trans e2.2⟩
     refine ⟨_, _, _, k1, ⟨out, fun i hi => out i (wt_wr hi), fun S2 hA => ?_⟩⟩
     ·refine OpS.opR (fun g w a next Q hI hv K' => ?_) hd
      have hvx := hv x (by simp [ho, Op.operands])
      have hvy := (hv y (by simp [ho, Op.operands])).cells hps
      obtain ⟨g1, q1, q2, q3⟩ := c3 g S2 w _ hI (hA.mono fun i hi => .tail _ hi) hvy
      obtain ⟨z1, z2⟩ := toC_ok (g := g1) u ps' y' hy
      have hA1 : Agree (Fp.wr (rs1 X :: T1)) (hp h1) (app us S2) := by rw [c1]; exact Agree.app us hA
      rw [hx] at hvx
      have hvx1 := hvx.mono q2.le
      obtain ⟨cs, w1, w2, w3⟩ := k3 (rs1 X :: T1) (.head _) g1 _ w _ q1 hA1 hvx1
      have hpl : ∃ b s, g1.at' X.id = some (some b, s) ∧ a.eval x = .pointer (some ⟨b, offS π, none⟩) := hvx1.pl rfl
      have hsz := beq_eq hsz0
      have st := store_at (P := P) ho hk.ti.size q1 hpl (z2 _ q3) (by rw [encA_len, hsz]) w1 (by rw [← hsz]; exact w2)
      rw [← w3, ovr_pre hus] at st
      exact (st.pre q2) next Q K'
    ·cases hr
   ·cases hr
  ·cases hr
 ·cases hr
def newK (x : MOb) (h : H) (k : Nat → H → Option β) : Option β := setT h.t h.nid (some x) (fun t1 => k h.nid { h with t := t1, nid := h.nid + 1 })
theorem newK_ok {x : MOb} {k : Nat → H → Option β} (hr : newK x h k = some r) : ∃ h', k h.nid h' = some r ∧ h.nid < 16777216 ∧ (hp h).fr h.nid ∧ hp h' = app [.new h.nid x.low] (hp h) := by
 obtain ⟨hq, t1, k1, k2⟩ := setT_inv hr
 have hq : h.nid < 16777216 := lt15 hq
 refine ⟨_, k1, hq, ?_, hp_new hq k2⟩
 have e : (if h.nid < lim then h.nid ≤ h.nid else regFr h.rg h.nid) = (h.nid ≤ h.nid) := if_pos hq
 show (if h.nid < lim then h.nid ≤ h.nid else regFr h.rg h.nid)
 rw [e]; exact Nat.le_refl _
theorem opS_allocz {S : Hp} {T : TypeId} {i : TypeInfo} {z : Value} {q : Nat} {zs : List A} (ho : o.op = .alloc T) (hi : P.info? T = some i) (hz : i.zero = some z) (hz1 : Zs zs z) (hf : S.fr q) :
  OpS P o ρ S (S.new q (.cells zs)) (.ptr q 0) := by
 intro g w a next Q hI hv K
 have hzs := hz1 g
 obtain ⟨h1, h2⟩ := hI.allocs hf (cs := zs) (vs := z.cells) T (by have := hzs.1; simp at this ⊢; omega) hzs.all
 unfold Oper.wp
 simp only [execOp, ho, Instr.alloc, Sem.run_bind, zeroValue, typeInfo, run_program, Result.andThen_ok, hi, hz, Sem.run_pure, newVar, newRow, run_newObj]
 exact K _ _ _ (.ptr _ _ w.heap.size _ gput_at) h1 h2
theorem V.ptr_tp {g : G} {q : Nat} {v : Value} (hv : V g (.ptr q 0) v) : V g (.tp (.loc q) []) v := by
 cases hv with
 | ptr _ _ b s hb => exact .tp (.loc q) [] b s hb trivial
def alcK (E : Env) (T : Nat) (h : H) (K : A → H → Fp → Option β) : Option β := match tget E.tab T with
 | some e => bif e.lt then (match e.t with
  | some t => newK (.one t t.dflt) h (fun q h' => K (.tp (.loc q) []) h' (.wr [rlo q]))
  | none => none) else newK (.cells (zeros e.zero)) h (fun q h' => K (.ptr q 0) h' (.wr [rlo q]))
 | none => none
theorem alcK_ok (hE : EnvOk P E) {T : Nat} (ho : o.op = .alloc T) (hr : alcK E T h K = some r) : Out P o ρ h K r := by
 have hd : ∀ c, o.op ≠ .defer c := by rw [ho]; intro c e; cases e
 unfold alcK at hr
 split at hr
 ·rename_i e ht
  have hk := hE.tab _ _ ht
  obtain ⟨i, t1, t2, t3, t4, t5, t6⟩ := hk.ti
  cases hl : e.lt with
  | true =>
   rw [hl] at hr; simp only [cond_true] at hr
   split at hr
   ·rename_i t hty
    obtain ⟨h', k1, hq, hf, hh⟩ := newK_ok hr
    refine ⟨_, _, _, k1, Step.weak (.of _ hh rfl (fun u hu => by rcases List.mem_singleton.1 hu with rfl; exact touch_loc (o := h.nid) hq (.head _)) (fun S2 hA => opS_allocz ho t1 t2 (hk.tz t hty) ((hA _ (touch_loc hq (.head _))).2.2 hf)) hd) (fun g v hv => hv.ptr_tp)⟩
   ·cases hr
  | false =>
   rw [hl] at hr; simp only [cond_false] at hr
   obtain ⟨h', k1, hq, hf, hh⟩ := newK_ok hr
   exact ⟨_, _, _, k1, .of _ hh rfl (fun u hu => by rcases List.mem_singleton.1 hu with rfl; exact touch_loc (o := h.nid) hq (.head _)) (fun S2 hA => opS_allocz ho t1 t2 (zeros_zs t6) ((hA _ (touch_loc hq (.head _))).2.2 hf)) hd⟩
 ·cases hr
theorem opS_boxw {S : Hp} {T : TypeId} {x : Operand} {ps qs : List A} {q : Nat} (ho : o.op = .box T x) (hx : (ρ x).cells = some ps) (hq : ∀ g vs, Vs g ps vs → Vs g qs vs) (hf : S.fr q) : OpS P o ρ S (S.new q (.cells qs)) (.ptr q 0) := by
 intro g w a next Q hI hv K
 have e2 := hq _ _ ((hv x (by simp [ho, Op.operands])).cells hx)
 obtain ⟨h1, h2⟩ := hI.allocs hf (cs := qs) (vs := (a.eval x).cells) T (by have := e2.1; simp at this ⊢; omega) e2.all
 unfold Oper.wp
 simp only [execOp, ho, Instr.box, Sem.run_bind, Result.andThen_ok, Sem.run_pure, newVar, newRow, run_newObj]
 exact K _ _ _ (.ptr _ _ w.heap.size _ gput_at) h1 h2
def boxOK (E : Env) (T : Nat) (px : A) (h : H) (K : A → H → Fp → Option β) : Option β := match tget E.tab T, px.cells with
 | some e, some ps => bif e.lt then (match e.t with
  | some t => match toC t ps with
   | some x => newK (.one t x) h (fun q h' => K (.tp (.loc q) []) h' (.wr [rlo q]))
   | none => none
  | none => none) else newK (.cells ps) h (fun q h' => K (.ptr q 0) h' (.wr [rlo q]))
 | _, _ => none
theorem boxOK_ok {T : Nat} {x : Operand} (ho : o.op = .box T x) (hr : boxOK E T (ρ x) h K = some r) : Out P o ρ h K r := by
 have hd : ∀ c, o.op ≠ .defer c := by rw [ho]; intro c e; cases e
 unfold boxOK at hr
 split at hr
 ·rename_i e ps ht hps
  cases hl : e.lt with
  | true =>
   rw [hl] at hr; simp only [cond_true] at hr
   split at hr
   ·rename_i t hty
    split at hr
    ·rename_i y hy
     obtain ⟨h', k1, hq, hf, hh⟩ := newK_ok hr
     exact ⟨_, _, _, k1, Step.weak (.of _ hh rfl (fun u hu => by rcases List.mem_singleton.1 hu with rfl; exact touch_loc (o := h.nid) hq (.head _)) (fun S2 hA => opS_boxw ho hps (fun g vs hv => (toC_ok t ps y hy).2 vs hv) ((hA _ (touch_loc hq (.head _))).2.2 hf)) hd) (fun g v hv => hv.ptr_tp)⟩
    ·cases hr
   ·cases hr
  | false =>
   rw [hl] at hr; simp only [cond_false] at hr
   obtain ⟨h', k1, hq, hf, hh⟩ := newK_ok hr
   exact ⟨_, _, _, k1, .of _ hh rfl (fun u hu => by rcases List.mem_singleton.1 hu with rfl; exact touch_loc (o := h.nid) hq (.head _)) (fun S2 hA => opS_boxw ho hps (fun g vs hv => hv) ((hA _ (touch_loc hq (.head _))).2.2 hf)) hd⟩
 ·cases hr
end
end
end Go.Bm
set_option linter.unusedVariables false
set_option linter.unusedSimpArgs false
namespace Go.Bm
noncomputable section
open Go.RowKit
section
variable {P : Program} {E : Env} {o : Oper} {ρ : Operand → A} {h : H} {β : Type} {K : A → H → Fp → Option β} {r : β}
def bldK (E : Env) (T : Nat) (ρ : Operand → A) (ps : List (Nat × Operand)) (h : H) (K : A → H → Fp → Option β) : Option β := match tget E.tab T with
 | some e => match e.d with
  | .struct _ => match fillA ρ (fun i => e.pl.toArray[i]?) (zeros e.zero) ps with
   | some cs => K (.agg cs) h .no
   | none => none
  | .array _ el => match tget E.tab el with
   | some e' => match fillA ρ (fun i => some (i * e'.size, e'.size)) (zeros e.zero) ps with
    | some cs => K (.agg cs) h .no
    | none => none
   | none => none
  | _ => none
 | none => none
theorem bldK_ok (hE : EnvOk P E) {T : Nat} {ps : Array (Nat × Operand)} (ho : o.op = .build T ps) (hr : bldK E T ρ ps.toList h K = some r) : Out P o ρ h K r := by
 have hd : ∀ c, o.op ≠ .defer c := by rw [ho]; intro c e; cases e
 unfold bldK at hr
 split at hr
 ·rename_i e ht
  have hk := hE.tab _ _ ht
  split at hr
  ·rename_i fs hdd
   split at hr
   ·rename_i cs hf
    obtain ⟨i, t1, t2, t3, t4, t5, t6⟩ := hk.ti
    exact .pure hr (fun S2 => opS_build ho (by rw [hk.u, hdd]) t1 t2 t6 (hk.pl fs hdd) hf) hd
   ·cases hr
  ·rename_i n el hdd
   split at hr
   ·rename_i e' he'
    split at hr
    ·rename_i cs hf
     exact .pure hr (fun S2 => opS_build_arr ho (by rw [hk.u, hdd]) hk.ti (hE.tab _ _ he').ti.size hf) hd
    ·cases hr
   ·cases hr
  ·cases hr
 ·cases hr
def fixE (f : List A → H → Option (List A × H × List Nat)) (z : Nat) : Nat → List A → H → Option (List A × H × List Nat)
 | 0, cs, h => some (cs, h, [])
 | n + 1, cs, h => match f (cs.take z) h with
  | some (cs1, h1, T1) => match fixE f z n (cs.drop z) h1 with
   | some (cs2, h2, T2) => some (cs1 ++ cs2, h2, T1 ++ T2)
   | none => none
  | none => none
theorem fixE_ok {f : List A → H → Option (List A × H × List Nat)} (hf : ∀ cs h cs' h' T, f cs h = some (cs', h', T) → Cv h h' T cs cs') {z : Nat} : ∀ (n : Nat) (cs : List A) (h : H) (cs' : List A) (h' : H) (T : List Nat), fixE f z n cs h = some (cs', h', T) → Cv h h' T cs cs'
 | 0, cs, h, cs', h', T, e => by
  simp only [fixE, Option.some.injEq, Prod.mk.injEq] at e
  obtain ⟨rfl, rfl, rfl⟩ := e
  exact Cv.refl h [] _
 | n + 1, cs, h, cs', h', T, e => by
  simp only [fixE] at e
  split at e
  ·rename_i cs1 h1 T1 e1
   split at e
   ·rename_i cs2 h2 T2 e2
    simp only [Option.some.injEq, Prod.mk.injEq] at e
    obtain ⟨rfl, rfl, rfl⟩ := e
    have := (hf _ _ _ _ _ e1).append (fixE_ok hf n _ _ _ _ _ e2)
    rwa [List.take_append_drop] at this
   ·cases e
  ·cases e
theorem buildSlice_at {pv : A} {S : Hp} {T El : TypeId} {n z : Nat} {parts : Array (Nat × Operand)} {ie : TypeInfo} {zv : Value} {es cs : List A} {q : Nat} {g g0 : G} {w : World} {a : Act} (ho : o.op = .buildSlice T n parts) (hT : P.underlying T = some (.slice El)) (hE : P.info? El = some ie) (hz : ie.zero = some zv)
  (hs : ie.size = z) (h0 : 0 < z) (hn : n * z ≤ 16777216) (hes : elsA ρ z parts.toList 0 = some es) (hl : parts.toList.length = n) (hI : Inv g S w) (hv : ∀ x ∈ o.op.operands, V g0 (ρ x) (a.eval x)) (hf : S.fr q) (e5 : Vs g cs ((parts.toList.map fun x => a.eval x.2).flatMap (fun v => v.cells.toList)))
  (hval : ∀ g' b, g'.at' q = some (some b, (n * z, n * z)) → n ≤ maxLen → V g' pv (.slice (some ⟨b, 0, none⟩) n n)) : OpAt P o S (S.new q (.cells cs)) pv g w a := by
 intro next Q K
 subst hs
 obtain ⟨e2, e1, e3, e4⟩ := elsA_ok (z := ie.size) (a := a) (g := g0) parts.toList 0 es (fun x hx => hv x.2 (by
  simp only [ho, Op.operands]
  rw [List.mem_toArray]
  exact List.mem_map.2 ⟨x, hx, rfl⟩)) hes
 have hsz0 : ((Array.range (n * ie.size)).map (zv.cells[· % zv.cells.size]!)).size = n * ie.size := by simp
 have hfill := Go.Great.fill_whole h0 (parts.toList.map fun x => a.eval x.2) ((Array.range (n * ie.size)).map (zv.cells[· % zv.cells.size]!)) e3 (by simp only [List.length_map]; rw [hsz0, hl])
 have hparts : (parts.map fun (i, x) => (i, a.eval x)).toList = ((parts.toList.map fun x => a.eval x.2).zipIdx 0).map (fun x => (x.2, x.1)) := by rw [← e2]; simp
 generalize hvs : (parts.toList.map fun x => a.eval x.2).flatMap (fun v => v.cells.toList) = vs at *
 have hvl : vs.length = n * ie.size := by rw [← e4.1, e1, hl]
 obtain ⟨h1, h2⟩ := hI.allocs hf (cs := cs) (vs := vs.toArray) El (by have := e5.1; simp; omega) (Vs.all (vs := vs.toArray) e5)
 have hmx : n ≤ n * ie.size := Nat.le_mul_of_pos_right _ h0
 have h8 : cs.length = n * ie.size := by rw [e5.1, hvl]
 have h9 : vs.toArray.size = n * ie.size := by simp [hvl]
 have hval := hval (gput g q (some w.heap.size, (cs.length, vs.toArray.size))) w.heap.size (by rw [gput_at, h8, h9]) (by simp only [maxLen]; omega)
 unfold Oper.wp
 by_cases hn0 : n = 0
 ·subst hn0
  have hpe : parts.toList = [] := List.eq_nil_of_length_eq_zero hl
  have hvs0 : vs = [] := List.eq_nil_of_length_eq_zero (by rw [hvl]; simp)
  have hp3 : parts = #[] := by apply Array.ext'; simp [hpe]
  have hrun : (execOp a.eval o).run P w = .ok (.value (.slice (some ⟨w.heap.size, 0, none⟩) 0 0)) (w.alloc (.cells #[] El)) := by
   simp [execOp, ho, hp3, Instr.buildSlice, run_underlying hT, sizeOf, typeInfo, hE, Instr.fill, newRow, Array.range_zero']
  rw [hrun]
  subst hvs0
  exact K (.slice (some ⟨w.heap.size, 0, none⟩) 0 0) _ _ hval h1 h2
 ·have hpos : ¬ n * ie.size = 0 := by
   intro h; rcases Nat.mul_eq_zero.1 h with h | h <;> omega
  have hrun : (execOp a.eval o).run P w = .ok (.value (.slice (some ⟨w.heap.size, 0, none⟩) n n)) (w.alloc (.cells vs.toArray El)) := by
   have := run_buildSlice (P := P) w T El n (parts.map fun (i, x) => (i, a.eval x)) vs.toArray ie zv hT hE hz (by omega) hpos (by rw [hparts]; exact hfill)
   simp only [execOp, ho, Sem.run_bind, this, Result.andThen_ok, Sem.run_pure]
  rw [hrun]
  exact K _ _ _ hval h1 h2
def bslK (E : Env) (T n : Nat) (ρ : Operand → A) (ps : List (Nat × Operand)) (h : H) (K : A → H → Fp → Option β) : Option β := match tget E.tab T with
 | some ⟨.slice el, _, _, _, _, _, _⟩ => match tget E.tab el with
  | some e => bif Nat.blt 0 e.size && Nat.ble (n * e.size) 16777216 && Nat.beq ps.length n then (match elsA ρ e.size ps 0, e.t with
   | some es, some t => match fixE (fixC 64 t) t.size n es h with
    | some (es', h1, T1) => match toArr (toC t) t.size n es' with
     | some l => newK (.row t l) h1 (fun q h2 => K (.tw (.loc q) e.size) h2 (.wr (rlo q :: T1)))
     | none => none
    | none => none
   | some es, none => newK (.cells es) h (fun q h2 => K (.sl q 0 e.size n) h2 (.wr [rlo q]))
   | _, _ => none) else none
  | none => none
 | _ => none
theorem Step.new {T1 : List Nat} {h1 h2 : H} {us : List Up} {x : Ob} {pv : A} (c1 : hp h1 = app us (hp h)) (c2 : ∀ u ∈ us, touch (.wr T1) u.id = true) (hq : h1.nid < 16777216) (hf : (hp h1).fr h1.nid) (hh : hp h2 = app [.new h1.nid x] (hp h1)) (hd : ∀ c, o.op ≠ .defer c)
  (k : ∀ S2 g w a, Agree (.wr T1) (hp h) S2 → (app us S2).fr h1.nid → Inv g S2 w → (∀ x ∈ o.op.operands, V g (ρ x) (a.eval x)) → OpAt P o S2 ((app us S2).new h1.nid x) pv g w a) : Step P o ρ h h2 (.wr (rlo h1.nid :: T1)) pv :=
 .of (us ++ [.new h1.nid x]) (by rw [app_app, ← c1, hh]) rfl (fun u hu => by
  rcases List.mem_append.1 hu with hu | hu
  ·exact touch_mono (fun i hi => .tail _ hi) (c2 u hu)
  ·rcases List.mem_singleton.1 hu with rfl; exact touch_loc (o := h1.nid) hq (.head _)) (fun S2 hA g w a next Q hI hv K' => by
  have hfr : (app us S2).fr h1.nid := by
   have := Agree.app us hA
   rw [← c1] at this
   exact (this h1.nid (touch_loc hq (.head _))).2.2 hf
  have e := app_app us [.new h1.nid x] S2
  rw [e] at K'
  exact k S2 g w a (hA.mono fun i hi => .tail _ hi) hfr hI hv next Q K') hd
theorem bslK_ok (hE : EnvOk P E) {T n : Nat} {ps : Array (Nat × Operand)} (ho : o.op = .buildSlice T n ps) (hr : bslK E T n ρ ps.toList h K = some r) : Out P o ρ h K r := by
  have hd : ∀ c, o.op ≠ .defer c := by rw [ho]; intro c e; cases e
  unfold bslK at hr
  split at hr
  · rename_i el _ _ _ _ _ _ ht
    split at hr
    · rename_i e he
      obtain ⟨hc, hr⟩ := cond_some hr
      simp only [Bool.and_eq_true] at hc
      have h0 := blt_lt hc.1.1
      have hn := Nat.le_of_ble_eq_true hc.1.2
      have hl := beq_eq hc.2
      obtain ⟨i, t1, t2, t3, t4, t5, t6⟩ := (hE.tab _ _ he).ti
      split at hr
      · rename_i es t hes hty
        split at hr
        · rename_i es' h1 T1 hf
          split at hr
          · rename_i l hy
            obtain ⟨us, c1, c2, c3⟩ := fixE_ok (fun cs h cs' h' T e => fixC_ok _ _ _ _ _ _ _ e) _ _ _ _ _ _ hf
            obtain ⟨h2, k1, hq, hfr, hh⟩ := newK_ok hr
            refine ⟨_, _, _, k1, .new c1 c2 hq hfr hh hd (fun S2 g w a hA hf hI hv => ?_)⟩
            obtain ⟨e2, e1, e3, e4⟩ := elsA_ok (z := e.size) (a := a) (g := g) ps.toList 0 es (fun x hx => hv x.2 (by
              simp only [ho, Op.operands]
              rw [List.mem_toArray]
              exact List.mem_map.2 ⟨x, hx, rfl⟩)) hes
            obtain ⟨g1, q1, q2, q3⟩ := c3 g S2 w _ hI hA e4
            obtain ⟨z1, z2, z3⟩ := toArr_ok (g := g1) (fun cs x h => toC_ok t cs x h) _ _ _ hy
            refine OpAt.pre ?_ q2
            refine buildSlice_at (g0 := g) ho (hE.tab _ _ ht).u t1 t2 t3 h0 hn hes hl q1 hv hf ?_ (fun g' b hb hx => .tw (.loc h1.nid) e.size n b n _ hb (Nat.le_refl _) hx (Nat.le_refl _) 0 (fun _ => rfl))
            exact z3 _ q3
          · cases hr
        · cases hr
      · rename_i es hes hty
        obtain ⟨h2, k1, hq, hfr, hh⟩ := newK_ok hr
        refine ⟨_, _, _, k1, .of _ hh rfl (fun u hu => by rcases List.mem_singleton.1 hu with rfl; exact touch_loc (o := h.nid) hq (.head _)) (fun S2 hA g w a next Q hI hv K' => ?_) hd⟩
        obtain ⟨e2, e1, e3, e4⟩ := elsA_ok (z := e.size) (a := a) (g := g) ps.toList 0 es (fun x hx => hv x.2 (by
              simp only [ho, Op.operands]
              rw [List.mem_toArray]
              exact List.mem_map.2 ⟨x, hx, rfl⟩)) hes
        exact buildSlice_at (g0 := g) ho (hE.tab _ _ ht).u t1 t2 t3 h0 hn hes hl hI hv ((hA _ (touch_loc hq (.head _))).2.2 hfr) e4 (fun g' b hb hx => .sl h.nid 0 e.size n b n _ hb (Nat.le_refl _) hx (by omega)) next Q K'
      · cases hr
    · cases hr
  · cases hr
end
end
end Go.Bm
set_option linter.unusedVariables false
set_option linter.unusedSimpArgs false
namespace Go.Bm
noncomputable section
open Go.RowKit
section
variable {P : Program} {E : Env} {o : Oper} {ρ : Operand → A} {h : H} {β : Type} {K : A → H → Fp → Option β} {r : β}
theorem V.twLen {g : G} {S : Hp} {w : World} (hI : Inv g S w) {X : Ref} {t : Ty} {l : List t.T} (h0 : 0 < t.size) (ho : S.ob X.id = some (.cells (l.flatMap (encA t)))) {v : Value} (hv : V g (.tw X t.size) v) :
  (∃ ad, g.at' X.id = some (none, (0, 0)) ∧ v = .slice ad 0 0 ∧ l = []) ∨ ∃ b s cap d, g.at' X.id = some (some b, s) ∧ v = .slice (some ⟨b, d, none⟩) l.length cap ∧ (cap ≠ 0 → d = 0) ∧ l.length ≤ cap ∧ cap ≤ maxLen ∧ cap * t.size ≤ s.2 := by
 have hlen := flatA_len t l
 cases hv with
 | tw0 _ _ ad hat =>
  rcases hI.cells _ _ ho with ⟨_, k2⟩ | ⟨b, tt, k1, _⟩
  ·refine .inl ⟨ad, hat, rfl, List.eq_nil_of_length_eq_zero ?_⟩
   rw [k2] at hlen
   rcases Nat.eq_zero_or_pos l.length with h | h
   ·exact h
   ·have : 0 < l.length * t.size := Nat.mul_pos h h0
    simp at hlen; omega
  ·rw [k1] at hat; cases hat
 | tw _ _ m b cap tt hat hn hx' hp d hd' =>
  rcases hI.cells _ _ ho with ⟨k1, _⟩ | ⟨b', tt', k1, _⟩
  ·rw [k1] at hat; cases hat
  have hat0 := hat
  rw [k1] at hat
  simp only [Option.some.injEq, Prod.mk.injEq] at hat
  obtain ⟨rfl, hl, rfl⟩ := hat
  rw [hlen] at hl
  have hm : l.length = m := Nat.eq_of_mul_eq_mul_right h0 hl
  subst hm
  exact .inr ⟨b', _, cap, d, hat0, rfl, hd', hn, hx', hp⟩
def lenA (h : H) (px : A) (k : Nat → List Nat → Option β) : Option β := match px with
 | .e0 => k 0 []
 | .v (.slice _ n _) => k n []
 | .tl _ _ l => k (len l) []
 | .tw X z => rowK h X (fun t l => bif Nat.beq z t.size && Nat.blt 0 t.size then k (len l) [rs1 X] else none)
 | .ts _ _ _ n => k n []
 | .tf _ _ _ n => k n []
 | .as _ _ n _ => k n []
 | .sl _ _ _ n => k n []
 | _ => none
theorem V.tlLen {g : G} {t : Ty} {f : Bool} {l : List t.T} {v : Value} (hv : V g (.tl t f l) v) : ∃ ad c, v = .slice ad l.length c := by
 cases hv with
 | tl _ _ _ _ hd =>
  generalize hes : List.map (encD t) l = es at hd
  have hesl : es.length = l.length := by rw [← hes, List.length_map]
  cases hd with
  | sl0 => rw [← hesl]; exact ⟨_, _, rfl⟩
  | sl _ _ _ a cap vs => rw [← hesl]; exact ⟨_, _, rfl⟩
theorem lenA_ok {px : A} {k : Nat → List Nat → Option β} (hr : lenA h px k = some r) : ∃ n T, k n T = some r ∧ ∀ S2, Agree (.rd T) (hp h) S2 → ∀ g w v, Inv g S2 w → V g px v → ∃ ad c, v = .slice ad n c := by
 cases px with
 | e0 => exact ⟨0, [], hr, fun S2 _ g w v _ hv => by cases hv with | e0 ad => exact ⟨ad, 0, rfl⟩⟩
 | v x => cases x with
  | slice ad n c => exact ⟨n, [], hr, fun S2 _ g w v _ hv => by cases hv; exact ⟨_, _, rfl⟩⟩
  | _ => cases hr
 | tl t f l => exact ⟨len l, [], hr, fun S2 _ g w v _ hv => hv.tlLen⟩
 | tw X z =>
  obtain ⟨t, l, hr, hX, hob⟩ := rowK_ok (show rowK h X _ = some r from hr)
  obtain ⟨h1, hk⟩ := cond_some hr
  simp only [Bool.and_eq_true] at h1
  obtain rfl := beq_eq h1.1
  exact ⟨_, _, hk, fun S2 hA g w v hI hv => by
   rcases hv.twLen hI (blt_lt h1.2) ((hA _ (touch_ref hX (.head _))).1.trans hob) with ⟨ad, _, rfl, rfl⟩ | ⟨b, s, cap, d, _, rfl, _⟩
   ·exact ⟨ad, 0, rfl⟩
   ·exact ⟨_, cap, rfl⟩⟩
 | ts X z off n => exact ⟨n, [], hr, fun S2 _ g w v _ hv => by
   cases hv with
   | ts0 _ _ _ _ ad _ hn => exact ⟨ad, 0, by rw [show n = 0 by omega]⟩
   | ts => exact ⟨_, _, rfl⟩⟩
 | tf X z off n => exact ⟨n, [], hr, fun S2 _ g w v _ hv => by
   cases hv with
   | tf0 _ _ _ _ ad _ hn => exact ⟨ad, 0, by rw [show n = 0 by omega]⟩
   | tf => exact ⟨_, _, rfl⟩⟩
 | as X π n z => exact ⟨n, [], hr, fun S2 _ g w v _ hv => by cases hv; exact ⟨_, _, rfl⟩⟩
 | sl q off z n => exact ⟨n, [], hr, fun S2 _ g w v _ hv => by cases hv; exact ⟨_, _, rfl⟩⟩
 | _ => cases hr
def isSl (E : Env) (T : Nat) : Option Nat := match tget E.tab T with
 | some ⟨.slice el, _, _, _, _, _, _⟩ => some el
 | _ => none
theorem isSl_ok (hE : EnvOk P E) {T el : Nat} (h : isSl E T = some el) : P.underlying T = some (.slice el) := by
 unfold isSl at h
 split at h
 ·rename_i ht; cases h; exact (hE.tab _ _ ht).u
 ·cases h
def lenK (E : Env) (T : Nat) (px : A) (h : H) (K : A → H → Fp → Option β) : Option β := match isSl E T with
 | some _ => lenA h px (fun n T => K (.v (.int .i64 (zN n))) h (.rd T))
 | none => none
theorem lenK_ok (hE : EnvOk P E) {T : Nat} {x : Operand} (ho : o.op = .call { callee := .builtin .len, args := #[x], argTypes := #[T] }) (hr : lenK E T (ρ x) h K = some r) : Out P o ρ h K r := by
 unfold lenK at hr
 split at hr
 ·rename_i el he
  obtain ⟨n, T', h1, h2⟩ := lenA_ok hr
  exact .read _ h1 (fun S2 hA => opS_len ho ⟨el, isSl_ok hE he⟩ (h2 S2 hA)) (by rw [ho]; intro c e; cases e)
 ·cases hr
def fitL {α : Type} (d : α) (n : Nat) (l : List α) : List α := (List.range n).map (nth d l)
theorem fitL_flat {α β : Type} (f : α → List β) (d : α) (n : Nat) (l : List α) : (fitL d n l).flatMap f = arrF f d n l := by
 unfold fitL arrF
 rw [List.flatMap_map]
theorem fitL_len {α : Type} (d : α) (n : Nat) (l : List α) : (fitL d n l).length = n := by simp [fitL]
def srcK (h : H) (t : Ty) (py : A) (k : List t.T → List Nat → Option β) : Option β := match py with
 | .e0 => k [] []
 | .v (.slice _ 0 _) => k [] []
 | .tl t' _ l => match castT (.slc t') (.slc t) l with
  | some l' => bif t.data then k l' [] else none
  | none => none
 | .nn t' l => match castT (.slc t') (.slc t) l with
  | some l' => bif t.data then k l' [] else none
  | none => none
 | .os r z o => opt o (k [] []) (fun j => rowK h (.reg r j) (fun t' l => match castT (.slc t') (.slc t) l with
  | some l' => bif Nat.beq z t.size && Nat.blt 0 t.size then k l' [rs1 (.reg r j)] else none
  | none => none))
 | .tw X z => rowK h X (fun t' l => match castT (.slc t') (.slc t) l with
  | some l' => bif Nat.beq z t.size && Nat.blt 0 t.size then k l' [rs1 X] else none
  | none => none)
 | .ts X z off n => rowK h X (fun t' l => match castT (.slc t') (.slc t) l with
  | some l' => bif Nat.beq z t.size && Nat.blt 0 t.size then k (tk n (dr off l')) [rs1 X] else none
  | none => none)
 | .tf X z off n => rowK h X (fun t' l => match castT (.slc t') (.slc t) l with
  | some l' => bif Nat.beq z t.size && Nat.blt 0 t.size then k (tk n (dr off l')) [rs1 X] else none
  | none => none)
 | .as X π n z => placeK h X π (fun sg => match castT sg.t (.arr n t) sg.x with
  | some l => bif Nat.beq z t.size then k (fitL t.dflt n l) [rs1 X] else none
  | none => none)
 | .sl q off z n => match h.t.get q with
  | some (.cells cs) => bif Nat.blt q 16777216 && Nat.beq z t.size && Nat.ble (off + n * z) cs.length then (match toArr (toC t) t.size n ((cs.drop off).take (n * z)) with
   | some l => k l [rlo q]
   | none => none) else none
  | _ => none
 | _ => none
theorem Given.conv {g : G} {w : World} {v : Value} {sz m : Nat} {ps qs : List A} (k : Given g w v sz m ps) (hc : ∀ vs, Vs g ps vs → Vs g qs vs) : Given g w v sz m qs := by
 obtain ⟨A2, cap2, us, h1, h2, h3, h4⟩ := k
 exact ⟨A2, cap2, us, h1, hc _ h2, h3, h4⟩
theorem V.tlGiven {g : G} {S : Hp} {w : World} (hI : Inv g S w) {t : Ty} (hd : t.data = true) {f : Bool} {l : List t.T} {v : Value} (hv : V g (.tl t f l) v) : Given g w v t.size l.length (l.flatMap (encA t)) := by
 cases hv with
 | tl _ _ _ _ hv =>
  generalize hes : List.map (encD t) l = es at hv
  have hesl : es.length = l.length := by rw [← hes, List.length_map]
  have hfl : es.flatten = l.flatMap (encD t) := by rw [← hes, flat_map]
  cases hv with
  | sl0 =>
   have : l = [] := List.eq_nil_of_length_eq_zero hesl.symm
   subst this
   exact .zero ⟨_, _, rfl⟩
  | sl _ _ _ a cap vs hz hc hf hn hx hl hm hvv =>
   rw [hfl] at hvv hl
   have hvs : VDs g.mem (l.flatMap (encD t)) vs := ⟨hl, hvv⟩
   have h1 := flatD (g := g) (f := encA t) (f' := encD t) (fun x us hu => VDs.cells t x us hd hu) (fun x => by rw [encA_len, encD_len]) l vs hvs
   rw [hesl]
   refine ⟨_, cap, vs, rfl, h1, by rw [← h1.1, flatA_len], fun h0 => ?_⟩
   cases a with
   | none => have := hn rfl; omega
   | some p =>
    refine ⟨_, rfl, fun j x hj => ?_⟩
    obtain ⟨cur, ty, fz, q1, q2⟩ := hI.mem _ _ _ (hm p j x rfl hj)
    rw [show (adr p).add j = ⟨p.1, p.2 + j, none⟩ from Addr.add_lit _ _ _, cell_of_row w p.1 _ cur ty _ q1]; exact q2
theorem piece {g : G} {S : Hp} {w : World} (hI : Inv g S w) {X : Ref} {t : Ty} {l : List t.T} {off n b cap d : Nat} {s : Nat × Nat} (_h0 : 0 < t.size) (hob : S.ob X.id = some (.cells (l.flatMap (encA t)))) (hat : g.at' X.id = some (some b, s)) (hle : off + n ≤ l.length) (hd : n ≠ 0 → d = off * t.size) :
  Given g w (.slice (some ⟨b, d, none⟩) n cap) t.size (tk n (dr off l)).length ((tk n (dr off l)).flatMap (encA t)) := by
 have hl : (tk n (dr off l)).length = n := by simp [tk, dr]; omega
 rw [hl]
 rcases Nat.eq_zero_or_pos n with h0 | h0
 ·subst h0
  rw [show tk 0 (dr off l) = [] from by simp [tk]]
  exact .zero ⟨_, cap, rfl⟩
 ·obtain rfl := hd (by omega)
  have := hI.given (off := off * t.size) (sz := t.size) (m := n) (cap := cap) hob hat (by rw [flatA_len, ← Nat.add_mul]; exact Nat.mul_le_mul_right _ hle)
  rw [flatA_part] at this
  exact this
theorem srcK_ok {t : Ty} {py : A} {k : List t.T → List Nat → Option β} (hr : srcK h t py k = some r) : ∃ l T, k l T = some r ∧ ∀ S2, Agree (.rd T) (hp h) S2 → ∀ g w v, Inv g S2 w → V g py v → Given g w v t.size l.length (l.flatMap (encA t)) := by
 cases py with
 | e0 => exact ⟨[], [], hr, fun S2 _ g w v _ hv => by cases hv with | e0 ad => exact .zero ⟨ad, 0, rfl⟩⟩
 | v x => cases x with
  | slice ad n c => cases n with
   | zero => exact ⟨[], [], hr, fun S2 _ g w v _ hv => by cases hv; exact .zero ⟨_, _, rfl⟩⟩
   | succ n => cases hr
  | _ => cases hr
 | tl t' f l =>
  unfold srcK at hr
  simp only at hr
  split at hr
  ·rename_i l' hl
   obtain ⟨e, rfl⟩ := castT_eq hl
   cases e
   obtain ⟨h1, hr⟩ := cond_some hr
   exact ⟨_, [], hr, fun S2 _ g w v hI hv => hv.tlGiven hI h1⟩
  ·cases hr
 | nn t' l =>
  unfold srcK at hr
  simp only at hr
  split at hr
  ·rename_i l' hl
   obtain ⟨e, rfl⟩ := castT_eq hl
   cases e
   obtain ⟨h1, hr⟩ := cond_some hr
   exact ⟨_, [], hr, fun S2 _ g w v hI hv => by cases hv with | nn _ _ a n c h => exact (V.tl _ false _ _ h).tlGiven hI h1⟩
  ·cases hr
 | os q z o =>
  rcases opt_inv (show opt o (k [] []) _ = some r from hr) with ⟨e0, hr⟩ | ⟨jj, e0, hr⟩
  ·exact ⟨[], [], hr, fun S2 _ g w v _ hv => by
    cases hv with
    | os _ _ _ _ h0 _ => cases h0 e0 with | e0 ad => exact .zero ⟨ad, 0, rfl⟩⟩
  ·obtain ⟨t', l, hr, hX, hob⟩ := rowK_ok (show rowK h (.reg q jj) _ = some r from hr)
   split at hr
   ·rename_i l' hl
    obtain ⟨e, rfl⟩ := castT_eq hl
    cases e
    obtain ⟨h1, hk⟩ := cond_some hr
    simp only [Bool.and_eq_true] at h1
    have ez := beq_eq h1.1
    subst ez
    refine ⟨_, _, hk, fun S2 hA g w v hI hv0 => ?_⟩
    have hv : V g (.tw (.reg q jj) t.size) v := by cases hv0 with | os _ _ _ _ _ h1 => exact h1 jj e0
    have hob2 := (hA _ (touch_ref hX (.head _))).1.trans hob
    rcases hv.twLen hI (blt_lt h1.2) hob2 with ⟨ad, _, rfl, rfl⟩ | ⟨b, s, cap, d, hat, rfl, hd, hn, _⟩
    ·exact .zero ⟨ad, 0, rfl⟩
    ·rcases Nat.eq_zero_or_pos l.length with h0 | h0
     ·have : l = [] := List.eq_nil_of_length_eq_zero h0
      subst this
      exact .zero ⟨_, cap, rfl⟩
     ·obtain rfl := hd (by omega)
      have := hI.given (off := 0) (sz := t.size) (m := l.length) (cap := cap) hob2 hat (by rw [flatA_len]; omega)
      rw [List.drop_zero, List.take_of_length_le (by rw [flatA_len]; exact Nat.le_refl _)] at this
      exact this
   ·cases hr
 | tw X z =>
  obtain ⟨t', l, hr, hX, hob⟩ := rowK_ok (show rowK h X _ = some r from hr)
  split at hr
  ·rename_i l' hl
   obtain ⟨e, rfl⟩ := castT_eq hl
   cases e
   obtain ⟨h1, hk⟩ := cond_some hr
   simp only [Bool.and_eq_true] at h1
   obtain rfl := beq_eq h1.1
   refine ⟨_, _, hk, fun S2 hA g w v hI hv => ?_⟩
   have hob2 := (hA _ (touch_ref hX (.head _))).1.trans hob
   rcases hv.twLen hI (blt_lt h1.2) hob2 with ⟨ad, _, rfl, rfl⟩ | ⟨b, s, cap, d, hat, rfl, hd, hn, _⟩
   ·exact .zero ⟨ad, 0, rfl⟩
   ·rcases Nat.eq_zero_or_pos l.length with h0 | h0
    ·have : l = [] := List.eq_nil_of_length_eq_zero h0
     subst this
     exact .zero ⟨_, cap, rfl⟩
    ·obtain rfl := hd (by omega)
     have := hI.given (off := 0) (sz := t.size) (m := l.length) (cap := cap) hob2 hat (by rw [flatA_len]; omega)
     rw [List.drop_zero, List.take_of_length_le (by rw [flatA_len]; exact Nat.le_refl _)] at this
     exact this
  ·cases hr
 | ts X z off n =>
  obtain ⟨t', l, hr, hX, hob⟩ := rowK_ok (show rowK h X _ = some r from hr)
  split at hr
  ·rename_i l' hl
   obtain ⟨e, rfl⟩ := castT_eq hl
   cases e
   obtain ⟨h1, hk⟩ := cond_some hr
   simp only [Bool.and_eq_true] at h1
   obtain rfl := beq_eq h1.1
   refine ⟨_, _, hk, fun S2 hA g w v hI hv => ?_⟩
   have hob2 := (hA _ (touch_ref hX (.head _))).1.trans hob
   have hle := ts_le hI (blt_lt h1.2) hob2 hv
   cases hv with
   | ts0 _ _ _ _ ad _ hn =>
    rw [show n = 0 by omega, show tk 0 (dr off l) = [] by simp [tk]]
    exact .zero ⟨ad, 0, rfl⟩
   | ts _ _ _ _ b cap s hat hn hx hs hph d hd => exact piece hI (blt_lt h1.2) hob2 hat hle (fun hn0 => hd (by omega))
  ·cases hr
 | tf X z off n =>
  obtain ⟨t', l, hr, hX, hob⟩ := rowK_ok (show rowK h X _ = some r from hr)
  split at hr
  ·rename_i l' hl
   obtain ⟨e, rfl⟩ := castT_eq hl
   cases e
   obtain ⟨h1, hk⟩ := cond_some hr
   simp only [Bool.and_eq_true] at h1
   obtain rfl := beq_eq h1.1
   refine ⟨_, _, hk, fun S2 hA g w v hI hv => ?_⟩
   have hob2 := (hA _ (touch_ref hX (.head _))).1.trans hob
   cases hv with
   | tf0 _ _ _ _ ad _ hn =>
    rw [show n = 0 by omega, show tk 0 (dr off l) = [] by simp [tk]]
    exact .zero ⟨ad, 0, rfl⟩
   | tf _ _ _ _ b s hat hx hs d hd =>
    have hle : off + n ≤ l.length := by
     rcases hI.cells _ _ hob2 with ⟨k1, _⟩ | ⟨b', tt', k1, _⟩
     ·rw [k1] at hat; cases hat
     rw [k1] at hat
     simp only [Option.some.injEq, Prod.mk.injEq] at hat
     obtain ⟨_, rfl⟩ := hat
     simp only [flatA_len] at hs
     exact Nat.le_of_mul_le_mul_right hs (blt_lt h1.2)
    exact piece hI (blt_lt h1.2) hob2 hat hle hd
  ·cases hr
 | as X π n z =>
  obtain ⟨sg, hk, hX, h2⟩ := placeK_ok (show placeK h X π _ = some r from hr)
  split at hk
  ·rename_i l hl
   obtain ⟨st, sx⟩ := sg
   obtain ⟨e, hl⟩ := castT_eq hl
   simp only at e hl h2
   subst e
   simp only at hl
   subst hl
   obtain ⟨h1, hk⟩ := cond_some hk
   refine ⟨_, _, hk, fun S2 hA g w v hI hv => ?_⟩
   obtain rfl := beq_eq h1
   cases hv with
   | as _ _ _ _ b cap s hat hp hn hx =>
    have ha := hA _ (touch_ref hX (.head _))
    obtain ⟨a, c, q1, q2⟩ := h2 g _ w _ hI ha.1 ha.2 (.tp X π b s hat hp)
    have e1 : (fitL (α := t.T) t.dflt n sx).flatMap (encA t) = encA (.arr n t) sx := fitL_flat _ _ _ _
    have e3 : (fitL (α := t.T) t.dflt n sx).length = n := fitL_len _ _ _
    have e2 : (encA (.arr n t) sx).length = n * t.size := encA_len (.arr n t) sx
    have := hI.given (off := offS π) (sz := t.size) (m := n) (cap := cap) q1 hat (by simp only [List.length_append]; rw [e2]; omega)
    rw [← q2, List.drop_left, ← e2, List.take_left, q2] at this
    exact Eq.subst (motive := fun k => Given g w _ t.size k _) e3.symm (Eq.subst (motive := fun cs => Given g w _ t.size n cs) e1.symm this)
  ·cases hk
 | sl q off z n =>
  unfold srcK at hr
  simp only at hr
  split at hr
  ·rename_i cs hg
   obtain ⟨h1, hr⟩ := cond_some hr
   simp only [Bool.and_eq_true] at h1
   have hq := blt_lt h1.1.1
   obtain rfl := beq_eq h1.1.2
   split at hr
   ·rename_i l hy
    refine ⟨_, _, hr, fun S2 hA g w v hI hv => ?_⟩
    obtain ⟨z1, z2, z3⟩ := toArr_ok (g := g) (fun cs x h => toC_ok t cs x h) _ _ _ hy
    have hob : (hp h).ob q = some (.cells cs) := by rw [hp_loc hq]; unfold tOb; rw [hg]; rfl
    cases hv with
    | sl _ _ _ _ b cap s hat hn hx hs =>
     rw [z2]
     exact (hI.given ((hA q (touch_loc hq (.head _))).1.trans hob) hat (Nat.le_of_ble_eq_true h1.2)).conv z3
   ·cases hr
  ·cases hr
 | _ => cases hr
end
end
end Go.Bm
set_option linter.unusedVariables false
set_option linter.unusedSimpArgs false
namespace Go.Bm
noncomputable section
open Go.RowKit
section
variable {P : Program} {E : Env} {o : Oper} {ρ : Operand → A} {h : H} {β : Type} {K : A → H → Fp → Option β} {r : β}
theorem rep_flat (t : Ty) (n : Nat) (x : t.T) : (rep n x).flatMap (encA t) = reps n (encA t x) := by
 unfold rep reps
 induction n with
 | zero => rfl
 | succ n ih => rw [List.replicate_succ, List.replicate_succ, List.flatMap_cons, List.flatten_cons, ih]
def mkK (E : Env) (T : Nat) (same : Bool) (px : A) (h : H) (K : A → H → Fp → Option β) : Option β := match isSl E T with
 | some el => match tget E.tab el, px with
  | some e, .v (.int _ m) => match e.t with
   | some t => bif same && Nat.blt 0 e.size && Nat.ble (16777216 * e.bytes) 281474976710656 then gd (ige m) (gd (nle (nN m) 16777216) (newK (.row t (rep (nN m) t.dflt)) h (fun q h' => K (.tw (.loc q) e.size) h' (.wr [rlo q])))) else none
   | none => none
  | _, _ => none
 | none => none
theorem mkK_ok (hE : EnvOk P E) {T : Nat} {x y : Operand} {same : Bool} (ho : o.op = .makeSlice T x y) (hs : same = true → x = y) (hr : mkK E T same (ρ x) h K = some r) : Out P o ρ h K r := by
 have hd : ∀ c, o.op ≠ .defer c := by rw [ho]; intro c e; cases e
 unfold mkK at hr
 split at hr
 ·rename_i el he
  split at hr
  ·rename_i e k m ht hx
   split at hr
   ·rename_i t hty
    obtain ⟨h1, hr⟩ := cond_some hr
    simp only [Bool.and_eq_true] at h1
    obtain rfl := hs h1.1.1
    obtain ⟨h2, hr⟩ := gd_inv hr
    obtain ⟨h3, hr⟩ := gd_inv hr
    have h3 : nN m ≤ 16777216 := h3
    obtain ⟨h', k1, hq, hf, hh⟩ := newK_ok hr
    have hk := hE.tab _ _ ht
    have hb := Nat.le_of_ble_eq_true h1.2
    refine ⟨_, _, _, k1, .of _ hh rfl (fun u hu => by rcases List.mem_singleton.1 hu with rfl; exact touch_loc (o := h.nid) hq (.head _)) (fun S2 hA => ?_) hd⟩
    have e1 : MOb.low (.row t (rep (nN m) t.dflt)) = .cells (reps (nN m) (encA t t.dflt)) := congrArg Ob.cells (rep_flat t _ _)
    rw [e1]
    have hx' : ρ x = .v (.int k ((nN m : Nat) : Int)) := by rw [hx, nN_eq h2]
    exact opS_makeSlice ho (isSl_ok hE he) hk.ti (blt_lt h1.1.2) hx' hx' (Nat.le_trans (Nat.mul_le_mul_right _ h3) hb) (by omega) ((hA _ (touch_loc hq (.head _))).2.2 hf) (hk.tz t hty)
   ·cases hr
  ·cases hr
 ·cases hr
def delK (h : H) (X : Ref) (k : H → Option β) : Option β := bif lkd h (rs1 X) then none else match X with
 | .loc o => setT h.t o none (fun t1 => k { h with t := t1 })
 | .reg r j => match rfind h.rg r with
  | some ⟨_, .row t', c⟩ => bif Nat.blt r 64 then gd (nlt j (len (α := Option (List t'.T)) c)) (k { h with rg := rput h.rg r (.row t') (upd (α := Option (List t'.T)) c j none) }) else none
  | _ => none
theorem regOb_updN {t : Ty} {c : List (Option (List t.T))} {j : Nat} (hj : j < c.length) (i : Nat) : regOb (.row t) (upd c j none) i = if i = j then none else regOb (.row t) c i := by
 show (match gtA (upd c j none) i with | some (some l) => some (Ob.cells (l.flatMap (encA t))) | _ => none) = if i = j then none else (match gtA c i with | some (some l) => some (Ob.cells (l.flatMap (encA t))) | _ => none)
 rw [gtA_upd]
 by_cases h : i = j
 ·subst h; rw [if_pos ⟨rfl, hj⟩, if_pos rfl]
 ·rw [if_neg (fun k => h k.1), if_neg h]
theorem delK_ok {X : Ref} {k : H → Option β} (hr : delK h X k = some r) : ∃ h', k h' = some r ∧ okR X = true ∧ hp h' = app [.del X.id] (hp h) ∧ h'.nid = h.nid := by
 obtain ⟨_, hr⟩ := bif_none hr
 cases X with
 | loc o =>
  obtain ⟨hq, t1, k1, k2⟩ := setT_inv hr
  exact ⟨_, k1, by show Nat.blt o 16777216 = true; simpa using (lt15 hq), hp_del (lt15 hq) k2, rfl⟩
 | reg r j =>
  simp only at hr
  split at hr
  ·rename_i _ t' c hf
   obtain ⟨h3, hr⟩ := cond_some hr
   obtain ⟨h4, hr⟩ := gd_inv hr
   have hlt : j < List.length (α := Option (List t'.T)) c := h4
   refine ⟨_, hr, h3, ?_, rfl⟩
   exact hp_mem (j := j) (u := .del (rid r j)) (blt_lt h3) hf (upd_len (α := Option (List t'.T)) c j _) (fun i hi => by rw [regOb_updN (c := c) hlt, if_neg hi]) rfl (by rw [regOb_updN (c := c) hlt, if_pos rfl]; exact if_pos rfl) rfl
  ·cases hr
def isNilS : A → Bool
 | .e0 => true
 | .v (.slice _ 0 0) => true
 | _ => false
theorem V.nilS {g : G} {p : A} {v : Value} (hv : V g p v) (h : isNilS p = true) : ∃ ad, v = .slice ad 0 0 := by
 unfold isNilS at h
 split at h
 ·cases hv with | e0 ad => exact ⟨ad, rfl⟩
 ·cases hv; exact ⟨_, rfl⟩
 ·cases h
theorem opS_append_in {S : Hp} {T E' : TypeId} {z b m n : Nat} {X : Ref} {zv : Value} {cs ps : List A} {x y : Operand} (ho : o.op = .call { callee := .builtin .append, args := #[x, y], argTypes := #[T, T] }) (hT : P.underlying T = some (.slice E')) (hE : TI P E' z b zv) (h0 : 0 < z)
  (hp : S.ob X.id = some (.cells cs)) (hx : ρ x = .ts X z 0 n) (hcl : (n + m) * z ≤ cs.length) (hy : ∀ g w v, Inv g S w → V g (ρ y) v → Given g w v z m ps) : OpS P o ρ S (S.set X.id (.cells (put cs (n * z) ps))) (.ts X z 0 (n + m)) :=
 .app ho fun g w a hI e1 e2 => by
  obtain ⟨i, t1, t2, t3, t4, t5, t6⟩ := hE
  subst t3 t4
  have hE' : SizeIs P E' i.size := ⟨i, t1, rfl⟩
  obtain ⟨A2, cap2, us, hu2, hpv, hul, hA2⟩ := hy g w _ hI e2
  rw [hx] at e1
  generalize hu : a.eval x = vx at e1 ⊢
  cases e1 with
  | ts0 _ _ _ _ ad hg hn =>
   rcases hI.cells X.id cs hp with ⟨_, k2⟩ | ⟨b', t, k1, _⟩
   ·subst k2
    have hn : n = 0 := by omega
    subst hn
    have hm : m = 0 := by
     rcases Nat.eq_zero_or_pos m with h | h
     ·exact h
     ·have : 0 < (0 + m) * i.size := Nat.mul_pos (by omega) h0
      simp only [List.length_nil] at hcl; omega
    subst hm
    have hps : ps = [] := List.eq_nil_of_length_eq_zero (by rw [hpv.1, hul]; simp)
    subst hps
    have hS : S.set X.id (.cells (put [] (0 * i.size) [])) = S := by
     refine Hp.ext' (fun j => ?_) (fun j => Iff.rfl)
     show (if j = X.id then some (.cells (put [] (0 * i.size) [])) else S.ob j) = S.ob j
     by_cases hj : j = X.id
     ·subst hj; rw [if_pos rfl, hp]; simp [put]
     ·rw [if_neg hj]
    rw [hS, hu2]
    exact ⟨_, g, w, run_append_zeroA w T E' o.type hT hE' _ A2 0 0 cap2 (Nat.le_refl _), .ts0 X i.size 0 (0 + 0) ad hg (by simp), hI, .refl S g w⟩
   ·rw [k1] at hg; cases hg
  | ts _ _ _ _ bk cap s hg hnc hcm hs hph d hd hq =>
   rw [hu2]
   rw [Nat.zero_add] at hph hq
   have hps : ps.length = m * i.size := by rw [hpv.1, hul]
   have hlen : (put cs (n * i.size) ps).length = cs.length := put_len (by rw [hps, ← Nat.add_mul]; exact hcl)
   rcases hI.cells X.id cs hp with ⟨k1, _⟩ | ⟨b', t, k1, cur, ty, k2, k2', k3⟩
   ·rw [k1] at hg; cases hg
   have hg0 := hg
   rw [k1] at hg; simp at hg
   obtain ⟨rfl, rfl⟩ := hg
   simp only at hq hph hs
   have hroom : n + m ≤ cap := Nat.le_of_mul_le_mul_right (Nat.le_trans hcl hq) h0
   have hts : (0 + (n + m)) * i.size ≤ (cs.length, t).1 := by rw [Nat.zero_add]; exact hcl
   have hval : ∀ g', g'.at' X.id = some (some b', (cs.length, t)) → V g' (.ts X i.size 0 (n + m)) (.slice (some ⟨b', d, none⟩) (n + m) cap) := fun g' hat => .ts X i.size 0 (n + m) b' cap _ hat hroom hcm hts (by rw [Nat.zero_add]; exact hph) d hd (by rw [Nat.zero_add]; exact hq)
   rcases Nat.eq_zero_or_pos m with rfl | hm
   ·have hps : ps = [] := List.eq_nil_of_length_eq_zero (by rw [hps]; simp)
    subst hps
    have hput : put cs (n * i.size) [] = cs := by simp [put]
    have hS : S.set X.id (.cells (put cs (n * i.size) [])) = S := by
     rw [hput]
     refine Hp.ext' (fun j => ?_) (fun j => Iff.rfl)
     show (if j = X.id then some (.cells cs) else S.ob j) = S.ob j
     by_cases hj : j = X.id
     ·subst hj; rw [if_pos rfl, hp]
     ·rw [if_neg hj]
    rw [hS]
    exact ⟨_, g, w, run_append_zeroA w T E' o.type hT hE' _ A2 n cap cap2 hnc, hval g hg0, hI, .refl S g w⟩
   ·obtain ⟨ad2, rfl, hnews⟩ := hA2 hm
    obtain rfl := hd (by omega)
    have hnm : (n + m) * i.size ≤ cs.length := hcl
    rw [Nat.add_mul] at hnm
    obtain ⟨cur', ty', c1, c2, c3, c4⟩ := hI.store (off := n * i.size) hp hg0 hpv (by rw [hps]; exact hnm)
    rw [k2] at c1
    simp only [Option.some.injEq, Obj.cells.injEq, and_true] at c1
    obtain ⟨rfl, rfl⟩ := c1
    have hrun := run_append_room' (P := P) w T o.type E' ty i hT t1 b' n cap cur k2 ad2 m cap2 us hul hnews hpv.one hroom c2
    rw [Nat.zero_mul]
    exact ⟨_, g, _, hrun, by have := hval g hg0; rwa [Nat.zero_mul] at this, c3, c4⟩
def appK (E : Env) (T : Nat) (px py : A) (h : H) (K : A → H → Fp → Option β) : Option β := match isSl E T with
 | some el => match tget E.tab el with
  | some e => match e.t with
   | some t => bif Nat.blt 0 e.size && Nat.ble (16777216 * e.bytes) 140737488355328 then srcK h t py (fun l T1 =>
    bif isNilS px then gd (nle (len l) 16777216) (newK (.row t l) h (fun q h' => K (.tw (.loc q) e.size) h' (.pt (rlo q) T1)))
    else match px with
    | .tw X z => rowK h X (fun t' l0 => match castT (.slc t') (.slc t) l0 with
     | some l0 => bif Nat.beq z e.size then gd (nle (nadd (len (α := t.T) l0) (len l)) 16777216) (delK h X (fun h1 => newK (.row t (cat (α := t.T) l0 l)) h1 (fun q h2 => K (.tw (.loc q) e.size) h2 (.p2 (rlo q) (rs1 X) T1)))) else none
     | none => none)
    | .ts X z 0 n => rowK h X (fun t' l0 => match castT (.slc t') (.slc t) l0 with
     | some l0 => bif Nat.beq z e.size then (match py with
      | .ts _ _ _ _ => gd (nle (nadd n (len l)) (len (α := t.T) l0)) (putRow h X t (cat (tk (α := t.T) n l0) (cat l (dr (α := t.T) (nadd n (len l)) l0))) (fun h1 => K (.ts X z 0 (nadd n (len l))) h1 (.wr (rs1 X :: T1))))
      | _ => gd (nle (nadd n (len l)) 16777216) (delK h X (fun h1 => newK (.row t (cat (tk (α := t.T) n l0) l)) h1 (fun q h2 => K (.tw (.loc q) e.size) h2 (.p2 (rlo q) (rs1 X) T1))))) else none
     | none => none)
    | .tf X z off n => br (ieql (zN n) 0) (gd (nle (len l) 16777216) (newK (.row t l) h (fun q h' => K (.tw (.loc q) e.size) h' (.pt (rlo q) T1)))) (rowK h X (fun t' l0 => match castT (.slc t') (.slc t) l0 with
     | some l0 => bif Nat.beq z e.size then gd (nlt 0 (len l)) (gd (nle (nadd n (len l)) 16777216) (newK (.row t (cat (tk n (dr (α := t.T) off l0)) l)) h (fun q h2 => K (.tw (.loc q) e.size) h2 (.p2 (rlo q) (rs1 X) T1)))) else none
     | none => none))
    | _ => none) else none
   | none => none
  | none => none
 | none => none
theorem flat_cat (t : Ty) (a b : List t.T) : (cat a b).flatMap (encA t) = a.flatMap (encA t) ++ b.flatMap (encA t) := List.flatMap_append
theorem flat_tk (t : Ty) (n : Nat) (l : List t.T) : (tk n l).flatMap (encA t) = (l.flatMap (encA t)).take (n * t.size) := by
 have := flatA_part t l 0 n
 simpa [tk] using this.symm
theorem flat_dr (t : Ty) (n : Nat) (l : List t.T) : (dr n l).flatMap (encA t) = (l.flatMap (encA t)).drop (n * t.size) := by
 have := flatA_part t l n l.length
 rw [List.take_of_length_le (by rw [List.length_drop, flatA_len]; omega), List.take_of_length_le (by simp)] at this
 exact this.symm
theorem moved {t : Ty} {X : Ref} {l : List t.T} {h1 h2 : H} {T1 : List Nat} {pv : A} (hd : ∀ c, o.op ≠ .defer c) (hX : okR X = true) (e1 : hp h1 = app [.del X.id] (hp h)) (hn : h1.nid = h.nid) (hq : h1.nid < 16777216) (hf : (hp h1).fr h1.nid) (e2 : hp h2 = app [.new h1.nid (MOb.row t l).low] (hp h1))
  (k : ∀ S2, Agree (.p2 (rlo h1.nid) (rs1 X) T1) (hp h) S2 → S2.fr h1.nid → OpS P o ρ S2 ((S2.del X.id).new h1.nid (.cells (l.flatMap (encA t)))) pv) : Step P o ρ h h2 (.p2 (rlo h1.nid) (rs1 X) T1) pv :=
 .of2 [.del X.id, .new h1.nid (.cells (l.flatMap (encA t)))] (by rw [e2, e1]; rfl) (fun u hu => by
  rcases List.mem_cons.1 hu with rfl | hu
  ·exact touch_ref hX (.tail _ (.head _))
  ·rcases List.mem_singleton.1 hu with rfl; exact touch_loc (o := h1.nid) hq (.head _)) (fun u hu => by
  show touch (.wr [rlo h1.nid, rs1 X]) u.id = true
  rcases List.mem_cons.1 hu with rfl | hu
  ·exact touch_ref hX (.tail _ (.head _))
  ·rcases List.mem_singleton.1 hu with rfl; exact touch_loc (o := h1.nid) hq (.head _)) (fun S2 hA => k S2 hA ((hA _ (touch_loc hq (.head _))).2.2 (by rw [e1] at hf; exact hf))) hd
theorem appK_ok (hE : EnvOk P E) {T : Nat} {x y : Operand} (ho : o.op = .call { callee := .builtin .append, args := #[x, y], argTypes := #[T, T] }) (hr : appK E T (ρ x) (ρ y) h K = some r) : Out P o ρ h K r := by
 have hd : ∀ c, o.op ≠ .defer c := by rw [ho]; intro c e; cases e
 unfold appK at hr
 split at hr
 ·rename_i el he
  have hT := isSl_ok hE he
  split at hr
  ·rename_i e ht
   have hk := hE.tab _ _ ht
   split at hr
   ·rename_i t hty
    have hts := hk.ts t hty
    obtain ⟨hb, hr⟩ := cond_some hr
    simp only [Bool.and_eq_true] at hb
    have h0 := blt_lt hb.1
    have hb := Nat.le_of_ble_eq_true hb.2
    have hbd : ∀ {n : Nat}, n ≤ 16777216 → n * e.bytes ≤ 140737488355328 ∧ n ≤ maxLen := fun hn => ⟨Nat.le_trans (Nat.mul_le_mul_right _ hn) hb, by unfold maxLen; omega⟩
    obtain ⟨l, T1, hr, hsrc⟩ := srcK_ok hr
    rw [hts] at hsrc
    cases hnil : isNilS (ρ x) with
    | true =>
     rw [hnil] at hr; simp only [cond_true] at hr
     obtain ⟨h2, hr⟩ := gd_inv hr
     have h2 : l.length ≤ 16777216 := h2
     obtain ⟨h', k1, hq, hf, hh⟩ := newK_ok hr
     exact ⟨_, _, _, k1, .of2 _ hh (fun u hu => by rcases List.mem_singleton.1 hu with rfl; exact touch_loc (o := h.nid) hq (.head _)) (fun u hu => by rcases List.mem_singleton.1 hu with rfl; exact touch_loc (l := [rlo h.nid]) (w := false) (s := []) (o := h.nid) hq (.head _))
      (fun S2 hA => opS_append_nil ho hT hk.ti (fun g v hv => hv.nilS hnil) (hsrc S2 (hA.mono fun i hi => .tail _ hi)) ((hA _ (touch_loc hq (.head _))).2.2 hf) (hbd h2).1 (hbd h2).2) hd⟩
    | false =>
     rw [hnil] at hr; simp only [cond_false] at hr
     split at hr
     ·rename_i X z hx
      obtain ⟨t', l0, hr, hX, hob⟩ := rowK_ok hr
      split at hr
      ·rename_i l0' hl
       obtain ⟨e', rfl⟩ := castT_eq hl
       cases e'
       obtain ⟨hz, hr⟩ := cond_some hr
       have hz := beq_eq hz
       obtain ⟨h2, hr⟩ := gd_inv hr
       have h2 : l0.length + l.length ≤ 16777216 := h2
       obtain ⟨h1, hr, _, e1, hn⟩ := delK_ok hr
       obtain ⟨h', k1, hq, hf, hh⟩ := newK_ok hr
       refine ⟨_, _, _, k1, moved hd hX e1 hn hq hf hh (fun S2 hA hfr => ?_)⟩
       have hob2 := (hA _ (touch_ref hX (.tail _ (.head _)))).1.trans hob
       have := opS_append (P := P) (n := l0.length) (m := l.length) (z := e.size) ho hT hk.ti h0 hob2 (fun g w v hI hv => by
        rw [hx, hz, ← hts] at hv
        rcases hv.twLen hI (by rw [hts]; exact h0) hob2 with ⟨ad, _, rfl, rfl⟩ | ⟨b, s, cap, d, hat, rfl, k2, k3, k4, k5⟩
        ·exact .inl ⟨ad, rfl, rfl⟩
        ·exact .inr ⟨b, s, cap, d, hat, rfl, k2, k3, k4, by rw [← hts]; exact k5⟩) (by rw [flatA_len, hts]; exact Nat.le_refl _) (hsrc S2 (hA.mono fun i hi => .tail _ (.tail _ hi))) hfr (hbd h2).1 (hbd h2).2
       rw [List.take_of_length_le (by rw [flatA_len, hts]; exact Nat.le_refl _), ← flat_cat] at this
       exact this
      ·cases hr
     ·rename_i X z n hx
      obtain ⟨t', l0, hr, hX, hob⟩ := rowK_ok hr
      split at hr
      ·rename_i l0' hl
       obtain ⟨e', rfl⟩ := castT_eq hl
       cases e'
       obtain ⟨hz, hr⟩ := cond_some hr
       have hz := beq_eq hz
       split at hr
       ·obtain ⟨h2, hr⟩ := gd_inv hr
        have h2 : n + l.length ≤ l0.length := h2
        obtain ⟨h1, k1, k2⟩ := putRow_ok hX hr
        refine ⟨_, _, _, k1, ⟨fun i hi => k2.1 i (touch_app (fun j hj => by rcases List.mem_singleton.1 hj with rfl; exact .head _) hi), fun i hi => k2.1 i (touch_app (T := rs1 X :: T1) (fun j hj => by rcases List.mem_singleton.1 hj with rfl; exact .head _) (wt_wr hi)), fun S2 hA => ?_⟩⟩
        refine OpS.opR (OpS.at' fun g w a hI hv => ?_) hd
        have hv := hv x (by simp [ho, Op.operands, Call.operands])
        have hob2 := (hA _ (touch_ref hX (.head _))).1.trans hob
        have hnf : ¬ (hp h).fr X.id := fun hf => by
         have hf2 := (hA _ (touch_ref hX (.head _))).2.2 hf
         have := hI.fresh _ hf2
         rw [hx] at hv
         generalize a.eval x = vx at hv
         cases hv with
         | ts0 _ _ _ _ ad hat => rw [hat] at this; cases this
         | ts _ _ _ _ b cap s hat => rw [hat] at this; cases this
        have e1 := k2.2 hnf
        have hT1 : touch (.wr (rs1 X :: T1)) X.id = true := touch_ref hX (.head _)
        rw [e1, ovr_app (fun u hu => by rcases List.mem_singleton.1 hu with rfl; exact hT1) hA]
        have := opS_append_in (P := P) (n := n) (m := l.length) (X := X) ho hT hk.ti h0 hob2 (by rw [hx, hz]) (by rw [flatA_len, hts]; exact Nat.mul_le_mul_right _ h2) (hsrc S2 (hA.mono fun i hi => .tail _ hi))
        have e2 : put (l0.flatMap (encA t)) (n * e.size) (l.flatMap (encA t)) = (cat (tk n l0) (cat l (dr (nadd n (len l)) l0))).flatMap (encA t) := by
         rw [flat_cat, flat_cat, flat_tk, flat_dr, hts]
         unfold put
         rw [flatA_len, hts, ← Nat.add_mul]; rfl
        rw [e2] at this
        rw [hz]
        exact this
       ·obtain ⟨h2, hr⟩ := gd_inv hr
        have h2 : n + l.length ≤ 16777216 := h2
        obtain ⟨h1, hr, _, e1, hn⟩ := delK_ok hr
        obtain ⟨h', k1, hq, hf, hh⟩ := newK_ok hr
        refine ⟨_, _, _, k1, moved hd hX e1 hn hq hf hh (fun S2 hA hfr => OpS.at' fun g0 w0 a0 hI0 hv0 => ?_)⟩
        have hob2 := (hA _ (touch_ref hX (.tail _ (.head _)))).1.trans hob
        have hle : n ≤ l0.length := by
         have hv := hv0 x (by simp [ho, Op.operands, Call.operands])
         rw [hx, hz, ← hts] at hv
         have := ts_le hI0 (by rw [hts]; exact h0) hob2 hv
         omega
        have := opS_append (P := P) (n := n) (m := l.length) (z := e.size) ho hT hk.ti h0 hob2 (fun g w v hI hv => by
         rw [hx, hz] at hv
         cases hv with
         | ts0 _ _ _ _ ad _ hn => exact .inl ⟨ad, rfl, by omega⟩
         | ts _ _ _ _ b cap s hat k2 k3 k4 k5 d k6 =>
          rw [Nat.zero_add] at k5
          exact .inr ⟨b, s, cap, d, hat, rfl, fun hc => by rw [k6 hc, Nat.zero_mul], k2, k3, k5⟩) (by rw [flatA_len, hts]; exact Nat.mul_le_mul_right _ hle) (hsrc S2 (hA.mono fun i hi => .tail _ (.tail _ hi))) hfr (hbd h2).1 (hbd h2).2
        rw [← hts, ← flat_tk, ← flat_cat] at this
        rw [← hts]
        exact this
      ·cases hr
     ·rename_i X z off n hx
      rcases br_inv hr with ⟨hn0, hr⟩ | ⟨_, hr⟩
      ·obtain ⟨h2, hr⟩ := gd_inv hr
       have h2 : l.length ≤ 16777216 := h2
       have hn0 : n = 0 := by have := of_decide_eq_true hn0; unfold zN at this; omega
       obtain ⟨h', k1, hq, hf, hh⟩ := newK_ok hr
       exact ⟨_, _, _, k1, .of2 _ hh (fun u hu => by rcases List.mem_singleton.1 hu with rfl; exact touch_loc (o := h.nid) hq (.head _)) (fun u hu => by rcases List.mem_singleton.1 hu with rfl; exact touch_loc (l := [rlo h.nid]) (w := false) (s := []) (o := h.nid) hq (.head _))
        (fun S2 hA => opS_append_nil ho hT hk.ti (fun g v hv => by rw [hx, hn0] at hv; cases hv <;> exact ⟨_, rfl⟩) (hsrc S2 (hA.mono fun i hi => .tail _ hi)) ((hA _ (touch_loc hq (.head _))).2.2 hf) (hbd h2).1 (hbd h2).2) hd⟩
      obtain ⟨t', l0, hr, hX, hob⟩ := rowK_ok hr
      split at hr
      ·rename_i l0' hl
       obtain ⟨e', rfl⟩ := castT_eq hl
       cases e'
       obtain ⟨hz, hr⟩ := cond_some hr
       have hz := beq_eq hz
       obtain ⟨h3, hr⟩ := gd_inv hr
       have h3 : 0 < l.length := h3
       obtain ⟨h2, hr⟩ := gd_inv hr
       have h2 : n + l.length ≤ 16777216 := h2
       obtain ⟨h', k1, hq, hf, hh⟩ := newK_ok hr
       refine ⟨_, _, _, k1, .of2 _ hh (fun u hu => by rcases List.mem_singleton.1 hu with rfl; exact touch_loc (o := h.nid) hq (.head _)) (fun u hu => by rcases List.mem_singleton.1 hu with rfl; exact touch_loc (l := [rlo h.nid, rs1 X]) (w := false) (s := []) (o := h.nid) hq (.head _)) (fun S2 hA => OpS.at' fun g0 w0 a0 hI0 hv0 => ?_) hd⟩
       have hob2 := (hA _ (touch_ref hX (.tail _ (.head _)))).1.trans hob
       have hle : off + n ≤ l0.length := by
        have hv := hv0 x (by simp [ho, Op.operands, Call.operands])
        rw [hx, hz, ← hts] at hv
        generalize a0.eval x = vx at hv
        cases hv with
        | tf0 _ _ _ _ _ _ hn => omega
        | tf _ _ _ _ b s hat _ hs =>
         rcases hI0.cells _ _ hob2 with ⟨k1, _⟩ | ⟨b', tt', k1, _⟩
         ·rw [k1] at hat; cases hat
         rw [k1] at hat
         simp only [Option.some.injEq, Prod.mk.injEq] at hat
         obtain ⟨_, rfl⟩ := hat
         simp only [flatA_len] at hs
         exact Nat.le_of_mul_le_mul_right hs (by rw [hts]; exact h0)
       have := opS_append_full (P := P) (off := off * e.size) (n := n) (m := l.length) (z := e.size) ho hT hk.ti h0 (fun g w v hI hv => by
        rw [hx, hz] at hv
        cases hv with
        | tf0 _ _ _ _ ad _ hn => exact .inl ⟨ad, rfl, by omega⟩
        | tf _ _ _ _ b s hat _ _ d k6 => exact .inr ⟨b, s, d, hat, rfl, k6⟩) hob2 (by rw [flatA_len, hts, ← Nat.add_mul]; exact Nat.mul_le_mul_right _ hle) (hsrc S2 (hA.mono fun i hi => .tail _ (.tail _ hi))) h3 ((hA _ (touch_loc hq (.head _))).2.2 hf) (hbd h2).1 (hbd h2).2
       rw [← hts, flatA_part, ← flat_cat] at this
       rw [← hts]
       exact this
      ·cases hr
     ·cases hr
   ·cases hr
  ·cases hr
 ·cases hr
end
end
end Go.Bm
set_option linter.unusedVariables false
set_option linter.unusedSimpArgs false
namespace Go.Bm
noncomputable section
open Go.RowKit
theorem flatG_len {α β : Type} {f : α → List β} {s : Nat} (hf : ∀ x, (f x).length = s) (l : List α) : (l.flatMap f).length = l.length * s := by
 induction l with
 | nil => simp
 | cons a l ih => rw [List.flatMap_cons, List.length_append, ih, hf, List.length_cons, Nat.succ_mul, Nat.add_comm]
theorem flatG_part {α β : Type} {f : α → List β} {s : Nat} (hf : ∀ x, (f x).length = s) (l : List α) (off n : Nat) : ((l.flatMap f).drop (off * s)).take (n * s) = ((l.drop off).take n).flatMap f := by
 have h1 : l.flatMap f = (l.take off).flatMap f ++ (l.drop off).flatMap f := by rw [← List.flatMap_append, List.take_append_drop]
 by_cases hl : off ≤ l.length
 ·have h2 : ((l.take off).flatMap f).length = off * s := by rw [flatG_len hf, List.length_take, Nat.min_eq_left hl]
  rw [h1, List.drop_append, List.drop_eq_nil_of_le (by omega), List.nil_append, h2, Nat.sub_self, List.drop_zero]
  generalize l.drop off = k
  have h3 : k.flatMap f = (k.take n).flatMap f ++ (k.drop n).flatMap f := by rw [← List.flatMap_append, List.take_append_drop]
  by_cases hk : n ≤ k.length
  ·have h4 : ((k.take n).flatMap f).length = n * s := by rw [flatG_len hf, List.length_take, Nat.min_eq_left hk]
   rw [h3, List.take_append_of_le_length (by omega), List.take_of_length_le (by omega)]
  ·rw [List.take_of_length_le (by rw [flatG_len hf]; exact Nat.mul_le_mul_right _ (by omega)), List.take_of_length_le (l := k) (by omega)]
 ·rw [List.drop_eq_nil_of_le (as := l) (by omega), List.drop_eq_nil_of_le (by rw [flatG_len hf]; exact Nat.mul_le_mul_right _ (by omega))]
  simp
def cutV (ad : Option Addr) (z lo hi c : Nat) : Value := .slice (if c = lo then ad else ad.map (·.add (lo * z))) (hi - lo) (c - lo)
theorem V.tlPart {g : G} {t : Ty} {f f' : Bool} {l : List t.T} {lo hi : Nat} {v : Value} (hv : V g (.tl t f l) v) (h1 : lo ≤ hi) (h2 : hi ≤ l.length) :
  ∃ ad cap, v = .slice ad l.length cap ∧ l.length ≤ cap ∧ (f = true → cap = l.length) ∧ ∀ c, hi ≤ c → c ≤ cap → (f' = true → c = hi) → V g (.tl t f' (tk (hi - lo) (dr lo l))) (cutV ad t.size lo hi c) := by
 cases hv with
 | tl _ _ _ _ hd =>
  generalize hes : List.map (encD t) l = es at hd
  have hesl : es.length = l.length := by rw [← hes, List.length_map]
  have hfl : es.flatten = l.flatMap (encD t) := by rw [← hes, flat_map]
  cases hd with
  | sl0 =>
   have : l = [] := List.eq_nil_of_length_eq_zero hesl.symm
   subst this
   refine ⟨_, 0, rfl, Nat.le_refl _, fun _ => rfl, fun c k1 k2 k3 => ?_⟩
   have hc : c = 0 := by omega
   have hl : lo = 0 := by simp at h2; omega
   have hh : hi = 0 := by simpa using h2
   subst hc hl hh
   exact .tl t f' _ _ (by rw [show tk (0 - 0) (dr 0 ([] : List t.T)) = [] by simp [tk]]; exact .sl0 _ _ _)
  | sl _ _ _ a cap vs hz hc hf hn hx hl hm hvv =>
   rw [hesl] at hc hf
   rw [hesl]
   refine ⟨_, cap, rfl, hc, hf, fun c k1 k2 k3 => ?_⟩
   unfold cutV
   by_cases hcl : c = lo
   ·have e1 : hi - lo = 0 := by omega
    rw [if_pos hcl, e1, show c - lo = 0 by omega]
    exact .tl t f' _ _ (by rw [show tk 0 (dr lo l) = [] by simp [tk]]; exact .sl0 _ _ _)
   ·rw [if_neg hcl]
    cases a with
    | none => have := hn rfl; omega
    | some p =>
     have hlen : (tk (hi - lo) (dr lo l)).length = hi - lo := by simp [tk, dr]; omega
     have hpart := flatG_part (f := encD t) (fun x => encD_len t x) l lo (hi - lo)
     rw [hfl] at hl hvv
     have e2 : ((tk (hi - lo) (dr lo l)).map (encD t)).flatten = ((l.flatMap (encD t)).drop (lo * t.size)).take ((hi - lo) * t.size) := by rw [flat_map, hpart]; rfl
     have := VD.sl (M := g.mem) t.size f' ((tk (hi - lo) (dr lo l)).map (encD t)) (some (p.1, p.2 + lo * t.size)) (c - lo) ((vs.drop (lo * t.size)).take ((hi - lo) * t.size))
      (fun e he => by obtain ⟨x, _, rfl⟩ := List.mem_map.1 he; exact encD_len t x) (by rw [List.length_map, hlen]; omega) (fun h => by rw [List.length_map, hlen, k3 h]) (fun h => by cases h) (by omega)
      (by rw [e2]; simp only [List.length_take, List.length_drop, hl])
      (fun q j x hq hj => by
       cases hq
       rw [List.getElem?_take] at hj
       split at hj
       ·rw [List.getElem?_drop] at hj
        have := hm p _ x rfl hj
        rw [← Nat.add_assoc] at this; exact this
       ·cases hj)
      (fun j d x hj hj2 => by
       rw [e2] at hj
       rw [List.getElem?_take] at hj hj2
       split at hj
       ·rename_i hlt
        rw [if_pos hlt] at hj2
        rw [List.getElem?_drop] at hj hj2
        exact hvv _ d x hj hj2
       ·cases hj)
     rw [List.length_map, hlen] at this
     have e3 : Option.map (fun x : Addr => x.add (lo * t.size)) (Option.map adr (some p)) = Option.map adr (some (p.1, p.2 + lo * t.size)) := congrArg some (Addr.add_lit _ _ _)
     rw [e3]
     exact .tl t f' _ _ this
section
variable {P : Program} {E : Env} {o : Oper} {ρ : Operand → A} {h : H} {β : Type} {K : A → H → Fp → Option β} {r : β}
def bdK (ox : Option A) (d : Nat) (k : Nat → Option β) : Option β := match ox with
 | none => k d
 | some (.v (.int _ m)) => gd (ige m) (k (nN m))
 | _ => none
theorem bdK_ok {x : Option Operand} {d : Nat} {k : Nat → Option β} (hr : bdK (x.map ρ) d k = some r) : ∃ n, k n = some r ∧ Bd ρ d x n := by
 unfold bdK at hr
 split at hr
 ·rename_i hx
  cases x with
  | none => exact ⟨d, hr, rfl⟩
  | some y => cases hx
 ·rename_i kd m hx
  cases x with
  | none => cases hx
  | some y =>
   obtain ⟨h1, h2⟩ := gd_inv hr
   refine ⟨_, h2, kd, ?_⟩
   rw [nN_eq h1]
   exact Option.some.inj hx
 ·cases hr
theorem V.twCut {g : G} {S : Hp} {w : World} (hI : Inv g S w) {X : Ref} {t : Ty} {l : List t.T} (h0 : 0 < t.size) (ho : S.ob X.id = some (.cells (l.flatMap (encA t)))) {v : Value} (hv : V g (.tw X t.size) v) {lo hi : Nat} (h1 : lo ≤ hi) (h2 : hi ≤ l.length) :
  ∃ ad cap, v = .slice ad l.length cap ∧ l.length ≤ cap ∧ V g (.ts X t.size lo (hi - lo)) (cutV ad t.size lo hi cap) ∧ V g (.tf X t.size lo (hi - lo)) (cutV ad t.size lo hi hi) := by
 have hlen := flatA_len t l
 rcases hv.twLen hI h0 ho with ⟨ad, hat, rfl, rfl⟩ | ⟨b, s, cap, d, hat, rfl, k2, k3, k4, k5⟩
 ·have hh : hi = 0 := by simpa using h2
  have hl : lo = 0 := by omega
  subst hh hl
  exact ⟨ad, 0, rfl, Nat.le_refl _, .ts0 X t.size 0 _ ad hat rfl, .tf0 X t.size 0 _ ad hat rfl⟩
 ·have hs : s.1 = l.length * t.size := by
   rcases hI.cells _ _ ho with ⟨k1, _⟩ | ⟨b', tt', k1, _⟩
   ·rw [k1] at hat; cases hat
   rw [k1] at hat
   simp only [Option.some.injEq, Prod.mk.injEq] at hat
   obtain ⟨_, rfl⟩ := hat
   exact hlen
  have hsub : (lo + (hi - lo)) * t.size ≤ s.1 := by rw [hs]; exact Nat.mul_le_mul_right _ (by omega)
  refine ⟨_, cap, rfl, k3, ?_, ?_⟩
  ·unfold cutV
   by_cases hc : cap = lo
   ·rw [if_pos hc]
    refine .ts X t.size lo (hi - lo) b (cap - lo) s hat (by omega) (by omega) hsub ?_ d (fun h => by omega) ?_
    ·rw [show lo + (cap - lo) = cap by omega]; exact k5
    ·rw [show lo + (cap - lo) = cap by omega, hs]; exact Nat.mul_le_mul_right _ k3
   ·rw [if_neg hc, Option.map_some, Addr.add_lit]
    have hd := k2 (by omega)
    refine .ts X t.size lo (hi - lo) b (cap - lo) s hat (by omega) (by omega) hsub ?_ _ (fun _ => by omega) ?_
    ·rw [show lo + (cap - lo) = cap by omega]; exact k5
    ·rw [show lo + (cap - lo) = cap by omega, hs]; exact Nat.mul_le_mul_right _ k3
  ·unfold cutV
   by_cases hc : hi = lo
   ·rw [if_pos hc]
    exact .tf X t.size lo (hi - lo) b s hat (by omega) hsub d (fun h => by omega)
   ·rw [if_neg hc, Option.map_some, Addr.add_lit]
    have hd := k2 (by omega)
    exact .tf X t.size lo (hi - lo) b s hat (by omega) hsub _ (fun _ => by omega)
theorem V.tsCut {g : G} {S : Hp} {w : World} (hI : Inv g S w) {X : Ref} {t : Ty} {l : List t.T} (h0 : 0 < t.size) (ho : S.ob X.id = some (.cells (l.flatMap (encA t)))) {off n : Nat} {v : Value} (hv : V g (.ts X t.size off n) v) {lo hi : Nat} (h1 : lo ≤ hi) (h2 : off + hi ≤ l.length) :
  ∃ ad cap, v = .slice ad n cap ∧ hi ≤ cap ∧ V g (.ts X t.size (off + lo) (hi - lo)) (cutV ad t.size lo hi cap) ∧ V g (.tf X t.size (off + lo) (hi - lo)) (cutV ad t.size lo hi hi) := by
 have hlen := flatA_len t l
 cases hv with
 | ts0 _ _ _ _ ad hat hn =>
  rcases hI.cells _ _ ho with ⟨_, k2⟩ | ⟨b', tt', k1, _⟩
  ·rw [k2] at hlen
   have hl : l.length = 0 := by
    rcases Nat.eq_zero_or_pos l.length with h | h
    ·exact h
    ·have : 0 < l.length * t.size := Nat.mul_pos h h0
     simp at hlen; omega
   have hh : hi = 0 := by omega
   have hl : lo = 0 := by omega
   have hof : off = 0 := by omega
   have hnn : n = 0 := by omega
   subst hh hl hof hnn
   exact ⟨ad, 0, rfl, Nat.le_refl _, .ts0 X t.size _ _ ad hat rfl, .tf0 X t.size _ _ ad hat rfl⟩
  ·rw [k1] at hat; cases hat
 | ts _ _ _ _ b cap s hat hn hx hs hp d hd hq =>
  have hs1 : s.1 = l.length * t.size := by
   rcases hI.cells _ _ ho with ⟨k1, _⟩ | ⟨b', tt', k1, _⟩
   ·rw [k1] at hat; cases hat
   rw [k1] at hat
   simp only [Option.some.injEq, Prod.mk.injEq] at hat
   obtain ⟨_, rfl⟩ := hat
   exact hlen
  have hcap : l.length ≤ off + cap := by rw [hs1] at hq; exact Nat.le_of_mul_le_mul_right hq h0
  have hsub : (off + lo + (hi - lo)) * t.size ≤ s.1 := by rw [hs1]; exact Nat.mul_le_mul_right _ (by omega)
  refine ⟨_, cap, rfl, by omega, ?_, ?_⟩
  ·unfold cutV
   by_cases hc : cap = lo
   ·rw [if_pos hc]
    refine .ts X t.size (off + lo) (hi - lo) b (cap - lo) s hat (by omega) (by omega) hsub ?_ d (fun h => by omega) ?_
    ·rw [show off + lo + (cap - lo) = off + cap by omega]; exact hp
    ·rw [show off + lo + (cap - lo) = off + cap by omega]; exact hq
   ·rw [if_neg hc, Option.map_some, Addr.add_lit]
    have hd := hd (by omega)
    refine .ts X t.size (off + lo) (hi - lo) b (cap - lo) s hat (by omega) (by omega) hsub ?_ _ (fun _ => by rw [hd, Nat.add_mul]) ?_
    ·rw [show off + lo + (cap - lo) = off + cap by omega]; exact hp
    ·rw [show off + lo + (cap - lo) = off + cap by omega]; exact hq
  ·unfold cutV
   by_cases hc : hi = lo
   ·rw [if_pos hc]
    exact .tf X t.size (off + lo) (hi - lo) b s hat (by omega) hsub d (fun h => by omega)
   ·rw [if_neg hc, Option.map_some, Addr.add_lit]
    have hd := hd (by omega)
    exact .tf X t.size (off + lo) (hi - lo) b s hat (by omega) hsub _ (fun _ => by rw [hd, Nat.add_mul])
def slcK (E : Env) (T : Nat) (px : A) (lo hi mx : Option A) (same : Bool) (h : H) (K : A → H → Fp → Option β) : Option β := match tget E.tab T with
 | some ⟨.slice el, _, _, _, _, _, _⟩ => match tget E.tab el with
  | some e => match px with
   | .e0 => bdK lo 0 (fun l => bdK hi 0 (fun n => gd (nle l n) (gd (nle n 0) (match mx with
    | none => K .e0 h (.rd [])
    | some _ => bif same && hi.isSome then K .e0 h (.rd []) else none))))
   | .tl t f x => bif Nat.beq e.size t.size then bdK lo 0 (fun l => bdK hi (len x) (fun n => gd (nle l n) (gd (nle n (len x)) (match mx with
    | none => K (.tl t (f && hi.isNone) (tk (nsub n l) (dr l x))) h .no
    | some _ => bif same && hi.isSome then K (.tl t true (tk (nsub n l) (dr l x))) h .no else none)))) else none
   | .tw X z => rowK h X (fun t x => bif Nat.beq z e.size && Nat.beq z t.size && Nat.blt 0 z then bdK lo 0 (fun l => bdK hi (len x) (fun n => gd (nle l n) (gd (nle n (len x)) (match mx with
    | none => K (.ts X z l (nsub n l)) h (.rd [rs1 X])
    | some _ => bif same && hi.isSome then K (.tf X z l (nsub n l)) h (.rd [rs1 X]) else none)))) else none)
   | .ts X z off m => rowK h X (fun t x => bif Nat.beq z e.size && Nat.beq z t.size && Nat.blt 0 z then bdK lo 0 (fun l => bdK hi m (fun n => gd (nle l n) (gd (nle (nadd off n) (len x)) (match mx with
    | none => K (.ts X z (nadd off l) (nsub n l)) h (.rd [rs1 X])
    | some _ => bif same && hi.isSome then K (.tf X z (nadd off l) (nsub n l)) h (.rd [rs1 X]) else none)))) else none)
   | _ => none
  | none => none
 | some ⟨.array n el, _, _, _, _, _, _⟩ => match tget E.tab el with
  | some e => bif lo.isNone && hi.isNone && mx.isNone && Nat.ble n 16777216 then (match px with
   | .tp X π => K (.as X π n e.size) h .no
   | .ptr q off => match h.t.get q with
    | some (.cells cs) => bif Nat.blt q 16777216 && Nat.ble (off + n * e.size) cs.length then K (.sl q off e.size n) h (.rd [rlo q]) else none
    | _ => none
   | _ => none) else none
  | none => none
 | _ => none
theorem isNone_map {x : Option Operand} (h : (x.map ρ).isNone = true) : x = none := by cases x with | none => rfl | some y => cases h
theorem isSome_map {x : Option Operand} (h : (x.map ρ).isSome = true) : ∃ y, x = some y := by cases x with | none => cases h | some y => exact ⟨y, rfl⟩
theorem opS_cut {S : Hp} {T E' : TypeId} {x : Operand} {lo hi mx : Option Operand} {z l n d : Nat} {pv pw : A} (ho : o.op = .slice T x lo hi mx) (hT : P.underlying T = some (.slice E')) (hE : SizeIs P E' z) (hlo : Bd ρ 0 lo l) (hhi : Bd ρ d hi n) (h1 : l ≤ n)
  (hr : ∀ g w v, Inv g S w → V g (ρ x) v → ∃ ad cap, v = .slice ad d cap ∧ n ≤ cap ∧ (mx = none → V g pv (cutV ad z l n cap)) ∧ (mx = hi → V g pw (cutV ad z l n n))) : (mx = none → OpS P o ρ S S pv) ∧ (mx = hi → hi ≠ none → OpS P o ρ S S pw) :=
 ⟨fun hm => by
  subst hm
  exact opS_slice ho hT hE hlo h1 (fun g w v hI hv => let ⟨ad, cap, k1, k2, k3, _⟩ := hr g w v hI hv; ⟨ad, d, cap, k1, hhi, k2, k3 rfl⟩),
 fun hm hn => by
  subst hm
  cases hi' : mx with
  | none => exact absurd hi' hn
  | some y =>
   subst hi'
   exact opS_slice3 (hi := y) (mx := y) ho hT hE hlo hhi hhi h1 (Nat.le_refl _) (fun g w v hI hv => let ⟨ad, cap, k1, k2, _, k4⟩ := hr g w v hI hv; ⟨ad, d, cap, k1, k2, k4 rfl⟩)⟩
theorem slcK_ok (hE : EnvOk P E) {T : Nat} {x : Operand} {lo hi mx : Option Operand} {same : Bool} (ho : o.op = .slice T x lo hi mx) (hs : same = true → mx = hi) (hr : slcK E T (ρ x) (lo.map ρ) (hi.map ρ) (mx.map ρ) same h K = some r) : Out P o ρ h K r := by
 have hd : ∀ c, o.op ≠ .defer c := by rw [ho]; intro c e; cases e
 unfold slcK at hr
 split at hr
 ·rename_i el _ _ _ _ _ _ ht
  have hT := (hE.tab _ _ ht).u
  split at hr
  ·rename_i e he
   have hz := (hE.tab _ _ he).ti.size
   have fin : ∀ {T' : List Nat} {pv pw : A} {Sx : Hp → Prop}, (∀ S2, Agree (.rd T') (hp h) S2 → (mx = none → OpS P o ρ S2 S2 pv) ∧ (mx = hi → hi ≠ none → OpS P o ρ S2 S2 pw)) → (match mx.map ρ with | none => K pv h (.rd T') | some _ => bif same && (hi.map ρ).isSome then K pw h (.rd T') else none) = some r → Out P o ρ h K r := fun {T' pv pw Sx} k hr => by
    cases hm : mx with
    | none =>
     rw [hm] at hr
     exact .read _ hr (fun S2 hA => (k S2 hA).1 hm) hd
    | some y =>
     rw [hm] at hr
     obtain ⟨h1, hr⟩ := cond_some hr
     simp only [Bool.and_eq_true] at h1
     obtain ⟨y', hy'⟩ := isSome_map h1.2
     exact .read _ hr (fun S2 hA => (k S2 hA).2 (hs h1.1) (by rw [hy']; intro h; cases h)) hd
   split at hr
   ·rename_i hx
    obtain ⟨l, hr, hlo⟩ := bdK_ok hr
    obtain ⟨n, hr, hhi⟩ := bdK_ok hr
    obtain ⟨h1, hr⟩ := gd_inv hr
    obtain ⟨h2, hr⟩ := gd_inv hr
    have h1 : l ≤ n := h1
    have h2 : n ≤ 0 := h2
    have hn : n = 0 := by omega
    have hl : l = 0 := by omega
    subst hn hl
    exact fin (T' := []) (Sx := fun _ => True) (fun S2 _ => opS_cut (pw := .e0) ho hT hz hlo hhi h1 (fun g w v hI hv => by
     rw [hx] at hv
     cases hv with
     | e0 ad => exact ⟨ad, 0, rfl, Nat.le_refl _, fun _ => .e0 _, fun _ => .e0 _⟩)) hr
   ·rename_i t f x' hx
    obtain ⟨hq, hr⟩ := cond_some hr
    have hq := beq_eq hq
    obtain ⟨l, hr, hlo⟩ := bdK_ok hr
    obtain ⟨n, hr, hhi⟩ := bdK_ok hr
    obtain ⟨h1, hr⟩ := gd_inv hr
    obtain ⟨h2, hr⟩ := gd_inv hr
    have h1 : l ≤ n := h1
    have h2 : n ≤ x'.length := h2
    refine fin (T' := []) (Sx := fun _ => True) (fun S2 _ => opS_cut ho hT hz hlo hhi h1 (fun g w v hI hv => ?_)) hr
    rw [hx] at hv
    obtain ⟨ad, cap, k1, k2, k3, _⟩ := hv.tlPart (f' := f && (hi.map ρ).isNone) h1 h2
    refine ⟨ad, cap, k1, by omega, fun hm => ?_, fun _ => ?_⟩
    ·obtain ⟨ad', cap', j1, j2, j3, j4⟩ := hv.tlPart (f' := f && (hi.map ρ).isNone) h1 h2
     rw [k1] at j1; cases j1
     rw [hq]
     refine j4 cap (by omega) (Nat.le_refl _) (fun hf => ?_)
     simp only [Bool.and_eq_true] at hf
     have hh := isNone_map hf.2
     subst hh
     have : n = len x' := hhi
     rw [k3 hf.1, this]; rfl
    ·obtain ⟨ad', cap', j1, j2, j3, j4⟩ := hv.tlPart (f' := true) h1 h2
     rw [k1] at j1; cases j1
     rw [hq]
     exact j4 n (Nat.le_refl _) (by omega) (fun _ => rfl)
   ·rename_i X z hx
    obtain ⟨t, x', hr, hX, hob⟩ := rowK_ok hr
    obtain ⟨hq, hr⟩ := cond_some hr
    simp only [Bool.and_eq_true] at hq
    have hq1 := beq_eq hq.1.1
    have hq2 := beq_eq hq.1.2
    have h0 := blt_lt hq.2
    obtain ⟨l, hr, hlo⟩ := bdK_ok hr
    obtain ⟨n, hr, hhi⟩ := bdK_ok hr
    obtain ⟨h1, hr⟩ := gd_inv hr
    obtain ⟨h2, hr⟩ := gd_inv hr
    have h1 : l ≤ n := h1
    have h2 : n ≤ x'.length := h2
    refine fin (T' := [rs1 X]) (Sx := fun _ => True) (fun S2 hA => opS_cut ho hT hz hlo hhi h1 (fun g w v hI hv => ?_)) hr
    have hob2 := (hA _ (touch_ref hX (.head _))).1.trans hob
    rw [hx, hq2] at hv
    obtain ⟨ad, cap, k1, k2, k3, k4⟩ := hv.twCut hI (by omega) hob2 h1 h2
    rw [← hq2] at k3 k4
    rw [← hq1]
    exact ⟨ad, cap, k1, by omega, fun _ => k3, fun _ => k4⟩
   ·rename_i X z off m hx
    obtain ⟨t, x', hr, hX, hob⟩ := rowK_ok hr
    obtain ⟨hq, hr⟩ := cond_some hr
    simp only [Bool.and_eq_true] at hq
    have hq1 := beq_eq hq.1.1
    have hq2 := beq_eq hq.1.2
    have h0 := blt_lt hq.2
    obtain ⟨l, hr, hlo⟩ := bdK_ok hr
    obtain ⟨n, hr, hhi⟩ := bdK_ok hr
    obtain ⟨h1, hr⟩ := gd_inv hr
    obtain ⟨h2, hr⟩ := gd_inv hr
    have h1 : l ≤ n := h1
    have h2 : off + n ≤ x'.length := h2
    refine fin (T' := [rs1 X]) (Sx := fun _ => True) (fun S2 hA => opS_cut ho hT hz hlo hhi h1 (fun g w v hI hv => ?_)) hr
    have hob2 := (hA _ (touch_ref hX (.head _))).1.trans hob
    rw [hx, hq2] at hv
    obtain ⟨ad, cap, k1, k2, k3, k4⟩ := hv.tsCut hI (by omega) hob2 h1 h2
    rw [← hq2] at k3 k4
    rw [← hq1]
    exact ⟨ad, cap, k1, k2, fun _ => k3, fun _ => k4⟩
   ·cases hr
  ·cases hr
 ·rename_i n el _ _ _ _ _ _ ht
  have hT := (hE.tab _ _ ht).u
  split at hr
  ·rename_i e he
   have hz := (hE.tab _ _ he).ti.size
   obtain ⟨h1, hkk⟩ := cond_some hr
   clear hr
   simp only [Bool.and_eq_true] at h1
   have e1 := isNone_map h1.1.1.1
   have e2 := isNone_map h1.1.1.2
   have e3 := isNone_map h1.1.2
   have hn := Nat.le_of_ble_eq_true h1.2
   clear h1
   subst e1 e2 e3
   split at hkk
   ·rename_i X π hx
    exact .pure hkk (fun S2 => opS_slice_arr ho hT ⟨_, hz⟩ (fun g w v hI hv => by
     rw [hx] at hv
     cases hv with
     | tp _ _ b s hat hk => exact ⟨b, _, rfl, .as X π n e.size b n s hat hk (Nat.le_refl _) (by unfold maxLen; omega)⟩)) hd
   ·rename_i q off hx
    split at hkk
    ·rename_i cs hg
     obtain ⟨h2, hkk⟩ := cond_some hkk
     simp only [Bool.and_eq_true] at h2
     have hq := blt_lt h2.1
     have h3 := Nat.le_of_ble_eq_true h2.2
     have hob : (hp h).ob q = some (.cells cs) := by rw [hp_loc hq]; unfold tOb; rw [hg]; rfl
     exact .read _ hkk (fun S2 hA => opS_slice_arr ho hT ⟨_, hz⟩ (fun g w v hI hv => by
      rw [hx] at hv
      cases hv with
      | ptr _ _ b s hat =>
       have hs : s.1 = cs.length := by
        rcases hI.cells _ _ ((hA q (touch_loc hq (.head _))).1.trans hob) with ⟨k1, _⟩ | ⟨b', tt', k1, _⟩
        ·rw [k1] at hat; cases hat
        rw [k1] at hat
        simp only [Option.some.injEq, Prod.mk.injEq] at hat
        obtain ⟨_, rfl⟩ := hat
        rfl
       exact ⟨b, off, rfl, .sl q off e.size n b n s hat (Nat.le_refl _) (by unfold maxLen; omega) (by rw [hs]; exact h3)⟩)) hd
    ·cases hkk
   ·cases hkk
  ·cases hr
 ·cases hr
end
end
end Go.Bm
set_option linter.unusedVariables false
set_option linter.unusedSimpArgs false
namespace Go.Bm
noncomputable section
open Go.RowKit
section
variable {P : Program} {E : Env} {o : Oper} {ρ : Operand → A} {h : H} {β : Type} {K : A → H → Fp → Option β} {r : β}
theorem Step.put {h1 : H} {X : Ref} {x : Ob} {T1 : List Nat} {pv : A} (hd : ∀ c, o.op ≠ .defer c) (hX : okR X = true) (k2 : PutOk h h1 X x) (pres : ∀ (g : G) (S : Hp) (w : World) (a : Act), Inv g S w → (∀ x ∈ o.op.operands, V g (ρ x) (a.eval x)) → g.at' X.id ≠ none)
  (k : ∀ S2, Agree (.pt (rs1 X) T1) (hp h) S2 → OpS P o ρ S2 (S2.set X.id x) pv) : Step P o ρ h h1 (.pt (rs1 X) T1) pv where
 out := fun i hi => k2.1 i (by
  have hi : (false || (rs1 X :: T1).any (Nat.beq (res i))) = false := hi
  rw [List.any_cons, Bool.or_eq_false_iff, Bool.or_eq_false_iff] at hi
  show (false || [rs1 X].any (Nat.beq (res i))) = false
  rw [List.any_cons, hi.2.1]; rfl)
 rd := fun i hi => k2.1 i (by simpa [wt, touch, Fp.pt, Fp.wr] using hi)
 ok := fun S2 hA => by
  refine OpS.opR (OpS.at' fun g w a hI hv => ?_) hd
  have hT1 : touch (.pt (rs1 X) T1) X.id = true := touch_ref hX (.head _)
  have hnf : ¬ (hp h).fr X.id := fun hf => pres g S2 w a hI hv (hI.fresh _ ((hA _ hT1).2.2 hf))
  rw [k2.2 hnf, ovr_app (fun u hu => by rcases List.mem_singleton.1 hu with rfl; exact hT1) hA]
  exact k S2 hA
theorem V.atw {g : G} {X : Ref} {z : Nat} {v : Value} (hv : V g (.tw X z) v) : g.at' X.id ≠ none := by cases hv <;> simp_all
theorem V.ats {g : G} {X : Ref} {z off n : Nat} {v : Value} (hv : V g (.ts X z off n) v) : g.at' X.id ≠ none := by cases hv <;> simp_all
def copyK (E : Env) (T : Nat) (px py : A) (h : H) (K : A → H → Fp → Option β) : Option β := match isSl E T with
 | some el => match tget E.tab el with
  | some e => match e.t, px with
   | some t, .tw X z => bif Nat.blt 0 e.size then srcK h t py (fun l T1 => rowK h X (fun t' l0 => match castT (.slc t') (.slc t) l0 with
    | some l0 => bif Nat.beq z e.size then gd (nlt 0 (len (α := t.T) l0)) (gd (nle (len l) (len (α := t.T) l0)) (putRow h X t (cat l (dr (α := t.T) (len l) l0)) (fun h1 => K (.v (.int .i64 (zN (len l)))) h1 (.pt (rs1 X) T1)))) else none
    | none => none)) else none
   | _, _ => none
  | none => none
 | none => none
theorem copyK_ok (hE : EnvOk P E) {T T' : Nat} {x y : Operand} (ho : o.op = .call { callee := .builtin .copy, args := #[x, y], argTypes := #[T, T'] }) (hr : copyK E T (ρ x) (ρ y) h K = some r) : Out P o ρ h K r := by
 have hd : ∀ c, o.op ≠ .defer c := by rw [ho]; intro c e; cases e
 unfold copyK at hr
 split at hr
 ·rename_i el he
  split at hr
  ·rename_i e ht
   have hk := hE.tab _ _ ht
   split at hr
   ·rename_i t X z hty hx
    have hts := hk.ts t hty
    obtain ⟨h0, hr⟩ := cond_some hr
    have h0 := blt_lt h0
    obtain ⟨l, T1, hr, hsrc⟩ := srcK_ok hr
    obtain ⟨t', l0, hr, hX, hob⟩ := rowK_ok hr
    split at hr
    ·rename_i l0' hl
     obtain ⟨e', rfl⟩ := castT_eq hl
     cases e'
     obtain ⟨hz, hr⟩ := cond_some hr
     have hz := beq_eq hz
     obtain ⟨h1, hr⟩ := gd_inv hr
     have h1 : 0 < l0.length := h1
     obtain ⟨h2, hr⟩ := gd_inv hr
     have h2 : l.length ≤ l0.length := h2
     obtain ⟨h', k1, k2⟩ := putRow_ok hX hr
     refine ⟨_, _, _, k1, .put hd hX k2 (fun g S w a hI hv => ?_) (fun S2 hA => ?_)⟩
     ·have hv := hv x (by simp [ho, Op.operands, Call.operands])
      rw [hx] at hv
      exact hv.atw
     ·have hob2 := (hA _ (touch_ref hX (.head _))).1.trans hob
      have := opS_copy (P := P) (ρ := ρ) (n := l0.length) (m := l.length) (off := 0) (z := e.size) ho (isSl_ok hE he) hk.ti.size (fun g w v hI hv => by
       rw [hx, hz, ← hts] at hv
       rcases hv.twLen hI (by rw [hts]; exact h0) hob2 with ⟨ad, _, rfl, rfl⟩ | ⟨b, s, cap, d, hat, rfl, k2, k3, k4, k5⟩
       ·simp at h1
       ·exact ⟨b, s, cap, d, hat, rfl, fun _ => k2 (by omega)⟩) hob2 (by rw [flatA_len, hts]; omega) (by have := hsrc S2 (hA.mono fun i hi => .tail _ hi); rwa [hts] at this) h2
      have e2 : put (l0.flatMap (encA t)) 0 (l.flatMap (encA t)) = (cat l (dr (len l) l0)).flatMap (encA t) := by
       rw [flat_cat, flat_dr]
       unfold put
       rw [flatA_len, List.take_zero, List.nil_append, Nat.zero_add]; rfl
      rw [e2] at this
      exact this
    ·cases hr
   ·cases hr
  ·cases hr
 ·cases hr
def clrK (E : Env) (T : Nat) (px : A) (h : H) (K : A → H → Fp → Option β) : Option β := match isSl E T with
 | some el => match tget E.tab el with
  | some e => match e.t, px with
   | some t, .ts X z off n => bif Nat.blt 0 e.size then rowK h X (fun t' l0 => match castT (.slc t') (.slc t) l0 with
    | some l0 => bif Nat.beq z e.size then gd (nlt 0 n) (putRow h X t (cat (tk (α := t.T) off l0) (cat (rep n t.dflt) (dr (α := t.T) (nadd off n) l0))) (fun h1 => K .junk h1 (.wr [rs1 X]))) else none
    | none => none) else none
   | _, _ => none
  | none => none
 | none => none
theorem clrK_ok (hE : EnvOk P E) {T : Nat} {x : Operand} (ho : o.op = .call { callee := .builtin .clear, args := #[x], argTypes := #[T] }) (hr : clrK E T (ρ x) h K = some r) : Out P o ρ h K r := by
 have hd : ∀ c, o.op ≠ .defer c := by rw [ho]; intro c e; cases e
 unfold clrK at hr
 split at hr
 ·rename_i el he
  split at hr
  ·rename_i e ht
   have hk := hE.tab _ _ ht
   split at hr
   ·rename_i t X z off n hty hx
    have hts := hk.ts t hty
    obtain ⟨h0, hr⟩ := cond_some hr
    have h0 := blt_lt h0
    obtain ⟨t', l0, hr, hX, hob⟩ := rowK_ok hr
    split at hr
    ·rename_i l0' hl
     obtain ⟨e', rfl⟩ := castT_eq hl
     cases e'
     obtain ⟨hz, hr⟩ := cond_some hr
     have hz := beq_eq hz
     obtain ⟨h1, hr⟩ := gd_inv hr
     have h1 : 0 < n := h1
     obtain ⟨h', k1, k2⟩ := putRow_ok hX hr
     refine ⟨_, _, _, k1, .put hd hX k2 (fun g S w a hI hv => ?_) (fun S2 hA => OpS.at' fun g0 w0 a0 hI0 hv0 => ?_)⟩
     ·have hv := hv x (by simp [ho, Op.operands, Call.operands])
      rw [hx] at hv
      exact hv.ats
     ·have hob2 := (hA _ (touch_ref hX (.head _))).1.trans hob
      have hle : off + n ≤ l0.length := by
       have hv := hv0 x (by simp [ho, Op.operands, Call.operands])
       rw [hx, hz, ← hts] at hv
       exact ts_le hI0 (by rw [hts]; exact h0) hob2 hv
      have := opS_clear (P := P) (ρ := ρ) (n := n) (off := off * e.size) (z := e.size) ho (isSl_ok hE he) hk.ti h0 (hk.tz t hty) (fun g w v hI hv => by
       rw [hx, hz] at hv
       cases hv with
       | ts0 _ _ _ _ _ _ hn => omega
       | ts _ _ _ _ b cap s hat hn _ _ _ d hd' => exact ⟨b, s, cap, d, hat, rfl, fun _ => hd' (by omega)⟩) h1 hob2 (by rw [flatA_len, hts, ← Nat.add_mul]; exact Nat.mul_le_mul_right _ hle)
      have e2 : put (l0.flatMap (encA t)) (off * e.size) (reps n (encA t t.dflt)) = (cat (tk off l0) (cat (rep n t.dflt) (dr (nadd off n) l0))).flatMap (encA t) := by
       rw [flat_cat, flat_cat, flat_tk, flat_dr, rep_flat, hts]
       unfold put
       rw [reps_len, encA_len, hts, ← Nat.add_mul]; rfl
      rw [e2] at this
      exact this
    ·cases hr
   ·cases hr
  ·cases hr
 ·cases hr
def mmK (mx : Bool) (px py : A) (h : H) (K : A → H → Fp → Option β) : Option β := match px, py with
 | .v (.int k m), .v (.int k' n) => if k = k' then K (.v (.int k (bif mx then imax m n else imin m n))) h .no else none
 | _, _ => none
theorem mmK_max {Ts : Array TypeId} {x y : Operand} (ho : o.op = .call { callee := .builtin .max, args := #[x, y], argTypes := Ts }) (hr : mmK true (ρ x) (ρ y) h K = some r) : Out P o ρ h K r := by
 unfold mmK at hr
 split at hr
 ·rename_i k m k' n hx hy
  split at hr
  ·rename_i hk; subst hk
   exact .pure hr (fun S2 => opS_max ho hx hy) (by rw [ho]; intro c e; cases e)
  ·cases hr
 ·cases hr
theorem mmK_min {Ts : Array TypeId} {x y : Operand} (ho : o.op = .call { callee := .builtin .min, args := #[x, y], argTypes := Ts }) (hr : mmK false (ρ x) (ρ y) h K = some r) : Out P o ρ h K r := by
 unfold mmK at hr
 split at hr
 ·rename_i k m k' n hx hy
  split at hr
  ·rename_i hk; subst hk
   exact .pure hr (fun S2 => opS_min ho hx hy) (by rw [ho]; intro c e; cases e)
  ·cases hr
 ·cases hr
def mkfK (f : FuncId) (fi ca : List A) (h : H) (K : A → H → Fp → Option β) : Option β := K (.fn f fi ca) h .no
theorem mkfK_ok {f : FuncId} {fi ca : Array Operand} (ho : o.op = .makeFunc (.func f) fi ca) (hr : mkfK f (fi.toList.map ρ) (ca.toList.map ρ) h K = some r) : Out P o ρ h K r :=
 .pure hr (fun S2 => opS_makeFunc ho) (by rw [ho]; intro c e; cases e)
end
end
end Go.Bm
set_option linter.unusedVariables false
set_option linter.unusedSimpArgs false
namespace Go.Bm
noncomputable section
open Go.RowKit
section
variable {P : Program} {E : Env} {o : Oper} {ρ : Operand → A} {S : Hp}
def modA (es : List (A × A)) (n : Nat) (v : A) : List (A × A) := es.modify n fun e => (e.1, v)
theorem opS_putf (hE : EnvOk P E) {T K T2 : Nat} {X : Ref} {x y z : Operand} {e : TyE} {es : List (A × A)} {vz : A} {n : Nat} {old : A} (ho : o.op = .mapUpdate T x y z) (hT : P.underlying T = some (.map K T2)) (he : tget E.tab K = some e) (ht : keyTy E e.d = true) {b : Bool} (hs : keyE E K e.d (ρ y) (ρ y) = some b)
  (hx : ρ x = .mp X) (hm : S.ob X.id = some (.oth (.map es))) (hvz : ∀ g v, V g (ρ z) v → V g vz v) (hr : findA (keyE E K e.d (ρ y)) es 0 = some (some (n, old)))
  (hkey : ∀ g v q v', es[n]? = some q → V g (ρ y) v → V g q.1 v' → v' = v ∧ Instr.sameBits 10000 v v = true) : OpS P o ρ S (S.set X.id (.oth (.map (modA es n vz)))) .junk := by
 intro g w a next Q hI hv K'
 have e1 := hx ▸ hv x (by simp [ho, Op.operands])
 have e2 := hv y (by simp [ho, Op.operands])
 have e3 := hv z (by simp [ho, Op.operands])
 obtain ⟨blk, s, mes, clock, h1, h2, h3, h4⟩ := e1.map_at hI hm
 have hc := check_key hE w false he ht hs e2
 rcases h4.find (w := w) hE he e2 hr with ⟨hh, _⟩ | ⟨n', p, x', hh, hx', _, hn, hf⟩
 ·cases hh
 cases hh
 obtain ⟨q, hq⟩ : ∃ q, es[n]? = some q := ⟨_, List.getElem?_eq_getElem hn⟩
 obtain ⟨k1, k2⟩ := hkey g _ q _ hq e2 (h4.2 n x' q hx' hq).1
 have hents : Ents g (mes.modify n fun e => { e with key := a.eval y, val := a.eval z }) (modA es n vz) := by
  refine ⟨by simp [modA, h4.1], fun m c r hy hz => ?_⟩
  unfold modA at hz
  rw [List.getElem?_modify] at hz
  rw [Array.getElem?_modify] at hy
  by_cases hmn : n = m
  ·subst hmn
   simp only [if_true, hx', hq, Option.map_some, Option.map_eq_map, Option.some.injEq] at hy hz
   subst hy hz
   exact ⟨by rw [← k1]; exact (h4.2 n x' q hx' hq).1, hvz _ _ e3⟩
  ·simp only [if_neg hmn, Option.map_eq_map, Option.map_id'] at hy hz
   exact h4.2 m c r hy hz
 obtain ⟨q1, q2⟩ := hI.setmap (clock' := clock) hm h2 h3 hents
 have hstay : (Instr.keyThatStays (((mes[n]?).map (·.key)).getD (a.eval y)) (a.eval y)).run P w = .ok (a.eval y) w := by
  rw [hx']
  simp only [Option.map_some, Option.getD_some, k1]
  simp [Instr.keyThatStays, k2]
 have hrun : (Instr.mapUpdate T (.map (some blk)) (a.eval y) (a.eval z)).run P w = .ok () { w with heap := w.heap.setIfInBounds blk (.map (mes.modify n fun e => { e with key := a.eval y, val := a.eval z }) clock) } := by
  simp only [Instr.mapUpdate, Sem.run_bind, run_underlying hT, Result.andThen_ok, MapKept.run_getObj_map h3, hc, hf, hstay, MapKept.run_setObj_map _ h3]
 unfold Oper.wp
 simp only [execOp, ho, h1, Sem.run_bind, hrun, Result.andThen_ok, Sem.run_pure]
 exact K' _ g _ (.junk _) q1 q2
end
def findK {β : Type} (f : A → Option Bool) : List (A × A) → Nat → (Option (Nat × A) → Option β) → Option β
 | [], _, K => K none
 | (k, v) :: r, i, K => match f k with
  | some b => br b (K (some (i, v))) (findK f r (i + 1) K)
  | none => none
theorem findK_ok {β : Type} {f : A → Option Bool} {r : β} : ∀ (es : List (A × A)) (i : Nat) (K : Option (Nat × A) → Option β), findK f es i K = some r → ∃ x, K x = some r ∧ findA f es i = some x
 | [], i, K, h => ⟨none, h, rfl⟩
 | (k, v) :: es, i, K, h => by
  unfold findK at h
  split at h
  ·rename_i b hb
   rcases br_inv h with ⟨rfl, h1⟩ | ⟨rfl, h1⟩
   ·exact ⟨_, h1, by unfold findA; rw [hb]⟩
   ·obtain ⟨x, k1, k2⟩ := findK_ok es (i + 1) K h1
    exact ⟨x, k1, by unfold findA; rw [hb]; exact k2⟩
  ·cases h
def eqT : (t : Ty) → t.T → t.T → Bool
 | .int _, x, y => ieql x y
 | .pair a b, x, y => eqT a x.1 y.1 && eqT b x.2 y.2
 | _, _, _ => false
def mfi {κ α : Type} (p : κ → Bool) : List (κ × α) → Nat → Option (Nat × α)
 | [], _ => none
 | (k, v) :: r, i => bif p k then some (i, v) else mfi p r (i + 1)
def mset {κ α : Type} (l : List (κ × α)) (n : Nat) (v : α) : List (κ × α) := l.modify n fun e => (e.1, v)
def mdel {κ α : Type} (l : List (κ × α)) (n : Nat) : List (κ × α) := l.eraseIdx n
def isIntE (E : Env) (T : Nat) (k : IntKind) : Bool := match tget E.tab T with
 | some ⟨.int k', 1, _, _, _, _, _⟩ => if k' = k then true else false
 | _ => false
def kshF (E : Env) : List Field → Nat → Ty → Bool
 | [fd], i, .int k => Nat.beq fd.offset i && isIntE E fd.type k
 | fd :: fs, i, .pair (.int k) t => Nat.beq fd.offset i && isIntE E fd.type k && kshF E fs (i + 1) t
 | _, _, _ => false
def ksh (E : Env) (K : Nat) (e : TyE) (ka : Bool) (t : Ty) : Bool := match e.d with
 | .int k => !ka && (match t with
  | .int k' => if k' = k then true else false
  | _ => false)
 | .struct fs => ka && E.eqs.any (Nat.beq K) && kshF E fs.toList 0 t
 | _ => false
theorem isIntE_ok {E : Env} {T : Nat} {k : IntKind} (h : isIntE E T k = true) : ∃ e, tget E.tab T = some e ∧ e.d = .int k ∧ e.size = 1 := by
 unfold isIntE at h
 split at h
 ·rename_i k' _ _ _ _ _ ht
  split at h
  ·rename_i hk; subst hk; exact ⟨_, ht, rfl, rfl⟩
  ·cases h
 ·cases h
theorem eqC_int {E : Env} {T : Nat} {k : IntKind} {m n : Int} (h : isIntE E T k = true) (f : Nat) : eqC E (f + 1) T [.v (.int k m)] [.v (.int k n)] = some (ieql m n) := by
 obtain ⟨e, h1, h2, _⟩ := isIntE_ok h
 unfold eqC
 rw [h1]
 simp only [h2, if_true]
theorem kshF_eq {E : Env} (f : Nat) : ∀ (fs : List Field) (i : Nat) (t : Ty), kshF E fs i t = true → ∀ (p q : List A) (x y : t.T), p.length = i → q.length = i → eqF E (eqC E (f + 1)) fs (p ++ encA t x) (q ++ encA t y) = some (eqT t x y)
 | [], _, _, h => by simp [kshF] at h
 | [fd], i, .int k, h => fun p q x y hp hq => by
  simp only [kshF, Bool.and_eq_true] at h
  have h1 := beq_eq h.1
  obtain ⟨e, e1, e2, e3⟩ := isIntE_ok h.2
  unfold eqF
  rw [e1]
  simp only [e3, h1]
  rw [← hp, List.drop_left, hp, ← hq, List.drop_left]
  have := eqC_int (m := x) (n := y) h.2 f
  simp only [encA, List.take_succ_cons, List.take_zero, this, eqF]
  simp [eqT, band]
 | fd :: fs, i, .pair (.int k) t, h => fun p q x y hp hq => by
  have h : (Nat.beq fd.offset i && isIntE E fd.type k && kshF E fs (i + 1) t) = true := by
   cases fs <;> exact h
  simp only [Bool.and_eq_true] at h
  have h1 := beq_eq h.1.1
  obtain ⟨e, e1, e2, e3⟩ := isIntE_ok h.1.2
  unfold eqF
  rw [e1]
  simp only [e3, h1]
  have ih := kshF_eq f fs (i + 1) t h.2 (p ++ [A.v (.int k x.1)]) (q ++ [A.v (.int k y.1)]) x.2 y.2 (by simp [hp]) (by simp [hq])
  have ex : ∀ (p : List A) (x : (Ty.pair (.int k) t).T), p ++ encA (.pair (.int k) t) x = p ++ [A.v (.int k x.1)] ++ encA t x.2 := fun p x => by
   show p ++ ([A.v (.int k x.1)] ++ encA t x.2) = _
   rw [List.append_assoc]
  rw [ex, ex, ih]
  have hd1 : ((p ++ [A.v (.int k x.1)] ++ encA t x.2).drop i).take 1 = [A.v (.int k x.1)] := by rw [← hp, List.append_assoc, List.drop_left]; rfl
  have hd2 : ((q ++ [A.v (.int k y.1)] ++ encA t y.2).drop i).take 1 = [A.v (.int k y.1)] := by rw [← hq, List.append_assoc, List.drop_left]; rfl
  rw [hd1, hd2]
  exact congrArg (fun z : Option Bool => match z, some (eqT t x.2 y.2) with
   | some a, some b => some (band a b)
   | _, _ => none) (eqC_int (m := x.1) (n := y.1) h.1.2 f)
 | [_], _, .bool, h => by simp [kshF] at h
 | _ :: _ :: _, _, .bool, h => by simp [kshF] at h
 | _ :: _ :: _, _, .int _, h => by simp [kshF] at h
 | _ :: _, _, .unit, h => by simp [kshF] at h
 | _ :: _, _, .pair .bool _, h => by simp [kshF] at h
 | _ :: _, _, .pair .unit _, h => by simp [kshF] at h
 | _ :: _, _, .pair (.pair _ _) _, h => by simp [kshF] at h
 | _ :: _, _, .pair (.arr _ _) _, h => by simp [kshF] at h
 | _ :: _, _, .pair (.slc _) _, h => by simp [kshF] at h
 | _ :: _, _, .pair (.ptr _) _, h => by simp [kshF] at h
 | _ :: _, _, .pair (.nptr _) _, h => by simp [kshF] at h
 | _ :: _, _, .pair (.rsl _ _) _, h => by simp [kshF] at h
 | _ :: _, _, .pair (.wrg _ _) _, h => by simp [kshF] at h
 | _ :: _, _, .pair (.mp _) _, h => by simp [kshF] at h
 | _ :: _, _, .arr _ _, h => by simp [kshF] at h
 | _ :: _, _, .slc _, h => by simp [kshF] at h
 | _ :: _, _, .ptr _, h => by simp [kshF] at h
 | _ :: _, _, .nptr _, h => by simp [kshF] at h
 | _ :: _, _, .rsl _ _, h => by simp [kshF] at h
 | _ :: _, _, .wrg _ _, h => by simp [kshF] at h
 | _ :: _, _, .mp _, h => by simp [kshF] at h
theorem ksh_eq {E : Env} {K : Nat} {e : TyE} {ka : Bool} {t : Ty} (he : tget E.tab K = some e) (h : ksh E K e ka t = true) (x y : t.T) : keyE E K e.d (packA ka t x) (packA ka t y) = some (eqT t x y) := by
 unfold ksh at h
 split at h
 ·rename_i k hd
  cases ka with
  | true => simp at h
  | false =>
   simp only [Bool.not_false, Bool.true_and] at h
   split at h
   ·split at h
    ·rename_i k' hk
     subst hk
     unfold keyE packA
     simp only [hd, cond_false, encA, if_true]
     rfl
    ·cases h
   ·cases h
 ·rename_i fs hd
  simp only [Bool.and_eq_true] at h
  obtain ⟨⟨rfl, hq⟩, hs⟩ := h
  have h1 := kshF_eq 0 fs.toList 0 t hs [] [] x y rfl rfl
  simp only [List.nil_append] at h1
  unfold keyE packA
  simp only [hd, cond_true, isAggP, Bool.and_self, A.cells]
  show eqC E 2 K (encA t x) (encA t y) = some (eqT t x y)
  unfold eqC
  rw [he]
  simp only [hd, hq, cond_true]
  exact h1
 ·cases h
theorem findA_typed {E : Env} {K : Nat} {e : TyE} {ka va : Bool} {t tv : Ty} (he : tget E.tab K = some e) (h : ksh E K e ka t = true) (x : t.T) : ∀ (es : List (t.T × tv.T)) (i : Nat),
  findA (keyE E K e.d (packA ka t x)) (es.map fun e => (packA ka t e.1, packA va tv e.2)) i = some ((mfi (eqT t x) es i).map fun p => (p.1, packA va tv p.2))
 | [], i => rfl
 | (k, v) :: es, i => by
  rw [List.map_cons]
  unfold findA mfi
  simp only [ksh_eq he h x k]
  cases eqT t x k with
  | true => rfl
  | false => exact findA_typed he h x es (i + 1)
theorem ieql_eq {a b : Int} (h : ieql a b = true) : a = b := by unfold ieql at h; exact of_decide_eq_true h
theorem kshF_same {E : Env} : ∀ (fs : List Field) (i : Nat) (t : Ty), kshF E fs i t = true → ∀ x y : t.T, eqT t x y = true → x = y
 | [], _, _, h => by simp [kshF] at h
 | [_], _, .int _, _ => fun _ _ e => ieql_eq e
 | fd :: fs, i, .pair (.int k) t, h => fun x y e => by
  have h : (Nat.beq fd.offset i && isIntE E fd.type k && kshF E fs (i + 1) t) = true := by
   cases fs <;> exact h
  simp only [Bool.and_eq_true] at h
  have e : (ieql x.1 y.1 && eqT t x.2 y.2) = true := e
  simp only [Bool.and_eq_true] at e
  exact Prod.ext (ieql_eq e.1) (kshF_same fs (i + 1) t h.2 _ _ e.2)
 | [_], _, .bool, h => by simp [kshF] at h
 | _ :: _ :: _, _, .bool, h => by simp [kshF] at h
 | _ :: _ :: _, _, .int _, h => by simp [kshF] at h
 | _ :: _, _, .unit, h => by simp [kshF] at h
 | _ :: _, _, .pair .bool _, h => by simp [kshF] at h
 | _ :: _, _, .pair .unit _, h => by simp [kshF] at h
 | _ :: _, _, .pair (.pair _ _) _, h => by simp [kshF] at h
 | _ :: _, _, .pair (.arr _ _) _, h => by simp [kshF] at h
 | _ :: _, _, .pair (.slc _) _, h => by simp [kshF] at h
 | _ :: _, _, .pair (.ptr _) _, h => by simp [kshF] at h
 | _ :: _, _, .pair (.nptr _) _, h => by simp [kshF] at h
 | _ :: _, _, .pair (.rsl _ _) _, h => by simp [kshF] at h
 | _ :: _, _, .pair (.wrg _ _) _, h => by simp [kshF] at h
 | _ :: _, _, .pair (.mp _) _, h => by simp [kshF] at h
 | _ :: _, _, .arr _ _, h => by simp [kshF] at h
 | _ :: _, _, .slc _, h => by simp [kshF] at h
 | _ :: _, _, .ptr _, h => by simp [kshF] at h
 | _ :: _, _, .nptr _, h => by simp [kshF] at h
 | _ :: _, _, .rsl _ _, h => by simp [kshF] at h
 | _ :: _, _, .wrg _ _, h => by simp [kshF] at h
 | _ :: _, _, .mp _, h => by simp [kshF] at h
theorem sb_int (n : Nat) (k : IntKind) (m : Int) : Instr.sameBits n (.int k m) (.int k m) = true := by cases n <;> simp [Instr.sameBits]
theorem kshF_ints {E : Env} : ∀ (fs : List Field) (i : Nat) (t : Ty), kshF E fs i t = true → ∀ (x : t.T) (g : G) (vs : List Value), Vs g (encA t x) vs → (∀ g' vs', Vs g' (encA t x) vs' → vs' = vs) ∧ ∀ n, ((vs.zip vs).all fun (a, b) => Instr.sameBits n a b) = true
 | [], _, _, h => by simp [kshF] at h
 | [_], _, .int k, _ => fun x g vs hv => by
  obtain ⟨v, rfl, h1, _⟩ := Vs.one' (show Vs g [.v (.int k x)] vs from hv)
  cases h1
  refine ⟨fun g' vs' hv' => ?_, fun n => ?_⟩
  ·obtain ⟨v', rfl, h1', _⟩ := Vs.one' (show Vs g' [.v (.int k x)] vs' from hv')
   cases h1'; rfl
  ·exact (Bool.and_true _).trans (sb_int n k x)
 | fd :: fs, i, .pair (.int k) t, h => fun x g vs hv => by
  have h : (Nat.beq fd.offset i && isIntE E fd.type k && kshF E fs (i + 1) t) = true := by
   cases fs <;> exact h
  simp only [Bool.and_eq_true] at h
  obtain ⟨v1, v2⟩ := Vs.split (show Vs g (encA (.int k) x.1 ++ encA t x.2) vs from hv)
  obtain ⟨r1, r2⟩ := kshF_ints fs (i + 1) t h.2 x.2 g _ v2
  obtain ⟨v, e1, h1, _⟩ := Vs.one' (show Vs g [.v (.int k x.1)] _ from v1)
  cases h1
  have hvs : vs = Value.int k x.1 :: vs.drop (encA (.int k) x.1).length := by
   have := List.take_append_drop (encA (.int k) x.1).length vs
   rw [e1] at this
   exact this.symm
  refine ⟨fun g' vs' hv' => ?_, fun n => ?_⟩
  ·obtain ⟨v1', v2'⟩ := Vs.split (show Vs g' (encA (.int k) x.1 ++ encA t x.2) vs' from hv')
   obtain ⟨v', e1', h1', _⟩ := Vs.one' (show Vs g' [.v (.int k x.1)] _ from v1')
   cases h1'
   have hvs' : vs' = Value.int k x.1 :: vs'.drop (encA (.int k) x.1).length := by
    have := List.take_append_drop (encA (.int k) x.1).length vs'
    rw [e1'] at this
    exact this.symm
   rw [hvs', hvs, r1 _ _ v2']
  ·rw [hvs, List.zip_cons_cons, List.all_cons, r2 n]
   exact (Bool.and_true _).trans (sb_int n k x.1)
 | [_], _, .bool, h => by simp [kshF] at h
 | _ :: _ :: _, _, .bool, h => by simp [kshF] at h
 | _ :: _ :: _, _, .int _, h => by simp [kshF] at h
 | _ :: _, _, .unit, h => by simp [kshF] at h
 | _ :: _, _, .pair .bool _, h => by simp [kshF] at h
 | _ :: _, _, .pair .unit _, h => by simp [kshF] at h
 | _ :: _, _, .pair (.pair _ _) _, h => by simp [kshF] at h
 | _ :: _, _, .pair (.arr _ _) _, h => by simp [kshF] at h
 | _ :: _, _, .pair (.slc _) _, h => by simp [kshF] at h
 | _ :: _, _, .pair (.ptr _) _, h => by simp [kshF] at h
 | _ :: _, _, .pair (.nptr _) _, h => by simp [kshF] at h
 | _ :: _, _, .pair (.rsl _ _) _, h => by simp [kshF] at h
 | _ :: _, _, .pair (.wrg _ _) _, h => by simp [kshF] at h
 | _ :: _, _, .pair (.mp _) _, h => by simp [kshF] at h
 | _ :: _, _, .arr _ _, h => by simp [kshF] at h
 | _ :: _, _, .slc _, h => by simp [kshF] at h
 | _ :: _, _, .ptr _, h => by simp [kshF] at h
 | _ :: _, _, .nptr _, h => by simp [kshF] at h
 | _ :: _, _, .rsl _ _, h => by simp [kshF] at h
 | _ :: _, _, .wrg _ _, h => by simp [kshF] at h
 | _ :: _, _, .mp _, h => by simp [kshF] at h
theorem ksh_same {E : Env} {K : Nat} {e : TyE} {ka : Bool} {t : Ty} (h : ksh E K e ka t = true) {x y : t.T} (hxy : eqT t x y = true) {g : G} {v v' : Value} (h1 : V g (packA ka t x) v) (h2 : V g (packA ka t y) v') : v' = v ∧ Instr.sameBits 10000 v v = true := by
 unfold ksh at h
 split at h
 ·rename_i k hd
  cases ka with
  | true => simp at h
  | false =>
   simp only [Bool.not_false, Bool.true_and] at h
   split at h
   ·split at h
    ·have := ieql_eq hxy
     subst this
     cases h1; cases h2
     exact ⟨rfl, sb_int _ _ _⟩
    ·cases h
   ·cases h
 ·rename_i fs hd
  simp only [Bool.and_eq_true] at h
  obtain ⟨⟨rfl, hq⟩, hs⟩ := h
  have := kshF_same _ _ _ hs _ _ hxy
  subst this
  have c1 := h1.cells rfl
  have c2 := h2.cells rfl
  obtain ⟨us, rfl⟩ := h1.aggP rfl
  obtain ⟨us', rfl⟩ := h2.aggP rfl
  obtain ⟨r1, r2⟩ := kshF_ints _ _ _ hs x g _ c1
  have e := r1 _ _ c2
  have e : us' = us := Array.ext' e
  subst e
  refine ⟨rfl, ?_⟩
  have := r2 9999
  simp only [Value.cells] at this
  rw [show (10000 : Nat) = 9999 + 1 from rfl, Instr.sameBits]
  simp only [this, Bool.and_true, beq_self_eq_true]
 ·cases h
end
end Go.Bm
set_option linter.unusedVariables false
set_option linter.unusedSimpArgs false
namespace Go.Bm
section
variable {α β σ ρ : Type}
theorem bdI' {x : Option α} {f : α → Option β} {a : α} {r : Option β} (h : x = some a) (k : f a = r) : bd x f = r := by rw [h]; exact k
theorem bd_x {x : Option α} {f : α → Option β} {a : α} (h : x = some a) : bd x f = f a := by rw [h]; rfl
theorem opt_x {x : Option α} {n : Option β} {s : α → Option β} {a : α} (h : x = some a) : opt x n s = s a := by rw [h]; rfl
theorem opt_y {x : Option α} {n : Option β} {s : α → Option β} (h : x = none) : opt x n s = n := by rw [h]; rfl
theorem jn_k {f : (σ → Option ρ) → Option ρ} {K : σ → Option ρ} {s : σ} (h : ∀ k, f k = k s) : jn f K = K s := by rw [jn_eq]; exact h K
theorem br_t {b : Bool} {x y : Option α} (h : b = true) : br b x y = x := by rw [h]; rfl
theorem br_f {b : Bool} {x y : Option α} (h : b = false) : br b x y = y := by rw [h]; rfl
theorem br_lss_t {a b : Int} {x y : Option α} (h : a < b) : br (ilss a b) x y = x := by unfold ilss; rw [decide_eq_true h]; rfl
theorem br_lss_f {a b : Int} {x y : Option α} (h : ¬ a < b) : br (ilss a b) x y = y := by unfold ilss; rw [decide_eq_false h]; rfl
theorem br_leq_t {a b : Int} {x y : Option α} (h : a ≤ b) : br (ileq a b) x y = x := by unfold ileq; rw [decide_eq_true h]; rfl
theorem br_leq_f {a b : Int} {x y : Option α} (h : ¬ a ≤ b) : br (ileq a b) x y = y := by unfold ileq; rw [decide_eq_false h]; rfl
theorem br_eql_t {a b : Int} {x y : Option α} (h : a = b) : br (ieql a b) x y = x := by unfold ieql; rw [decide_eq_true h]; rfl
theorem br_eql_f {a b : Int} {x y : Option α} (h : ¬ a = b) : br (ieql a b) x y = y := by unfold ieql; rw [decide_eq_false h]; rfl
theorem gd_ige {a : Int} {x : Option α} : gd (ige a) x = br (ileq 0 a) x none := by unfold ileq; by_cases h : 0 ≤ a <;> simp [gd, ige, h, br]
theorem gd_nlt {a b : Nat} {x : Option α} : gd (nlt a b) x = br (ilss a b) x none := by unfold ilss; by_cases h : a < b <;> simp [gd, nlt, h, br]
theorem gd_nle {a b : Nat} {x : Option α} : gd (nle a b) x = br (ileq a b) x none := by unfold ileq; by_cases h : a ≤ b <;> simp [gd, nle, h, br]
theorem gd_neq {a b : Nat} {x : Option α} : gd (neq a b) x = br (ieql a b) x none := by
 unfold ieql
 by_cases h : a = b
 ·simp [gd, neq, h, br]
 ·have h2 : ¬ (a : Int) = b := by omega
  simp [gd, neq, h, h2, br]
theorem gd_ieq {a b : Int} {x : Option α} : gd (ieq a b) x = br (ieql a b) x none := by unfold ieql; by_cases h : a = b <;> simp [gd, ieq, h, br]
theorem gd_ine {a : Int} {x : Option α} : gd (ine a) x = br (ieql a 0) none x := by unfold ieql; by_cases h : a = 0 <;> simp [gd, ine, h, br]
theorem br_not {b : Bool} {x y : Option α} : br (bnot b) x y = br b y x := by cases b <;> rfl
theorem br_and {a b : Bool} {x y : Option α} : br (band a b) x y = br a (br b x y) y := by cases a <;> cases b <;> rfl
theorem wrap_i64 (n : Int) : IntKind.i64.wrap n = (n + 9223372036854775808) % 18446744073709551616 - 9223372036854775808 := by
 simp [IntKind.wrap, IntKind.bits, IntKind.signed]
 split <;> omega
theorem wrap_u64 (n : Int) : IntKind.u64.wrap n = n % 18446744073709551616 := by simp [IntKind.wrap, IntKind.bits, IntKind.signed]
theorem iadd_s {a b : Int} (h : -9223372036854775808 ≤ a + b ∧ a + b ≤ 9223372036854775807) : iadd .i64 a b = a + b := by unfold iadd; rw [wrap_i64]; omega
theorem isub_s {a b : Int} (h : -9223372036854775808 ≤ a - b ∧ a - b ≤ 9223372036854775807) : isub .i64 a b = a - b := by unfold isub; rw [wrap_i64]; omega
theorem imul_s {a b : Int} (h : -9223372036854775808 ≤ a * b ∧ a * b ≤ 9223372036854775807) : imul .i64 a b = a * b := by unfold imul; rw [wrap_i64]; omega
theorem wrp_s {a : Int} (h : -9223372036854775808 ≤ a ∧ a ≤ 9223372036854775807) : wrp .i64 a = a := by unfold wrp; rw [wrap_i64]; omega
theorem wrp_u {a : Int} (h : 0 ≤ a ∧ a ≤ 18446744073709551615) : wrp .u64 a = a := by unfold wrp; rw [wrap_u64]; omega
theorem irem_p {a b : Int} (h : 0 ≤ a) : irem a b = a % b := Int.tmod_eq_emod_of_nonneg h
theorem tdiv_p {a b : Int} (h : 0 ≤ a) : a.tdiv b = a / b := Int.tdiv_eq_ediv_of_nonneg h
theorem iquo_p {a b : Int} (h : 0 ≤ a ∧ a ≤ 9223372036854775807 ∧ 0 < b) : iquo .i64 a b = a / b := by
 unfold iquo
 rw [tdiv_p h.1, wrap_i64]
 have h1 : 0 ≤ a / b := Int.ediv_nonneg h.1 (by omega)
 have h2 : a / b ≤ a := Int.ediv_le_self b h.1
 omega
theorem nN_c (n : Nat) : nN (n : Int) = n := Int.toNat_natCast n
theorem zN_c (n : Nat) : zN n = (n : Int) := rfl
theorem nN_d (a : Int) : nN a = a.toNat := rfl
theorem nth_lt {d : α} {l : List α} {i : Nat} (h : i < l.length) : nth d l i = l[i] := by unfold nth; rw [List.getD_eq_getElem?_getD, List.getElem?_eq_getElem h]; rfl
theorem nth_some {d x : α} {l : List α} {i : Nat} (h : l[i]? = some x) : nth d l i = x := by unfold nth; rw [List.getD_eq_getElem?_getD, h]; rfl
theorem nth_upd {d x : α} {l : List α} {i j : Nat} : nth d (upd l i x) j = if i = j ∧ j < l.length then x else nth d l j := by
 unfold nth upd
 rw [List.getD_eq_getElem?_getD, List.getD_eq_getElem?_getD, List.getElem?_set]
 by_cases h : i = j
 ·subst h
  by_cases h1 : i < l.length
  ·simp [h1]
  ·simp [h1]
 ·simp [h]
theorem rwA_d {l : List (Option (List α))} {j : Nat} {r : List α} : rwA l j = some r ↔ l[j]? = some (some r) := by
 unfold rwA
 rw [List.getD_eq_getElem?_getD]
 cases h : l[j]? with
 | none => simp
 | some x => simp
theorem rwA_lt {l : List (Option (List α))} {j : Nat} {r : List α} (h : rwA l j = some r) : j < l.length := (List.getElem?_eq_some_iff.1 (rwA_d.1 h)).1
theorem rwA_upd {l : List (Option (List α))} {i j : Nat} {x : Option (List α)} (h : i < l.length) : rwA (upd l i x) j = if i = j then x else rwA l j := by
 unfold rwA upd
 rw [List.getD_eq_getElem?_getD, List.getD_eq_getElem?_getD, List.getElem?_set]
 by_cases e : i = j
 ·subst e; simp [h]
 ·simp [e]
theorem rwA_self {l : List (Option (List α))} {j : Nat} {r : List α} {x : Option (List α)} (h : rwA l j = some r) : rwA (upd l j x) j = x := by rw [rwA_upd (rwA_lt h), if_pos rfl]
theorem nth_self {d x : α} {l : List α} {i : Nat} (h : i < l.length) : nth d (upd l i x) i = x := by rw [nth_upd, if_pos ⟨rfl, h⟩]
theorem rwA_cat {l : List (Option (List α))} {j : Nat} {x : Option (List α)} : rwA (cat l [x]) j = if j = l.length then x else rwA l j := by
 unfold rwA cat
 rw [List.getD_eq_getElem?_getD, List.getD_eq_getElem?_getD]
 by_cases e : j = l.length
 ·subst e; simp
 ·rw [if_neg e]
  by_cases h1 : j < l.length
  ·rw [List.getElem?_append_left h1]
  ·rw [List.getElem?_eq_none (by simp; omega), List.getElem?_eq_none (by omega)]
theorem nth_cat {d x : α} {l : List α} {j : Nat} : nth d (cat l [x]) j = if j = l.length then x else nth d l j := by
 unfold nth cat
 rw [List.getD_eq_getElem?_getD, List.getD_eq_getElem?_getD]
 by_cases e : j = l.length
 ·subst e; simp
 ·rw [if_neg e]
  by_cases h1 : j < l.length
  ·rw [List.getElem?_append_left h1]
  ·rw [List.getElem?_eq_none (by simp; omega), List.getElem?_eq_none (by omega)]
theorem rwA_last {l : List (Option (List α))} {x : Option (List α)} : rwA (cat l [x]) l.length = x := by rw [rwA_cat, if_pos rfl]
theorem nth_last {d x : α} {l : List α} : nth d (cat l [x]) l.length = x := by rw [nth_cat, if_pos rfl]
theorem tk_len {n : Nat} {l : List α} : (tk n l).length = min n l.length := List.length_take
theorem dr_len {n : Nat} {l : List α} : (dr n l).length = l.length - n := List.length_drop
theorem rep_len {n : Nat} {x : α} : (rep n x).length = n := List.length_replicate
theorem updF_len {d : α} {l : List α} {n : Nat} {x : α} : (upd l n x).length = l.length := List.length_set
theorem lenc {l k : List α} : (cat l k).length = l.length + k.length := List.length_append
theorem len_d (l : List α) : len l = l.length := rfl
theorem del_list {S R B : List α} {i m m' k : Nat} (hi : i < S.length) (hk : k = S.length - (i + 1)) (hm : m = i + k) (hm' : m' = i + k) : tk m (cat (tk m' (cat (tk i S) (cat (tk k (dr (i + 1) S)) R))) B) = S.eraseIdx i := by
 have e1 : tk k (dr (i + 1) S) = S.drop (i + 1) := List.take_of_length_le (by simp [dr]; omega)
 rw [e1]
 unfold tk cat
 have hl : (S.take i ++ S.drop (i + 1)).length = i + k := by simp; omega
 have h2 : List.take m' (List.take i S ++ (List.drop (i + 1) S ++ R)) = List.take i S ++ List.drop (i + 1) S := by
  rw [← List.append_assoc]; exact List.take_left' (hl.trans hm'.symm)
 rw [h2]
 exact (List.take_left' (hl.trans hm.symm)).trans (List.eraseIdx_eq_take_drop_succ _ _).symm
def Run (f : (σ → Option α) → σ → Option α) (s : σ) (x : Option α) (k : Nat) : Prop := ∀ n, k < n → iter f n s = x
theorem Run.stop {f : (σ → Option α) → σ → Option α} {s : σ} {x : Option α} (k : Nat) (h : ∀ g, f g s = x) : Run f s x k := fun n hn => by
 cases n with
 | zero => omega
 | succ n => exact h _
theorem Run.step {f : (σ → Option α) → σ → Option α} {s s' : σ} {x : Option α} {k : Nat} (h : Run f s' x k) (e : ∀ g : σ → Option α, f g s = g s') : Run f s x (k + 1) := fun n hn => by
 cases n with
 | zero => omega
 | succ n => exact (e _).trans (h n (by omega))
theorem Run.mono {f : (σ → Option α) → σ → Option α} {s : σ} {x : Option α} {k m : Nat} (h : Run f s x k) (hm : k ≤ m) : Run f s x m := fun n hn => h n (by omega)
theorem Run.loop {f : (σ → Option α) → σ → Option α} {s : σ} {x : Option α} {k : Nat} (h : Run f s x k) (hk : k < big) : Go.Bm.loop f s = x := by rw [loop_eq]; exact h big hk
theorem loop3 {f : (σ → Option α) → σ → Option α} {s : σ} : Go.Bm.loop f s = f (fun s => f (fun s => f (iter f 9223372036854775805) s) s) s := by rw [loop_eq]; rfl
theorem loop_up {f : (σ → Option α) → σ → Option α} (mk : Nat → σ) (res : Nat → Option α) (N : Nat) (hN : N < big) (he : ∀ g, f g (mk N) = res N) (h : ∀ k, k < N → (∀ g, f g (mk k) = res k) ∨ (res k = res (k + 1) ∧ ∀ g, f g (mk k) = g (mk (k + 1)))) : Go.Bm.loop f (mk 0) = res 0 := by
  have key : ∀ m k : Nat, k + m = N → Run f (mk k) (res k) m := by
    intro m
    induction m with
    | zero => intro k hk; obtain rfl : k = N := by omega
              exact .stop 0 he
    | succ m ih =>
      intro k hk
      rcases h k (by omega) with h1 | ⟨h1, h2⟩
      · exact .stop _ h1
      · rw [h1]; exact .step (ih (k + 1) (by omega)) (fun g => h2 g)
  exact (key N 0 (by omega)).loop hN
end
end Go.Bm
set_option linter.unusedVariables false
set_option linter.unusedSimpArgs false
namespace Go.Bm
theorem bits_mask (a : Int) (j : Nat) (hj : j < 63) : bits .and .i64 a (2 ^ j - 1) = a % 2 ^ j := by
 have h1 : (BitVec.ofInt 64 (2 ^ j - 1)).toNat = 2 ^ j - 1 := by
  rw [BitVec.toNat_ofInt]
  have h2 : (2 : Int) ^ j < 2 ^ 64 := by
   have : (2 : Nat) ^ j < 2 ^ 64 := Nat.pow_lt_pow_right (by omega) (by omega)
   exact_mod_cast this
  have h3 : (0 : Int) < 2 ^ j := by
   have : 0 < (2 : Nat) ^ j := Nat.pow_pos (by omega)
   exact_mod_cast this
  rw [Int.emod_eq_of_lt (by omega) (by simpa using (by omega : (2 : Int) ^ j - 1 < 2 ^ 64))]
  have : ((2 : Int) ^ j - 1) = (((2 : Nat) ^ j - 1 : Nat) : Int) := by
   have : 0 < (2 : Nat) ^ j := Nat.pow_pos (by omega)
   rw [Int.natCast_sub (by omega)]; simp
  rw [this]; simp
 have h4 : ((BitVec.ofInt 64 a).toNat &&& (2 ^ j - 1)) = (BitVec.ofInt 64 a).toNat % 2 ^ j := Nat.and_two_pow_sub_one_eq_mod _ _
 have h5 : (((BitVec.ofInt 64 a).toNat % 2 ^ j : Nat) : Int) = a % 2 ^ j := by
  rw [BitVec.toNat_ofInt]
  have hd : (2 : Int) ^ j ∣ 2 ^ 64 := ⟨2 ^ (64 - j), by rw [← Int.pow_add]; congr 1; omega⟩
  rw [Int.natCast_emod, Int.toNat_of_nonneg (Int.emod_nonneg _ (by decide))]
  have := Int.emod_emod_of_dvd a hd
  simpa using this
 have h6 : 0 ≤ a % 2 ^ j := Int.emod_nonneg _ (by
  have : 0 < (2 : Nat) ^ j := Nat.pow_pos (by omega)
  have : (0 : Int) < 2 ^ j := by exact_mod_cast this
  omega)
 have h7 : a % 2 ^ j < 9223372036854775808 := by
  have hp : (0 : Int) < 2 ^ j := by
   have : 0 < (2 : Nat) ^ j := Nat.pow_pos (by omega)
   exact_mod_cast this
  have h8 := Int.emod_lt_of_pos a hp
  have h9 : (2 : Int) ^ j ≤ 2 ^ 63 := by
   have : (2 : Nat) ^ j ≤ 2 ^ 63 := Nat.pow_le_pow_right (by omega) (by omega)
   exact_mod_cast this
  omega
 have h10 : (BitVec.ofInt 64 a &&& BitVec.ofInt 64 (2 ^ j - 1)).toNat = (BitVec.ofInt 64 a).toNat % 2 ^ j := by rw [BitVec.toNat_and, h1, h4]
 show IntKind.i64.wrap ((BitVec.ofInt 64 a &&& BitVec.ofInt 64 (2 ^ j - 1)).toNat : Int) = _
 rw [h10, h5]
 exact (by rw [wrap_i64]; omega)
theorem ofInt_nat {n : Nat} {a : Int} (h0 : 0 ≤ a) (h1 : a < 2 ^ n) : (BitVec.ofInt n a).toNat = a.toNat := by
 rw [BitVec.toNat_ofInt, Int.emod_eq_of_lt h0 (by exact_mod_cast h1)]
theorem bits_or_i64 {a b : Int} (ha : 0 ≤ a ∧ a < 9223372036854775808) (hb : 0 ≤ b ∧ b < 9223372036854775808) : bits .or .i64 a b = ((a.toNat ||| b.toNat : Nat) : Int) := by
 show IntKind.i64.wrap ((BitVec.ofInt 64 a ||| BitVec.ofInt 64 b).toNat : Int) = _
 rw [BitVec.toNat_or, ofInt_nat ha.1 (by omega), ofInt_nat hb.1 (by omega)]
 have : a.toNat ||| b.toNat < 2 ^ 63 := Nat.or_lt_two_pow (by omega) (by omega)
 exact (by rw [wrap_i64]; omega)
theorem nat_mask {a m : Int} (j : Nat) (h0 : 0 ≤ a) (hm : m = 2 ^ j - 1) : ((a.toNat &&& m.toNat : Nat) : Int) = a % 2 ^ j := by
 have hp : 0 < (2 : Nat) ^ j := Nat.pow_pos (by omega)
 have e : m.toNat = 2 ^ j - 1 := by
  rw [hm]
  have : ((2 : Int) ^ j - 1) = ((2 ^ j - 1 : Nat) : Int) := by rw [Int.natCast_sub (by omega)]; simp
  rw [this]; simp
 rw [e, Nat.and_two_pow_sub_one_eq_mod, Int.natCast_emod, Int.toNat_of_nonneg h0]; simp
theorem nat_or_add {a b : Int} (j : Nat) (c : Int) (h0 : 0 ≤ a) (h1 : a < 2 ^ j) (hc : 0 ≤ c) (hb : b = 2 ^ j * c) : ((a.toNat ||| b.toNat : Nat) : Int) = a + b := by
 have h1' : a.toNat < 2 ^ j := by
  have : (a.toNat : Int) < ((2 ^ j : Nat) : Int) := by rw [Int.toNat_of_nonneg h0]; simpa using h1
  exact_mod_cast this
 have e : b.toNat = 2 ^ j * c.toNat := by
  have : b = ((2 ^ j * c.toNat : Nat) : Int) := by rw [hb]; simp [Int.toNat_of_nonneg hc]
  rw [this, Int.toNat_natCast]
 have hb0 : 0 ≤ b := by rw [hb]; exact Int.mul_nonneg (by have : 0 < (2 : Nat) ^ j := Nat.pow_pos (by omega); exact_mod_cast Nat.le_of_lt this) hc
 rw [Nat.or_comm, e, ← Nat.two_pow_add_eq_or_of_lt h1', ← e, Int.natCast_add, Int.toNat_of_nonneg h0, Int.toNat_of_nonneg hb0]; omega
theorem pow_pos' (j : Nat) : (0 : Int) < 2 ^ j := by
 have : 0 < (2 : Nat) ^ j := Nat.pow_pos (by omega)
 exact_mod_cast this
theorem bits_and_u64 {a b : Int} (ha : 0 ≤ a ∧ a < 18446744073709551616) (hb : 0 ≤ b ∧ b < 18446744073709551616) : bits .and .u64 a b = ((a.toNat &&& b.toNat : Nat) : Int) := by
 show IntKind.u64.wrap ((BitVec.ofInt 64 a &&& BitVec.ofInt 64 b).toNat : Int) = _
 rw [BitVec.toNat_and, ofInt_nat ha.1 (by omega), ofInt_nat hb.1 (by omega)]
 have : a.toNat &&& b.toNat ≤ a.toNat := Nat.and_le_left
 rw [wrap_u64]; omega
theorem bits_or_u64 {a b : Int} (ha : 0 ≤ a ∧ a < 18446744073709551616) (hb : 0 ≤ b ∧ b < 18446744073709551616) : bits .or .u64 a b = ((a.toNat ||| b.toNat : Nat) : Int) := by
 show IntKind.u64.wrap ((BitVec.ofInt 64 a ||| BitVec.ofInt 64 b).toNat : Int) = _
 rw [BitVec.toNat_or, ofInt_nat ha.1 (by omega), ofInt_nat hb.1 (by omega)]
 have : a.toNat ||| b.toNat < 2 ^ 64 := Nat.or_lt_two_pow (by omega) (by omega)
 rw [wrap_u64]; omega
theorem and_u64 {a m : Int} (j : Nat) (ha : 0 ≤ a ∧ a < 18446744073709551616) (hm : m = 2 ^ j - 1) (hb : m < 18446744073709551616) : bits .and .u64 a m = a % 2 ^ j := by
 have hp := pow_pos' j
 rw [bits_and_u64 ha ⟨by omega, hb⟩, nat_mask j ha.1 hm]
theorem and_i64 {a m : Int} (j : Nat) (hj : j < 63) (hm : m = 2 ^ j - 1) : bits .and .i64 a m = a % 2 ^ j := by rw [hm, bits_mask a j hj]
theorem or_u64 {a b : Int} (j : Nat) (c : Int) (h0 : 0 ≤ a) (h1 : a < 2 ^ j) (hc : 0 ≤ c) (hb : b = 2 ^ j * c) (hs : a + b < 18446744073709551616) : bits .or .u64 a b = a + b := by
 have hb0 : 0 ≤ b := by rw [hb]; exact Int.mul_nonneg (Int.le_of_lt (pow_pos' j)) hc
 rw [bits_or_u64 ⟨h0, by omega⟩ ⟨hb0, by omega⟩, nat_or_add j c h0 h1 hc hb]
theorem or_rem8 {a b : Int} (ha : 0 ≤ a ∧ a < 9223372036854775808) (hb : 0 ≤ b ∧ b < 9223372036854775808) : irem (bits .or .i64 a b) 8 = 0 ↔ a % 8 = 0 ∧ b % 8 = 0 := by
 rw [bits_or_i64 ha hb, irem_p (by omega)]
 obtain ⟨x, rfl⟩ := Int.eq_ofNat_of_zero_le ha.1
 obtain ⟨y, rfl⟩ := Int.eq_ofNat_of_zero_le hb.1
 have h : (x ||| y) % 8 = (x % 8) ||| (y % 8) := by
  have := Nat.or_mod_two_pow (a := x) (b := y) (n := 3)
  simpa using this
 have h2 : (x ||| y) % 8 = 0 ↔ x % 8 = 0 ∧ y % 8 = 0 := by rw [h]; exact Nat.or_eq_zero_iff
 simp only [Int.toNat_natCast]
 omega
theorem seven_hi : ∀ k : Fin 64, 3 ≤ k.val → (7#64)[k.val]'k.isLt = false := by decide
theorem andNot7 {a : Int} (ha : 0 ≤ a ∧ a < 9223372036854775808) : bits .andNot .i64 a 7 = a - a % 8 := by
 obtain ⟨x, rfl⟩ := Int.eq_ofNat_of_zero_le ha.1
 have h1 : (BitVec.ofInt 64 (x : Int) &&& ~~~ BitVec.ofInt 64 7).toNat = x - x % 8 := by
  have hx : x < 2 ^ 64 := by omega
  have e : BitVec.ofInt 64 (x : Int) &&& ~~~ BitVec.ofInt 64 7 = (BitVec.ofNat 64 x >>> 3) <<< 3 := by
   rw [BitVec.ofInt_natCast]
   ext i hi
   simp only [BitVec.getElem_and, BitVec.getElem_not, BitVec.getElem_shiftLeft]
   by_cases h3 : i < 3
   ·have : i = 0 ∨ i = 1 ∨ i = 2 := by omega
    rcases this with rfl | rfl | rfl <;> simp <;> decide
   ·have h7 : (BitVec.ofInt 64 7)[i] = false := by
     have : BitVec.ofInt 64 7 = 7#64 := rfl
     rw [this]
     exact seven_hi ⟨i, hi⟩ (by simpa using h3)
    rw [h7]
    simp [h3]
    congr 1
    omega
  rw [e]
  simp only [BitVec.toNat_shiftLeft, BitVec.toNat_ushiftRight, BitVec.toNat_ofNat, Nat.mod_eq_of_lt hx, Nat.shiftRight_eq_div_pow, Nat.shiftLeft_eq]
  omega
 show IntKind.i64.wrap ((BitVec.ofInt 64 (x : Int) &&& ~~~ BitVec.ofInt 64 7).toNat : Int) = _
 rw [h1, wrap_i64]; omega
theorem ishl_u {a b : Int} (n : Nat) (hb : b = n) (hn : n ≤ 64) (h : 0 ≤ a * 2 ^ n ∧ a * 2 ^ n < 18446744073709551616) : ishl .u64 a b = a * 2 ^ n := by
 subst hb
 unfold ishl
 rw [Int.toNat_natCast, Nat.min_eq_left (by simpa [IntKind.bits] using hn), wrap_u64]
 exact Int.emod_eq_of_lt h.1 h.2
theorem ishr_u {a b : Int} (n : Nat) (hb : b = n) (hn : n ≤ 64) : ishr .u64 a b = a / 2 ^ n := by
 subst hb
 unfold ishr
 rw [Int.toNat_natCast, Nat.min_eq_left (by simpa [IntKind.bits] using hn), Int.fdiv_eq_ediv_of_nonneg _ (Int.le_of_lt (pow_pos' n))]
end Go.Bm
set_option linter.unusedVariables false
set_option linter.unusedSimpArgs false
namespace Go.Pen
open Go.Bm
abbrev Ctl := Int × Int × Int × Int
abbrev Xt := Int × Int
abbrev Enty := Int × Bool
abbrev FOp := Int × Int × Int
abbrev Hnd := Int × Int × Int
abbrev Pln := Int × Int × Int × Int
abbrev Cal := Int × Int × Int × Int × Int × Int × Int
abbrev Ans := Int × Int × List Int
def within (a lo hi : Int) : Bool := decide (lo ≤ a) && decide (a ≤ hi)
theorem wi_iff {a lo hi : Int} : within a lo hi = true ↔ lo ≤ a ∧ a ≤ hi := by simp [within]
theorem wi_f {a lo hi : Int} : within a lo hi = false ↔ ¬ (lo ≤ a ∧ a ≤ hi) := by rw [← wi_iff]; simp
def planRight (p : Pln) : Bool := within p.1 1 8 && (within p.2.1 1 4 && (within p.2.2.1 0 2048 && (within p.2.2.2 0 8192 && (decide (p.2.2.1 % 8 = 0) && decide (p.2.2.2 % 8 = 0)))))
theorem planRight_iff {p : Pln} : planRight p = true ↔ (1 ≤ p.1 ∧ p.1 ≤ 8) ∧ (1 ≤ p.2.1 ∧ p.2.1 ≤ 4) ∧ (0 ≤ p.2.2.1 ∧ p.2.2.1 ≤ 2048) ∧ (0 ≤ p.2.2.2 ∧ p.2.2.2 ≤ 8192) ∧ p.2.2.1 % 8 = 0 ∧ p.2.2.2 % 8 = 0 := by
 simp [planRight, wi_iff]
def up8 (n : Int) : Int := n + 7 - (n + 7) % 8
def ctlRight (c : Ctl) : Bool := within c.2.2.2 0 16777215 && (if c.1 = 0 ∨ c.1 = 1 then decide (c.2.1 = 0) && decide (c.2.2.1 = -1) else if c.1 = 2 then within c.2.1 1 7 && within c.2.2.1 (-1) 7 else if c.1 = 3 then decide (c.2.1 = 0) && within c.2.2.1 (-1) 7 else false)
def ctl0 : Ctl := (0, 0, 0, 0)
def ctlEnter (c : Ctl) (fr : Int) : Ctl × Int :=
 if ctlRight c = false ∨ within fr 0 7 = false then (ctl0, 1)
 else if c.1 = 0 then (ctl0, 11)
 else if c.1 = 3 then (ctl0, 10)
 else if c.1 = 1 then ((2, c.2.1 + 1, fr, c.2.2.2), 0)
 else if c.2.2.1 ≠ fr then (ctl0, 15)
 else if c.2.1 = 7 then (ctl0, 16)
 else ((c.1, c.2.1 + 1, c.2.2.1, c.2.2.2), 0)
def ctlOf (c : Ctl) (s : Int) : Int := if ctlRight c = false then 1 else if c.1 ≠ s then 11 else 0
def ctlLeave (c : Ctl) : Ctl × Int := if ctlOf c 2 ≠ 0 then (ctl0, ctlOf c 2) else if c.2.1 = 1 then ((3, 0, c.2.2.1, c.2.2.2), 0) else ((c.1, c.2.1 - 1, c.2.2.1, c.2.2.2), 0)
def nextEpoch (e : Int) : Int := (e + 1) % 16777216
def ctlOpen (c : Ctl) : Ctl × Int := if ctlOf c 3 ≠ 0 then (ctl0, ctlOf c 3) else ((1, 0, -1, nextEpoch c.2.2.2), 0)
def area (l : List Enty) : Int := match l.getLast? with
 | some e => e.1
 | none => 0
def entAt : List Enty → Int → Option Nat
 | [], _ => none
 | e :: l, s => if e = (s, true) then some 0 else (entAt l s).map (· + 1)
def reach (l : List Enty) (s : Int) : Bool := decide (s = 0) || (entAt l s).isSome
def parent (l : List Enty) (s : Int) : Int := match entAt l s with
 | some i => area (l.take i)
 | none => -1
def aboveN (l : List Enty) (s : Int) : Nat → Int → Bool
 | 0, _ => false
 | n + 1, b => if b = s then true else aboveN l s n (parent l b)
def above (l : List Enty) (s b : Int) : Bool := decide (s = 0) || aboveN l s 9 b
def headWords (slots bytes : Int) : Int × Int := if within slots 0 6 = false ∨ within bytes 0 512 = false then (0, 1) else (2 + slots + (bytes + 7) / 8, 0)
def hndRight (r : Hnd) : Bool := within r.1 0 7 && (within r.2.1 0 16777215 && (within r.2.2 8 65528 && decide (r.2.2 % 8 = 0)))
def hndNum (r : Hnd) : Int := r.2.2 / 8 + r.1 * 16777216 + r.2.1 * 4294967296
def hndPack (r : Hnd) : Int × Int := if hndRight r = true then (hndNum r, 0) else (0, 1)
def hndOf (h : Int) : Hnd := (h / 16777216 % 256, h / 4294967296, h % 16777216 * 8)
def hndUnpack (h : Int) : Hnd × Int := if hndRight (hndOf h) = true then (hndOf h, 0) else ((0, 0, 0), 18)
theorem hndRight_iff {r : Hnd} : hndRight r = true ↔ (0 ≤ r.1 ∧ r.1 ≤ 7) ∧ (0 ≤ r.2.1 ∧ r.2.1 ≤ 16777215) ∧ (8 ≤ r.2.2 ∧ r.2.2 ≤ 65528) ∧ r.2.2 % 8 = 0 := by
 simp [hndRight, wi_iff]
theorem hndNum_of {h : Int} (h0 : 0 ≤ h) : (hndOf h).1 ≤ 7 → hndNum (hndOf h) = h := by
 unfold hndNum hndOf
 simp only
 omega
theorem hndNum_pos {r : Hnd} (hr : hndRight r = true) : 0 < hndNum r ∧ hndNum r < 72057594037927936 := by
 rw [hndRight_iff] at hr
 unfold hndNum
 omega
end Go.Pen
set_option linter.unusedVariables false
set_option linter.unusedSimpArgs false
namespace Go.Bm
noncomputable section
open Go.RowKit
section
variable {P : Program} {E : Env} {o : Oper} {ρ : Operand → A} {h : H} {β : Type} {K : A → H → Fp → Option β} {r : β}
def isAg : A → Bool
 | .agg _ => true
 | _ => false
theorem V.sc1 {g : G} {p : A} {v : Value} {cs : List A} (hv : V g p v) (ha : isAg p = false) (hc : p.cells = some cs) : v.oneCell' = true := by
 cases hv with
 | v x =>
  unfold A.cells at hc
  cases hx : v.oneCell' with
  | true => rfl
  | false => simp only [hx, cond_false] at hc; cases hc
 | agg => cases ha
 | tup => cases hc
 | un => cases hc
 | junk => cases hc
 | op r o v h0 h1 => exact V.oneo (.op r o v h0 h1)
 | os r z o v h0 h1 => exact V.oneo (.os r z o v h0 h1)
 | om r o v h0 h1 => exact V.oneo (.om r o v h0 h1)
 | tl t f l v hd => exact hd.one
 | _ => rfl
def packK (a : Bool) (t : Ty) (p : A) : Option t.T := bif a then (match p with
 | .agg cs => toC t cs
 | _ => none) else bif isAg p then none else (match p.cells with
 | some cs => bif Nat.beq t.size 1 then toC t cs else none
 | none => none)
theorem packK_ok {a : Bool} {t : Ty} {p : A} {x : t.T} (hx : packK a t p = some x) {g : G} {v : Value} (hv : V g p v) : V g (packA a t x) v := by
 unfold packK at hx
 unfold packA
 cases a with
 | true =>
  simp only [cond_true] at hx ⊢
  split at hx
  ·rename_i cs
   obtain ⟨us, rfl⟩ := hv.aggP rfl
   exact Vs.agg ((toC_ok (g := g) t cs x hx).2 _ (hv.cells rfl))
  ·cases hx
 | false =>
  simp only [cond_false] at hx ⊢
  cases ha : isAg p with
  | true => rw [ha] at hx; cases hx
  | false =>
   rw [ha] at hx; simp only [cond_false] at hx
   split at hx
   ·rename_i cs hc
    obtain ⟨h1, hx⟩ := cond_some hx
    have h1 := beq_eq h1
    have hv2 := (toC_ok (g := g) t cs x hx).2 _ (hv.cells hc)
    rw [one_cells (hv.sc1 ha hc)] at hv2
    have hl : (encA t x).length = 1 := by rw [encA_len]; exact h1
    match he : encA t x, hl with
    | [c], _ =>
     rw [he] at hv2
     exact (hv2.2 0 c v rfl rfl).1
   ·cases hx
theorem OpS.conv {S S' : Hp} {ρ' : Operand → A} {pv : A} (hc : ∀ x ∈ o.op.operands, ∀ g v, V g (ρ x) v → V g (ρ' x) v) (k : OpS P o ρ' S S' pv) : OpS P o ρ S S' pv :=
 fun g w a next Q hI hv K => k g w a next Q hI (fun x hx => hc x hx g _ (hv x hx)) K
def told (ρ : Operand → A) (y : Operand) (p : A) : Operand → A := fun z => open Classical in if z = y then p else ρ z
theorem told_self {ρ : Operand → A} {y : Operand} {p : A} : told ρ y p y = p := if_pos rfl
theorem told_ne {ρ : Operand → A} {y z : Operand} {p : A} (h : z ≠ y) : told ρ y p z = ρ z := if_neg h
theorem told_conv {ρ : Operand → A} {y : Operand} {p : A} (h : ∀ g v, V g (ρ y) v → V g p v) : ∀ (x : Operand) (g : G) (v : Value), V g (ρ x) v → V g (told ρ y p x) v := fun x g v hv => by
 by_cases hx : x = y
 ·subst hx; rw [told_self]; exact h g v hv
 ·rw [told_ne hx]; exact hv
def mpK (h : H) (r j : Nat) (k : (ka : Bool) → (tk : Ty) → (va : Bool) → (tv : Ty) → List (tk.T × tv.T) → Option β) : Option β := match rfind h.rg r with
 | some ⟨_, .map ka tk va tv, c⟩ => bif Nat.blt r 64 then k ka tk va tv (nth (α := List (tk.T × tv.T)) [] c j) else none
 | _ => none
def ents (ka : Bool) (tk : Ty) (va : Bool) (tv : Ty) (es : List (tk.T × tv.T)) : List (A × A) := es.map fun e => (packA ka tk e.1, packA va tv e.2)
theorem regOb_map {ka va : Bool} {tk tv : Ty} {c : List (List (tk.T × tv.T))} {j : Nat} (h : j < c.length) : regOb (.map ka tk va tv) c j = some (.oth (.map (ents ka tk va tv (nth [] c j)))) := by
 show (match gtA (α := List (tk.T × tv.T)) c j with | some es => some (Ob.oth (.map (ents ka tk va tv es))) | none => none) = _
 have e : gtA c j = some (nth [] c j) := by simp [gtA, nth, List.getD_eq_getElem?_getD, List.getElem?_eq_getElem h]
 rw [e]
theorem mpK_ok {q j : Nat} {k : (ka : Bool) → (tk : Ty) → (va : Bool) → (tv : Ty) → List (tk.T × tv.T) → Option β} (hr : mpK h q j k = some r) : ∃ (ka : Bool) (tk : Ty) (va : Bool) (tv : Ty) (es : List (tk.T × tv.T)), k ka tk va tv es = some r ∧ q < 64 ∧ (∃ x : Rg, rfind h.rg q = some x ∧ ∃ c : List (List (tk.T × tv.T)), x = ⟨x.r, .map ka tk va tv, c⟩ ∧ es = nth [] c j) ∧
  ∀ g S (w : World) b s, Inv g S w → S.ob (rid q j) = (hp h).ob (rid q j) → (S.fr (rid q j) ↔ (hp h).fr (rid q j)) → g.at' (rid q j) = some (some b, s) → S.ob (rid q j) = some (.oth (.map (ents ka tk va tv es))) := by
 unfold mpK at hr
 split at hr
 ·rename_i rr ka tk va tv c hf
  obtain ⟨h1, h2⟩ := cond_some hr
  have h3 : q < 64 := blt_lt h1
  refine ⟨ka, tk, va, tv, _, h2, h3, ⟨_, hf, c, rfl, rfl⟩, fun g S w b s hI e e2 hg => ?_⟩
  have hlt : j < List.length (α := List (tk.T × tv.T)) c := by
   rcases Nat.lt_or_ge j (List.length (α := List (tk.T × tv.T)) c) with hlt | hge
   ·exact hlt
   ·have : S.fr (rid q j) := e2.2 (by rw [hp_reg.2, regFr_eq h3 hf]; exact hge)
    have := hI.fresh _ this
    rw [this] at hg; cases hg
  rw [e, hp_reg.1, regAt_eq h3 hf]
  exact regOb_map hlt
 ·cases hr
def lkpR (ok : Bool) (z : A) (res : Option (Nat × A)) (h : H) (T : Fp) (K : A → H → Fp → Option β) : Option β := bif ok then K (.tup [valR z res, .v (.bool res.isSome)]) h T else spK (valR z res) (fun v => K v h T)
theorem lkpR_ok {ok : Bool} {z : A} {res : Option (Nat × A)} {T : List Nat} (hd : ∀ c, o.op ≠ .defer c) (hr : lkpR ok z res h (.rd T) K = some r) (k : ∀ S2, Agree (.rd T) (hp h) S2 → OpS P o ρ S2 S2 (bif ok then .tup [valR z res, .v (.bool res.isSome)] else valR z res)) : Out P o ρ h K r := by
 unfold lkpR at hr
 cases ok with
 | true => exact .read T hr k hd
 | false => exact .sp hr (.read _ k hd)
def lkpK (E : Env) (T : Nat) (ok : Bool) (px py : A) (h : H) (K : A → H → Fp → Option β) : Option β := match tget E.tab T with
 | some ⟨.map KT VT, _, _, _, _, _, _⟩ => match tget E.tab KT, tget E.tab VT with
  | some e, some e2 => match zeroA e2.zero with
   | some z => match px with
    | .mp (.loc q) => match h.t.get q with
     | some (.oth (.map es)) => match keyE E KT e.d py py with
      | some _ => bif keyTy E e.d && Nat.blt q 16777216 then findK (keyE E KT e.d py) es 0 (fun res => lkpR ok z res h (.rd [rlo q]) K) else none
      | none => none
     | _ => none
    | .mp (.reg q j) => mpK h q j (fun ka tk va tv es => bif ksh E KT e ka tk && keyTy E e.d then (match packK ka tk py with
     | some x => opt (mfi (eqT tk x) es 0) (lkpR ok z none h (.rd [rgn q]) K) (fun p => lkpR ok z (some (p.1, packA va tv p.2)) h (.rd [rgn q]) K)
     | none => none) else none)
    | _ => none
   | none => none
  | _, _ => none
 | _ => none
theorem lkpK_ok (hE : EnvOk P E) {T : Nat} {x y : Operand} {ok : Bool} (ho : o.op = .lookup T x y ok) (hr : lkpK E T ok (ρ x) (ρ y) h K = some r) : Out P o ρ h K r := by
 have hd : ∀ c, o.op ≠ .defer c := by rw [ho]; intro c e; cases e
 unfold lkpK at hr
 split at hr
 ·rename_i KT VT _ _ _ _ _ _ ht
  have hT := (hE.tab _ _ ht).u
  split at hr
  ·rename_i e e2 he he2
   obtain ⟨i, t1, t2, t3, t4, t5, t6⟩ := (hE.tab _ _ he2).ti
   split at hr
   ·rename_i z hz
    have hzz := zeroA_ok hz t6
    split at hr
    ·rename_i q hx
     split at hr
     ·rename_i es hg
      split at hr
      ·rename_i b hs
       obtain ⟨h1, hr⟩ := cond_some hr
       simp only [Bool.and_eq_true] at h1
       have hq := blt_lt h1.2
       obtain ⟨res, k1, k2⟩ := findK_ok _ _ _ hr
       have hob : (hp h).ob q = some (.oth (.map es)) := by rw [hp_loc hq]; unfold tOb; rw [hg]; rfl
       exact lkpR_ok hd k1 (fun S2 hA => opS_lookup hE ho hT he he2 h1.1 hs hx ((hA q (touch_loc hq (.head _))).1.trans hob) k2 hzz)
      ·cases hr
     ·cases hr
    ·rename_i q j hx
     obtain ⟨ka, tk, va, tv, es, hr, hq, _, hob⟩ := mpK_ok hr
     obtain ⟨h1, hr⟩ := cond_some hr
     simp only [Bool.and_eq_true] at h1
     split at hr
     ·rename_i kx hkx
      have hne : x ≠ y := fun e => by
       rw [← e, hx] at hkx
       unfold packK at hkx
       cases ka with
       | true => cases hkx
       | false =>
        simp only [cond_false, isAg, A.cells] at hkx
        obtain ⟨_, hkx⟩ := cond_some hkx
        have hs := h1.1
        unfold ksh at hs
        split at hs
        ·simp only [Bool.not_false, Bool.true_and] at hs
         split at hs
         ·simp [toC] at hkx
         ·cases hs
        ·simp at hs
        ·cases hs
      have main : ∀ res, mfi (eqT tk kx) es 0 = res → lkpR ok z (res.map fun p => (p.1, packA va tv p.2)) h (.rd [rgn q]) K = some r → Out P o ρ h K r := fun res hm hr => by
       refine lkpR_ok hd hr (fun S2 hA => OpS.at' fun g w a hI hv => ?_)
       have hvx := hv x (by simp [ho, Op.operands])
       rw [hx] at hvx
       have ha := hA (rid q j) (touch_reg (r := q) (j := j) hq (.head _))
       have hm2 : ∃ b s, g.at' (rid q j) = some (some b, s) := by
        generalize a.eval x = vx at hvx
        cases hvx with
        | mp _ b s hat => exact ⟨b, s, hat⟩
       obtain ⟨b, s, hat⟩ := hm2
       have hob2 := hob g S2 w b s hI ha.1 ha.2 hat
       refine OpS.conv (ρ' := told ρ y (packA ka tk kx)) (fun x _ g v hv => told_conv (fun g v hv => packK_ok hkx hv) x g v hv) ?_
       have hf := findA_typed (va := va) (tv := tv) he h1.1 kx es 0
       rw [hm] at hf
       exact opS_lookup (X := .reg q j) (es := ents ka tk va tv es) hE ho hT he he2 h1.2 (b := eqT tk kx kx) (by rw [told_self]; exact ksh_eq he h1.1 kx kx) (by rw [told_ne hne, hx]) hob2 (by rw [told_self]; exact hf) hzz
      rcases opt_inv hr with ⟨e, hr⟩ | ⟨p, e, hr⟩
      ·exact main none e hr
      ·exact main (some p) e hr
     ·cases hr
    ·cases hr
   ·cases hr
  ·cases hr
 ·cases hr
def mkmK (h : H) (K : A → H → Fp → Option β) : Option β := newK (.oth (.map [])) h (fun q h' => K (.mp (.loc q)) h' (.wr [rlo q]))
theorem mkmK_ok {T : Nat} (ho : o.op = .makeMap T none) (hr : mkmK h K = some r) : Out P o ρ h K r := by
 have hd : ∀ c, o.op ≠ .defer c := by rw [ho]; intro c e; cases e
 obtain ⟨h', k1, hq, hf, hh⟩ := newK_ok hr
 exact ⟨_, _, _, k1, .of _ hh rfl (fun u hu => by rcases List.mem_singleton.1 hu with rfl; exact touch_loc (o := h.nid) hq (.head _)) (fun S2 hA => opS_makeMap ho ((hA _ (touch_loc hq (.head _))).2.2 hf)) hd⟩
def putM (h : H) (q j : Nat) (ka : Bool) (tk : Ty) (va : Bool) (tv : Ty) (es : List (tk.T × tv.T)) (k : H → Option β) : Option β := bif lkd h (rgn q) then none else match rfind h.rg q with
 | some ⟨_, .map ka' tk' va' tv', c⟩ => if ka = ka' ∧ va = va' then (match castT (.slc (.pair tk tv)) (.slc (.pair tk' tv')) es with
  | some es' => k { h with rg := rput h.rg q (.map ka' tk' va' tv') (upd (α := List (tk'.T × tv'.T)) c j es') }
  | none => none) else none
 | _ => none
theorem regOb_updM {ka va : Bool} {tk tv : Ty} {c : List (List (tk.T × tv.T))} {j : Nat} {es : List (tk.T × tv.T)} (hj : j < c.length) (i : Nat) : regOb (.map ka tk va tv) (upd c j es) i = if i = j then some (.oth (.map (ents ka tk va tv es))) else regOb (.map ka tk va tv) c i := by
 show (match gtA (α := List (tk.T × tv.T)) (upd c j es) i with | some es => some (Ob.oth (.map (ents ka tk va tv es))) | none => none) = if i = j then some (.oth (.map (ents ka tk va tv es))) else (match gtA (α := List (tk.T × tv.T)) c i with | some es => some (Ob.oth (.map (ents ka tk va tv es))) | none => none)
 rw [gtA_upd]
 by_cases h : i = j
 ·rw [if_pos ⟨h, hj⟩, if_pos h]
 ·rw [if_neg (fun k => h k.1), if_neg h]
theorem putM_ok {q j : Nat} {ka : Bool} {tk : Ty} {va : Bool} {tv : Ty} {es : List (tk.T × tv.T)} {k : H → Option β} (h3 : q < 64) (hr : putM h q j ka tk va tv es k = some r) : ∃ h', k h' = some r ∧ PutOk h h' (.reg q j) (.oth (.map (ents ka tk va tv es))) := by
 obtain ⟨_, hr⟩ := bif_none hr
 split at hr
 ·rename_i rr ka' tk' va' tv' c hf
  split at hr
  ·rename_i e
   obtain ⟨rfl, rfl⟩ := e
   split at hr
   rotate_left
   ·cases hr
   rename_i es' hes
   obtain ⟨e, hes⟩ := castT_eq hes
   cases e
   obtain rfl : es = es' := hes
   refine ⟨_, hr, fun i hi => ?_, fun hfr => ?_⟩
   ·have hn := touch_rg h3 hi
    have := hp_rput (h := h) (k := .map ka tk va tv) (c := upd (α := List (tk.T × tv.T)) c j es) hf i
    rw [if_neg hn, if_neg hn] at this
    exact this
   ·have hlt : j < List.length (α := List (tk.T × tv.T)) c := by
     rcases Nat.lt_or_ge j (List.length (α := List (tk.T × tv.T)) c) with hlt | hge
     ·exact hlt
     ·exact absurd (by rw [show (Ref.reg q j).id = rid q j from rfl, hp_reg.2, regFr_eq h3 hf]; exact hge) hfr
    exact hp_mem (j := j) (u := .set (rid q j) _) h3 hf (upd_len (α := List (tk.T × tv.T)) c j _) (fun i hi => by rw [regOb_updM (c := c) hlt, if_neg hi]) rfl (by rw [regOb_updM (c := c) hlt, if_pos rfl]; exact set_ob) rfl
  ·cases hr
 ·cases hr
def mputK (E : Env) (T : Nat) (ins ne : Bool) (px py pz : A) (h : H) (K : A → H → Fp → Option β) : Option β := match tget E.tab T with
 | some ⟨.map KT _, _, _, _, _, _, _⟩ => match tget E.tab KT with
  | some e => match px with
   | .mp (.loc q) => match h.t.get q with
    | some (.oth (.map es)) => match keyE E KT e.d py py with
     | some _ => bif keyTy E e.d && Nat.blt q 16777216 && !(lkd h (rlo q)) then findK (keyE E KT e.d py) es 0 (fun res => match res with
      | none => setT h.t q (some (.oth (.map (es ++ [(py, pz)])))) (fun t1 => K .junk { h with t := t1 } (.wr [rlo q]))
      | some _ => none) else none
     | none => none
    | _ => none
   | .mp (.reg q j) => mpK h q j (fun ka tk va tv es => bif ksh E KT e ka tk && keyTy E e.d && ne then (match packK ka tk py, packK va tv pz with
    | some x, some y => opt (mfi (eqT tk x) es 0) (putM h q j ka tk va tv (cat es [(x, y)]) (fun h' => K .junk h' (.wr [rgn q])))
     (fun p => bif ins then none else putM h q j ka tk va tv (mset es p.1 y) (fun h' => K .junk h' (.wr [rgn q])))
    | _, _ => none) else none)
   | _ => none
  | none => none
 | _ => none
theorem mfi_spec {κ α : Type} {p : κ → Bool} : ∀ (l : List (κ × α)) (i n : Nat) (v : α), mfi p l i = some (n, v) → ∃ m k, n = i + m ∧ l[m]? = some (k, v) ∧ p k = true
 | [], _, _, _, h => by cases h
 | (k, v) :: l, i, n, v', h => by
  unfold mfi at h
  cases hk : p k with
  | true => rw [hk] at h; cases h; exact ⟨0, k, rfl, rfl, hk⟩
  | false =>
   rw [hk] at h
   obtain ⟨m, k', h1, h2, h3⟩ := mfi_spec l (i + 1) n v' h
   exact ⟨m + 1, k', by omega, h2, h3⟩
theorem V.mpAt {g : G} {X : Ref} {v : Value} (hv : V g (.mp X) v) : ∃ b s, g.at' X.id = some (some b, s) := by
 cases hv with
 | mp _ b s hat => exact ⟨b, s, hat⟩
theorem packK_mp {E : Env} {K : Nat} {e : TyE} {ka : Bool} {tk : Ty} {X : Ref} {kx : tk.T} (hs : ksh E K e ka tk = true) (hkx : packK ka tk (.mp X) = some kx) : False := by
 unfold packK at hkx
 cases ka with
 | true => cases hkx
 | false =>
  simp only [cond_false, isAg, A.cells] at hkx
  obtain ⟨_, hkx⟩ := cond_some hkx
  unfold ksh at hs
  split at hs
  ·simp only [Bool.not_false, Bool.true_and] at hs
   split at hs
   ·simp [toC] at hkx
   ·cases hs
  ·simp at hs
  ·cases hs
theorem mputK_ok (hE : EnvOk P E) {T : Nat} {x y z : Operand} {ins ne : Bool} (hzy : ne = true → z ≠ y) (ho : (ins = false ∧ o.op = .mapUpdate T x y z) ∨ (ins = true ∧ o.op = .insert T x y z)) (hr : mputK E T ins ne (ρ x) (ρ y) (ρ z) h K = some r) : Out P o ρ h K r := by
 have hd : ∀ c, o.op ≠ .defer c := by rcases ho with ⟨_, ho⟩ | ⟨_, ho⟩ <;> (rw [ho]; intro c e; cases e)
 have ho' : o.op = .mapUpdate T x y z ∨ o.op = .insert T x y z := by rcases ho with ⟨_, ho⟩ | ⟨_, ho⟩ <;> simp [ho]
 have hops : x ∈ o.op.operands := by rcases ho' with ho | ho <;> simp [ho, Op.operands]
 unfold mputK at hr
 split at hr
 ·rename_i KT VT _ _ _ _ _ _ ht
  have hT := (hE.tab _ _ ht).u
  split at hr
  ·rename_i e he
   split at hr
   ·rename_i q hx
    split at hr
    ·rename_i es hg
     split at hr
     ·rename_i b hs
      obtain ⟨h1, hr⟩ := cond_some hr
      simp only [Bool.and_eq_true] at h1
      have hq := blt_lt h1.1.2
      obtain ⟨res, k1, k2⟩ := findK_ok _ _ _ hr
      have hob : (hp h).ob q = some (.oth (.map es)) := by rw [hp_loc hq]; unfold tOb; rw [hg]; rfl
      split at k1
      ·obtain ⟨_, t1, k3, k4⟩ := setT_inv k1
       exact ⟨_, _, _, k3, .of [.set q (.oth (.map (es ++ [(ρ y, ρ z)])))] (hp_set (x := .oth (.map (es ++ [(ρ y, ρ z)]))) hq k4) rfl (fun u hu => by rcases List.mem_singleton.1 hu with rfl; exact touch_loc (o := q) hq (.head _))
        (fun S2 hA => opS_put hE ho' hT he h1.1.1 hs hx ((hA q (touch_loc hq (.head _))).1.trans hob) (fun g v hv => hv) (fun g v hv => hv) k2) hd⟩
      ·cases k1
     ·cases hr
    ·cases hr
   ·rename_i q j hx
    obtain ⟨ka, tk, va, tv, es, hr, hq, _, hob⟩ := mpK_ok hr
    obtain ⟨h1, hr⟩ := cond_some hr
    simp only [Bool.and_eq_true] at h1
    split at hr
    ·rename_i kx vy hkx hvy
     have hne : x ≠ y := fun e => by rw [← e, hx] at hkx; exact packK_mp h1.1.1 hkx
     have hX : okR (.reg q j) = true := by show Nat.blt q 64 = true; simpa using hq
     have pres : ∀ (g : G) (S : Hp) (w : World) (a : Act), Inv g S w → (∀ x ∈ o.op.operands, V g (ρ x) (a.eval x)) → g.at' (Ref.reg q j).id ≠ none := fun g S w a hI hv => by
      have hvx := hv x hops
      rw [hx] at hvx
      obtain ⟨b, s, hat⟩ := hvx.mpAt
      rw [hat]; intro h; cases h
     have here : ∀ S2, Agree (.wr (rs1 (.reg q j) :: [])) (hp h) S2 → ∀ {S' : Hp} {pv : A}, (S2.ob (rid q j) = some (.oth (.map (ents ka tk va tv es))) → OpS P o ρ S2 S' pv) → OpS P o ρ S2 S' pv := fun S2 hA _ _ k => OpS.at' fun g w a hI hv => by
      have hvx := hv x hops
      rw [hx] at hvx
      obtain ⟨b, s, hat⟩ := hvx.mpAt
      have ha := hA (rid q j) (touch_reg (r := q) (j := j) hq (.head _))
      exact k (hob g S2 w b s hI ha.1 ha.2 hat)
     have hxt : told ρ y (packA ka tk kx) x = .mp (.reg q j) := by rw [told_ne hne, hx]
     have hvz : ∀ g v, V g (told ρ y (packA ka tk kx) z) v → V g (packA va tv vy) v := fun g v hv => by
      rw [told_ne (hzy h1.2)] at hv; exact packK_ok hvy hv
     have conv := fun {S S' : Hp} {pv : A} => OpS.conv (P := P) (o := o) (ρ := ρ) (ρ' := told ρ y (packA ka tk kx)) (S := S) (S' := S') (pv := pv) (fun x _ g v hv => told_conv (fun g v hv => packK_ok hkx hv) x g v hv)
     have hs : keyE E KT e.d (told ρ y (packA ka tk kx) y) (told ρ y (packA ka tk kx) y) = some (eqT tk kx kx) := by rw [told_self]; exact ksh_eq he h1.1.1 kx kx
     have hf := findA_typed (va := va) (tv := tv) he h1.1.1 kx es 0
     rcases opt_inv hr with ⟨e1, hr⟩ | ⟨p, e1, hr⟩
     ·obtain ⟨h', k1, k2⟩ := putM_ok hq hr
      refine ⟨_, _, _, k1, .put hd hX k2 pres (fun S2 hA => here S2 hA fun hob2 => ?_)⟩
      have e2 : ents ka tk va tv (cat es [(kx, vy)]) = ents ka tk va tv es ++ [(packA ka tk kx, packA va tv vy)] := by simp [ents, cat]
      rw [e2]
      rw [e1] at hf
      exact conv (opS_put (X := .reg q j) hE ho' hT he h1.1.2 hs hxt hob2 (fun g v hv => by rw [told_self] at hv; exact hv) hvz (by rw [told_self]; exact hf))
     ·cases hi : ins with
      | true => rw [hi] at hr; cases hr
      | false =>
       rw [hi] at hr; simp only [cond_false] at hr
       obtain ⟨h', k1, k2⟩ := putM_ok hq hr
       refine ⟨_, _, _, k1, .put hd hX k2 pres (fun S2 hA => here S2 hA fun hob2 => ?_)⟩
       have e2 : ents ka tk va tv (mset es p.1 vy) = modA (ents ka tk va tv es) p.1 (packA va tv vy) := by
        unfold ents mset modA
        apply List.ext_getElem?
        intro m
        simp only [List.getElem?_map, List.getElem?_modify]
        cases es[m]? with
        | none => rfl
        | some u =>
         by_cases hm : p.1 = m
         ·simp [hm]
         ·simp [hm]
       rw [e2]
       rw [e1] at hf
       obtain ⟨m, kk, m1, m2, m3⟩ := mfi_spec es 0 p.1 p.2 e1
       have hmu : o.op = .mapUpdate T x y z := by
        rcases ho with ⟨_, ho⟩ | ⟨hh, _⟩
        ·exact ho
        ·rw [hi] at hh; cases hh
       refine conv (opS_putf (X := .reg q j) (n := p.1) hE hmu hT he h1.1.2 hs hxt hob2 hvz (by rw [told_self]; exact hf) (fun g v u v' hu hv hv' => ?_))
       rw [told_self] at hv
       have hu2 : (ents ka tk va tv es)[p.1]? = some (packA ka tk kk, packA va tv p.2) := by
        rw [m1, Nat.zero_add]
        unfold ents
        rw [List.getElem?_map, m2]; rfl
       rw [hu2] at hu
       cases hu
       exact ksh_same h1.1.1 m3 hv hv'
    ·cases hr
   ·cases hr
  ·cases hr
 ·cases hr
end
end
end Go.Bm
set_option linter.unusedVariables false
set_option linter.unusedSimpArgs false
namespace Go.Bm
noncomputable section
open Go.RowKit
section
variable {P : Program} {E : Env} {o : Oper} {ρ : Operand → A} {h : H} {β : Type} {K : A → H → Fp → Option β} {r : β}
def mdelK (E : Env) (T : Nat) (px py : A) (h : H) (K : A → H → Fp → Option β) : Option β := match tget E.tab T with
 | some ⟨.map KT _, _, _, _, _, _, _⟩ => match tget E.tab KT with
  | some e => match px with
   | .mp (.loc q) => match h.t.get q with
    | some (.oth (.map es)) => match keyE E KT e.d py py with
     | some _ => bif keyTy E e.d && Nat.blt q 16777216 && !(lkd h (rlo q)) then findK (keyE E KT e.d py) es 0 (fun res => setT h.t q (some (.oth (.map (eraR es res)))) (fun t1 => K .junk { h with t := t1 } (.wr [rlo q]))) else none
     | none => none
    | _ => none
   | .mp (.reg q j) => mpK h q j (fun ka tk va tv es => bif ksh E KT e ka tk && keyTy E e.d then (match packK ka tk py with
    | some x => opt (mfi (eqT tk x) es 0) (putM h q j ka tk va tv es (fun h' => K .junk h' (.wr [rgn q])))
     (fun p => putM h q j ka tk va tv (mdel es p.1) (fun h' => K .junk h' (.wr [rgn q])))
    | none => none) else none)
   | _ => none
  | none => none
 | _ => none
theorem ents_del {ka : Bool} {tk : Ty} {va : Bool} {tv : Ty} (es : List (tk.T × tv.T)) (p : Option (Nat × tv.T)) :
  ents ka tk va tv (match p with | some p => mdel es p.1 | none => es) = eraR (ents ka tk va tv es) (p.map fun p => (p.1, packA va tv p.2)) := by
 cases p with
 | none => rfl
 | some p =>
  show (es.eraseIdx p.1).map _ = (es.map _).eraseIdx p.1
  generalize p.1 = n
  induction es generalizing n with
  | nil => rfl
  | cons a es ih => cases n with
   | zero => rfl
   | succ n => simp only [List.map_cons, List.eraseIdx_cons_succ, List.map_cons, ih n]
theorem mdelK_ok (hE : EnvOk P E) {T : Nat} {x y : Operand} {Ts : Array TypeId} (ho : o.op = .call { callee := .builtin .delete, args := #[x, y], argTypes := Ts }) (h0 : Ts[0]? = some T) (hr : mdelK E T (ρ x) (ρ y) h K = some r) : Out P o ρ h K r := by
 have hd : ∀ c, o.op ≠ .defer c := by rw [ho]; intro c e; cases e
 have hops : x ∈ o.op.operands := by simp [ho, Op.operands, Call.operands]
 unfold mdelK at hr
 split at hr
 ·rename_i KT VT _ _ _ _ _ _ ht
  have hT := (hE.tab _ _ ht).u
  split at hr
  ·rename_i e he
   split at hr
   ·rename_i q hx
    split at hr
    ·rename_i es hg
     split at hr
     ·rename_i b hs
      obtain ⟨h1, hr⟩ := cond_some hr
      simp only [Bool.and_eq_true] at h1
      have hq := blt_lt h1.1.2
      obtain ⟨res, k1, k2⟩ := findK_ok _ _ _ hr
      have hob : (hp h).ob q = some (.oth (.map es)) := by rw [hp_loc hq]; unfold tOb; rw [hg]; rfl
      obtain ⟨_, t1, k3, k4⟩ := setT_inv k1
      exact ⟨_, _, _, k3, .of [.set q (.oth (.map (eraR es res)))] (hp_set (x := .oth (.map (eraR es res))) hq k4) rfl (fun u hu => by rcases List.mem_singleton.1 hu with rfl; exact touch_loc (o := q) hq (.head _))
       (fun S2 hA => opS_delete hE ho h0 hT he h1.1.1 hs hx ((hA q (touch_loc hq (.head _))).1.trans hob) k2) hd⟩
     ·cases hr
    ·cases hr
   ·rename_i q j hx
    obtain ⟨ka, tk, va, tv, es, hr, hq, _, hob⟩ := mpK_ok hr
    obtain ⟨h1, hr⟩ := cond_some hr
    simp only [Bool.and_eq_true] at h1
    split at hr
    ·rename_i kx hkx
     have hne : x ≠ y := fun e => by rw [← e, hx] at hkx; exact packK_mp h1.1 hkx
     have hX : okR (.reg q j) = true := by show Nat.blt q 64 = true; simpa using hq
     have pres : ∀ (g : G) (S : Hp) (w : World) (a : Act), Inv g S w → (∀ x ∈ o.op.operands, V g (ρ x) (a.eval x)) → g.at' (Ref.reg q j).id ≠ none := fun g S w a hI hv => by
      have hvx := hv x hops
      rw [hx] at hvx
      obtain ⟨b, s, hat⟩ := hvx.mpAt
      rw [hat]; intro h; cases h
     have here : ∀ S2, Agree (.wr (rs1 (.reg q j) :: [])) (hp h) S2 → ∀ {S' : Hp} {pv : A}, (S2.ob (rid q j) = some (.oth (.map (ents ka tk va tv es))) → OpS P o ρ S2 S' pv) → OpS P o ρ S2 S' pv := fun S2 hA _ _ k => OpS.at' fun g w a hI hv => by
      have hvx := hv x hops
      rw [hx] at hvx
      obtain ⟨b, s, hat⟩ := hvx.mpAt
      have ha := hA (rid q j) (touch_reg (r := q) (j := j) hq (.head _))
      exact k (hob g S2 w b s hI ha.1 ha.2 hat)
     have hxt : told ρ y (packA ka tk kx) x = .mp (.reg q j) := by rw [told_ne hne, hx]
     have conv := fun {S S' : Hp} {pv : A} => OpS.conv (P := P) (o := o) (ρ := ρ) (ρ' := told ρ y (packA ka tk kx)) (S := S) (S' := S') (pv := pv) (fun x _ g v hv => told_conv (fun g v hv => packK_ok hkx hv) x g v hv)
     have hs : keyE E KT e.d (told ρ y (packA ka tk kx) y) (told ρ y (packA ka tk kx) y) = some (eqT tk kx kx) := by rw [told_self]; exact ksh_eq he h1.1 kx kx
     have hf := findA_typed (va := va) (tv := tv) he h1.1 kx es 0
     have main : ∀ p, mfi (eqT tk kx) es 0 = p → putM h q j ka tk va tv (match p with | some p => mdel es p.1 | none => es) (fun h' => K .junk h' (.wr [rgn q])) = some r → Out P o ρ h K r := fun p hp' hr => by
      obtain ⟨h', k1, k2⟩ := putM_ok hq hr
      refine ⟨_, _, _, k1, .put hd hX k2 pres (fun S2 hA => here S2 hA fun hob2 => ?_)⟩
      rw [hp'] at hf
      rw [ents_del]
      exact conv (opS_delete (X := .reg q j) hE ho h0 hT he h1.2 hs hxt hob2 (by rw [told_self]; exact hf))
     rcases opt_inv hr with ⟨e1, hr⟩ | ⟨p, e1, hr⟩
     ·exact main none e1 hr
     ·exact main (some p) e1 hr
    ·cases hr
   ·cases hr
  ·cases hr
 ·cases hr
def homeOf : List (Nat × Nat) → Nat → Option Nat
 | [], _ => none
 | (t, r) :: l, T => bif Nat.beq t T then some r else homeOf l T
def pushK (h : H) (q : Nat) (t : Ty) (x : t.T) (k : Nat → H → Option β) : Option β := bif lkd h (rgn q) then none else match rfind h.rg q with
 | some ⟨_, .box t', c⟩ => match castT t t' x with
  | some x' => bif Nat.blt q 64 then k (len (α := t'.T) c) { h with rg := rput h.rg q (.box t') (cat (α := t'.T) c [x']) } else none
  | none => none
 | _ => none
theorem pushK_ok {q : Nat} {t : Ty} {x : t.T} {k : Nat → H → Option β} (hr : pushK h q t x k = some r) : ∃ h' j, k j h' = some r ∧ q < 64 ∧ (hp h).fr (rid q j) ∧ hp h' = app [.new (rid q j) (.cells (encA t x))] (hp h) := by
 obtain ⟨_, hr⟩ := bif_none hr
 split at hr
 ·rename_i rr t' c hf
  split at hr
  ·rename_i x' hx
   obtain ⟨e, hx⟩ := castT_eq hx
   subst e
   obtain rfl : x = x' := hx
   obtain ⟨h1, hr⟩ := cond_some hr
   have h3 : q < 64 := blt_lt h1
   refine ⟨_, _, hr, h3, ?_, ?_⟩
   ·rw [hp_reg.2, regFr_eq h3 hf]; exact Nat.le_refl _
   ·exact hp_push (k := .box t) (c := cat (α := t.T) c [x]) (n := List.length (α := t.T) c) h3 hf rfl (len_cat (α := t.T) c _) (fun j => regOb_catB (c := c) (x := x) j)
  ·cases hr
 ·cases hr
theorem V.ptr_tpR {g : G} {q j : Nat} {v : Value} (hv : V g (.ptr (rid q j) 0) v) : V g (.tp (.reg q j) []) v := by
 cases hv with
 | ptr _ _ b s hb => exact .tp (.reg q j) [] b s hb trivial
def alhK (E : Env) (hm : List (Nat × Nat)) (T : Nat) (h : H) (K : A → H → Fp → Option β) : Option β := match homeOf hm T with
 | some q => match tget E.tab T with
  | some e => match e.t with
   | some t => pushK h q t t.dflt (fun j h' => K (.tp (.reg q j) []) h' (.wr [rgn q]))
   | none => none
  | none => none
 | none => alcK E T h K
theorem alhK_ok (hE : EnvOk P E) {hm : List (Nat × Nat)} {T : Nat} (ho : o.op = .alloc T) (hr : alhK E hm T h K = some r) : Out P o ρ h K r := by
 have hd : ∀ c, o.op ≠ .defer c := by rw [ho]; intro c e; cases e
 unfold alhK at hr
 split at hr
 ·rename_i q _
  split at hr
  ·rename_i e ht
   have hk := hE.tab _ _ ht
   obtain ⟨i, t1, t2, t3, t4, t5, t6⟩ := hk.ti
   split at hr
   ·rename_i t hty
    obtain ⟨h', j, k1, hq, hf, hh⟩ := pushK_ok hr
    exact ⟨_, _, _, k1, Step.weak (.of _ hh rfl (fun u hu => by rcases List.mem_singleton.1 hu with rfl; exact touch_reg (r := q) (j := j) hq (.head _)) (fun S2 hA => opS_allocz ho t1 t2 (hk.tz t hty) ((hA _ (touch_reg (r := q) (j := j) hq (.head _))).2.2 hf)) hd) (fun g v hv => hv.ptr_tpR)⟩
   ·cases hr
  ·cases hr
 ·exact alcK_ok hE ho hr
def bxhK (E : Env) (hm : List (Nat × Nat)) (T : Nat) (px : A) (h : H) (K : A → H → Fp → Option β) : Option β := match homeOf hm T with
 | some q => match tget E.tab T, px.cells with
  | some e, some ps => match e.t with
   | some t => match fixC 64 t ps h with
    | some (ps', h1, T1) => match toC t ps' with
     | some x => pushK h1 q t x (fun j h' => K (.tp (.reg q j) []) h' (.wr (rgn q :: T1)))
     | none => none
    | none => none
   | none => none
  | _, _ => none
 | none => boxOK E T px h K
theorem Step.newR {T1 : List Nat} {h1 h2 : H} {us : List Up} {x : Ob} {pv : A} {q j : Nat} (c1 : hp h1 = app us (hp h)) (c2 : ∀ u ∈ us, touch (.wr T1) u.id = true) (hq : q < 64) (hf : (hp h1).fr (rid q j)) (hh : hp h2 = app [.new (rid q j) x] (hp h1)) (hd : ∀ c, o.op ≠ .defer c)
  (k : ∀ S2 g w a, Agree (.wr T1) (hp h) S2 → (app us S2).fr (rid q j) → Inv g S2 w → (∀ x ∈ o.op.operands, V g (ρ x) (a.eval x)) → OpAt P o S2 ((app us S2).new (rid q j) x) pv g w a) : Step P o ρ h h2 (.wr (rgn q :: T1)) pv :=
 .of (us ++ [.new (rid q j) x]) (by rw [app_app, ← c1, hh]) rfl (fun u hu => by
  rcases List.mem_append.1 hu with hu | hu
  ·exact touch_mono (fun i hi => .tail _ hi) (c2 u hu)
  ·rcases List.mem_singleton.1 hu with rfl; exact touch_reg (r := q) (j := j) hq (.head _)) (fun S2 hA g w a next Q hI hv K' => by
  have hfr : (app us S2).fr (rid q j) := by
   have := Agree.app us hA
   rw [← c1] at this
   exact (this (rid q j) (touch_reg hq (.head _))).2.2 hf
  have e := app_app us [.new (rid q j) x] S2
  rw [e] at K'
  exact k S2 g w a (hA.mono fun i hi => .tail _ hi) hfr hI hv next Q K') hd
theorem boxw_at {S : Hp} {T : TypeId} {x : Operand} {qs : List A} {q : Nat} {g : G} {w : World} {a : Act} (ho : o.op = .box T x) (hI : Inv g S w) (e2 : Vs g qs (a.eval x).cells.toList) (hf : S.fr q) : OpAt P o S (S.new q (.cells qs)) (.ptr q 0) g w a := by
 intro next Q K
 obtain ⟨h1, h2⟩ := hI.allocs hf (cs := qs) (vs := (a.eval x).cells) T (by have := e2.1; simp at this ⊢; omega) e2.all
 unfold Oper.wp
 simp only [execOp, ho, Instr.box, Sem.run_bind, Result.andThen_ok, Sem.run_pure, newVar, newRow, run_newObj]
 exact K _ _ _ (.ptr _ _ w.heap.size _ gput_at) h1 h2
theorem bxhK_ok {hm : List (Nat × Nat)} {T : Nat} {x : Operand} (ho : o.op = .box T x) (hr : bxhK E hm T (ρ x) h K = some r) : Out P o ρ h K r := by
 have hd : ∀ c, o.op ≠ .defer c := by rw [ho]; intro c e; cases e
 unfold bxhK at hr
 split at hr
 ·rename_i q _
  split at hr
  ·rename_i e ps ht hps
   split at hr
   ·rename_i t hty
    split at hr
    ·rename_i ps' h1 T1 hf
     split at hr
     ·rename_i y hy
      obtain ⟨us, c1, c2, c3⟩ := fixC_ok _ _ _ _ _ _ _ hf
      obtain ⟨h', j, k1, hq, hfr, hh⟩ := pushK_ok hr
      refine ⟨_, _, _, k1, Step.weak (pv := .ptr (rid q j) 0) (.newR c1 c2 hq hfr hh hd (fun S2 g w a hA hf hI hv => ?_)) (fun g v hv => ?_)⟩
      ·obtain ⟨g1, q1, q2, q3⟩ := c3 g S2 w _ hI hA ((hv x (by simp [ho, Op.operands])).cells hps)
       refine OpAt.pre ?_ q2
       exact boxw_at ho q1 ((toC_ok t ps' y hy).2 _ q3) hf
      ·cases hv with
       | ptr _ _ b s h0 => exact .tp (.reg q j) [] b s h0 trivial
     ·cases hr
    ·cases hr
   ·cases hr
  ·cases hr
 ·exact boxOK_ok ho hr
end
end
end Go.Bm
set_option linter.unusedVariables false
set_option linter.unusedSimpArgs false
namespace Go.Bm
noncomputable section
variable {P : Program} {E : Env} {o : Oper} {ρ : Operand → A} {h : H} {β : Type} {K : A → H → Fp → Option β} {r : β}
def fvK (E : Env) (T f : Nat) (px : A) (h : H) (K : A → H → Fp → Option β) : Option β := match px with
 | .agg cs => match tget E.tab T with
  | some ⟨.struct fs, _, _, _, _, _, _⟩ => match fs[f]? with
   | some fd => match tget E.tab fd.type with
    | some e => bif aggT e.d then K (.agg ((cs.drop fd.offset).take e.size)) h .no else (match (cs.drop fd.offset).take e.size with
     | [p] => spK p (fun v => K v h .no)
     | _ => none)
    | none => none
   | none => none
  | _ => none
 | _ => none
theorem V.aggVs {g : G} {cs : List A} {u : Value} (h : V g (.agg cs) u) : ∃ vs, u = .agg vs ∧ Vs g cs vs.toList := by
 cases h with
 | agg _ vs hl h1 hh =>
  refine ⟨vs, rfl, by simpa using hl, fun j c x a b => ?_⟩
  have b' : vs[j]? = some x := by simpa using b
  exact ⟨hh j c x a b', h1 x (List.mem_of_getElem? b)⟩
theorem fvK_ok (hE : EnvOk P E) {T f : Nat} {x : Operand} (ho : o.op = .field T x f) (hr : fvK E T f (ρ x) h K = some r) : Out P o ρ h K r := by
 have hd : ∀ c, o.op ≠ .defer c := by rw [ho]; intro c e; cases e
 unfold fvK at hr
 split at hr
 ·rename_i cs hx
  split at hr
  ·rename_i fs _ _ _ _ t _ ht
   split at hr
   ·rename_i fd hf
    split at hr
    ·rename_i e he
     have key : ∀ {S2 : Hp} {v : A}, (∀ g xs, Vs g ((cs.drop fd.offset).take e.size) xs → ∃ u, valOf e.d xs u ∧ V g v u) → OpS P o ρ S2 S2 v := fun {S2 v} hk => .value fun g w a _ hv => by
      have e1 := hv x (by simp [ho, Op.operands])
      rw [hx] at e1
      obtain ⟨vs, e2, e3⟩ := e1.aggVs
      obtain ⟨u, h1, h2⟩ := hk g _ (e3.part fd.offset e.size)
      refine ⟨u, ?_, h2⟩
      simp only [execOp, ho, e2, Sem.run_bind, Instr.field, run_underlying (hE.tab _ _ ht).u, Result.andThen_ok, hf, asAgg, Sem.run_pure, run_part (hE.tab _ _ he) h1 w]
     cases ha : aggT e.d with
     | true =>
      rw [ha] at hr
      refine .pure hr (fun S2 => key fun g xs hxs => ⟨.agg xs.toArray, by simp [valOf, ha], ?_⟩) hd
      exact .agg _ _ (by simpa using hxs.1) (fun v hm => by
       obtain ⟨j, hj⟩ := List.getElem?_of_mem hm
       simp only [List.toList_toArray] at hj
       have hlt : j < ((cs.drop fd.offset).take e.size).length := by
        have := (List.getElem?_eq_some_iff.1 hj).1; have := hxs.1; omega
       exact (hxs.2 j _ v (List.getElem?_eq_getElem hlt) hj).2) (fun i c y h1 h2 => (hxs.2 i c y h1 (by simpa using h2)).1)
     | false =>
      rw [ha] at hr
      simp only [cond_false] at hr
      split at hr
      ·rename_i p hp
       refine .sp hr (.pure (fun S2 => key fun g xs hxs => ?_) hd)
       rw [hp] at hxs
       obtain ⟨z, e1, e2⟩ := hxs.single
       exact ⟨z, by simp [valOf, ha, e1], e2⟩
      ·cases hr
    ·cases hr
   ·cases hr
  ·cases hr
 ·cases hr
def isNil (py : A) : Bool := match py with
 | .v (.slice none 0 0) => true
 | _ => false
theorem isNil_eq {py : A} (h : isNil py = true) : py = .v (.slice none 0 0) := by
 unfold isNil at h
 split at h
 ·rfl
 ·cases h
def eqwR (E : Env) (op : BinOp) (T : Nat) (X : Ref) (z : Nat) (h : H) (K : A → H → Fp → Option β) : Option β := bif isEq op then (match tget E.tab T with
  | some e => match e.d with
   | .slice _ => rowK h X (fun t l => bif Nat.beq z t.size && Nat.blt 0 z then gd (nlt 0 (len l)) (K (.v (.bool (neg1 op false))) h (.rd [rs1 X])) else none)
   | _ => none
  | none => none) else none
def eqwK (E : Env) (op : BinOp) (T : Nat) (px py : A) (h : H) (K : A → H → Fp → Option β) : Option β := match px with
 | .tw X z => bif isNil py then eqwR E op T X z h K else binK E op T px py h K
 | .os r z o => bif isNil py then opt o none (fun j => eqwR E op T (.reg r j) z h K) else binK E op T px py h K
 | _ => binK E op T px py h K
theorem opS_eqw {S : Hp} {op : BinOp} {T T' E : TypeId} {x y : Operand} (ho : o.op = .binOp op T x y T') (hT : P.underlying T = some (.slice E)) (hop : op = .eql ∨ op = .neq)
  (hy : ρ y = .v (.slice none 0 0)) (hx : ∀ g w v, Inv g S w → V g (ρ x) v → ∃ a n c, v = .slice (some a) n c) : OpS P o ρ S S (.v (.bool (if op = .eql then false else !false))) :=
 .value fun g w a hI hv => by
  have e2 := hv y (by simp [ho, Op.operands])
  rw [hy] at e2
  have e2 := e2.v_eq
  obtain ⟨A, n, c, h1⟩ := hx g w _ hI (hv x (by simp [ho, Op.operands]))
  have hrun := run_eqs (P := P) w hT (some A) n c
  refine ⟨.bool (if op = .eql then false else !false), ?_, .v _⟩
  have hguard : (eqGuard op T x y (.slice (some A) n c) (.slice none 0 0)).run P w = .ok () w := by
   rcases hop with rfl | rfl <;> rfl
  rcases hop with rfl | rfl
  ·have hb : (binOp .eql T (.slice (some A) n c) (.slice none 0 0)).run P w = .ok (.bool false) w := by
    simp only [binOp]; simp [Op.equal, Op.maxDepth, hrun]
   simp only [execOp, ho, h1, e2, Sem.run_bind, hguard, Result.andThen_ok, if_true, hb, Sem.run_pure]
  ·have hb : (binOp .neq T (.slice (some A) n c) (.slice none 0 0)).run P w = .ok (.bool (!false)) w := by
    simp only [binOp]; simp [Op.equal, Op.maxDepth, hrun]
   simp only [execOp, ho, h1, e2, Sem.run_bind, hguard, Result.andThen_ok, hb, Sem.run_pure]
   rfl
theorem eqwR_ok (hE : EnvOk P E) {op : BinOp} {T T' : TypeId} {x y : Operand} {X : Ref} {z : Nat} (ho : o.op = .binOp op T x y T') (hn : isNil (ρ y) = true) (hx : ∀ g v, V g (ρ x) v → V g (.tw X z) v) (hr : eqwR E op T X z h K = some r) : Out P o ρ h K r := by
 have hd : ∀ c, o.op ≠ .defer c := by rw [ho]; intro c e; cases e
 have hy := isNil_eq hn
 unfold eqwR at hr
 obtain ⟨hq, hr⟩ := cond_some hr
 split at hr
 ·rename_i e ht
  split at hr
  ·rename_i el hdd
   obtain ⟨t, l, hr, hX, hob⟩ := rowK_ok hr
   obtain ⟨hz, hr⟩ := cond_some hr
   simp only [Bool.and_eq_true] at hz
   have hz1 := beq_eq hz.1
   have h0 := blt_lt hz.2
   obtain ⟨hl, hr⟩ := gd_inv hr
   have hl : 0 < l.length := hl
   refine .read _ hr (fun S2 hA => ?_) hd
   have hob2 := (hA _ (touch_ref hX (.head _))).1.trans hob
   rw [neg1_eq _ hq]
   refine opS_eqw ho (by rw [(hE.tab _ _ ht).u, hdd]) (isEq_or hq) hy (fun g w v hI hv => ?_)
   have hv := hx _ _ hv
   rw [hz1] at hv
   rcases hv.twLen hI (by omega) hob2 with ⟨ad, _, rfl, rfl⟩ | ⟨b, s, cap, d, _, rfl, _⟩
   ·cases hl
   ·exact ⟨_, _, _, rfl⟩
  ·cases hr
 ·cases hr
theorem eqwK_ok (hE : EnvOk P E) {op : BinOp} {T T' : TypeId} {x y : Operand} (ho : o.op = .binOp op T x y T') (hr : eqwK E op T (ρ x) (ρ y) h K = some r) : Out P o ρ h K r := by
 unfold eqwK at hr
 split at hr
 ·rename_i X z hx
  cases hn : isNil (ρ y) with
  | true =>
   rw [hn] at hr
   exact eqwR_ok hE ho hn (fun g v hv => by rwa [hx] at hv) hr
  | false =>
   rw [hn] at hr
   exact binK_ok hE ho hr
 ·rename_i ri z oo hx
  cases hn : isNil (ρ y) with
  | true =>
   rw [hn] at hr
   rcases opt_inv (show opt oo none (fun j => eqwR E op T (.reg ri j) z h K) = some r from hr) with ⟨_, h2⟩ | ⟨j, h1, h2⟩
   ·cases h2
   ·exact eqwR_ok hE ho hn (fun g v hv => by
     rw [hx] at hv
     cases hv with
     | os _ _ _ _ _ k1 => exact k1 j h1) h2
  | false =>
   rw [hn] at hr
   exact binK_ok hE ho hr
 ·exact binK_ok hE ho hr
end
end Go.Bm
set_option linter.unusedVariables false
set_option linter.unusedSimpArgs false
namespace Go.Bm
noncomputable section
open Go.RowKit
section
variable {P : Program} {E : Env} {o : Oper} {ρ : Operand → A} {h : H} {β : Type} {K : A → H → Fp → Option β} {r : β}
structure CStep (P : Program) (f : FuncId) (as : List A) (h h' : H) (T : Fp) (pv : A) : Prop where
 out : ∀ i, touch T i = false → (hp h').ob i = (hp h).ob i ∧ ((hp h').fr i ↔ (hp h).fr i)
 rd : ∀ i, wt T i = false → (hp h').ob i = (hp h).ob i ∧ ((hp h').fr i ↔ (hp h).fr i)
 fn : FnOk P f
 ok : ∀ S2, Agree T (hp h) S2 → PC P f as S2 (ovr T (hp h') S2) pv
def RC (P : Program) (y : A) (as : List A) (S S' : Hp) (r : A) : Prop :=
 ∀ g w u (vs : List Value), Inv g S w → V g y u → as.length = vs.length → (∀ (i : Nat) (p : A) (v : Value), as[i]? = some p → vs[i]? = some v → V g p v) →
  ∃ (b : Nat) (rr : Loop), u = .func (.yield b) #[] #[] ∧ w.heap[b]? = some (.loop rr) ∧ rr.params.size = vs.length ∧
   RoundIn (FR none) 0 P b rr.fn ((rr.params.zip vs.toArray).foldl (fun tmps (t, a) => tmps.setIfInBounds t a) rr.tmps) rr.assign rr.body w (fun e w' => ∃ v g', e = .returned v ∧ V g' r v ∧ Inv g' S' w' ∧ Ext S g w S' g' w')
structure YStep (P : Program) (y : A) (as : List A) (h h' : H) (T : Fp) (pv : A) : Prop where
 out : ∀ i, touch T i = false → (hp h').ob i = (hp h).ob i ∧ ((hp h').fr i ↔ (hp h).fr i)
 rd : ∀ i, wt T i = false → (hp h').ob i = (hp h).ob i ∧ ((hp h').fr i ↔ (hp h).fr i)
 ok : ∀ S2, Agree T (hp h) S2 → RC P y as S2 (ovr T (hp h') S2) pv
theorem opR_yield {y : A} {x : Operand} {xs : Array Operand} {ts : Array TypeId} {S S' : Hp} {r : A} (ho : o.op = .call { callee := .value x, args := xs, argTypes := ts }) (hx : ρ x = y) (h : RC P y (xs.toList.map ρ) S S' r) : OpR P o ρ S S' r := by
 intro ro g w a next Q hI hv K
 have e1 := hx ▸ hv x (by simp [ho, Op.operands, Call.operands])
 obtain ⟨b, rr, hu, h1, h2, h3⟩ := h g w (a.eval x) (xs.toList.map a.eval) hI e1 (by simp) (fun i p v k1 k2 => by
  simp only [List.getElem?_map, Option.map_eq_some_iff, Array.getElem?_toList] at k1 k2
  obtain ⟨y, hy, rfl⟩ := k1
  obtain ⟨y', hy', rfl⟩ := k2
  rw [hy] at hy'
  obtain rfl := Option.some.inj hy'
  exact hv y (by simp only [ho, Op.operands, Call.operands]; exact Array.mem_append.2 (.inr (Array.mem_of_getElem? hy))))
 refine ⟨fun f _ => trivial, ?_⟩
 rw [Oper.semAt_eq _ _ _ (by rw [ho]; intro c h; cases h)]
 have ea : #[] ++ Array.map a.eval xs = (xs.toList.map a.eval).toArray := by apply Array.ext'; simp
 have e : (execOp a.eval o).run P w = .ok (.round b rr.fn ((rr.params.zip (xs.toList.map a.eval).toArray).foldl (fun tmps (t, a) => tmps.setIfInBounds t a) rr.tmps) rr.assign rr.body) w := by
  simp only [execOp, ho, resolve, hu, Deferred.ofValue, pure_bind, invoke]
  rw [ea]
  exact run_yield h1 (by simp [h2])
 rw [e]
 refine ⟨fun h => by simp [FR, Fence.wide] at h, RoundIn.mono (F := FR ro) h3 ?_⟩
 rintro e w' ⟨v, g', rfl, k1, k2, k3⟩
 exact K v g' w' k1 k2 k3
structure Cx where
 call : (β : Type) → FuncId → List A → H → (A → H → Fp → Option β) → Option β
 hm : List (Nat × Nat)
 yld : (β : Type) → A → List A → H → (A → H → Fp → Option β) → Option β
structure CxOk (P : Program) (cx : Cx) : Prop where
 call : ∀ (β : Type) (f : FuncId) (as : List A) (h : H) (K : A → H → Fp → Option β) (r : β), cx.call β f as h K = some r → ∃ pv h' T, K pv h' T = some r ∧ CStep P f as h h' T pv
 yld : ∀ (β : Type) (y : A) (as : List A) (h : H) (K : A → H → Fp → Option β) (r : β), cx.yld β y as h K = some r → ∃ pv h' T, K pv h' T = some r ∧ YStep P y as h h' T pv
def callK (cx : Cx) (px : A) (as : List A) (h : H) (K : A → H → Fp → Option β) : Option β := match px with
 | .fn f fi ca => cx.call β f (fi ++ as ++ ca) h K
 | .yld _ _ _ _ _ _ _ => cx.yld β px as h K
 | _ => none
theorem callK_ok {cx : Cx} (hx : CxOk P cx) {x : Operand} {xs : Array Operand} {ts : Array TypeId} (ho : o.op = .call { callee := .value x, args := xs, argTypes := ts }) (hr : callK cx (ρ x) (xs.toList.map ρ) h K = some r) : Out P o ρ h K r := by
 have hd : ∀ c, o.op ≠ .defer c := by rw [ho]; intro c e; cases e
 unfold callK at hr
 split at hr
 ·rename_i f fi ca hp'
  obtain ⟨pv, h', T, k1, k2⟩ := hx.call β f _ h K r hr
  exact ⟨pv, h', T, k1, ⟨k2.out, k2.rd, fun S2 hA => (opS_callv ho k2.fn hp' (k2.ok S2 hA)).opR hd⟩⟩
 ·rename_i hp'
  obtain ⟨pv, h', T, k1, k2⟩ := hx.yld β _ _ h K r hr
  exact ⟨pv, h', T, k1, ⟨k2.out, k2.rd, fun S2 hA => opR_yield ho hp' (hp' ▸ k2.ok S2 hA)⟩⟩
 ·cases hr
def sameO : Operand → Operand → Bool
 | .tmp i, .tmp j => Nat.beq i j
 | _, _ => false
theorem sameO_eq {x y : Operand} (h : sameO x y = true) : x = y := by
 unfold sameO at h
 split at h
 ·rw [beq_eq h]
 ·cases h
def neO : Operand → Operand → Bool
 | .tmp i, .tmp j => !(Nat.beq i j)
 | .tmp _, .const _ => true
 | .const _, .tmp _ => true
 | _, _ => false
theorem neO_ne {x y : Operand} (h : neO x y = true) : y ≠ x := by
 rintro rfl
 cases y <;> simp [neO] at h
def sameB : Option Operand → Option Operand → Bool
 | some x, some y => sameO x y
 | _, _ => false
theorem sameB_eq {x y : Option Operand} (h : sameB x y = true) : x = y := by
 unfold sameB at h
 split at h
 ·rw [sameO_eq h]
 ·cases h
def bltK (E : Env) (b : Builtin) (xs : List Operand) (ts : List TypeId) (ρ : Operand → A) (h : H) (K : A → H → Fp → Option β) : Option β := match b, xs, ts with
 | .append, [x, y], [T, T'] => bif Nat.beq T T' then appK E T (ρ x) (ρ y) h K else none
 | .len, [x], [T] => lenK E T (ρ x) h K
 | .min, [x, y], _ => mmK false (ρ x) (ρ y) h K
 | .max, [x, y], _ => mmK true (ρ x) (ρ y) h K
 | .copy, [x, y], [T, _] => copyK E T (ρ x) (ρ y) h K
 | .clear, [x], [T] => clrK E T (ρ x) h K
 | .delete, [x, y], T :: _ => mdelK E T (ρ x) (ρ y) h K
 | _, _, _ => none
theorem bltK_ok (hE : EnvOk P E) {b : Builtin} {xs : Array Operand} {ts : Array TypeId} (ho : o.op = .call { callee := .builtin b, args := xs, argTypes := ts }) (hr : bltK E b xs.toList ts.toList ρ h K = some r) : Out P o ρ h K r := by
 obtain ⟨xs⟩ := xs
 obtain ⟨ts⟩ := ts
 simp only at hr
 unfold bltK at hr
 split at hr
 ·obtain ⟨hT, hk⟩ := cond_some hr
  clear hr
  obtain rfl := beq_eq hT
  exact appK_ok hE ho hk
 ·exact lenK_ok hE ho hr
 ·exact mmK_min ho hr
 ·exact mmK_max ho hr
 ·exact copyK_ok hE ho hr
 ·exact clrK_ok hE ho hr
 ·exact mdelK_ok hE ho rfl hr
 ·cases hr
theorem OpR.cong {P : Program} {op' : Op} {ρ : Operand → A} {S S' : Hp} {v : A} (hd : ∀ c, o.op ≠ .defer c) (hd' : ∀ c, op' ≠ .defer c) (hs : ∀ x ∈ op'.operands, x ∈ o.op.operands) (he : ∀ (g : G) (a : Act), (∀ x ∈ o.op.operands, V g (ρ x) (a.eval x)) → execOp a.eval o = execOp a.eval { o with op := op' }) (h : OpR P { o with op := op' } ρ S S' v) : OpR P o ρ S S' v := by
 intro r g w a next Q hI hv K
 have h1 := h r g w a next Q hI (fun x hx => hv x (hs x hx)) K
 refine ⟨fun f _ => trivial, ?_⟩
 have h2 := h1.2
 rw [Oper.semAt_eq _ _ _ hd'] at h2
 rw [Oper.semAt_eq _ _ _ hd, he g a hv]
 exact h2
def jslK (E : Env) (T : Nat) (X : Ref) (z : Nat) (lo hi mx : Option A) (h : H) (K : A → H → Fp → Option β) : Option β := match tget E.tab T with
 | some ⟨.slice el, _, _, _, _, _, _⟩ => match tget E.tab el with
  | some e => rowK h X (fun t x => bif Nat.beq z e.size && Nat.beq z t.size && Nat.blt 0 z then bdK lo 0 (fun l => bdK hi 0 (fun n => bdK mx 0 (fun m => gd (nle l n) (gd (nle n m) (gd (nle m (len x)) (K .junk h (.rd [rs1 X]))))))) else none)
  | none => none
 | _ => none
theorem jslK_ok (hE : EnvOk P E) {T : Nat} {X : Ref} {z : Nat} {x lo hi mx : Operand} (ho : o.op = .slice T x (some lo) (some hi) (some mx)) (hx : ρ x = .tw X z) (hr : jslK E T X z (some (ρ lo)) (some (ρ hi)) (some (ρ mx)) h K = some r) : Out P o ρ h K r := by
 have hd : ∀ c, o.op ≠ .defer c := by rw [ho]; intro c e; cases e
 unfold jslK at hr
 split at hr
 ·rename_i el _ _ _ _ _ _ ht
  have hT := (hE.tab _ _ ht).u
  split at hr
  ·rename_i e he
   have hz := (hE.tab _ _ he).ti.size
   obtain ⟨t, x', hr, hX, hob⟩ := rowK_ok hr
   obtain ⟨hq, hr⟩ := cond_some hr
   simp only [Bool.and_eq_true] at hq
   have hq1 := beq_eq hq.1.1
   have hq2 := beq_eq hq.1.2
   have h0 := blt_lt hq.2
   obtain ⟨l, hr, hlo⟩ := bdK_ok (x := some lo) hr
   obtain ⟨n, hr, hhi⟩ := bdK_ok (x := some hi) hr
   obtain ⟨m, hr, hmx⟩ := bdK_ok (x := some mx) hr
   obtain ⟨h1, hr⟩ := gd_inv hr
   obtain ⟨h2, hr⟩ := gd_inv hr
   obtain ⟨h3, hr⟩ := gd_inv hr
   have h1 : l ≤ n := h1
   have h2 : n ≤ m := h2
   have h3 : m ≤ x'.length := h3
   refine .read [rs1 X] hr (fun S2 hA => opS_slice3 ho hT hz hlo hhi hmx h1 h2 (fun g w v hI hv => ?_)) hd
   have hob2 := (hA _ (touch_ref hX (.head _))).1.trans hob
   rw [hx, hq2] at hv
   obtain ⟨ad, cap, k1, k2, _, _⟩ := hv.twCut (lo := l) (hi := n) hI (by omega) hob2 h1 (by omega)
   exact ⟨ad, _, cap, k1, by omega, .junk _⟩
  ·cases hr
 ·cases hr
def isTw : A → Bool
 | .tw _ _ => true
 | _ => false
def slmK (E : Env) (T : Nat) (px : A) (lo hi mx : Option A) (same : Bool) (h : H) (K : A → H → Fp → Option β) : Option β := bif same then slcK E T px lo hi mx true h K else bif isTw px && lo.isSome && mx.isSome && hi.isSome then (match px with
 | .tw X z => jslK E T X z lo hi mx h K
 | _ => none) else (match mx, hi with
 | some (.v (.int k m)), some (.v (.int k' n)) => if k = k' then gd (ieq m n) (slcK E T px lo hi hi true h K) else none
 | mx, hi => slcK E T px lo hi mx false h K)
theorem slmK_ok (hE : EnvOk P E) {T : Nat} {x : Operand} {lo hi mx : Option Operand} (ho : o.op = .slice T x lo hi mx) (hr : slmK E T (ρ x) (lo.map ρ) (hi.map ρ) (mx.map ρ) (sameB mx hi) h K = some r) : Out P o ρ h K r := by
 unfold slmK at hr
 cases hb : sameB mx hi with
 | true => rw [hb] at hr; exact slcK_ok hE ho (fun _ => sameB_eq hb) hr
 | false =>
  rw [hb] at hr
  simp only [cond_false] at hr
  cases ht : (isTw (ρ x) && (lo.map ρ).isSome && (mx.map ρ).isSome && (hi.map ρ).isSome) with
  | true =>
   rw [ht] at hr
   simp only [cond_true] at hr
   simp only [Bool.and_eq_true] at ht
   obtain ⟨lo', rfl⟩ := isSome_map ht.1.1.2
   obtain ⟨mx', rfl⟩ := isSome_map ht.1.2
   obtain ⟨hi', rfl⟩ := isSome_map ht.2
   split at hr
   ·rename_i X z hx
    exact jslK_ok hE ho hx hr
   ·cases hr
  | false =>
  rw [ht] at hr
  simp only [cond_false] at hr
  split at hr
  ·rename_i k m k' n hm hn
   split at hr
   ·rename_i hk
    subst hk
    obtain ⟨he, hr1⟩ := gd_inv hr
    clear hr
    have he : m = n := he
    subst he
    cases hi with
    | none => cases hn
    | some hi =>
    cases mx with
    | none => cases hm
    | some mx =>
    have hn : ρ hi = .v (.int k m) := Option.some.inj hn
    have hm : ρ mx = .v (.int k m) := Option.some.inj hm
    obtain ⟨pv, h', T', k1, k2⟩ := slcK_ok (o := { o with op := .slice T x lo (some hi) (some hi) }) hE rfl (fun _ => rfl) hr1
    refine ⟨pv, h', T', k1, k2.out, k2.rd, fun S2 hA => OpR.cong (op' := .slice T x lo (some hi) (some hi)) (by rw [ho]; intro c e; cases e) (fun c e => by cases e) (fun y hy => ?_) (fun g a hv => ?_) (k2.ok S2 hA)⟩
    ·rw [ho]
     simp only [Op.operands, Array.mem_append] at hy ⊢
     rcases hy with (hy | hy) | hy
     ·exact .inl (.inl hy)
     ·exact .inl (.inr hy)
     ·exact .inl (.inr hy)
    ·have e1 := hv mx (by rw [ho]; simp [Op.operands])
     have e2 := hv hi (by rw [ho]; simp [Op.operands])
     rw [hm] at e1
     rw [hn] at e2
     have e3 := e1.v_eq.trans e2.v_eq.symm
     simp only [execOp, ho, Option.map_some, e3]
   ·cases hr
  ·exact slcK_ok hE ho (fun h => by cases h) hr
def opK (E : Env) (cx : Cx) (op : Op) (ρ : Operand → A) (h : H) (K : A → H → Fp → Option β) : Option β := match op with
 | .move x => mvK (ρ x) h K
 | .assign x => mvK (ρ x) h K
 | .pick c x y => pickK (ρ c) (ρ x) (ρ y) h K
 | .extract x i => extK (ρ x) i h K
 | .binOp op T x y _ => eqwK E op T (ρ x) (ρ y) h K
 | .unOp op _ x => unK op (ρ x) h K
 | .convert s d x => cvK E s d (ρ x) h K
 | .nilCheck x => nilK (ρ x) h K
 | .fieldAddr T x f => fldK E T f (ρ x) h K
 | .field T x f => fvK E T f (ρ x) h K
 | .indexAddr T x y => ixK E T (ρ x) y (ρ y) h K
 | .load T x => ldK E T (ρ x) h K
 | .store T x y => stK E T (ρ x) (ρ y) h K
 | .alloc T => alhK E cx.hm T h K
 | .box T x => bxhK E cx.hm T (ρ x) h K
 | .build T ps => bldK E T ρ ps.toList h K
 | .buildSlice T n ps => bslK E T n ρ ps.toList h K
 | .makeSlice T x y => mkK E T (sameO x y) (ρ x) h K
 | .slice T x lo hi mx => slmK E T (ρ x) (lo.map ρ) (hi.map ρ) (mx.map ρ) (sameB mx hi) h K
 | .makeFunc (.func f) fi ca => mkfK f (fi.toList.map ρ) (ca.toList.map ρ) h K
 | .makeMap _ none => mkmK h K
 | .lookup T x y ok => lkpK E T ok (ρ x) (ρ y) h K
 | .mapUpdate T x y z => mputK E T false (neO y z) (ρ x) (ρ y) (ρ z) h K
 | .insert T x y z => mputK E T true (neO y z) (ρ x) (ρ y) (ρ z) h K
 | .call c => match c.callee with
  | .value x => callK cx (ρ x) (c.args.toList.map ρ) h K
  | .builtin b => bltK E b c.args.toList c.argTypes.toList ρ h K
  | _ => none
 | _ => none
theorem opK_ok (hE : EnvOk P E) {cx : Cx} (hx : CxOk P cx) (hr : opK E cx o.op ρ h K = some r) : Out P o ρ h K r := by
 generalize ho : o.op = op at hr
 have nd : ∀ {op : Op}, o.op = op → (∀ c, op ≠ .defer c) → ∀ c, o.op ≠ .defer c := fun e k => by rw [e]; exact k
 unfold opK at hr
 split at hr
 ·exact .pure hr (fun S2 => opS_move ho) (nd ho (fun c e => by cases e))
 ·exact .pure hr (fun S2 => opS_assign ho) (nd ho (fun c e => by cases e))
 ·exact pickK_ok ho hr
 ·exact extK_ok ho hr
 ·exact eqwK_ok hE ho hr
 ·exact unK_ok ho hr
 ·exact cvK_ok hE ho hr
 ·exact nilK_ok ho hr
 ·exact fldK_ok hE ho hr
 ·exact fvK_ok hE ho hr
 ·exact ixK_ok hE ho hr
 ·exact ldK_ok hE ho hr
 ·exact stK_ok hE ho hr
 ·exact alhK_ok hE ho hr
 ·exact bxhK_ok ho hr
 ·exact bldK_ok hE ho hr
 ·exact bslK_ok hE ho hr
 ·exact mkK_ok hE ho sameO_eq hr
 ·exact slmK_ok hE ho hr
 ·exact mkfK_ok ho hr
 ·exact mkmK_ok ho hr
 ·exact lkpK_ok hE ho hr
 ·exact mputK_ok hE neO_ne (.inl ⟨rfl, ho⟩) hr
 ·exact mputK_ok hE neO_ne (.inr ⟨rfl, ho⟩) hr
 ·rename_i c
  obtain ⟨cal, xs, ts⟩ := c
  simp only at hr
  split at hr
  ·exact callK_ok hx ho hr
  ·exact bltK_ok hE ho hr
  ·cases hr
 ·cases hr
end
end
end Go.Bm
