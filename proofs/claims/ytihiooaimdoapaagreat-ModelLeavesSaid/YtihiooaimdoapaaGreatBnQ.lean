/- Loops over functions, in memory. -/
import Derived.Test.YtihiooaimdoapaaGreatBnP
set_option linter.unusedVariables false
set_option linter.unusedSimpArgs false
namespace Go.Bm
noncomputable section
open Go.RowKit
/-- A loop's state is changed. -/
theorem Inv.setlp {g : G} {S : Hp} {w : World} (h : Inv g S w) {q b : Nat} {s : Nat × Nat} {st st' : LoopState} {pe pe' : Option Code} {rr : Loop} (ho : S.ob q = some (.oth (.loop st pe))) (hg : g.at' q = some (some b, s)) (hr : w.heap[b]? = some (.loop rr)) :
    Inv g (S.set q (.oth (.loop st' pe'))) (w.putObj b (.loop { rr with state := st', pending := pe' })) ∧ Ext S g w (S.set q (.oth (.loop st' pe'))) g (w.putObj b (.loop { rr with state := st', pending := pe' })) := by
  have hb : b < w.heap.size := (Array.getElem?_eq_some_iff.1 hr).1
  refine h.write' ho hg (by simp) (fun k hk => World.putObj_heap_other hk) rfl rfl rfl ⟨_, World.putObj_heap_same hb, _, rfl, rfl, rfl⟩ (fun l e => ⟨_, World.putObj_heap_same hb, ?_⟩)
  obtain ⟨r, k1, k2⟩ := h.lp b l e
  rw [hr] at k1
  cases k1
  exact k2
/-- A loop is laid; what of it stays is known. -/
theorem Inv.newlp {g : G} {S : Hp} {w : World} (h : Inv g S w) {q : Nat} (hf : S.fr q) (rr : Loop) :
    ∃ g', Inv g' (S.new q (.oth (.loop rr.state rr.pending))) (w.alloc (.loop rr)) ∧ Ext S g w (S.new q (.oth (.loop rr.state rr.pending))) g' (w.alloc (.loop rr)) ∧ g'.at' q = some (some w.heap.size, (0, 0)) ∧ g'.lp w.heap.size = some (lpOf rr) := by
  obtain ⟨i1, x1⟩ := h.alloc (s := (0, 0)) hf (x := .oth (.loop rr.state rr.pending)) (ob := .loop rr) ⟨_, heap_alloc_new w _, rr, rfl, rfl, rfl⟩
  have hnone : (gput g q (some w.heap.size, (0, 0))).lp w.heap.size = none := by
    cases hl : (gput g q (some w.heap.size, (0, 0))).lp w.heap.size with
    | none => rfl
    | some l =>
      obtain ⟨r, k1, _⟩ := h.lp _ l hl
      have := (Array.getElem?_eq_some_iff.1 k1).1
      omega
  have hat := gput_at (g := g) (o := q) (p := (some w.heap.size, (0, 0)))
  generalize gput g q (some w.heap.size, (0, 0)) = g1 at i1 x1 hnone hat
  have hle : Le g1 ⟨g1.at', g1.mem, fun k => if k = w.heap.size then some (lpOf rr) else g1.lp k⟩ := ⟨fun _ _ e => e, fun _ _ _ e => e, fun b l e => by
    show (if b = w.heap.size then _ else g1.lp b) = some l
    split
    · rename_i hb; rw [hb, hnone] at e; cases e
    · exact e⟩
  refine ⟨⟨g1.at', g1.mem, fun k => if k = w.heap.size then some (lpOf rr) else g1.lp k⟩, ⟨fun o cs e => (i1.cells o cs e).imp id fun ⟨b, t, k1, cur, ty, k2, k3, k4⟩ => ⟨b, t, k1, cur, ty, k2, k3, k4.mono hle⟩, fun o x e => ?_, i1.fresh, i1.lt, i1.inj, i1.mem, i1.memd, fun b l e => ?_⟩, ⟨x1.le.trans hle, x1.os, x1.tape, x1.output, x1.size, x1.frame, fun k ⟨o, s, x, e1, e2⟩ => x1.own k ⟨o, s, x, e1, e2⟩, x1.dom, x1.fr, x1.memo, fun b l e => ?_⟩, hat, if_pos rfl⟩
  · obtain ⟨b, s, ob, k1, k2, k3⟩ := i1.oth o x e
    exact ⟨b, s, ob, k1, k2, k3.mono hle⟩
  · have e : (if b = w.heap.size then some (lpOf rr) else g1.lp b) = some l := e
    split at e
    · rename_i hb; cases e; exact ⟨rr, by rw [hb]; exact heap_alloc_new w _, rfl⟩
    · exact i1.lp b l e
  · have e : (if b = w.heap.size then some (lpOf rr) else g1.lp b) = some l := e
    split at e
    · rename_i hb; exact .inr (by omega)
    · exact x1.lpo b l e
section
variable {β : Type}
theorem set_ovr {h : H} {q : Nat} {x : MOb} {t' : Tr MOb} (hq : q < 16777216) (ht : t'.get = fun m => if m = q then some x else h.t.get m) : Fr2 h { h with t := t' } (.wr [rlo q]) ∧ ∀ S, Agree (.wr [rlo q]) (hp h) S → ovr (.wr [rlo q]) (hp { h with t := t' }) S = S.set q x.low := by
  have e := hp_set (h := h) (x := x) hq ht
  have hT : ∀ u ∈ [Up.set q x.low], touch (.wr [rlo q]) u.id = true := fun u hu => by rcases List.mem_singleton.1 hu with rfl; exact touch_loc (o := q) hq (.head _)
  have out : ∀ i, touch (.wr [rlo q]) i = false → (hp { h with t := t' }).ob i = (hp h).ob i ∧ ((hp { h with t := t' }).fr i ↔ (hp h).fr i) := fun i hi => by
    rw [e]; exact app_out _ _ i (fun u hu hh => by rw [hh, hT u hu] at hi; cases hi)
  exact ⟨⟨out, fun i hi => out i (wt_wr hi)⟩, fun S hA => by rw [e, ovr_app hT hA]; rfl⟩
theorem del_ovr {h : H} {q : Nat} {t' : Tr MOb} (hq : q < 16777216) (ht : t'.get = fun m => if m = q then none else h.t.get m) : Fr2 h { h with t := t' } (.wr [rlo q]) ∧ ∀ S, Agree (.wr [rlo q]) (hp h) S → ovr (.wr [rlo q]) (hp { h with t := t' }) S = S.del q := by
  have e : hp { h with t := t' } = app [.del q] (hp h) := Hp.ext' (fun i => by
    show (if i < lim then tOb t' i else _) = if i = q then none else (if i < lim then tOb h.t i else _)
    unfold tOb
    rw [ht]
    by_cases hi : i = q
    · subst hi; rw [if_pos (show i < lim from hq), if_pos rfl]; simp
    · simp only [if_neg hi]) (fun i => Iff.rfl)
  have hT : ∀ u ∈ [Up.del q], touch (.wr [rlo q]) u.id = true := fun u hu => by rcases List.mem_singleton.1 hu with rfl; exact touch_loc (o := q) hq (.head _)
  have out : ∀ i, touch (.wr [rlo q]) i = false → (hp { h with t := t' }).ob i = (hp h).ob i ∧ ((hp { h with t := t' }).fr i ↔ (hp h).fr i) := fun i hi => by
    rw [e]; exact app_out _ _ i (fun u hu hh => by rw [hh, hT u hu] at hi; cases hi)
  exact ⟨⟨out, fun i hi => out i (wt_wr hi)⟩, fun S hA => by rw [e, ovr_app hT hA]; rfl⟩
theorem new_ovr {h : H} {x : MOb} {t' : Tr MOb} (hq : h.nid < 16777216) (ht : t'.get = fun m => if m = h.nid then some x else h.t.get m) : Fr2 h { h with t := t', nid := h.nid + 1 } (.wr [rlo h.nid]) ∧ ∀ S, Agree (.wr [rlo h.nid]) (hp h) S → ovr (.wr [rlo h.nid]) (hp { h with t := t', nid := h.nid + 1 }) S = S.new h.nid x.low := by
  have e := hp_new (h := h) (x := x) hq ht
  have hT : ∀ u ∈ [Up.new h.nid x.low], touch (.wr [rlo h.nid]) u.id = true := fun u hu => by rcases List.mem_singleton.1 hu with rfl; exact touch_loc (o := h.nid) hq (.head _)
  have out : ∀ i, touch (.wr [rlo h.nid]) i = false → (hp { h with t := t', nid := h.nid + 1 }).ob i = (hp h).ob i ∧ ((hp { h with t := t', nid := h.nid + 1 }).fr i ↔ (hp h).fr i) := fun i hi => by
    rw [e]; exact app_out _ _ i (fun u hu hh => by rw [hh, hT u hu] at hi; cases hi)
  exact ⟨⟨out, fun i hi => out i (wt_wr hi)⟩, fun S hA => by rw [e, ovr_app hT hA]; rfl⟩
theorem loc_ob {h : H} {q : Nat} {x : MOb} (hq : q < 16777216) (hx : h.t.get q = some x) : (hp h).ob q = some x.low := by
  show (if q < lim then _ else _) = _
  rw [if_pos (show q < lim from hq)]; unfold tOb; rw [hx]
theorem ag_ob {h : H} {q : Nat} {S : Hp} {x : MOb} {l : List Nat} {w : Bool} {s : List Nat} (hq : q < 16777216) (hx : h.t.get q = some x) (hA : Agree ⟨false, l, w, s⟩ (hp h) S) (hm : rlo q ∈ l) : S.ob q = some x.low := (hA q (touch_loc hq hm)).1.trans (loc_ob hq hx)
/-! ### jumps out of rounds -/
def jumpX : Option Code → Option Exit
  | none => some .normal
  | some .ret => some .ret
  | some (.exit id) => some (.exit id)
  | _ => none
def isBusy : LoopState → Bool
  | .busy => true
  | _ => false
def rndE : Exit → Option (Option Code)
  | .normal => some none
  | .ret => some (some .ret)
  | .exit id => some (some (.exit id))
  | _ => none
def rndS : Option Code → LoopState
  | none => .ready
  | some _ => .done
theorem jumpX_ok {pe : Option Code} {e : Exit} (h : jumpX pe = some e) : (pe = none ∧ e = .normal) ∨ (pe = some .ret ∧ e = .ret) ∨ ∃ id, pe = some (.exit id) ∧ e = .exit id := by
  unfold jumpX at h
  split at h
  · cases h; exact .inl ⟨rfl, rfl⟩
  · cases h; exact .inr (.inl ⟨rfl, rfl⟩)
  · cases h; exact .inr (.inr ⟨_, rfl, rfl⟩)
  · cases h
/-- Parameters. -/
def setAll : Tr A → List Tmp → List A → (Tr A → Option β) → Option β
  | F, [], [], k => k F
  | F, t :: ts, a :: as, k => setT F t (some a) (fun F => setAll F ts as k)
  | _, _, _, _ => none
theorem setAll_ok {r : β} : ∀ (ps : List Tmp) (as : List A) (F : Tr A) (k : Tr A → Option β), setAll F ps as k = some r → ∃ F1, k F1 = some r ∧ as.length = ps.length ∧ ∀ (g : G) (n : Nat) (vs : List Value) (tmps : Array Value), as.length = vs.length → (∀ (i : Nat) (p : A) (v : Value), as[i]? = some p → vs[i]? = some v → V g p v) → tmps.size = n → (∀ i, i < n → V g (slotA F.get i) (tmps.getD i undef)) →
    ((ps.zip vs).foldl (fun tmps x => tmps.setIfInBounds x.1 x.2) tmps).size = n ∧ ∀ i, i < n → V g (slotA F1.get i) (((ps.zip vs).foldl (fun tmps x => tmps.setIfInBounds x.1 x.2) tmps).getD i undef)
  | [], [], F, k, h => ⟨F, h, rfl, fun g n vs tmps hl hv hs hF => ⟨by simpa using hs, by simpa using hF⟩⟩
  | t :: ts, a :: as, F, k, h => by
    obtain ⟨_, F', k1, k2⟩ := setT_inv h
    obtain ⟨F1, q1, q2, q3⟩ := setAll_ok ts as F' k k1
    refine ⟨F1, q1, by simp [q2], fun g n vs tmps hl hv hs hF => ?_⟩
    cases vs with
    | nil => simp at hl
    | cons v vs =>
      refine q3 g n vs (tmps.setIfInBounds t v) (by simpa using hl) (fun i p v k1 k2 => hv (i + 1) p v (by simpa using k1) (by simpa using k2)) (by simpa using hs) (fun i hi => ?_)
      rw [slot_set k2]
      by_cases hit : i = t
      · subst hit
        rw [if_pos rfl, show (tmps.setIfInBounds i v).getD i undef = v by simp [Array.getD, show i < tmps.size by omega]]
        exact hv 0 a v rfl rfl
      · rw [if_neg hit, show (tmps.setIfInBounds t v).getD i undef = tmps.getD i undef by
          simp only [Array.getD_eq_getD_getElem?]
          rw [Array.getElem?_setIfInBounds_ne (fun h => hit h.symm)]]
        exact hF i hi
  | [], _ :: _, _, _, h => by cases h
  | _ :: _, [], _, _, h => by cases h
theorem list3 {g : G} {fi ca : List A} {x : A} {fv cv : List Value} {v : Value} (hf : fi.length = fv.length) (h1 : ∀ (i : Nat) (c : A) (x : Value), fi[i]? = some c → fv[i]? = some x → V g c x) (hx : V g x v) (h2 : ∀ (i : Nat) (c : A) (x : Value), ca[i]? = some c → cv[i]? = some x → V g c x) :
    ∀ (i : Nat) (p : A) (u : Value), (fi ++ x :: ca)[i]? = some p → (fv ++ v :: cv)[i]? = some u → V g p u := by
  intro i p u k1 k2
  rcases Nat.lt_trichotomy i fi.length with c1 | c1 | c1
  · rw [List.getElem?_append_left c1] at k1
    rw [List.getElem?_append_left (by omega)] at k2
    exact h1 i p u k1 k2
  · rw [List.getElem?_append_right (by omega)] at k1 k2
    rw [c1, Nat.sub_self] at k1
    rw [c1, hf, Nat.sub_self] at k2
    simp at k1 k2; subst k1 k2; exact hx
  · rw [List.getElem?_append_right (by omega)] at k1 k2
    rw [← hf] at k2
    obtain ⟨d, hd⟩ : ∃ d, i - fi.length = d + 1 := ⟨i - fi.length - 1, by omega⟩
    rw [hd] at k1 k2
    exact h2 d p u (by simpa using k1) (by simpa using k2)
end
end
end Go.Bm
