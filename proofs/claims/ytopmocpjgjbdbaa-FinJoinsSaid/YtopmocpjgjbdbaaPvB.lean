/- Own variables in the logic of pure values: made, read, written. -/
import Derived.Test.YtopmocpjgjbdbaaPv
namespace Go.Pv
open Go.RowKit

theorem V.d_v {g : Gh} {x v : Value} (h : V g (.d (.v x)) v) : v = x ∧ x.oneCell' = true := by
  cases h with | d _ _ h => cases h with | v _ h => exact ⟨rfl, h⟩

/-- A part of a list written anew. -/
def splice : List PV → Nat → List PV → List PV
  | cs, 0, ps => ps ++ cs.drop ps.length
  | c :: cs, n + 1, ps => c :: splice cs n ps
  | [], _ + 1, _ => []

theorem splice_eq : ∀ (off : Nat) (cs ps : List PV), off + ps.length ≤ cs.length → splice cs off ps = cs.take off ++ ps ++ cs.drop (off + ps.length)
  | 0, cs, ps, _ => by cases cs <;> simp [splice]
  | n + 1, [], ps, h => by simp at h
  | n + 1, c :: cs, ps, h => by
    simp only [List.length_cons] at h
    rw [splice, splice_eq n cs ps (by omega)]
    simp [show n + 1 + ps.length = (n + ps.length) + 1 from by omega]

/-- Cells that are values, one by one. -/
def Vs (g : Gh) (ps : List PV) (vs : List Value) : Prop := ps.length = vs.length ∧ ∀ (j : Nat) (c : PV) (x : Value), ps[j]? = some c → vs[j]? = some x → V g c x ∧ x.oneCell' = true

theorem Vs.mono {g g' : Gh} (h : Le g g') {ps : List PV} {vs : List Value} (hv : Vs g ps vs) : Vs g' ps vs :=
  ⟨hv.1, fun j c x h1 h2 => ⟨(hv.2 j c x h1 h2).1.mono h, (hv.2 j c x h1 h2).2⟩⟩
theorem Vs.one {g : Gh} {ps : List PV} {vs : List Value} (hv : Vs g ps vs) : ∀ v ∈ vs, v.oneCell' = true := by
  intro v hm
  obtain ⟨j, hj, rfl⟩ := List.getElem_of_mem hm
  have hj' : j < ps.length := by rw [hv.1]; exact hj
  exact (hv.2 j ps[j] vs[j] (List.getElem?_eq_getElem hj') (List.getElem?_eq_getElem hj)).2

theorem Vs.splice {g : Gh} {cs ps : List PV} {cur vs : List Value} (h : Vs g cs cur) (k : Vs g ps vs) (off : Nat) (ho : off + ps.length ≤ cs.length) :
    Vs g (splice cs off ps) (cur.take off ++ vs ++ cur.drop (off + vs.length)) := by
  rw [splice_eq off cs ps ho]
  have e1 := h.1
  have e2 := k.1
  refine ⟨by simp; omega, fun j c x h1 h2 => ?_⟩
  rw [← e2] at h2
  by_cases hj : j < off
  · rw [List.append_assoc, List.getElem?_append_left (by simp; omega), List.getElem?_take, if_pos hj] at h1 h2
    exact h.2 j c x h1 h2
  · by_cases hj2 : j < off + ps.length
    · rw [List.append_assoc, List.getElem?_append_right (by simp; omega), List.getElem?_append_left (by simp; omega)] at h1 h2
      simp only [List.length_take, Nat.min_eq_left (show off ≤ cs.length by omega)] at h1
      simp only [List.length_take, Nat.min_eq_left (show off ≤ cur.length by omega)] at h2
      exact k.2 _ c x h1 h2
    · rw [List.getElem?_append_right (by simp; omega)] at h1 h2
      simp only [List.length_append, List.length_take, Nat.min_eq_left (show off ≤ cs.length by omega), List.getElem?_drop] at h1
      simp only [List.length_append, List.length_take, Nat.min_eq_left (show off ≤ cur.length by omega), List.getElem?_drop, ← e2] at h2
      exact h.2 _ c x h1 h2

theorem setRow_lt (w : World) (b : Nat) (cs : Array Value) : (w.setRow b cs).heap.size = w.heap.size := size_setRow w b cs

/-- The first cells of a row. -/
def Vb (g : Gh) (ps : List PV) (vs : List Value) : Prop := ps.length ≤ vs.length ∧ ∀ (j : Nat) (c : PV) (x : Value), ps[j]? = some c → vs[j]? = some x → V g c x ∧ x.oneCell' = true
theorem Vb.splice {g : Gh} {cs ps : List PV} {cur vs : List Value} (h : Vb g cs cur) (k : Vs g ps vs) (off : Nat) (ho : off + ps.length ≤ cs.length) :
    Vb g (splice cs off ps) (cur.take off ++ vs ++ cur.drop (off + vs.length)) := by
  rw [splice_eq off cs ps ho]
  have e1 := h.1
  have e2 := k.1
  refine ⟨by simp; omega, fun j c x h1 h2 => ?_⟩
  rw [← e2] at h2
  by_cases hj : j < off
  · rw [List.append_assoc, List.getElem?_append_left (by simp; omega), List.getElem?_take, if_pos hj] at h1 h2
    exact h.2 j c x h1 h2
  · by_cases hj2 : j < off + ps.length
    · rw [List.append_assoc, List.getElem?_append_right (by simp; omega), List.getElem?_append_left (by simp; omega)] at h1 h2
      simp only [List.length_take, Nat.min_eq_left (show off ≤ cs.length by omega)] at h1
      simp only [List.length_take, Nat.min_eq_left (show off ≤ cur.length by omega)] at h2
      exact k.2 _ c x h1 h2
    · rw [List.getElem?_append_right (by simp; omega)] at h1 h2
      simp only [List.length_append, List.length_take, Nat.min_eq_left (show off ≤ cs.length by omega), List.getElem?_drop] at h1
      simp only [List.length_append, List.length_take, Nat.min_eq_left (show off ≤ cur.length by omega), List.getElem?_drop, ← e2] at h2
      exact h.2 _ c x h1 h2
theorem splice_ne {cs ps : List PV} {off : Nat} (ho : off + ps.length ≤ cs.length) (h : splice cs off ps ≠ []) : cs ≠ [] := by
  rintro rfl
  rw [splice_eq off [] ps ho] at h
  simp at ho
  simp [ho.2] at h

/-- An own variable written. -/
theorem Inv.setbox {g : Gh} {S : Sx} {w : World} (h : Inv g S w) {b : Nat} {cs ps : List PV} {vs : List Value} {off blk : Nat} (hb : S.bs[b]? = some (some cs)) (hk : g.bx[b]? = some (some blk))
    (hv : Vs g ps vs) (ho : off + ps.length ≤ cs.length) (hne : cs ≠ []) :
    ∃ cur ty, w.heap[blk]? = some (.cells cur ty (0, 0)) ∧ off + vs.length ≤ cur.size ∧
      Inv g ⟨S.bs.set b (some (splice cs off ps)), S.ts⟩ (w.setRow blk (cur.toList.take off ++ vs ++ cur.toList.drop (off + vs.length)).toArray) ∧
      Ext g w g (w.setRow blk (cur.toList.take off ++ vs ++ cur.toList.drop (off + vs.length)).toArray) := by
  obtain ⟨blk', cur, ty, h1, h2, h3, h4⟩ := h.box b cs hb hne (h.notFam hb hk)
  rw [hk] at h1
  obtain rfl : blk = blk' := by simpa using h1
  have hcs : Vb g cs cur.toList := ⟨by simpa using h3, fun j c x e1 e2 => h4 j c x e1 (by simpa using e2)⟩
  have hsp := hcs.splice hv off ho
  have hoth : ∀ k, k ≠ blk → (w.setRow blk (cur.toList.take off ++ vs ++ cur.toList.drop (off + vs.length)).toArray).heap[k]? = w.heap[k]? := fun k hne => setRow_other w blk k _ hne
  refine ⟨cur, ty, h2, by have := hv.1; omega, ?_, ?_⟩
  · refine ⟨by simp [h.hbx], h.htg, ?_, h.one, ?_, ?_, h.bmem, ?_, h.inj, ?_, ?_, ?_, h.tinj, ?_⟩
    · intro k o x e
      have hne : k ≠ blk := fun hh => by subst hh; rw [h.bmem b k hk o] at e; cases e
      rw [World.cell?_of_block (w := w) (hoth k hne)]
      exact h.mem k o x e
    · intro i cs' e hne' hf
      rw [List.getElem?_set] at e
      by_cases hib : b = i
      · subst hib
        have hlt : b < S.bs.length := (List.getElem?_eq_some_iff.1 hb).1
        simp only [if_true, hlt] at e
        obtain rfl : splice cs off ps = cs' := by simpa using e
        refine ⟨blk, _, ty, hk, setRow_heap w blk cur _ ty _ h2, by have := hsp.1; simp at this ⊢; omega, fun j c x e1 e2 => hsp.2 j c x e1 (by simpa using e2)⟩
      · rw [if_neg hib] at e
        obtain ⟨blk', cur', ty', k1, k2, k3⟩ := h.box i cs' e hne' hf
        refine ⟨blk', cur', ty', k1, ?_, k3⟩
        rw [hoth blk' (fun hh => hib (h.inj _ _ _ hk (hh ▸ k1)))]
        exact k2
    · intro i e
      rw [List.getElem?_set] at e
      by_cases hib : b = i
      · subst hib
        have hlt : b < S.bs.length := (List.getElem?_eq_some_iff.1 hb).1
        simp [hlt] at e
      · rw [if_neg hib] at e; exact h.nob i e
    · intro i k e; rw [size_setRow]; exact h.blt i k e
    · intro i G e
      obtain ⟨cs', k1, k2, k3, k4, k5, k6⟩ := h.gr i G e
      by_cases hib : b = i
      · subst hib
        rw [hb] at k1
        obtain rfl : cs = cs' := by simpa using k1
        have hlt : b < S.bs.length := (List.getElem?_eq_some_iff.1 hb).1
        refine ⟨splice cs off ps, by show (S.bs.set b _)[b]? = _; simp [hlt], by rw [splice_eq _ _ _ ho]; simp; omega, k3, k4, k5, fun hc => ?_⟩
        obtain ⟨blk', cur', ty', j1, j2, j3⟩ := k6 hc
        rw [hk] at j1
        obtain rfl : blk = blk' := by simpa using j1
        rw [h2] at j2
        obtain rfl : cur = cur' := by simpa using congrArg (fun x => match x with | some (Obj.cells c _ _) => c | _ => #[]) j2
        refine ⟨blk, _, ty, hk, setRow_heap w blk cur _ ty _ h2, ?_⟩
        have := hv.1
        simp; omega
      · refine ⟨cs', by show (S.bs.set b _)[i]? = _; rw [List.getElem?_set, if_neg hib]; exact k1, k2, k3, k4, k5, fun hc => ?_⟩
        obtain ⟨blk', cur', ty', j1, j2, j3⟩ := k6 hc
        refine ⟨blk', cur', ty', j1, ?_, j3⟩
        rw [hoth blk' (fun hh => hib (h.inj _ _ _ hk (hh ▸ j1)))]
        exact j2
    · intro t m e
      obtain ⟨T, k1, k2, k3, k4, k5⟩ := h.tag t m e
      refine ⟨T, k1, k2, k3, k4, fun hlt => ?_⟩
      obtain ⟨blk', cur', ty', j1, j2, j3⟩ := k5 hlt
      refine ⟨blk', cur', ty', j1, ?_, j3⟩
      rw [hoth blk' (fun hh => by subst hh; exact (h.tbx t T blk' k1 j1 hlt).2 b hk)]
      exact j2
    · intro t T k e1 e2 e3; rw [size_setRow]; exact h.tbx t T k e1 e2 e3
    · have hlt : b < S.bs.length := (List.getElem?_eq_some_iff.1 hb).1
      have hnf : isFam (splice cs off ps) = false := notFam_of (g := g) (cur := cur.toList.take off ++ vs ++ cur.toList.drop (off + vs.length)) (by have := hsp.1; simpa using this) (fun j c x e1 e2 => hsp.2 j c x e1 e2)
      refine h.fam.keep (.refl g) rfl (fun i cs' hf => ?_) h.fam.bx (by rw [size_setRow]; exact Nat.le_refl _) (fun i j F b' e1 e2 => ⟨hoth b' (h.fam_ne e1 e2 hk), (h.fam.out i j F b' e1 e2).2⟩)
      show (S.bs.set b _)[i]? = _ ↔ _
      by_cases hi : i = b
      · subst hi
        rw [List.getElem?_set_self hlt, hb]
        have h5 := h.notFam hb hk
        constructor
        · intro e; cases e; rw [hnf] at hf; cases hf
        · intro e; cases e; rw [h5] at hf; cases hf
      · rw [List.getElem?_set_ne (by omega)]
  · refine ⟨.refl g, rfl, rfl, rfl, by rw [size_setRow]; exact Nat.le_refl _, fun k _ hn => hoth k (fun hh => hn (.inl ⟨b, by rw [hh]; exact hk⟩)), fun _ hh => .inl hh, fun _ _ _ hh => .inl hh⟩

theorem Vs.b {g : Gh} {cs : List PV} {vs : List Value} (h : Vs g cs vs) : Vb g cs vs := ⟨Nat.le_of_eq h.1, h.2⟩
/-- A new own variable. -/
theorem Inv.newbox {g : Gh} {S : Sx} {w : World} (h : Inv g S w) {cs : List PV} {vs : Array Value} (ty : TypeId) (hv : Vb g cs vs.toList) :
    Inv { g with bx := g.bx ++ [some w.heap.size] } ⟨S.bs ++ [some cs], S.ts⟩ (w.alloc (.cells vs ty)) ∧ Ext g w { g with bx := g.bx ++ [some w.heap.size] } (w.alloc (.cells vs ty)) := by
  have hbl : ∀ i, i < S.bs.length → (g.bx ++ [some w.heap.size])[i]? = g.bx[i]? := fun i hi => List.getElem?_append_left (by rw [h.hbx]; exact hi)
  have hle : Le g { g with bx := g.bx ++ [some w.heap.size] } := ⟨fun _ _ _ e => e, fun i k e e2 => by
    refine ⟨?_, e2⟩
    show (g.bx ++ [some w.heap.size])[i]? = _
    rw [List.getElem?_append_left (List.getElem?_eq_some_iff.1 e).1]; exact e, fun i G e => ⟨G, e, .inl ⟨rfl, hbl i (h.gr_lt e)⟩⟩, fun _ T e => ⟨T, e, .inl rfl⟩, fun _ _ F e => ⟨F, e, .inl rfl⟩⟩
  have hbx : ∀ (i k : Nat), (g.bx ++ [some w.heap.size])[i]? = some (some k) → g.bx[i]? = some (some k) ∨ (i = g.bx.length ∧ k = w.heap.size) := by
    intro i k e
    by_cases hi : i < g.bx.length
    · rw [List.getElem?_append_left hi] at e; exact .inl e
    · rw [List.getElem?_append_right (by omega)] at e
      have : i - g.bx.length < 1 := by have := (List.getElem?_eq_some_iff.1 e).1; simpa using this
      have hi0 : i = g.bx.length := by omega
      subst hi0
      simp at e
      exact .inr ⟨rfl, e.symm⟩
  have h' := h.alloc (.cells vs ty)
  refine ⟨⟨by simp [h.hbx], h.htg, h'.mem, h.one, ?_, ?_, ?_, ?_, ?_, ?_, ?_, ?_, h.tinj, ?_⟩, ?_⟩
  · intro i cs' e hne hf
    by_cases hi : i < S.bs.length
    · rw [List.getElem?_append_left hi] at e
      obtain ⟨blk, cur, ty', k1, k2, k3, k4⟩ := h'.box i cs' e hne hf
      exact ⟨blk, cur, ty', (hbl i hi).trans k1, k2, k3, fun j c x e1 e2 => ⟨(k4 j c x e1 e2).1.mono hle, (k4 j c x e1 e2).2⟩⟩
    · rw [List.getElem?_append_right (by omega)] at e
      have : i - S.bs.length < 1 := by have := (List.getElem?_eq_some_iff.1 e).1; simpa using this
      have hi0 : i = S.bs.length := by omega
      subst hi0
      simp at e
      subst e
      refine ⟨w.heap.size, vs, ty, ?_, heap_alloc_new w _, by have := hv.1; simp at this; omega, fun j c x e1 e2 => ⟨(hv.2 j c x e1 (by simpa using e2)).1.mono hle, (hv.2 j c x e1 (by simpa using e2)).2⟩⟩
      show (g.bx ++ [some w.heap.size])[S.bs.length]? = _
      rw [← h.hbx]; simp
  · intro i e
    by_cases hi : i < S.bs.length
    · rw [List.getElem?_append_left hi] at e
      show (g.bx ++ [some w.heap.size])[i]? = _
      rw [List.getElem?_append_left (by rw [h.hbx]; exact hi)]; exact h.nob i e
    · rw [List.getElem?_append_right (by omega)] at e
      have : i - S.bs.length < 1 := by have := (List.getElem?_eq_some_iff.1 e).1; simpa using this
      have hi0 : i = S.bs.length := by omega
      subst hi0; simp at e
  · intro i k e o
    rcases hbx i k e with e | ⟨_, rfl⟩
    · exact h.bmem i k e o
    · cases hm : g.mem w.heap.size o with
      | none => rfl
      | some x => exact absurd (h.mem_lt hm) (by omega)
  · intro i k e
    rcases hbx i k e with e | ⟨_, rfl⟩
    · have := h.blt i k e; simp; omega
    · simp
  · intro i j k e1 e2
    rcases hbx i k e1 with e1 | ⟨e1, e1'⟩ <;> rcases hbx j k e2 with e2 | ⟨e2, e2'⟩
    · exact h.inj i j k e1 e2
    · have := h.blt i k e1; omega
    · have := h.blt j k e2; omega
    · omega
  · intro i G e
    obtain ⟨cs', k1, k2, k3, k4, k5, k6⟩ := h'.gr i G e
    have hi := h.gr_lt e
    refine ⟨cs', by show (S.bs ++ _)[i]? = _; rw [List.getElem?_append_left hi]; exact k1, k2, k3, k4, k5, fun hc => ?_⟩
    obtain ⟨blk, cur, ty', j1, j2⟩ := k6 hc
    exact ⟨blk, cur, ty', (hbl i hi).trans j1, j2⟩
  · intro t m e
    obtain ⟨T, k1, k2⟩ := h'.tag t m e
    exact ⟨T, k1, k2⟩
  · intro t T k e1 e2 e3
    obtain ⟨hlt, hno⟩ := h.tbx t T k e1 e2 e3
    refine ⟨by simp; omega, fun i e => ?_⟩
    rcases hbx i k e with e | ⟨_, rfl⟩
    · exact hno i e
    · omega
  · have hnf : isFam cs = false := notFam_of (g := g) hv.1 hv.2
    have hnew : ∀ (i : Nat) (cs' : List PV), isFam cs' = true → ((S.bs ++ [some cs])[i]? = some (some cs') ↔ S.bs[i]? = some (some cs')) := by
      intro i cs' hf
      by_cases hi : i < S.bs.length
      · rw [List.getElem?_append_left hi]
      · rw [List.getElem?_append_right (by omega)]
        constructor
        · intro e
          have : i - S.bs.length < 1 := by have := (List.getElem?_eq_some_iff.1 e).1; simpa using this
          rw [show i - S.bs.length = 0 by omega] at e
          simp at e
          rw [e] at hnf; rw [hnf] at hf; cases hf
        · intro e; exact absurd (List.getElem?_eq_some_iff.1 e).1 (by omega)
    refine h.fam.keep hle rfl hnew (fun i cs' e hf => ?_) (by simp) (fun i j F b e1 e2 => ?_)
    · obtain ⟨q1, q2⟩ := h.fam.bx i cs' e hf
      exact ⟨(hbl i (List.getElem?_eq_some_iff.1 e).1).trans q1, q2⟩
    · obtain ⟨q1, q2, q3, q4⟩ := h.fam.out i j F b e1 e2
      refine ⟨Below.heap_alloc w _ b q1, q2, fun i' e => ?_, q4⟩
      rcases hbx i' b e with e | ⟨_, e⟩
      · exact q3 i' e
      · omega
  · refine ⟨hle, rfl, rfl, rfl, by simp, fun k hk _ => Below.heap_alloc w _ k hk, fun k hk => ?_, fun _ _ _ e => .inl e⟩
    rcases hk with ⟨i, e⟩ | hk
    · rcases hbx i k e with e | ⟨_, rfl⟩
      · exact .inl (.inl ⟨i, e⟩)
      · exact .inr (Nat.le_refl _)
    · exact .inl (.inr hk)
end Go.Pv
