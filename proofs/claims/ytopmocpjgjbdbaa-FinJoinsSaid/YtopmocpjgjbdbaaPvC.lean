/- Calls, and what may be forgotten, in the logic of pure values. -/
import Derived.Test.YtopmocpjgjbdbaaPvW
namespace Go.Pv
open Go.RowKit

/-- 'p' says more than 'q'. -/
def PVle (p q : PV) : Prop := ∀ g v, V g p v → V g q v
theorem PVle.rfl' {p : PV} : PVle p p := fun _ _ h => h
theorem PVle.of_eq {p q : PV} (h : p = q) : PVle p q := h ▸ PVle.rfl'
theorem PVle.junk {p : PV} : PVle p .junk := fun _ v _ => .junk v
theorem PVle.trans {p q r : PV} (h : PVle p q) (k : PVle q r) : PVle p r := fun g v hv => k g v (h g v hv)
theorem PVle.app {t sz : Nat} {es : List (List D)} : PVle (.app t sz es) (.d (.sl sz false es)) := fun _ _ h => .d _ _ (h.els (p := .app t sz es) rfl)
theorem PVle.full {sz : Nat} {f : Bool} {es : List (List D)} : PVle (.d (.sl sz f es)) (.d (.sl sz false es)) := fun _ _ h => .d _ _ (h.els (p := .d (.sl sz f es)) rfl)
/-- As an argument, or a result: what is data, as data; how much room a slice has is not told. -/
def PV.canon : PV → PV
  | .app _ sz es => .d (.sl sz false es)
  | .d (.sl sz _ es) => .d (.sl sz false es)
  | .agg cs => match toDs cs with
    | some ds => .d (.agg ds)
    | none => .agg cs
  | p => p
theorem PVle.canon (p : PV) : PVle p p.canon := by
  cases p with
  | app t sz es => exact .app
  | d x => cases x with
    | sl sz f es => exact .full
    | _ => exact .rfl'
  | agg cs =>
    intro g v h
    simp only [PV.canon]
    split
    · rename_i ds hd
      cases h with
      | agg _ vs hl h1 h =>
        obtain ⟨e1, e2⟩ := toDs_get hd
        refine .d _ _ (.agg _ _ (by rw [← e1, hl]) h1 (fun i c x k1 k2 => ?_))
        obtain ⟨p, hp, hp2⟩ := e2 i c k1
        exact (h i p x hp k2).toD1 hp2
    · exact h
  | _ => exact .rfl'
theorem PVle.of_canon {p q : PV} (h : p.canon = q) : PVle p q := h ▸ PVle.canon p

mutual
/-- It speaks of no own variable from 'nb' on, of no tag from 'nt' on. -/
def PV.ok (nb nt : Nat) : PV → Bool
  | .d _ => true
  | .agg cs => PV.okL nb nt cs
  | .tup cs => PV.okL nb nt cs
  | .app t _ _ => decide (t < nt)
  | .ptr b _ => decide (b < nb)
  | .ms b _ _ n => decide (b < nb) || n == 0
  | .vec b _ _ => decide (b < nb)
  | .vp b _ _ => decide (b < nb)
  | .rp _ => true
  | .fp i _ _ => decide (i < nb)
  | .fs i _ _ _ n => decide (i < nb) || n == 0
  | .fv i _ _ _ => decide (i < nb)
  | .fq i _ _ _ => decide (i < nb)
  | .fm i _ => decide (i < nb)
  | .fh => true
  | .fn _ fi ca => PV.okL nb nt fi && PV.okL nb nt ca
  | .opt b p => PV.ok nb nt p || !b
  | .un => true
  | .junk => true
def PV.okL (nb nt : Nat) : List PV → Bool
  | [] => true
  | p :: ps => PV.ok nb nt p && PV.okL nb nt ps
end
theorem okL_get {nb nt : Nat} : ∀ {ps : List PV}, PV.okL nb nt ps = true → ∀ (i : Nat) (p : PV), ps[i]? = some p → PV.ok nb nt p = true
  | [], _, i, p, h => by simp at h
  | q :: ps, h, i, p, hp => by
    simp only [PV.okL, Bool.and_eq_true] at h
    cases i with
    | zero => simp at hp; subst hp; exact h.1
    | succ i => exact okL_get h.2 i p (by simpa using hp)

def Gh.cut (g : Gh) (nb nt : Nat) : Gh := { g with bx := g.bx.take nb, tg := g.tg.take nt, gx := fun i => if i < nb then g.gx i else none, fx := fun i j => if i < nb then g.fx i j else none }
theorem Gh.cut_fx {g : Gh} {nb nt i j : Nat} {o : Option Fx} (h : i < nb) (e : g.fx i j = o) : (g.cut nb nt).fx i j = o := by show (if i < nb then g.fx i j else none) = o; rw [if_pos h]; exact e
theorem Gh.cut_gx {g : Gh} {nb nt i : Nat} {o : Option Gr} (h : i < nb) (e : g.gx i = o) : (g.cut nb nt).gx i = o := by show (if i < nb then g.gx i else none) = o; rw [if_pos h]; exact e
theorem Gh.cut_bx {g : Gh} {nb nt i : Nat} {o : Option (Option Nat)} (h : i < nb) (e : g.bx[i]? = o) : (g.cut nb nt).bx[i]? = o := by show (g.bx.take nb)[i]? = o; rw [List.getElem?_take, if_pos h]; exact e
theorem V.cut {g : Gh} {p : PV} {v : Value} (h : V g p v) (nb nt : Nat) (ho : p.ok nb nt = true) : V (g.cut nb nt) p v := by
  induction h with
  | d x v h => exact .d x v h
  | agg cs vs hl h1 h ih => exact .agg cs vs hl h1 (fun i c x k1 k2 => ih i c x k1 k2 (okL_get (by simpa only [PV.ok] using ho) i c k1))
  | tup cs vs hl h ih => exact .tup cs vs hl (fun i c x k1 k2 => ih i c x k1 k2 (okL_get (by simpa only [PV.ok] using ho) i c k1))
  | app t sz es a cap T h hT hz hle he =>
    simp only [PV.ok, decide_eq_true_eq] at ho
    exact .app t sz es a cap T h (by show (g.tg.take nt)[t]? = some T; rw [List.getElem?_take, if_pos ho]; exact hT) hz hle he
  | ptr b off blk h hg =>
    simp only [PV.ok, decide_eq_true_eq] at ho
    exact .ptr b off blk (Gh.cut_bx ho h) (Gh.cut_gx ho hg)
  | ms b off sz n cap a h hc hx hn =>
    simp only [PV.ok, Bool.or_eq_true, decide_eq_true_eq, beq_iff_eq] at ho
    exact .ms b off sz n cap a (fun h0 => let ⟨blk, e1, e2, e3⟩ := h h0; ⟨blk, e1, Gh.cut_bx (ho.resolve_right h0) e2, Gh.cut_gx (ho.resolve_right h0) e3⟩) hc hx hn
  | vec b sz n cap A G hG hz hle he hc hx hn =>
    simp only [PV.ok, decide_eq_true_eq] at ho
    exact .vec b sz n cap A G (Gh.cut_gx ho hG) hz hle (fun h => ⟨(he h).1, fun h0 => let ⟨blk, e1, e2⟩ := (he h).2 h0; ⟨blk, Gh.cut_bx ho e1, e2⟩⟩) hc hx hn
  | vp b N off blk G hG h0 hle he =>
    simp only [PV.ok, decide_eq_true_eq] at ho
    exact .vp b N off blk G (Gh.cut_gx ho hG) h0 hle (fun h => Gh.cut_bx ho (he h))
  | fp i j off blk h1 =>
    simp only [PV.ok, decide_eq_true_eq] at ho
    exact .fp i j off blk (Gh.cut_fx ho h1)
  | fs i j off sz n cap a h hc hx hn =>
    simp only [PV.ok, Bool.or_eq_true, decide_eq_true_eq, beq_iff_eq] at ho
    exact .fs i j off sz n cap a (fun h0 => let ⟨blk, e1, e2⟩ := h h0; ⟨blk, e1, Gh.cut_fx (ho.resolve_right h0) e2⟩) hc hx hn
  | fv i j sz n cap A b G hF hz hle he hc hx hn =>
    simp only [PV.ok, decide_eq_true_eq] at ho
    exact .fv i j sz n cap A b G (Gh.cut_fx ho hF) hz hle he hc hx hn
  | fq i j N off blk b G hF h0 hle he =>
    simp only [PV.ok, decide_eq_true_eq] at ho
    exact .fq i j N off blk b G (Gh.cut_fx ho hF) h0 hle he
  | fm i j blk h1 =>
    simp only [PV.ok, decide_eq_true_eq] at ho
    exact .fm i j blk (Gh.cut_fx ho h1)
  | rp cs blk off f hm hv => exact .rp cs blk off f hm hv
  | fn f fi ca fv cv hf hc h1 h2 ih1 ih2 =>
    simp only [PV.ok, Bool.and_eq_true] at ho
    exact .fn f fi ca fv cv hf hc (fun i c x k1 k2 => ih1 i c x k1 k2 (okL_get ho.1 i c k1)) (fun i c x k1 k2 => ih2 i c x k1 k2 (okL_get ho.2 i c k1))
  | opt b p v h1 h2 ih =>
    refine .opt b p v (fun hb => ih hb ?_) h2
    simpa [PV.ok, hb] using ho
  | un => exact .un
  | junk v => exact .junk v

/-- Own variables, and tags, forgotten from some place on. -/
def Sx.cut (S : Sx) (nb nt : Nat) : Sx := ⟨S.bs.take nb, S.ts.take nt⟩
def okB (nb nt : Nat) : List (Option (List PV)) → Bool
  | [] => true
  | none :: r => okB nb nt r
  | some cs :: r => PV.okL nb nt cs && okB nb nt r
theorem okB_get {nb nt : Nat} : ∀ {l : List (Option (List PV))}, okB nb nt l = true → ∀ (i : Nat) (cs : List PV), l[i]? = some (some cs) → PV.okL nb nt cs = true
  | [], _, i, cs, h => by simp at h
  | none :: r, h, i, cs, hp => by
    cases i with
    | zero => simp at hp
    | succ i => exact okB_get (by simpa only [okB] using h) i cs (by simpa using hp)
  | some q :: r, h, i, cs, hp => by
    simp only [okB, Bool.and_eq_true] at h
    cases i with
    | zero => simp at hp; subst hp; exact h.1
    | succ i => exact okB_get h.2 i cs (by simpa using hp)

theorem Inv.cut {g : Gh} {S : Sx} {w : World} (h : Inv g S w) (nb nt : Nat) (ho : okB nb nt (S.bs.take nb) = true) : Inv (g.cut nb nt) (S.cut nb nt) w := by
  have tk : ∀ {α : Type} (l : List α) (n i : Nat) (x : α), (l.take n)[i]? = some x → i < n ∧ l[i]? = some x := by
    intro α l n i x e
    rw [List.getElem?_take] at e
    split at e
    · exact ⟨by assumption, e⟩
    · cases e
  refine ⟨by simp [Gh.cut, Sx.cut, h.hbx], by simp [Gh.cut, Sx.cut, h.htg], h.mem, h.one, ?_, ?_, ?_, ?_, ?_, ?_, ?_, ?_, ?_, ?_⟩
  · intro i cs e hne hf
    obtain ⟨hi, e'⟩ := tk _ _ _ _ e
    obtain ⟨blk, cur, ty, k1, k2, k3, k4⟩ := h.box i cs e' hne hf
    refine ⟨blk, cur, ty, by show (g.bx.take nb)[i]? = _; rw [List.getElem?_take, if_pos hi]; exact k1, k2, k3, fun j c x e1 e2 => ⟨(k4 j c x e1 e2).1.cut nb nt (okL_get (okB_get ho i cs e) j c e1), (k4 j c x e1 e2).2⟩⟩
  · intro i e
    obtain ⟨hi, e'⟩ := tk _ _ _ _ e
    show (g.bx.take nb)[i]? = _
    rw [List.getElem?_take, if_pos hi]; exact h.nob i e'
  · intro i b e; exact h.bmem i b (tk _ _ _ _ e).2
  · intro i b e; exact h.blt i b (tk _ _ _ _ e).2
  · intro i j b e1 e2; exact h.inj i j b (tk _ _ _ _ e1).2 (tk _ _ _ _ e2).2
  · intro i G e
    change (if i < nb then g.gx i else none) = some G at e
    split at e
    · rename_i hi
      obtain ⟨cs, k1, k2, k3, k4, k5, k6⟩ := h.gr i G e
      refine ⟨cs, by show (S.bs.take nb)[i]? = _; rw [List.getElem?_take, if_pos hi]; exact k1, k2, k3, k4, k5, fun hc => ?_⟩
      obtain ⟨blk, cur, ty, j1, j2⟩ := k6 hc
      exact ⟨blk, cur, ty, Gh.cut_bx hi j1, j2⟩
    · cases e
  · intro t m e
    obtain ⟨ht, e'⟩ := tk _ _ _ _ e
    obtain ⟨T, k1, k2⟩ := h.tag t m e'
    exact ⟨T, by show (g.tg.take nt)[t]? = _; rw [List.getElem?_take, if_pos ht]; exact k1, k2⟩
  · intro t T b e1 e2 e3
    obtain ⟨k1, k2⟩ := h.tbx t T b (tk _ _ _ _ e1).2 e2 e3
    exact ⟨k1, fun i e => k2 i (tk _ _ _ _ e).2⟩
  · intro t u T U b e1 e2; exact h.tinj t u T U b (tk _ _ _ _ e1).2 (tk _ _ _ _ e2).2
  · have fxc : ∀ i j F, (g.cut nb nt).fx i j = some F → i < nb ∧ g.fx i j = some F := by
      intro i j F e
      change (if i < nb then g.fx i j else none) = some F at e
      split at e
      · exact ⟨by assumption, e⟩
      · cases e
    refine ⟨fun i cs e hf => ?_, fun i j cs m e hf hm => ?_, fun i j F e => ?_, fun i j F b e hb => ?_, fun i j i' j' F F' b e1 e2 => h.fam.inj i j i' j' F F' b (fxc _ _ _ e1).2 (fxc _ _ _ e2).2⟩
    · obtain ⟨hi, e'⟩ := tk _ _ _ _ e
      obtain ⟨k1, k2⟩ := h.fam.bx i cs e' hf
      exact ⟨Gh.cut_bx hi k1, Gh.cut_gx hi k2⟩
    · obtain ⟨hi, e'⟩ := tk _ _ _ _ e
      obtain ⟨F, ds, k1, k2, k3⟩ := h.fam.mem i j cs m e' hf hm
      subst k2
      have hok : PV.okL nb nt ds = true := by simpa only [PV.ok] using okL_get (okB_get ho i cs e) (j + 1) _ hm
      exact ⟨F, ds, Gh.cut_fx hi k1, rfl, k3.map (fun i c x hc hv => hv.cut nb nt (okL_get hok i c hc)) (fun _ _ => rfl)⟩
    · obtain ⟨hi, e'⟩ := fxc _ _ _ e
      obtain ⟨cs, k1, k2, k3⟩ := h.fam.dom i j F e'
      exact ⟨cs, by show (S.bs.take nb)[i]? = _; rw [List.getElem?_take, if_pos hi]; exact k1, k2, k3⟩
    · obtain ⟨k1, k2, k3, k4⟩ := h.fam.out i j F b (fxc _ _ _ e).2 hb
      exact ⟨k1, k2, fun i' e' => k3 i' (tk _ _ _ _ e').2, fun t T e' => k4 t T (tk _ _ _ _ e').2⟩
/-- No more own variables than so many. -/
structure Gl (g : Gh) (nb : Nat) : Prop where
  le : g.bx.length ≤ nb
  no : ∀ i, nb ≤ i → g.gx i = none
  nf : ∀ i j, nb ≤ i → g.fx i j = none
structure Gn (g : Gh) (nb : Nat) : Prop where
  eq : g.bx.length = nb
  no : ∀ i, nb ≤ i → g.gx i = none
  nf : ∀ i j, nb ≤ i → g.fx i j = none
theorem Gn.gl {g : Gh} {n m : Nat} (h : Gn g n) (k : n ≤ m) : Gl g m := ⟨by have := h.eq; omega, fun i hi => h.no i (by omega), fun i j hi => h.nf i j (by omega)⟩
theorem Gl.mono {g : Gh} {n m : Nat} (h : Gl g n) (k : n ≤ m) : Gl g m := ⟨by have := h.le; omega, fun i hi => h.no i (by omega), fun i j hi => h.nf i j (by omega)⟩
theorem Gl.ltf {g : Gh} {n i j : Nat} {F : Fx} (h : Gl g n) (e : g.fx i j = some F) : i < n := by
  rcases Nat.lt_or_ge i n with h2 | h2
  · exact h2
  · rw [h.nf i j h2] at e; cases e
theorem Gl.lt {g : Gh} {n i : Nat} {G : Gr} (h : Gl g n) (e : g.gx i = some G) : i < n := by
  rcases Nat.lt_or_ge i n with h2 | h2
  · exact h2
  · rw [h.no i h2] at e; cases e
theorem Inv.gn {g : Gh} {S : Sx} {w : World} (h : Inv g S w) : Gn g S.bs.length := ⟨h.hbx, fun _ hi => h.gx_new hi, fun i j hi => by
  cases e : g.fx i j with
  | none => rfl
  | some F => obtain ⟨cs, k1, _⟩ := h.fam.dom i j F e; exact absurd (List.getElem?_eq_some_iff.1 k1).1 (by omega)⟩
theorem Inv.gl {g : Gh} {S : Sx} {w : World} {m : Nat} (h : Inv g S w) (k : S.bs.length ≤ m) : Gl g m := h.gn.gl k
theorem Ext.cut {g g' : Gh} {w w' : World} (h : Ext g w g' w') (nb nt : Nat) (hbl : Gl g nb) (ht : g.tg.length ≤ nt) : Ext g w (g'.cut nb nt) w' := by
  have hb := hbl.le
  have hgx : ∀ i G, g.gx i = some G → i < nb := fun i G e => hbl.lt e
  refine ⟨⟨h.le.mem, fun i k e e2 => ?_, fun i G e => ?_, fun t T e => ?_, fun i j F e => ?_⟩, h.os, h.tape, h.output, h.size, h.frame, fun k hk => ?_, h.memx⟩
  · have := (List.getElem?_eq_some_iff.1 e).1
    exact ⟨Gh.cut_bx (by omega) (h.le.bx i k e e2).1, Gh.cut_gx (by omega) (h.le.bx i k e e2).2⟩
  · have hi := hgx i G e
    obtain ⟨G', e1, e2⟩ := h.le.gx i G e
    refine ⟨G', Gh.cut_gx hi e1, ?_⟩
    rcases e2 with ⟨e2, e3⟩ | e2
    · exact .inl ⟨e2, Gh.cut_bx hi e3⟩
    · exact .inr e2
  · obtain ⟨T', e1, e2⟩ := h.le.tg t T e
    have := (List.getElem?_eq_some_iff.1 e).1
    exact ⟨T', by show (g'.tg.take nt)[t]? = _; rw [List.getElem?_take, if_pos (by omega)]; exact e1, e2⟩
  · obtain ⟨F', e1, e2⟩ := h.le.fx i j F e
    exact ⟨F', Gh.cut_fx (hbl.ltf e) e1, e2⟩
  · refine h.own k ?_
    have tk : ∀ {α : Type} (l : List α) (n i : Nat) (x : α), (l.take n)[i]? = some x → l[i]? = some x := by
      intro α l n i x e
      rw [List.getElem?_take] at e
      split at e
      · exact e
      · cases e
    rcases hk with ⟨i, e⟩ | ⟨t, T, e1, e2⟩ | ⟨i, j, F, e1, e2⟩
    · exact .inl ⟨i, tk _ _ _ _ e⟩
    · exact .inr (.inl ⟨t, T, tk _ _ _ _ e1, e2⟩)
    · refine .inr (.inr ⟨i, j, F, ?_, e2⟩)
      change (if i < nb then g'.fx i j else none) = some F at e1
      split at e1
      · exact e1
      · cases e1

/-- A function: called with values that are 'as', own variables being S, it hands back 'r', and they are S'. -/
def PC (P : Program) (f : FuncId) (as : List PV) (S S' : Sx) (r : PV) : Prop :=
  ∀ g w (vs : List Value), Inv g S w → as.length = vs.length → (∀ (i : Nat) (p : PV) (v : Value), as[i]? = some p → vs[i]? = some v → V g p v) →
    Calls P f vs.toArray w (fun e w' => ∃ v g', e = .returned v ∧ V g' r v ∧ Inv g' S' w' ∧ Ext g w g' w')
/-- A function of data. -/
def PF (P : Program) (f : FuncId) (as : List D) (r : PV) : Prop := PC P f (as.map .d) ⟨[], []⟩ ⟨[], []⟩ r

/-- Nothing of one's own. -/
def Gh.pur (M : Mem) : Gh := ⟨M, [], [], fun _ => none, fun _ _ => none⟩
theorem Fam.none {M : Mem} {w : World} : Fam (Gh.pur M) ⟨[], []⟩ w := ⟨fun i cs e => by simp at e, fun i j cs m e => by simp at e, fun i j F e => by simp [Gh.pur] at e, fun i j F b e => by simp [Gh.pur] at e, fun i j i' j' F F' b e => by simp [Gh.pur] at e⟩
theorem Inv.pure {g : Gh} {S : Sx} {w : World} (h : Inv g S w) : Inv (Gh.pur g.mem) ⟨[], []⟩ w :=
  ⟨rfl, rfl, h.mem, h.one, by simp, by simp, by simp [Gh.pur], by simp [Gh.pur], by simp [Gh.pur], by simp [Gh.pur], by simp, by simp [Gh.pur], by simp [Gh.pur], .none⟩
theorem Inv.behind {g : Gh} {S : Sx} {w w' : World} {M' : Mem} (h : Inv g S w) (hI : Inv (Gh.pur M') ⟨[], []⟩ w') (hE : Ext (Gh.pur g.mem) w (Gh.pur M') w') :
    Inv { g with mem := M' } S w' ∧ Ext g w { g with mem := M' } w' := by
  have hfr : ∀ k, k < w.heap.size → w'.heap[k]? = w.heap[k]? := fun k hk => hE.frame k hk (by rintro (⟨i, e⟩ | ⟨t, T, e, _⟩ | ⟨i, j, F, e, _⟩) <;> simp [Gh.pur] at e)
  have hle : Le g { g with mem := M' } := ⟨hE.le.mem, fun _ _ e e2 => ⟨e, e2⟩, fun _ G e => ⟨G, e, .inl ⟨rfl, rfl⟩⟩, fun _ T e => ⟨T, e, .inl rfl⟩, fun _ _ F e => ⟨F, e, .inl rfl⟩⟩
  have hm : ∀ b o x, M' b o = some x → g.mem b o = some x ∨ w.heap.size ≤ b := fun b o x e => by
    rcases hE.memx b o x e with e | (⟨i, e⟩ | ⟨t, T, e, _⟩ | ⟨i, j, F, e, _⟩) | e
    · exact .inl e
    · simp [Gh.pur] at e
    · simp [Gh.pur] at e
    · simp [Gh.pur] at e
    · exact .inr e
  have hnone : ∀ b o, b < w.heap.size → g.mem b o = none → M' b o = none := fun b o hb e => by
    cases hx : M' b o with
    | none => rfl
    | some x => rcases hm b o x hx with h1 | h1
                · rw [e] at h1; cases h1
                · omega
  refine ⟨⟨h.hbx, h.htg, hI.mem, hI.one, ?_, h.nob, ?_, ?_, h.inj, ?_, ?_, ?_, h.tinj, ?_⟩, hle, hE.os, hE.tape, hE.output, hE.size, fun k hk _ => hfr k hk, fun k hk => .inl hk, fun b o x e => ?_⟩
  · intro i cs e hne hf
    obtain ⟨blk, cur, ty, k1, k2, k3, k4⟩ := h.box i cs e hne hf
    exact ⟨blk, cur, ty, k1, by rw [hfr blk (h.blt i blk k1)]; exact k2, k3, fun j c x e1 e2 => ⟨(k4 j c x e1 e2).1.mono hle, (k4 j c x e1 e2).2⟩⟩
  · intro i b e o; exact hnone b o (h.blt i b e) (h.bmem i b e o)
  · intro i b e; exact Nat.lt_of_lt_of_le (h.blt i b e) hE.size
  · intro i G e
    obtain ⟨cs, k1, k2, k3, k4, k5, k6⟩ := h.gr i G e
    refine ⟨cs, k1, k2, k3, k4, k5, fun hc => ?_⟩
    obtain ⟨blk, cur, ty, j1, j2, j3⟩ := k6 hc
    exact ⟨blk, cur, ty, j1, by rw [hfr blk (h.blt i blk j1)]; exact j2, j3⟩
  · intro t m e
    obtain ⟨T, k1, k2, k3, k4, k5⟩ := h.tag t m e
    refine ⟨T, k1, k2, k3, k4, fun hlt => ?_⟩
    obtain ⟨blk, cur, ty, j1, j2, j3, j4⟩ := k5 hlt
    have hb := (h.tbx t T blk k1 j1 hlt).1
    exact ⟨blk, cur, ty, j1, by rw [hfr blk hb]; exact j2, j3, fun o ho => hnone blk o hb (j4 o ho)⟩
  · intro t T b e1 e2 e3
    obtain ⟨k1, k2⟩ := h.tbx t T b e1 e2 e3
    exact ⟨Nat.lt_of_lt_of_le k1 hE.size, k2⟩
  · refine h.fam.keep hle rfl (fun _ _ _ => Iff.rfl) h.fam.bx hE.size (fun i j F b e1 e2 => ?_)
    obtain ⟨q1, q2, q3⟩ := h.fam.out i j F b e1 e2
    exact ⟨hfr b q1, fun o => hnone b o q1 (q2 o), q3⟩
  · rcases hm b o x e with h1 | h1
    · exact .inl h1
    · exact .inr (.inr h1)

/-- A function of data, called whatever the own variables are. -/
theorem PF.at {P : Program} {f : FuncId} {as : List D} {r : PV} (h : PF P f as r) (S : Sx) : PC P f (as.map .d) S S r := by
  intro g w vs hI hl hv
  refine (h (Gh.pur g.mem) w vs hI.pure hl (fun i p v h1 h2 => ?_)).mono ?_
  · have := hv i p v h1 h2
    simp only [List.getElem?_map, Option.map_eq_some_iff] at h1
    obtain ⟨d, _, rfl⟩ := h1
    cases this with | d _ _ hd => exact .d _ _ hd
  · rintro e w' ⟨v, g', he, h1, h2, h3⟩
    have hb : g'.bx = [] := List.eq_nil_of_length_eq_zero h2.hbx
    have ht : g'.tg = [] := List.eq_nil_of_length_eq_zero h2.htg
    have hgx : g'.gx = fun _ => none := funext fun i => h2.gx_new (Nat.zero_le _)
    have hfx : g'.fx = fun _ _ => none := funext fun i => funext fun j => h2.gn.nf i j (Nat.zero_le _)
    obtain ⟨M', bx, tg, gx, fx⟩ := g'
    simp only at hb ht hgx hfx
    subst hb ht hgx hfx
    obtain ⟨k1, k2⟩ := hI.behind h2 h3
    have hle : Le (Gh.pur M') { g with mem := M' } := ⟨fun _ _ _ e => e, fun i k e => by simp [Gh.pur] at e, fun i G e => by simp [Gh.pur] at e, fun t T e => by simp [Gh.pur] at e, fun i j F e => by simp [Gh.pur] at e⟩
    exact ⟨v, { g with mem := M' }, he, h1.mono hle, k1, k2⟩

section
variable {P : Program} {o : Oper} {ρ : Operand → PV} {S S' : Sx}

/-- What is asked of a function that is called. -/
structure FnOk (P : Program) (f : FuncId) : Prop where
  out : ∃ fn, P.funcs[f]? = some fn ∧ (fn.name == "runtime.NumGoroutine") = false ∧ fn.body.isSome = true
theorem FnOk.run {f : FuncId} (h : FnOk P f) (args : Array Value) (w : World) : (callFunc f args).run P w = .ok (.enter f args) w := by
  obtain ⟨fn, h1, h2, h3⟩ := h.out
  have h4 : fn.body.isNone = false := by cases hb : fn.body <;> simp_all
  simp only [callFunc, Sem.run_bind, run_program, Result.andThen_ok, h1, h2, h4, Bool.false_eq_true, if_false, Sem.run_pure]

theorem opS_call {f : FuncId} {xs : Array Operand} {ts : Array TypeId} {as : List PV} {r : PV} (ho : o.op = .call { callee := .value (.func f), args := xs, argTypes := ts }) (hf : FnOk P f) (hl : xs.size = as.length)
    (ha : ∀ (i : Nat) (x : Operand) (p : PV), xs[i]? = some x → as[i]? = some p → PVle (ρ x) p) (h : PC P f as S S' r) : OpS P o ρ S S' r := by
  intro g w a next Q hI hv K
  unfold Oper.wp
  have e : (execOp a.eval o).run P w = .ok (.enter f (xs.toList.map a.eval).toArray) w := by
    have h2 := hf.run ((xs.toList.map a.eval).toArray) w
    simp only [execOp, ho, resolve, Act.eval, Deferred.ofValue, pure_bind, invoke]
    rw [show #[] ++ Array.map a.eval xs ++ #[] = (xs.toList.map a.eval).toArray by apply Array.ext'; simp]
    exact h2
  rw [e]
  simp only [Oper.upon]
  refine (h g w (xs.toList.map a.eval) hI (by simp [hl]) (fun i p v h1 h2 => ?_)).mono ?_
  · simp only [List.getElem?_map, Option.map_eq_some_iff, Array.getElem?_toList] at h2
    obtain ⟨x, hx, rfl⟩ := h2
    exact ha i x p hx h1 g _ (hv x (by simp only [ho, Op.operands, Call.operands]; exact Array.mem_append.2 (.inr (Array.mem_of_getElem? hx))))
  · rintro e w' ⟨v, g', rfl, h1, h2, h3⟩
    exact K v g' w' h1 h2 h3

/-- A function value called. -/
theorem opS_callv {x : Operand} {f : FuncId} {fi ca : List PV} {xs : Array Operand} {ts : Array TypeId} {as : List PV} {r : PV} (ho : o.op = .call { callee := .value x, args := xs, argTypes := ts }) (hf : FnOk P f) (hx : ρ x = .fn f fi ca)
    (hl : fi.length + xs.size + ca.length = as.length)
    (ha : ∀ (i : Nat) (p q : PV), (fi ++ xs.toList.map ρ ++ ca)[i]? = some q → as[i]? = some p → PVle q p) (h : PC P f as S S' r) : OpS P o ρ S S' r := by
  intro g w a next Q hI hv K
  unfold Oper.wp
  have e1 := hv x (by simp [ho, Op.operands, Call.operands])
  rw [hx] at e1
  generalize hu : a.eval x = u at e1
  cases e1 with
  | fn _ _ _ fv cv hf1 hc1 h1 h2 =>
  have e : (execOp a.eval o).run P w = .ok (.enter f (fv.toList ++ xs.toList.map a.eval ++ cv.toList).toArray) w := by
    have h2 := hf.run ((fv.toList ++ xs.toList.map a.eval ++ cv.toList).toArray) w
    simp only [execOp, ho, resolve, hu, Deferred.ofValue, pure_bind, invoke]
    rw [show fv ++ Array.map a.eval xs ++ cv = (fv.toList ++ xs.toList.map a.eval ++ cv.toList).toArray by apply Array.ext'; simp]
    exact h2
  rw [e]
  simp only [Oper.upon]
  refine (h g w (fv.toList ++ xs.toList.map a.eval ++ cv.toList) hI (by simp; omega) (fun i p v k1 k2 => ?_)).mono ?_
  · have hq : ∃ q, (fi ++ xs.toList.map ρ ++ ca)[i]? = some q ∧ V g q v := by
      by_cases c1 : i < fi.length
      · rw [List.append_assoc, List.getElem?_append_left (by simp; omega)] at k2
        refine ⟨fi[i], by rw [List.append_assoc, List.getElem?_append_left c1]; exact List.getElem?_eq_getElem c1, h1 i _ v (List.getElem?_eq_getElem c1) (by simpa using k2)⟩
      · by_cases c2 : i < fi.length + xs.size
        · rw [List.append_assoc, List.getElem?_append_right (by simp; omega), List.getElem?_append_left (by simp; omega)] at k2
          simp only [Array.length_toList, ← hf1, List.getElem?_map, Option.map_eq_some_iff] at k2
          obtain ⟨y, hy, rfl⟩ := k2
          refine ⟨ρ y, ?_, hv y (by simp only [ho, Op.operands, Call.operands]; exact Array.mem_append.2 (.inr (Array.mem_of_getElem? (by simpa using hy))))⟩
          rw [List.append_assoc, List.getElem?_append_right (by omega), List.getElem?_append_left (by simp; omega)]
          simp [hy]
        · rw [List.getElem?_append_right (by simp; omega)] at k2
          simp only [List.length_append, Array.length_toList, List.length_map, ← hf1] at k2
          have c3 : i - (fi.length + xs.size) < ca.length := by have := (List.getElem?_eq_some_iff.1 k2).1; simp at this; omega
          refine ⟨ca[i - (fi.length + xs.size)], ?_, h2 _ _ v (List.getElem?_eq_getElem c3) (by simpa using k2)⟩
          rw [List.getElem?_append_right (by simp; omega)]
          simp only [List.length_append, List.length_map, Array.length_toList]
          exact List.getElem?_eq_getElem c3
    obtain ⟨q, hq1, hq2⟩ := hq
    exact ha i p q hq1 k1 g v hq2
  · rintro e w' ⟨v, g', rfl, h1, h2, h3⟩
    exact K v g' w' h1 h2 h3
end
end Go.Pv
