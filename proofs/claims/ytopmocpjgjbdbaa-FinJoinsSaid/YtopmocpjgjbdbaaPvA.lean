/- Operations that make rows: literals, pieces, appends; in the logic of pure values. -/
import Derived.Test.YtopmocpjgjbdbaaPvM
import Derived.Great.BuildSlice
import Derived.Great.FillDense
namespace Go.Pv
open Go.RowKit

/-- Data cells. -/
def VsD (M : Mem) (ds : List D) (vs : List Value) : Prop := ds.length = vs.length ∧ ∀ (j : Nat) (c : D) (x : Value), ds[j]? = some c → vs[j]? = some x → VD M c x ∧ x.oneCell' = true
theorem VsD.one {M : Mem} {ds : List D} {vs : List Value} (hv : VsD M ds vs) : ∀ v ∈ vs, v.oneCell' = true := by
  intro v hm
  obtain ⟨j, hj, rfl⟩ := List.getElem_of_mem hm
  have hj' : j < ds.length := by rw [hv.1]; exact hj
  exact (hv.2 j ds[j] vs[j] (List.getElem?_eq_getElem hj') (List.getElem?_eq_getElem hj)).2
theorem VsD.mono {M M' : Mem} (h : ∀ b o x, M b o = some x → M' b o = some x) {ds : List D} {vs : List Value} (hv : VsD M ds vs) : VsD M' ds vs :=
  ⟨hv.1, fun j c x h1 h2 => ⟨(hv.2 j c x h1 h2).1.mono h, (hv.2 j c x h1 h2).2⟩⟩
theorem VsD.append {M : Mem} {ds es : List D} {vs us : List Value} (h : VsD M ds vs) (k : VsD M es us) : VsD M (ds ++ es) (vs ++ us) := by
  refine ⟨by simp [h.1, k.1], fun j c x h1 h2 => ?_⟩
  by_cases hj : j < ds.length
  · rw [List.getElem?_append_left hj] at h1
    rw [List.getElem?_append_left (by rw [← h.1]; exact hj)] at h2
    exact h.2 j c x h1 h2
  · rw [List.getElem?_append_right (by omega)] at h1
    rw [List.getElem?_append_right (by rw [← h.1]; omega), ← h.1] at h2
    exact k.2 _ c x h1 h2

def PV.toD1 : PV → Option D
  | .d x => some x
  | .app _ sz es => some (.sl sz false es)
  | _ => none
def toDs : List PV → Option (List D)
  | [] => some []
  | p :: ps => match p.toD1, toDs ps with
    | some d, some ds => some (d :: ds)
    | _, _ => none
theorem V.toD1 {g : Gh} {p : PV} {v : Value} {d : D} (h : V g p v) (hd : p.toD1 = some d) : VD g.mem d v := by
  cases h <;> (try (cases hd))
  · assumption
  · assumption
theorem toDs_get : ∀ {ps : List PV} {ds : List D}, toDs ps = some ds → ps.length = ds.length ∧ ∀ (j : Nat) (d : D), ds[j]? = some d → ∃ p, ps[j]? = some p ∧ p.toD1 = some d
  | [], ds, h => by cases h; exact ⟨rfl, fun j d h => by simp at h⟩
  | p :: ps, ds, h => by
    unfold toDs at h
    split at h
    · rename_i d ds' h1 h2
      cases h
      obtain ⟨e1, e2⟩ := toDs_get h2
      refine ⟨by simp [e1], fun j d' hj => ?_⟩
      cases j with
      | zero => simp at hj; subst hj; exact ⟨p, rfl, h1⟩
      | succ j => exact e2 j d' (by simpa using hj)
    · cases h
theorem Vs.toDs {g : Gh} {ps : List PV} {vs : List Value} {ds : List D} (h : Vs g ps vs) (hd : toDs ps = some ds) : VsD g.mem ds vs := by
  obtain ⟨e1, e2⟩ := toDs_get hd
  refine ⟨by rw [← e1, h.1], fun j c x h1 h2 => ?_⟩
  obtain ⟨p, hp, hp2⟩ := e2 j c h1
  have := h.2 j p x hp h2
  exact ⟨this.1.toD1 hp2, this.2⟩

/-- The cells of a value that is data. -/
def PV.cellsD (p : PV) : Option (List D) := p.cells.bind toDs
theorem V.cellsD {g : Gh} {p : PV} {v : Value} {ds : List D} (h : V g p v) (hp : p.cellsD = some ds) : VsD g.mem ds v.cells.toList := by
  unfold PV.cellsD at hp
  cases hc : p.cells with
  | none => simp [hc] at hp
  | some ps => simp [hc] at hp; exact (h.cells hc).toDs hp

/-- New memory that stays. -/
theorem Inv.newrow {g : Gh} {S : Sx} {w : World} (h : Inv g S w) (vs : Array Value) (ty : TypeId) (n : Nat) (h1 : ∀ v ∈ vs.toList, v.oneCell' = true) :
    Inv (g.lay w.heap.size (fun o => if o < n then vs[o]? else none)) S (w.alloc (.cells vs ty)) ∧ Ext g w (g.lay w.heap.size (fun o => if o < n then vs[o]? else none)) (w.alloc (.cells vs ty)) := by
  have hno : ∀ o, g.mem w.heap.size o = none := fun o => by
    cases hm : g.mem w.heap.size o with
    | none => rfl
    | some x => exact absurd (h.mem_lt hm) (by omega)
  have hle := g.le_lay w.heap.size (fun o => if o < n then vs[o]? else none) hno
  have h' := h.alloc (.cells vs ty)
  have hmem : ∀ b o, b ≠ w.heap.size → (g.lay w.heap.size (fun o => if o < n then vs[o]? else none)).mem b o = g.mem b o := fun b o hb => by simp [Gh.lay, hb]
  refine ⟨⟨h.hbx, h.htg, ?_, ?_, ?_, h.nob, ?_, h'.blt, h.inj, h'.gr, ?_, h'.tbx, h.tinj, ?_⟩, ?_⟩
  · intro b o x e
    by_cases hb : b = w.heap.size
    · subst hb
      simp only [Gh.lay, if_true] at e
      split at e
      · rw [cell_of_row (w.alloc (.cells vs ty)) w.heap.size o vs ty (0, 0) (heap_alloc_new w _)]; exact e
      · cases e
    · rw [hmem b o hb] at e; exact h'.mem b o x e
  · intro b o x e
    by_cases hb : b = w.heap.size
    · subst hb
      simp only [Gh.lay, if_true] at e
      split at e
      · exact h1 x (by rw [Array.mem_toList_iff]; exact Array.mem_of_getElem? e)
      · cases e
    · rw [hmem b o hb] at e; exact h.one b o x e
  · intro i cs e hne hf
    obtain ⟨blk, cur, ty', k1, k2, k3, k4⟩ := h'.box i cs e hne hf
    exact ⟨blk, cur, ty', k1, k2, k3, fun j c x e1 e2 => ⟨(k4 j c x e1 e2).1.mono hle, (k4 j c x e1 e2).2⟩⟩
  · intro i blk e o
    have : blk ≠ w.heap.size := by have := h.blt i blk e; omega
    rw [hmem blk o this]; exact h.bmem i blk e o
  · intro t m e
    obtain ⟨T, k1, k2, k3, k4, k5⟩ := h'.tag t m e
    refine ⟨T, k1, k2, k3, k4, fun hlt => ?_⟩
    obtain ⟨blk, cur, ty', j1, j2, j3, j4⟩ := k5 hlt
    refine ⟨blk, cur, ty', j1, j2, j3, fun o ho => ?_⟩
    have : blk ≠ w.heap.size := by have := (h.tbx t T blk k1 j1 hlt).1; omega
    rw [hmem blk o this]; exact j4 o ho
  · refine h'.fam.keep hle rfl (fun _ _ _ => Iff.rfl) h'.fam.bx (Nat.le_refl _) (fun i j F b e1 e2 => ⟨rfl, fun o => ?_, (h'.fam.out i j F b e1 e2).2.2⟩)
    have := (h.fam.out i j F b e1 e2).1
    rw [hmem b o (by omega)]; exact (h.fam.out i j F b e1 e2).2.1 o
  · refine ⟨hle, rfl, rfl, rfl, by simp, fun k hk _ => Below.heap_alloc w _ k hk, fun k hk => .inl hk, fun b o x e => ?_⟩
    by_cases hb : b = w.heap.size
    · subst hb; exact .inr (.inr (Nat.le_refl _))
    · rw [hmem b o hb] at e; exact .inl e

/-- A row of data: as many elements as 'es', of 'sz' cells. -/
theorem VD.row {M : Mem} {sz : Nat} {full : Bool} {es : List (List D)} {vs : List Value} (b off cap : Nat) (hz : ∀ e, e ∈ es → e.length = sz) (hc : es.length ≤ cap) (hf : full = true → cap = es.length) (hx : cap ≤ maxLen)
    (h : VsD M es.flatten vs) (hm : ∀ (j : Nat) (x : Value), vs[j]? = some x → M b (off + j) = some x) : VD M (.sl sz full es) (.slice (some ⟨b, off, none⟩) es.length cap) :=
  .sl sz full es (some (b, off)) cap vs hz hc hf (fun h => by cases h) hx h.1 (fun p j x hp hj => by cases hp; exact hm j x hj) (fun j c x h1 h2 => (h.2 j c x h1 h2).1)

section
variable {P : Program} {o : Oper} {ρ : Operand → PV} {S : Sx}

/-- The elements of a literal. -/
def elsOf (ρ : Operand → PV) : List (Nat × Operand) → Nat → Option (List (List D))
  | [], _ => some []
  | (i, x) :: r, k => if i = k then match (ρ x).cellsD, elsOf ρ r (k + 1) with
      | some e, some es => some (e :: es)
      | _, _ => none
    else none

theorem elsOf_ok {g : Gh} {a : Act} {sz : Nat} : ∀ (l : List (Nat × Operand)) (k : Nat) (es : List (List D)), (∀ x ∈ l, V g (ρ x.2) (a.eval x.2)) → elsOf ρ l k = some es → (∀ e ∈ es, e.length = sz) →
    l.length = es.length ∧ (l.map fun (i, x) => (i, a.eval x)) = ((l.map fun x => a.eval x.2).zipIdx k).map (fun x => (x.2, x.1)) ∧
      (∀ v ∈ l.map fun x => a.eval x.2, v.cells.size = sz) ∧ VsD g.mem es.flatten ((l.map fun x => a.eval x.2).flatMap fun v => v.cells.toList)
  | [], k, es, _, h, _ => by cases h; exact ⟨rfl, rfl, by simp, ⟨rfl, fun j c x h => by simp at h⟩⟩
  | (i, x) :: r, k, es, hv, h, hz => by
    unfold elsOf at h
    split at h
    · rename_i hik
      split at h
      · rename_i e es' h1 h2
        cases h
        have hx := (hv (i, x) (List.mem_cons_self ..)).cellsD h1
        obtain ⟨e1, e2, e3, e4⟩ := elsOf_ok r (k + 1) es' (fun y hy => hv y (List.mem_cons_of_mem _ hy)) h2 (fun e he => hz e (List.mem_cons_of_mem _ he))
        have hsz : (a.eval x).cells.size = sz := by have := hx.1; rw [hz e (List.mem_cons_self ..)] at this; simpa using this.symm
        refine ⟨by simp [e1], ?_, ?_, ?_⟩
        · simp only [List.map_cons, List.zipIdx_cons, hik, e2]
        · intro v hm
          simp only [List.map_cons, List.mem_cons] at hm
          rcases hm with rfl | hm
          · exact hsz
          · exact e3 v hm
        · simp only [List.map_cons, List.flatMap_cons, List.flatten_cons]
          exact hx.append e4
      · cases h
    · cases h

theorem flatten_replicate_len {es : List (List D)} {sz : Nat} (hz : ∀ e ∈ es, e.length = sz) : es.flatten.length = es.length * sz := flat_len hz

theorem opS_buildSlice {T E : TypeId} {n sz : Nat} {parts : Array (Nat × Operand)} {ie : TypeInfo} {z : Value} {es : List (List D)} (ho : o.op = .buildSlice T n parts) (hT : P.underlying T = some (.slice E)) (hE : P.info? E = some ie) (hz : ie.zero = some z)
    (hs : ie.size = sz) (h0 : 0 < sz) (hn : n * sz ≤ 16777216) (hes : elsOf ρ parts.toList 0 = some es) (hl : es.length = n) (hel : ∀ e ∈ es, e.length = sz) : OpS P o ρ S S (.d (.sl sz true es)) := by
  intro g w a next Q hI hv K
  subst hs
  obtain ⟨e1, e2, e3, e4⟩ := elsOf_ok (sz := ie.size) (a := a) (g := g) parts.toList 0 es (fun x hx => hv x.2 (by
    simp only [ho, Op.operands]
    rw [List.mem_toArray]
    exact List.mem_map.2 ⟨x, hx, rfl⟩)) hes hel
  have hsz0 : ((Array.range (n * ie.size)).map (z.cells[· % z.cells.size]!)).size = n * ie.size := by simp
  have hfill := Go.Great.fill_whole h0 (parts.toList.map fun x => a.eval x.2) ((Array.range (n * ie.size)).map (z.cells[· % z.cells.size]!)) e3 (by simp only [List.length_map]; rw [hsz0, e1, hl])
  have hparts : (parts.map fun (i, x) => (i, a.eval x)).toList = ((parts.toList.map fun x => a.eval x.2).zipIdx 0).map (fun x => (x.2, x.1)) := by rw [← e2]; simp
  generalize hvs : (parts.toList.map fun x => a.eval x.2).flatMap (fun v => v.cells.toList) = vs at *
  obtain ⟨h1, h2⟩ := hI.newrow vs.toArray E vs.length (by simpa using e4.one)
  have hle := h2.le
  have hval : VD (g.lay w.heap.size (fun o => if o < vs.length then vs.toArray[o]? else none)).mem (.sl ie.size true es) (.slice (some ⟨w.heap.size, 0, none⟩) es.length es.length) :=
    VD.row w.heap.size 0 es.length hel (Nat.le_refl _) (fun _ => rfl) (by
      have : es.length ≤ es.length * ie.size := Nat.le_mul_of_pos_right _ h0
      rw [hl] at this ⊢
      simp only [maxLen]; omega) (e4.mono hle.mem) (fun j x hj => by
        have := (List.getElem?_eq_some_iff.1 hj).1
        simp only [Gh.lay, if_true, Nat.zero_add, if_pos this, List.getElem?_toArray]
        exact hj)
  unfold Oper.wp
  by_cases hn0 : n = 0
  · subst hn0
    have hpe : parts.toList = [] := by cases h : parts.toList with | nil => rfl | cons x r => rw [h] at e1; simp [hl] at e1
    have hvs0 : vs = [] := by rw [← hvs, hpe]; rfl
    have hp2 : (parts.map fun (i, x) => (i, a.eval x)) = #[] := by
      apply Array.ext'
      simp [hpe]
    have hp3 : parts = #[] := by apply Array.ext'; simp [hpe]
    have hrun : (execOp a.eval o).run P w = .ok (.value (.slice (some ⟨w.heap.size, 0, none⟩) 0 0)) (w.alloc (.cells #[] E)) := by
      simp [execOp, ho, hp3, Instr.buildSlice, run_underlying hT, sizeOf, typeInfo, hE, Instr.fill, newRow, Array.range_zero']
    rw [hrun]
    have := K (.slice (some ⟨w.heap.size, 0, none⟩) 0 0) _ _ (.d _ _ (by rw [hl] at hval; exact hval)) h1 h2
    rw [hvs0] at this
    exact this
  · have hpos : ¬ n * ie.size = 0 := by
      intro h; rcases Nat.mul_eq_zero.1 h with h | h <;> omega
    have hrun : (execOp a.eval o).run P w = .ok (.value (.slice (some ⟨w.heap.size, 0, none⟩) n n)) (w.alloc (.cells vs.toArray E)) := by
      have := run_buildSlice (P := P) w T E n (parts.map fun (i, x) => (i, a.eval x)) vs.toArray ie z hT hE hz (by omega) hpos (by rw [hparts]; exact hfill)
      simp only [execOp, ho, Sem.run_bind, this, Result.andThen_ok, Sem.run_pure]
    rw [hrun]
    exact K _ _ _ (.d _ _ (by rw [hl] at hval; exact hval)) h1 h2
/-- A struct's parts put in. -/
def fillP (ρ : Operand → PV) (place : Nat → Option (Nat × Nat)) : List PV → List (Nat × Operand) → Option (List PV)
  | cs, [] => some cs
  | cs, (i, x) :: r => match place i, (ρ x).cells with
    | some (off, size), some ps => if ps.length = size ∧ off + size ≤ cs.length then fillP ρ place (splice cs off ps) r else none
    | _, _ => none

theorem fold_take (off : Nat) (l : List Value) (cs : Array Value) (h : off + l.length ≤ cs.size) :
    ((l.zipIdx 0).foldl (fun cs (x : Value × Nat) => cs.setIfInBounds (off + x.2) x.1) cs).toList = cs.toList.take off ++ l ++ cs.toList.drop (off + l.length) := by
  obtain ⟨h1, h2⟩ := Go.Great.foldl_set off l 0 cs
  generalize (l.zipIdx 0).foldl (fun cs (x : Value × Nat) => cs.setIfInBounds (off + x.2) x.1) cs = r at *
  apply List.ext_getElem?
  intro k
  have h3 := h2 k
  simp only [Nat.add_zero] at h3
  rw [Array.getElem?_toList, h3]
  by_cases hk : k < off
  · rw [if_neg (by omega), List.append_assoc, List.getElem?_append_left (by simp; omega), List.getElem?_take, if_pos hk, Array.getElem?_toList]
  · by_cases hk2 : k < off + l.length
    · rw [if_pos ⟨by omega, hk2, by omega⟩, List.append_assoc, List.getElem?_append_right (by simp; omega), List.getElem?_append_left (by simp; omega)]
      simp [Nat.min_eq_left (show off ≤ cs.size by omega)]
    · rw [if_neg (by omega), List.getElem?_append_right (by simp; omega), List.getElem?_drop]
      simp only [List.length_append, List.length_take, Array.length_toList, Nat.min_eq_left (show off ≤ cs.size by omega)]
      rw [Array.getElem?_toList]
      congr 1; omega

theorem fillP_ok {g : Gh} {a : Act} {place : Nat → Option (Nat × Nat)} : ∀ (l : List (Nat × Operand)) (cs cs' : List PV) (cells : Array Value), (∀ x ∈ l, V g (ρ x.2) (a.eval x.2)) → Vs g cs cells.toList → fillP ρ place cs l = some cs' →
    ∃ cells', Instr.fill place cells (l.map fun (i, x) => (i, a.eval x)) = some cells' ∧ Vs g cs' cells'.toList
  | [], cs, cs', cells, _, hc, h => by cases h; exact ⟨cells, rfl, hc⟩
  | (i, x) :: r, cs, cs', cells, hv, hc, h => by
    unfold fillP at h
    split at h
    · rename_i off size ps h1 h2
      split at h
      · rename_i h3
        have hx := (hv (i, x) (List.mem_cons_self ..)).cells h2
        have hsz : (a.eval x).cells.size = size := by have := hx.1; rw [h3.1] at this; simpa using this.symm
        have hle : off + (a.eval x).cells.size ≤ cells.size := by have := hc.1; simp at this; omega
        have hsp := hc.splice hx off (by omega)
        have hf := fold_take off (a.eval x).cells.toList cells (by simpa using hle)
        have harr : (a.eval x).cells.zipIdx.foldl (fun cs (y : Value × Nat) => cs.setIfInBounds (off + y.2) y.1) cells = (cells.toList.take off ++ (a.eval x).cells.toList ++ cells.toList.drop (off + (a.eval x).cells.toList.length)).toArray := by
          apply Array.ext'
          rw [← Array.foldl_toList, Array.toList_zipIdx, hf]
        obtain ⟨cells', h4, h5⟩ := fillP_ok r (splice cs off ps) cs' (cells.toList.take off ++ (a.eval x).cells.toList ++ cells.toList.drop (off + (a.eval x).cells.toList.length)).toArray (fun y hy => hv y (List.mem_cons_of_mem _ hy)) (by simpa using hsp) h
        refine ⟨cells', ?_, h5⟩
        simp only [List.map_cons, Instr.fill, h1, hsz, ne_eq, not_true_eq_false, decide_false, Bool.false_or, decide_eq_true_eq]
        rw [if_neg (by omega)]
        rw [← h4]
        congr 1
      · cases h
    · cases h

theorem opS_build {T : TypeId} {fs : Array Field} {it : TypeInfo} {z : Value} {zs cs : List PV} {pl : Array (Nat × Nat)} {parts : Array (Nat × Operand)} (ho : o.op = .build T parts) (hT : P.underlying T = some (.struct fs))
    (hi : P.info? T = some it) (hz : it.zero = some z) (hzs : Zs zs z.cells.toList) (hpl : ∀ w : World, (fs.mapM fun f => (do pure (f.offset, ← sizeOf f.type) : Sem (Nat × Nat))).run P w = .ok pl w)
    (hf : fillP ρ (pl[·]?) zs parts.toList = some cs) : OpS P o ρ S S (.agg cs) :=
  .value fun g w a _ hv => by
    obtain ⟨cells', h1, h2⟩ := fillP_ok (g := g) (a := a) parts.toList zs cs z.cells (fun x hx => hv x.2 (by
      simp only [ho, Op.operands]
      rw [List.mem_toArray]
      exact List.mem_map.2 ⟨x, hx, rfl⟩)) (hzs g) hf
    have hparts : (parts.map fun (i, x) => (i, a.eval x)).toList = parts.toList.map fun (i, x) => (i, a.eval x) := by simp
    refine ⟨.agg cells', ?_, .agg _ _ (by have := h2.1; simpa using this) h2.one (fun i c x e1 e2 => (h2.2 i c x e1 (by simpa using e2)).1)⟩
    simp only [execOp, ho, Instr.build, Sem.run_bind, zeroValue, typeInfo, run_program, Result.andThen_ok, hi, hz, Sem.run_pure, run_underlying hT, hpl, hparts, h1]

/-- A piece of a slice. -/
def bnd (ρ : Operand → PV) : Option Operand → Int → Option Int
  | none, d => some d
  | some x, _ => match ρ x with
    | .d (.v (.int _ n)) => some n
    | _ => none

theorem run_bound {x : Value} {k : IntKind} {n : Int} (hx : x = .int k n) {y : Nat} (c : BoundsCode) (h : 0 ≤ n ∧ n ≤ y) (w : World) : (Instr.sliceBound x y c).run P w = .ok n.toNat w := by
  subst hx
  simp [Instr.sliceBound, asIntOf, h]

theorem opS_slice {T E : TypeId} {x : Operand} {lo hi : Option Operand} {sz : Nat} {es : List (List D)} {l h : Int} (ho : o.op = .slice T x lo hi none) (hT : P.underlying T = some (.slice E)) (hE : SizeIs P E sz)
    (hx : (ρ x).els = some (sz, es)) (hlo : bnd ρ lo 0 = some l) (hhi : bnd ρ hi es.length = some h) (h1 : 0 ≤ l) (h2 : l ≤ h) (h3 : h ≤ es.length) :
    OpS P o ρ S S (.d (.sl sz false ((es.drop l.toNat).take (h.toNat - l.toNat)))) :=
  .value fun g w a hI hv => by
    have e1 := (hv x (by simp [ho, Op.operands])).els hx
    generalize hu : a.eval x = u at e1
    have int_of : ∀ (y : Operand) (d n : Int), bnd ρ (some y) d = some n → y ∈ o.op.operands → ∃ k, a.eval y = .int k n := by
      intro y d n hb hy
      have := hv y hy
      simp only [bnd] at hb
      split at hb
      · rename_i k m hr
        cases hb
        rw [hr] at this
        exact ⟨k, this.d_v.1⟩
      · cases hb
    cases e1 with
    | sl0 _ A =>
      obtain rfl : h = 0 := by simp at h3; omega
      obtain rfl : l = 0 := by omega
      have hbnds : (Instr.sliceBounds true 0 0 (lo.map a.eval) (hi.map a.eval) none).run P w = .ok (0, 0, 0) w := by
        have hh : ∀ w, (match hi.map a.eval with | some v => Instr.sliceBound v 0 .sliceAcap | none => pure 0 : Sem Nat).run P w = .ok 0 w := by
          intro w
          cases hi with
          | none => simp
          | some y =>
            obtain ⟨k, hk⟩ := int_of y _ 0 hhi (by simp [ho, Op.operands])
            simp only [Option.map_some]
            exact run_bound hk _ ⟨by omega, by omega⟩ w
        have hll : ∀ w, (match lo.map a.eval with | some v => Instr.sliceBound v 0 .sliceB | none => pure 0 : Sem Nat).run P w = .ok 0 w := by
          intro w
          cases lo with
          | none => simp
          | some y =>
            obtain ⟨k, hk⟩ := int_of y _ 0 hlo (by simp [ho, Op.operands])
            simp only [Option.map_some]
            exact run_bound hk _ ⟨by omega, by omega⟩ w
        simp only [Instr.sliceBounds, pure_bind, Option.isSome_none, Bool.false_eq_true, if_false]
        have hh' := hh w
        have hll' := hll w
        cases hi <;> cases lo <;> simp_all
      refine ⟨.slice A 0 0, ?_, .d _ _ (.sl0 sz A)⟩
      simp only [execOp, ho, hu, Option.map_none, Sem.run_bind, Instr.sliceAt, run_underlying hT, Result.andThen_ok, Instr.slice, List.length_nil, hbnds, hE.run w, Sem.run_pure]
      simp
    | sl _ _ _ a' cap vs hz hc hf hnn hmx hl hm hvv =>
      have hbnds : (Instr.sliceBounds true es.length cap (lo.map a.eval) (hi.map a.eval) none).run P w = .ok (l.toNat, h.toNat, cap) w := by
        have hh : ∀ w, (match hi.map a.eval with | some v => Instr.sliceBound v cap .sliceAcap | none => pure es.length : Sem Nat).run P w = .ok h.toNat w := by
          intro w
          cases hi with
          | none => simp only [bnd] at hhi; cases hhi; simp
          | some y =>
            obtain ⟨k, hk⟩ := int_of y _ h hhi (by simp [ho, Op.operands])
            simp only [Option.map_some]
            exact run_bound hk _ ⟨by omega, by omega⟩ w
        have hll : ∀ w, (match lo.map a.eval with | some v => Instr.sliceBound v h.toNat .sliceB | none => pure 0 : Sem Nat).run P w = .ok l.toNat w := by
          intro w
          cases lo with
          | none => simp only [bnd] at hlo; cases hlo; simp
          | some y =>
            obtain ⟨k, hk⟩ := int_of y _ l hlo (by simp [ho, Op.operands])
            simp only [Option.map_some]
            exact run_bound hk _ ⟨by omega, by omega⟩ w
        simp only [Instr.sliceBounds, pure_bind, Option.isSome_none, Bool.false_eq_true, if_false]
        have hh' := hh w
        have hll' := hll w
        cases hi <;> cases lo <;> simp_all
      have hrun : (execOp a.eval o).run P w = .ok (.value (.slice (if cap = l.toNat then a'.map adr else (a'.map adr).map (·.add (l.toNat * sz))) (h.toNat - l.toNat) (cap - l.toNat))) w := by
        simp only [execOp, ho, hu, Option.map_none, Sem.run_bind, Instr.sliceAt, run_underlying hT, Result.andThen_ok, Instr.slice, hbnds, hE.run w, Sem.run_pure]
      refine ⟨_, hrun, .d _ _ ?_⟩
      have hlen : ((es.drop l.toNat).take (h.toNat - l.toNat)).length = h.toNat - l.toNat := by simp; omega
      have hz' : ∀ e ∈ (es.drop l.toNat).take (h.toNat - l.toNat), e.length = sz := fun e he => hz e (List.mem_of_mem_drop (List.mem_of_mem_take he))
      have hsp : VsD g.mem ((es.drop l.toNat).take (h.toNat - l.toNat)).flatten ((vs.drop (l.toNat * sz)).take ((h.toNat - l.toNat) * sz)) := by
        have hflz := flat_len hz
        have hA : (es.take l.toNat).flatten.length = l.toNat * sz := by rw [flat_len (fun e he => hz e (List.mem_of_mem_take he))]; simp [Nat.min_eq_left (show l.toNat ≤ es.length by omega)]
        have hB : ((es.drop l.toNat).take (h.toNat - l.toNat)).flatten.length = (h.toNat - l.toNat) * sz := by rw [flat_len hz', hlen]
        have hes : es.flatten = (es.take l.toNat).flatten ++ (((es.drop l.toNat).take (h.toNat - l.toNat)).flatten ++ ((es.drop l.toNat).drop (h.toNat - l.toNat)).flatten) := by
          rw [← List.flatten_append, ← List.flatten_append, List.take_append_drop, List.take_append_drop]
        have hle : l.toNat * sz + (h.toNat - l.toNat) * sz ≤ vs.length := by rw [← hl, hflz, ← Nat.add_mul]; exact Nat.mul_le_mul_right _ (by omega)
        refine ⟨by rw [hB]; simp; omega, fun j c x k1 k2 => ?_⟩
        have hj : j < (h.toNat - l.toNat) * sz := by rw [← hB]; exact (List.getElem?_eq_some_iff.1 k1).1
        rw [List.getElem?_take, if_pos hj, List.getElem?_drop] at k2
        have k3 : es.flatten[l.toNat * sz + j]? = some c := by
          rw [hes, List.getElem?_append_right (by rw [hA]; omega), hA, Nat.add_sub_cancel_left, List.getElem?_append_left (by rw [hB]; exact hj)]
          exact k1
        have k4 := hvv _ c x k3 k2
        refine ⟨k4, ?_⟩
        cases a' with
        | none =>
          have h0 := hnn rfl
          have : es.flatten.length = 0 := by rw [hflz, show es.length = 0 by omega]; simp
          have := (List.getElem?_eq_some_iff.1 k3).1
          omega
        | some p => exact hI.one _ _ _ (hm p _ x rfl k2)
      cases a' with
      | none =>
        have h0 := hnn rfl
        have e3 : h.toNat - l.toNat = 0 := by omega
        have e4 : cap - l.toNat = 0 := by omega
        have e5 : cap = l.toNat := by omega
        simp only [Option.map_none, e3, e4]
        have := VD.sl (M := g.mem) sz false [] none 0 [] (by simp) (Nat.le_refl _) (fun h => by cases h) (fun _ => rfl) (by simp) rfl (by simp) (by simp)
        simpa [e5] using this
      | some p =>
        have fin : ∀ q, (h.toNat - l.toNat = 0 ∨ q = p.2 + l.toNat * sz) → VD g.mem (.sl sz false ((es.drop l.toNat).take (h.toNat - l.toNat))) (.slice (some ⟨p.1, q, none⟩) (h.toNat - l.toNat) (cap - l.toNat)) := by
          intro q hq
          have := VD.row (M := g.mem) (sz := sz) (full := false) (es := (es.drop l.toNat).take (h.toNat - l.toNat)) p.1 q (cap - l.toNat) hz' (by omega) (fun h => by cases h) (by omega) hsp (fun j x hj => by
            have hj2 := (List.getElem?_eq_some_iff.1 hj).1
            rcases hq with hq | hq
            · rw [hq] at hj2; simp at hj2
            · rw [List.getElem?_take] at hj
              split at hj
              · rw [List.getElem?_drop] at hj
                rw [hq, Nat.add_assoc]
                exact hm p _ x rfl hj
              · cases hj)
          rwa [hlen] at this
        split
        · rename_i hcl
          exact fin p.2 (.inl (by omega))
        · simp only [Option.map_some, add_adr]
          exact fin _ (.inr rfl)
end
end Go.Pv
