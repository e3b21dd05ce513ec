/- What operations do: rows, pieces, append, copy. -/
import Derived.Test.YtihiooaimdoapaaGreatBmD
set_option linter.unusedVariables false
set_option linter.unusedSimpArgs false
namespace Go.Bm
noncomputable section
open Go.RowKit
section
variable {P : Program} {o : Oper} {ρ : Operand → A} {S : Hp}

def Zs (zs : List A) (z : Value) : Prop := ∀ g, Vs g zs z.cells.toList
theorem zeros_zs {z : Value} (h : (z.cells.toList.all (·.oneCell')) = true) : Zs (zeros z) z := fun g => zeros_ok h g
/-- A struct's parts put in. -/
def fillA (ρ : Operand → A) (place : Nat → Option (Nat × Nat)) : List A → List (Nat × Operand) → Option (List A)
  | cs, [] => some cs
  | cs, (i, x) :: r => match place i, (ρ x).cells with
    | some (off, size), some ps => bif Nat.beq ps.length size && Nat.ble (off + size) cs.length then fillA ρ place (put cs off ps) r else none
    | _, _ => none
theorem fillA_ok {g : G} {a : Act} {place : Nat → Option (Nat × Nat)} : ∀ (l : List (Nat × Operand)) (cs cs' : List A) (cells : Array Value), (∀ x ∈ l, V g (ρ x.2) (a.eval x.2)) → Vs g cs cells.toList → fillA ρ place cs l = some cs' →
    ∃ cells', Instr.fill place cells (l.map fun (i, x) => (i, a.eval x)) = some cells' ∧ Vs g cs' cells'.toList
  | [], cs, cs', cells, _, hc, h => by cases h; exact ⟨cells, rfl, hc⟩
  | (i, x) :: r, cs, cs', cells, hv, hc, h => by
    unfold fillA at h
    split at h
    · rename_i off size ps h1 h2
      cases h3 : (Nat.beq ps.length size && Nat.ble (off + size) cs.length) with
      | false => rw [h3] at h; cases h
      | true =>
        rw [h3] at h; simp only [cond_true] at h
        simp only [Bool.and_eq_true] at h3
        have h31 := Nat.eq_of_beq_eq_true h3.1
        have h32 := Nat.le_of_ble_eq_true h3.2
        have hx := (hv (i, x) (List.mem_cons_self ..)).cells h2
        have hsz : (a.eval x).cells.size = size := by have := hx.1; rw [h31] at this; simpa using this.symm
        have hle : off + (a.eval x).cells.size ≤ cells.size := by have := hc.1; simp at this; omega
        have hsp := hc.put hx (off := off) (by omega)
        rw [← List.append_assoc] at hsp
        have hf := fold_take off (a.eval x).cells.toList cells (by simpa using hle)
        have harr : (a.eval x).cells.zipIdx.foldl (fun cs (y : Value × Nat) => cs.setIfInBounds (off + y.2) y.1) cells = (cells.toList.take off ++ (a.eval x).cells.toList ++ cells.toList.drop (off + (a.eval x).cells.toList.length)).toArray := by
          apply Array.ext'
          rw [← Array.foldl_toList, Array.toList_zipIdx, hf]
        obtain ⟨cells', h4, h5⟩ := fillA_ok r (Bm.put cs off ps) cs' (cells.toList.take off ++ (a.eval x).cells.toList ++ cells.toList.drop (off + (a.eval x).cells.toList.length)).toArray (fun y hy => hv y (List.mem_cons_of_mem _ hy)) (by simpa using hsp) h
        refine ⟨cells', ?_, h5⟩
        simp only [List.map_cons, Instr.fill, h1, hsz, ne_eq, not_true_eq_false, decide_false, Bool.false_or, decide_eq_true_eq]
        rw [if_neg (by omega)]
        rw [← h4]
        congr 1
    · cases h
theorem opS_build {T : TypeId} {fs : Array Field} {it : TypeInfo} {z : Value} {cs : List A} {pl : Array (Nat × Nat)} {parts : Array (Nat × Operand)} (ho : o.op = .build T parts) (hT : P.underlying T = some (.struct fs))
    (hi : P.info? T = some it) (hz : it.zero = some z) (hz1 : (z.cells.toList.all (·.oneCell')) = true) (hpl : ∀ w : World, (fs.mapM fun f => (do pure (f.offset, ← sizeOf f.type) : Sem (Nat × Nat))).run P w = .ok pl w)
    (hf : fillA ρ (pl[·]?) (zeros z) parts.toList = some cs) : OpS P o ρ S S (.agg cs) :=
  .value fun g w a _ hv => by
    obtain ⟨cells', h1, h2⟩ := fillA_ok (g := g) (a := a) parts.toList (zeros z) cs z.cells (fun x hx => hv x.2 (by
      simp only [ho, Op.operands]
      rw [List.mem_toArray]
      exact List.mem_map.2 ⟨x, hx, rfl⟩)) (zeros_ok hz1 g) hf
    have hparts : (parts.map fun (i, x) => (i, a.eval x)).toList = parts.toList.map fun (i, x) => (i, a.eval x) := by simp
    refine ⟨.agg cells', ?_, .agg _ _ (by have := h2.1; simpa using this) h2.one (fun i c x e1 e2 => (h2.2 i c x e1 (by simpa using e2)).1)⟩
    simp only [execOp, ho, Instr.build, Sem.run_bind, zeroValue, typeInfo, run_program, Result.andThen_ok, hi, hz, Sem.run_pure, run_underlying hT, hpl, hparts, h1]
theorem opS_build_arr {T El : TypeId} {n es sz b : Nat} {z : Value} {cs : List A} {parts : Array (Nat × Operand)} (ho : o.op = .build T parts) (hT : P.underlying T = some (.array n El)) (hti : TI P T sz b z) (hE : SizeIs P El es)
    (hf : fillA ρ (fun i => some (i * es, es)) (zeros z) parts.toList = some cs) : OpS P o ρ S S (.agg cs) :=
  .value fun g w a _ hv => by
    obtain ⟨it, hi, hz, _, _, _, h6⟩ := hti
    obtain ⟨cells', h1, h2⟩ := fillA_ok (g := g) (a := a) parts.toList (zeros z) cs z.cells (fun x hx => hv x.2 (by
      simp only [ho, Op.operands]
      rw [List.mem_toArray]
      exact List.mem_map.2 ⟨x, hx, rfl⟩)) (zeros_ok h6 g) hf
    have hparts : (parts.map fun (i, x) => (i, a.eval x)).toList = parts.toList.map fun (i, x) => (i, a.eval x) := by simp
    refine ⟨.agg cells', ?_, .agg _ _ (by have := h2.1; simpa using this) h2.one (fun i c x e1 e2 => (h2.2 i c x e1 (by simpa using e2)).1)⟩
    simp only [execOp, ho, Instr.build, Sem.run_bind, zeroValue, typeInfo, run_program, Result.andThen_ok, hi, hz, Sem.run_pure, run_underlying hT, hE.run w, hparts, h1]
/-- The elements of a literal. -/
def elsA (ρ : Operand → A) (z : Nat) : List (Nat × Operand) → Nat → Option (List A)
  | [], _ => some []
  | (i, x) :: r, k => bif Nat.beq i k then match (ρ x).cells, elsA ρ z r (k + 1) with
      | some e, some es => bif Nat.beq e.length z then some (e ++ es) else none
      | _, _ => none
    else none
theorem elsA_ok {g : G} {a : Act} {z : Nat} : ∀ (l : List (Nat × Operand)) (k : Nat) (es : List A), (∀ x ∈ l, V g (ρ x.2) (a.eval x.2)) → elsA ρ z l k = some es →
    (l.map fun (i, x) => (i, a.eval x)) = ((l.map fun x => a.eval x.2).zipIdx k).map (fun x => (x.2, x.1)) ∧ es.length = l.length * z ∧
      (∀ v ∈ l.map fun x => a.eval x.2, v.cells.size = z) ∧ Vs g es ((l.map fun x => a.eval x.2).flatMap fun v => v.cells.toList)
  | [], k, es, _, h => by cases h; exact ⟨rfl, by simp, by simp, ⟨rfl, fun j c x h => by simp at h⟩⟩
  | (i, x) :: r, k, es, hv, h => by
    unfold elsA at h
    cases hik : Nat.beq i k with
    | false => rw [hik] at h; cases h
    | true =>
      rw [hik] at h; simp only [cond_true] at h
      split at h
      · rename_i e es' h1 h2
        cases hl : Nat.beq e.length z with
        | false => rw [hl] at h; cases h
        | true =>
          rw [hl] at h; simp only [cond_true, Option.some.injEq] at h; subst h
          have hik := Nat.eq_of_beq_eq_true hik
          have hl := Nat.eq_of_beq_eq_true hl
          have hx := (hv (i, x) (List.mem_cons_self ..)).cells h1
          obtain ⟨e2, e1, e3, e4⟩ := elsA_ok r (k + 1) es' (fun y hy => hv y (List.mem_cons_of_mem _ hy)) h2
          have hsz : (a.eval x).cells.size = z := by have := hx.1; rw [hl] at this; simpa using this.symm
          refine ⟨?_, by rw [List.length_append, e1, hl, List.length_cons, Nat.add_mul]; omega, ?_, ?_⟩
          · simp only [List.map_cons, List.zipIdx_cons, hik, e2]
          · intro v hm
            simp only [List.map_cons, List.mem_cons] at hm
            rcases hm with rfl | hm
            · exact hsz
            · exact e3 v hm
          · simp only [List.map_cons, List.flatMap_cons]
            exact hx.append e4
      · cases h
theorem opS_buildSlice {T E : TypeId} {n z : Nat} {parts : Array (Nat × Operand)} {ie : TypeInfo} {zv : Value} {es cs : List A} {q : Nat} (ho : o.op = .buildSlice T n parts) (hT : P.underlying T = some (.slice E)) (hE : P.info? E = some ie) (hz : ie.zero = some zv)
    (hs : ie.size = z) (h0 : 0 < z) (hn : n * z ≤ 16777216) (hes : elsA ρ z parts.toList 0 = some es) (hl : parts.toList.length = n) (hf : S.fr q) (hcl : cs.length = es.length) (hcs : ∀ g us, Vs g es us → Vs g cs us) : OpS P o ρ S (S.new q (.cells cs)) (.tw (.loc q) z) := by
  intro g w a next Q hI hv K
  subst hs
  obtain ⟨e2, e1, e3, e4⟩ := elsA_ok (z := ie.size) (a := a) (g := g) parts.toList 0 es (fun x hx => hv x.2 (by
    simp only [ho, Op.operands]
    rw [List.mem_toArray]
    exact List.mem_map.2 ⟨x, hx, rfl⟩)) hes
  have hsz0 : ((Array.range (n * ie.size)).map (zv.cells[· % zv.cells.size]!)).size = n * ie.size := by simp
  have hfill := Go.Great.fill_whole h0 (parts.toList.map fun x => a.eval x.2) ((Array.range (n * ie.size)).map (zv.cells[· % zv.cells.size]!)) e3 (by simp only [List.length_map]; rw [hsz0, hl])
  have hparts : (parts.map fun (i, x) => (i, a.eval x)).toList = ((parts.toList.map fun x => a.eval x.2).zipIdx 0).map (fun x => (x.2, x.1)) := by rw [← e2]; simp
  generalize hvs : (parts.toList.map fun x => a.eval x.2).flatMap (fun v => v.cells.toList) = vs at *
  have hvl : vs.length = n * ie.size := by rw [← e4.1, e1, hl]
  have e5 := hcs g vs e4
  obtain ⟨h1, h2⟩ := hI.allocs hf (cs := cs) (vs := vs.toArray) E (by have := e5.1; simp; omega) (Vs.all (vs := vs.toArray) e5)
  have hmx : n ≤ n * ie.size := Nat.le_mul_of_pos_right _ h0
  have hval : V (gput g q (some w.heap.size, (cs.length, vs.toArray.size))) (.tw (.loc q) ie.size) (.slice (some ⟨w.heap.size, 0, none⟩) n n) :=
    .tw (.loc q) ie.size n w.heap.size n vs.toArray.size (by show _ = _; rw [show (Ref.loc q).id = q from rfl, gput_at, hcl, e1, hl]) (Nat.le_refl _) (by simp only [maxLen]; omega) (by simp [hvl]) 0 (fun _ => rfl)
  unfold Oper.wp
  by_cases hn0 : n = 0
  · subst hn0
    have hpe : parts.toList = [] := List.eq_nil_of_length_eq_zero hl
    have hvs0 : vs = [] := List.eq_nil_of_length_eq_zero (by rw [hvl]; simp)
    have hp3 : parts = #[] := by apply Array.ext'; simp [hpe]
    have hrun : (execOp a.eval o).run P w = .ok (.value (.slice (some ⟨w.heap.size, 0, none⟩) 0 0)) (w.alloc (.cells #[] E)) := by
      simp [execOp, ho, hp3, Instr.buildSlice, run_underlying hT, sizeOf, typeInfo, hE, Instr.fill, newRow, Array.range_zero']
    rw [hrun]
    subst hvs0
    exact K (.slice (some ⟨w.heap.size, 0, none⟩) 0 0) _ _ hval h1 h2
  · have hpos : ¬ n * ie.size = 0 := by
      intro h; rcases Nat.mul_eq_zero.1 h with h | h <;> omega
    have hrun : (execOp a.eval o).run P w = .ok (.value (.slice (some ⟨w.heap.size, 0, none⟩) n n)) (w.alloc (.cells vs.toArray E)) := by
      have := run_buildSlice (P := P) w T E n (parts.map fun (i, x) => (i, a.eval x)) vs.toArray ie zv hT hE hz (by omega) hpos (by rw [hparts]; exact hfill)
      simp only [execOp, ho, Sem.run_bind, this, Result.andThen_ok, Sem.run_pure]
    rw [hrun]
    exact K _ _ _ hval h1 h2
theorem zs_reps {zs : List A} {z : Value} {sz n : Nat} (hz : Zs zs z) (hl : z.cells.size = sz) (h0 : 0 < sz) (g : G) : Vs g (reps n zs) (madeCells z.cells (n * sz)).toList := by
  have hzl : zs.length = sz := by have := (hz g).1; simp at this; omega
  subst hl
  refine ⟨by rw [reps_len, hzl]; simp [size_madeCells], fun j c x q1 q2 => ?_⟩
  have hj : j < n * zs.length := by have := (List.getElem?_eq_some_iff.1 q1).1; rwa [reps_len] at this
  rw [reps_get hj] at q1
  rw [Array.getElem?_toList, madeCells_get h0 (by rw [← hzl]; exact hj), ← hzl] at q2
  exact (hz g).2 _ c x q1 (by simpa using q2)
theorem opS_makeSlice {T E : TypeId} {z b n q : Nat} {zv : Value} {zs : List A} {x y : Operand} {k k' : IntKind} (ho : o.op = .makeSlice T x y) (hT : P.underlying T = some (.slice E)) (hE : TI P E z b zv) (h0 : 0 < z)
    (hx : ρ x = .v (.int k ((n : Nat) : Int))) (hy : ρ y = .v (.int k' ((n : Nat) : Int))) (hb : n * b ≤ 281474976710656) (hm : n ≤ 9223372036854775807) (hf : S.fr q) (hz : Zs zs zv) :
    OpS P o ρ S (S.new q (.cells (reps n zs))) (.tw (.loc q) z) := by
  intro g w a next Q hI hv K
  obtain ⟨i, t1, t2, t3, t4, t5, t6⟩ := hE
  subst t3 t4
  have e1 := (hx ▸ hv x (by simp [ho, Op.operands])).v_eq
  have e2 := (hy ▸ hv y (by simp [ho, Op.operands])).v_eq
  have hr := run_make (P := P) w T E i zv hT t1 t2 k k' ((n : Nat) : Int) ((n : Nat) : Int) (by omega) (by omega) (by rw [← Int.natCast_mul, Nat.mul_comm]; omega) (by omega)
  simp only [Int.toNat_natCast] at hr
  have hzl : zs.length = i.size := by have := (hz g).1; simp at this; omega
  have hsz : (madeCells zv.cells (n * i.size)).size = n * i.size := size_madeCells _ _
  obtain ⟨h1, h2⟩ := hI.allocs hf (cs := reps n zs) (vs := madeCells zv.cells (n * i.size)) E (by rw [reps_len, hzl, hsz]; exact Nat.le_refl _) (Vs.all (zs_reps hz t5 h0 g))
  unfold Oper.wp
  simp only [execOp, ho, e1, e2, Sem.run_bind, hr, Result.andThen_ok, Sem.run_pure]
  refine K _ _ _ (.tw (.loc q) i.size n w.heap.size n _ (by rw [show (Ref.loc q).id = q from rfl, gput_at, reps_len, hzl]) (Nat.le_refl _) (by simp only [maxLen]; omega) (by omega) 0 (fun _ => rfl)) h1 h2

/-! ### pieces -/
/-- A bound of a slice. -/
def Bd (ρ : Operand → A) (d : Nat) : Option Operand → Nat → Prop
  | none, n => n = d
  | some x, n => ∃ k, ρ x = .v (.int k ((n : Nat) : Int))
theorem Bd.run {g : G} {a : Act} {x : Operand} {d n : Nat} (hv : V g (ρ x) (a.eval x)) (h : Bd ρ d (some x) n) {y : Nat} (c : BoundsCode) (hn : n ≤ y) (w : World) : (Instr.sliceBound (a.eval x) y c).run P w = .ok n w := by
  obtain ⟨k, h⟩ := h
  have := run_bound (P := P) (h ▸ hv).v_eq c ⟨by omega, by omega⟩ w (y := y)
  simpa using this
theorem opS_slice {T E : TypeId} {x : Operand} {lo hi : Option Operand} {z l h : Nat} {r : A} (ho : o.op = .slice T x lo hi none) (hT : P.underlying T = some (.slice E)) (hE : SizeIs P E z) (hlo : Bd ρ 0 lo l) (h1 : l ≤ h)
    (hr : ∀ g w v, Inv g S w → V g (ρ x) v → ∃ ad n cap, v = .slice ad n cap ∧ Bd ρ n hi h ∧ h ≤ cap ∧ V g r (.slice (if cap = l then ad else ad.map (·.add (l * z))) (h - l) (cap - l))) : OpS P o ρ S S r :=
  .value fun g w a hI hv => by
    obtain ⟨ad, n, cap, hu, hhi, h2, hV⟩ := hr g w _ hI (hv x (by simp [ho, Op.operands]))
    refine ⟨_, ?_, hV⟩
    have hbs : (Instr.sliceBounds true n cap (lo.map a.eval) (hi.map a.eval) none).run P w = .ok (l, h, cap) w := by
      have hh : ∀ y, hi = some y → (Instr.sliceBound (a.eval y) cap .sliceAcap).run P w = .ok h w := fun y hy => by
        subst hy; exact Bd.run (hv y (by simp [ho, Op.operands])) hhi _ (by omega) w
      have hl : ∀ y, lo = some y → (Instr.sliceBound (a.eval y) h .sliceB).run P w = .ok l w := fun y hy => by
        subst hy; exact Bd.run (hv y (by simp [ho, Op.operands])) hlo _ h1 w
      cases hi with
      | none =>
        have hhn : h = n := hhi
        subst hhn
        cases lo with
        | none =>
          have : l = 0 := hlo
          subst this
          simp [Instr.sliceBounds]
        | some y => simp [Instr.sliceBounds, hl y rfl]
      | some y =>
        cases lo with
        | none =>
          have : l = 0 := hlo
          subst this
          simp [Instr.sliceBounds, hh y rfl]
        | some y' => simp [Instr.sliceBounds, hh y rfl, hl y' rfl]
    simp only [execOp, ho, hu, Option.map_none, Sem.run_bind, Instr.sliceAt, run_underlying hT, Result.andThen_ok, Instr.slice, hbs, hE.run w, Sem.run_pure]
theorem opS_slice3 {T E : TypeId} {x hi mx : Operand} {lo : Option Operand} {z l h m : Nat} {r : A} (ho : o.op = .slice T x lo (some hi) (some mx)) (hT : P.underlying T = some (.slice E)) (hE : SizeIs P E z)
    (hlo : Bd ρ 0 lo l) (hhi : Bd ρ 0 (some hi) h) (hmx : Bd ρ 0 (some mx) m) (h1 : l ≤ h) (h2 : h ≤ m)
    (hr : ∀ g w v, Inv g S w → V g (ρ x) v → ∃ ad n cap, v = .slice ad n cap ∧ m ≤ cap ∧ V g r (.slice (if m = l then ad else ad.map (·.add (l * z))) (h - l) (m - l))) : OpS P o ρ S S r :=
  .value fun g w a hI hv => by
    obtain ⟨ad, n, cap, hu, h3, hV⟩ := hr g w _ hI (hv x (by simp [ho, Op.operands]))
    refine ⟨_, ?_, hV⟩
    have q1 := Bd.run (P := P) (hv mx (by simp [ho, Op.operands])) hmx (y := cap) BoundsCode.slice3Acap (by omega) w
    have q2 := Bd.run (P := P) (hv hi (by simp [ho, Op.operands])) hhi (y := m) BoundsCode.slice3B h2 w
    have hbs : (Instr.sliceBounds true n cap (lo.map a.eval) (some (a.eval hi)) (some (a.eval mx))).run P w = .ok (l, h, m) w := by
      cases lo with
      | none =>
        have : l = 0 := hlo
        subst this
        simp [Instr.sliceBounds, q1, q2]
      | some y =>
        have q3 := Bd.run (P := P) (hv y (by simp [ho, Op.operands])) hlo (y := h) BoundsCode.slice3C h1 w
        simp [Instr.sliceBounds, q1, q2, q3]
    simp only [execOp, ho, hu, Option.map_some, Sem.run_bind, Instr.sliceAt, run_underlying hT, Result.andThen_ok, Instr.slice, hbs, hE.run w, Sem.run_pure]
theorem opS_slice_arr {T E : TypeId} {x : Operand} {n : Nat} {r : A} (ho : o.op = .slice T x none none none) (hT : P.underlying T = some (.array n E)) (hE : ∃ z, SizeIs P E z)
    (hr : ∀ g w v, Inv g S w → V g (ρ x) v → ∃ b off, v = .pointer (some ⟨b, off, none⟩) ∧ V g r (.slice (some ⟨b, off, none⟩) n n)) : OpS P o ρ S S r :=
  .value fun g w a hI hv => by
    obtain ⟨b, off, hu, hV⟩ := hr g w _ hI (hv x (by simp [ho, Op.operands]))
    obtain ⟨z, hE⟩ := hE
    have hp' := run_sliceAt_array_all (P := P) w T ⟨b, off, none⟩ (by simp [Program.arrayLen, Program.elem, hT])
    have hel : P.elem T = E := by simp [Program.elem, hT]
    have hal : P.arrayLen T = n := by simp [Program.arrayLen, hT]
    rw [hel, hE.run w, hal] at hp'
    refine ⟨.slice (some ⟨b, off, none⟩) n n, ?_, hV⟩
    simp only [execOp, ho, hu, Sem.run_bind, Option.map_none, hp', Result.andThen_ok, slicedAt, Sem.run_pure]
    simp [Addr.add_lit]

/-! ### append -/
/-- A slice's cells, as a source. -/
def Given (g : G) (w : World) (v : Value) (sz m : Nat) (ps : List A) : Prop := ∃ (A2 : Option Addr) (cap2 : Nat) (us : List Value), v = .slice A2 m cap2 ∧ Vs g ps us ∧ us.length = m * sz ∧ (0 < m → ∃ q, A2 = some q ∧ ∀ j x, us[j]? = some x → w.cell? (q.add j) = some x)
theorem Given.zero {g : G} {w : World} {v : Value} {sz : Nat} (h : ∃ ad c, v = .slice ad 0 c) : Given g w v sz 0 [] := let ⟨ad, c, h⟩ := h; ⟨ad, c, [], h, .nil, by simp, fun h => absurd h (Nat.lt_irrefl _)⟩
/-- A part of a row. -/
theorem Inv.given {g : G} {S : Hp} {w : World} (h : Inv g S w) {i b off sz m cap : Nat} {s : Nat × Nat} {cs : List A} (hp : S.ob i = some (.cells cs)) (hg : g.at' i = some (some b, s)) (hn : off + m * sz ≤ cs.length) :
    Given g w (.slice (some ⟨b, off, none⟩) m cap) sz m ((cs.drop off).take (m * sz)) := by
  rcases h.cells i cs hp with ⟨k1, _⟩ | ⟨b', t, k1, cur, ty, k2, k2', k3⟩
  · rw [k1] at hg; cases hg
  rw [k1] at hg; simp at hg
  obtain ⟨rfl, _⟩ := hg
  obtain ⟨us, h2, h3, h4⟩ := row_part k2 k3 hn
  exact ⟨_, cap, us, rfl, h2, h3, fun _ => ⟨_, rfl, h4⟩⟩
/-- What the code of an append comes to. -/
theorem OpS.app {T : TypeId} {x y : Operand} {S' : Hp} {pv : A} (ho : o.op = .call { callee := .builtin .append, args := #[x, y], argTypes := #[T, T] })
    (h : ∀ (g : G) (w : World) (a : Act), Inv g S w → V g (ρ x) (a.eval x) → V g (ρ y) (a.eval y) → ∃ v g' w', (Builtin.append_ #[T, T] o.type #[a.eval x, a.eval y]).run P w = .ok v w' ∧ V g' pv v ∧ Inv g' S' w' ∧ Ext S g w S' g' w') : OpS P o ρ S S' pv := by
  intro g w a next Q hI hv K
  obtain ⟨v, g', w', h1, h2, h3, h4⟩ := h g w a hI (hv x (by simp [ho, Op.operands, Call.operands])) (hv y (by simp [ho, Op.operands, Call.operands]))
  unfold Oper.wp
  simp only [execOp, ho, resolve, invoke, builtin, Sem.run_bind, Sem.run_pure, Result.andThen_ok, List.map_toArray, List.map_cons, List.map_nil, h1]
  exact K v g' w' h2 h3 h4
theorem Inv.undrew {g : G} {S S' : Hp} {g' : G} {w w' : World} (h : Ext S g w.drew S' g' w') : Ext S g w S' g' w' := ⟨h.le, h.os, h.tape, h.output, h.size, h.frame, h.own, h.dom, h.fr, h.memo, h.lpo⟩
theorem grown_row {g : G} {ps olds : List A} {us os : List Value} {ex : List Value} (h : Vs g olds os) (k : Vs g ps us) : Vs g (olds ++ ps) ((os ++ us ++ ex).take (olds ++ ps).length) := by
  have := h.append k
  rw [List.take_append_of_le_length (by rw [this.1]; exact Nat.le_refl _), List.take_of_length_le (by rw [this.1]; exact Nat.le_refl _)]
  exact this
/-- append to nothing. -/
theorem append_nil_at {S : Hp} {T E ty : TypeId} {z b m q : Nat} {zv : Value} {ps : List A} {g : G} {w : World} {vy : Value} (ad : Option Addr) (hT : P.underlying T = some (.slice E)) (hE : TI P E z b zv) (hI : Inv g S w)
    (hy : Given g w vy z m ps) (hf : S.fr q) (hb : m * b ≤ 140737488355328) (hmax : m ≤ maxLen) : ∃ v g' w', (Builtin.append_ #[T, T] ty #[.slice ad 0 0, vy]).run P w = .ok v w' ∧ V g' (.tw (.loc q) z) v ∧ Inv g' (S.new q (.cells ps)) w' ∧ Ext S g w (S.new q (.cells ps)) g' w' := by
    obtain ⟨i, t1, t2, t3, t4, t5, t6⟩ := hE
    subst t3 t4
    obtain ⟨A2, cap2, us, hu2, hpv, hul, hA2⟩ := hy
    rw [hu2]
    rcases Nat.eq_zero_or_pos m with rfl | hm
    · have hps : ps = [] := List.eq_nil_of_length_eq_zero (by rw [hpv.1, hul]; simp)
      subst hps
      obtain ⟨q1, q2⟩ := hI.emp hf
      exact ⟨_, _, w, run_append_zeroA w T E ty hT ⟨i, t1, rfl⟩ ad A2 0 0 cap2 (Nat.le_refl _), .tw0 (.loc q) i.size ad gput_at, q1, q2⟩
    · obtain ⟨ad2, rfl, hnews⟩ := hA2 hm
      have hge := grownCap_ge w m 0 E
      have hcm := grownCap_le_maxLen w m 0 E hmax
      have hcells : (us.toArray ++ Builtin.zeroCells zv.cells (grownCap w m 0 E - m)).size = grownCap w m 0 E * i.size := by
        simp only [Array.size_append, List.size_toArray, size_zeroCells, t5, hul, ← Nat.add_mul]
        congr 1; omega
      have hle : m * i.size ≤ grownCap w m 0 E * i.size := Nat.mul_le_mul_right _ hge
      have hr : ∃ w', (Builtin.append_ #[T, T] ty #[.slice ad 0 0, .slice (some ad2) m cap2]).run P w = .ok (.slice (some ⟨w.heap.size, 0, none⟩) m (grownCap w m 0 E)) w' ∧ w' = w.drew.alloc (.cells (us.toArray ++ Builtin.zeroCells zv.cells (grownCap w m 0 E - m)) E) := by
        cases ad with
        | none => exact ⟨_, run_append_nil (P := P) w T ty E i zv hT t1 t2 ad2 m cap2 us hul hnews hm (by simp only [maxLen] at hmax; omega) (by omega), rfl⟩
        | some ad =>
          have := run_append_grow (P := P) w T ty E i zv hT t1 t2 ad 0 0 [] (by simp) (fun j v hj => by simp at hj) ad2 m cap2 us hul hnews (by omega) (by simp only [maxLen] at hmax; omega) (growslice_fits (by omega) (by simpa using hb))
          simp only [Nat.zero_add] at this
          exact ⟨_, this, by simp⟩
      obtain ⟨w', hr, rfl⟩ := hr
      obtain ⟨q1, q2⟩ := hI.drew.allocs hf (cs := ps) (vs := us.toArray ++ Builtin.zeroCells zv.cells (grownCap w m 0 E - m)) E (by rw [hcells, hpv.1, hul]; exact hle)
        (by have := grown_row (g := g) (olds := []) (os := []) (ex := (Builtin.zeroCells zv.cells (grownCap w m 0 E - m)).toList) .nil hpv; simpa using this)
      refine ⟨_, _, _, hr, ?_, q1, Inv.undrew q2⟩
      refine .tw (.loc q) i.size m _ _ _ ?_ hge hcm (Nat.le_of_eq hcells.symm) 0 (fun _ => rfl)
      rw [show (Ref.loc q).id = q from rfl, gput_at, hpv.1, hul]; rfl
theorem opS_append_nil {T E : TypeId} {z b m q : Nat} {zv : Value} {ps : List A} {x y : Operand} (ho : o.op = .call { callee := .builtin .append, args := #[x, y], argTypes := #[T, T] }) (hT : P.underlying T = some (.slice E)) (hE : TI P E z b zv)
    (hx : ∀ g v, V g (ρ x) v → ∃ ad, v = .slice ad 0 0) (hy : ∀ g w v, Inv g S w → V g (ρ y) v → Given g w v z m ps) (hf : S.fr q) (hb : m * b ≤ 140737488355328) (hmax : m ≤ maxLen) : OpS P o ρ S (S.new q (.cells ps)) (.tw (.loc q) z) :=
  .app ho fun g w a hI e1 e2 => by
    obtain ⟨ad, hu⟩ := hx g _ e1
    rw [hu]
    exact append_nil_at ad hT hE hI (hy g w _ hI e2) hf hb hmax
/-- append to a row, or its beginning. -/
theorem opS_append {T E : TypeId} {z b m n p q : Nat} {zv : Value} {cs ps : List A} {x y : Operand} (ho : o.op = .call { callee := .builtin .append, args := #[x, y], argTypes := #[T, T] }) (hT : P.underlying T = some (.slice E)) (hE : TI P E z b zv) (h0 : 0 < z)
    (hp : S.ob p = some (.cells cs)) (hx : ∀ g w v, Inv g S w → V g (ρ x) v → (∃ ad, v = .slice ad 0 0 ∧ n = 0) ∨ ∃ bk s cap d, g.at' p = some (some bk, s) ∧ v = .slice (some ⟨bk, d, none⟩) n cap ∧ (cap ≠ 0 → d = 0) ∧ n ≤ cap ∧ cap ≤ maxLen ∧ cap * z ≤ s.2) (hcl : n * z ≤ cs.length)
    (hy : ∀ g w v, Inv g S w → V g (ρ y) v → Given g w v z m ps) (hf : S.fr q) (hb : (n + m) * b ≤ 140737488355328) (hmax : n + m ≤ maxLen) : OpS P o ρ S ((S.del p).new q (.cells (cs.take (n * z) ++ ps))) (.tw (.loc q) z) :=
  .app ho fun g w a hI e1 e2 => by
    obtain ⟨i, t1, t2, t3, t4, t5, t6⟩ := hE
    subst t3 t4
    have hE' : SizeIs P E i.size := ⟨i, t1, rfl⟩
    obtain ⟨A2, cap2, us, hu2, hpv, hul, hA2⟩ := hy g w _ hI e2
    rw [hu2]
    have hless1 : ∀ k, ((S.del p).new q (.cells (cs.take (n * i.size) ++ ps))).fr k → (S.new q (.cells (cs.take (n * i.size) ++ ps))).fr k := fun k hk => hk
    have hless2 : ∀ k y, ((S.del p).new q (.cells (cs.take (n * i.size) ++ ps))).ob k = some y → (S.new q (.cells (cs.take (n * i.size) ++ ps))).ob k = some y := fun k y hk => by
      have hk : (if k = q then some (.cells (cs.take (n * i.size) ++ ps)) else if k = p then none else S.ob k) = some y := hk
      show (if k = q then some (.cells (cs.take (n * i.size) ++ ps)) else S.ob k) = some y
      by_cases h1 : k = q
      · rwa [if_pos h1] at hk ⊢
      · rw [if_neg h1] at hk ⊢
        split at hk
        · cases hk
        · exact hk
    have less : ∀ (w' : World) (g' : G) (v : Value), V g' (.tw (.loc q) i.size) v → Inv g' (S.new q (.cells (cs.take (n * i.size) ++ ps))) w' → Ext S g w (S.new q (.cells (cs.take (n * i.size) ++ ps))) g' w' → V g' (.tw (.loc q) i.size) v ∧ Inv g' ((S.del p).new q (.cells (cs.take (n * i.size) ++ ps))) w' ∧ Ext S g w ((S.del p).new q (.cells (cs.take (n * i.size) ++ ps))) g' w' :=
      fun w' g' v k1 k2 k3 => ⟨k1, k2.less hless2 hless1, k3.trans (Ext.less hless2 hless1)⟩
    rcases hx g w _ hI e1 with ⟨ad, hu, rfl⟩ | ⟨bk, s, cap, d, hg, hu, hd, hnc, hcm, hph⟩
    · rw [hu, ← hu2]
      simp only [Nat.zero_mul, List.take_zero, List.nil_append, Nat.zero_add] at less hb hmax ⊢
      obtain ⟨v, g', w', k1, k2, k3, k4⟩ := append_nil_at (P := P) (ty := o.type) ad hT ⟨i, t1, t2, rfl, rfl, t5, t6⟩ hI (hy g w _ hI e2) hf hb hmax
      obtain ⟨r1, r2, r3⟩ := less w' g' v k2 k3 k4
      exact ⟨v, g', w', k1, r1, r2, r3⟩
    · rw [hu]
      rcases Nat.eq_zero_or_pos m with rfl | hm
      · have hps : ps = [] := List.eq_nil_of_length_eq_zero (by rw [hpv.1, hul]; simp)
        subst hps
        simp only [List.append_nil]
        obtain ⟨q1, q2⟩ := hI.ren (m := n * i.size) hp hf hg hcl
        exact ⟨_, _, w, run_append_zeroA w T E o.type hT hE' _ A2 n cap cap2 hnc, .tw (.loc q) i.size n bk cap s.2 gput_at hnc hcm hph d hd, q1, q2⟩
      · obtain ⟨ad2, rfl, hnews⟩ := hA2 hm
        rcases hI.cells p cs hp with ⟨k1, _⟩ | ⟨b', t, k1, cur, ty, k2, k2', k3⟩
        · rw [k1] at hg; cases hg
        rw [k1] at hg; simp at hg
        obtain ⟨rfl, rfl⟩ := hg
        have hl := k3.1
        simp only [List.length_take, Array.length_toList] at hl
        by_cases hroom : n + m ≤ cap
        · obtain rfl := hd (by omega)
          have hnm : (n + m) * i.size ≤ cap * i.size := Nat.mul_le_mul_right _ hroom
          rw [Nat.add_mul] at hnm
          have hrun := run_append_room' (P := P) w T o.type E ty i hT t1 b' n cap cur k2 ad2 m cap2 us hul hnews hpv.one hroom (by rw [hul]; omega)
          have hcut : cur.toList.take (n * i.size) = (cur.toList.take cs.length).take (n * i.size) := by rw [List.take_take, Nat.min_eq_left hcl]
          have hold : Vs g (cs.take (n * i.size)) (cur.toList.take (n * i.size)) := by
            have := k3.part 0 (n * i.size)
            simp only [List.drop_zero] at this
            rw [hcut]; exact this
          have hnew := grown_row (ex := cur.toList.drop (n * i.size + us.length)) hold hpv
          obtain ⟨q1, q2⟩ := hI.grow (w' := w.setRow b' (cur.toList.take (n * i.size) ++ us ++ cur.toList.drop (n * i.size + us.length)).toArray) (cs' := cs.take (n * i.size) ++ ps) hp hf k1 (size_setRow ..) (fun k hk => setRow_other w b' k _ hk) rfl rfl rfl
            ⟨_, ty, setRow_heap w b' cur _ ty _ k2, by simp; omega, hnew⟩
          refine ⟨_, _, _, hrun, .tw (.loc q) i.size (n + m) b' cap t ?_ hroom hcm hph 0 (fun _ => rfl), q1, q2⟩
          rw [show (Ref.loc q).id = q from rfl, gput_at, List.length_append, List.length_take, Nat.min_eq_left hcl, hpv.1, hul, Nat.add_mul]
        · have hge := grownCap_ge w (n + m) cap E
          have hcm2 := grownCap_le_maxLen w (n + m) cap E hmax
          obtain ⟨os, h1, h2, h3⟩ := row_part (off := 0) (n := n * i.size) k2 k3 (by omega)
          rw [List.drop_zero] at h1
          have hos : ∀ j v, os[j]? = some v → w.cell? ((⟨b', d, none⟩ : Addr).add j) = some v := fun j v hj => by
            by_cases hc0 : cap = 0
            · have : n = 0 := by omega
              subst this
              have hos0 : os = [] := List.eq_nil_of_length_eq_zero (by rw [h2]; simp)
              rw [hos0] at hj
              simp at hj
            · obtain rfl := hd hc0; exact h3 j v hj
          have hr := run_append_grow (P := P) w T o.type E i zv hT t1 t2 ⟨b', d, none⟩ n cap os h2 hos ad2 m cap2 us hul hnews (by omega) (by simp only [maxLen] at hmax; omega) (growslice_fits (by omega) hb)
          have hcells : (os.toArray ++ us.toArray ++ Builtin.zeroCells zv.cells (grownCap w (n + m) cap E - (n + m))).size = grownCap w (n + m) cap E * i.size := by
            simp only [Array.size_append, List.size_toArray, size_zeroCells, t5, h2, hul, ← Nat.add_mul]
            congr 1; omega
          have hle : (n + m) * i.size ≤ grownCap w (n + m) cap E * i.size := Nat.mul_le_mul_right _ hge
          have hlen : (cs.take (n * i.size) ++ ps).length = (n + m) * i.size := by rw [List.length_append, List.length_take, Nat.min_eq_left hcl, hpv.1, hul, Nat.add_mul]
          obtain ⟨q1, q2⟩ := hI.drew.allocs hf (cs := cs.take (n * i.size) ++ ps) (vs := os.toArray ++ us.toArray ++ Builtin.zeroCells zv.cells (grownCap w (n + m) cap E - (n + m))) E (by rw [hcells, hlen]; exact hle)
            (by have := grown_row (ex := (Builtin.zeroCells zv.cells (grownCap w (n + m) cap E - (n + m))).toList) h1 hpv; simpa using this)
          obtain ⟨r1, r2, r3⟩ := less _ _ (.slice (some ⟨w.heap.size, 0, none⟩) (n + m) (grownCap w (n + m) cap E)) (.tw (.loc q) i.size (n + m) _ _ _ (by rw [show (Ref.loc q).id = q from rfl, gput_at, hlen]; rfl) hge hcm2 (Nat.le_of_eq hcells.symm) 0 (fun _ => rfl)) q1 (Inv.undrew q2)
          exact ⟨_, _, _, hr, r1, r2, r3⟩
end
end
end Go.Bm
