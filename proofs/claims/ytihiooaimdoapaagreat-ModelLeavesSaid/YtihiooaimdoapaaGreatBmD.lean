/- What operations do: values, places, memory. -/
import Derived.Test.YtihiooaimdoapaaGreatBmC
set_option linter.unusedVariables false
set_option linter.unusedSimpArgs false
namespace Go.Bm
noncomputable section
open Go.RowKit

/-- An operation, from what its operands are. -/
def OpS (P : Program) (o : Oper) (ρ : Operand → A) (S S' : Hp) (pv : A) : Prop :=
  ∀ (g : G) (w : World) (a : Act) (next : Act → World → Prop) (Q : Exit → Act → World → Prop), Inv g S w → (∀ x ∈ o.op.operands, V g (ρ x) (a.eval x)) →
   (∀ v g' w', V g' pv v → Inv g' S' w' → Ext S g w S' g' w' → next (a.put o.dst v) w') → o.wp P a w next Q
/-- An operation that changes nothing. -/
def OpV (P : Program) (o : Oper) (ρ : Operand → A) (S : Hp) (pv : A) : Prop :=
  ∀ (g : G) (w : World) (a : Act), Inv g S w → (∀ x ∈ o.op.operands, V g (ρ x) (a.eval x)) → ∃ v, (execOp a.eval o).run P w = .ok (.value v) w ∧ V g pv v
theorem OpV.at' {P : Program} {o : Oper} {ρ : Operand → A} {S : Hp} {pv : A} (h : ∀ (g : G) (w : World) (a : Act), Inv g S w → (∀ x ∈ o.op.operands, V g (ρ x) (a.eval x)) → OpV P o ρ S pv) : OpV P o ρ S pv := fun g w a hI hv => h g w a hI hv g w a hI hv
theorem OpS.value {P : Program} {o : Oper} {ρ : Operand → A} {S : Hp} {pv : A}
    (h : ∀ (g : G) (w : World) (a : Act), Inv g S w → (∀ x ∈ o.op.operands, V g (ρ x) (a.eval x)) → ∃ v, (execOp a.eval o).run P w = .ok (.value v) w ∧ V g pv v) : OpS P o ρ S S pv := by
  intro g w a next Q hI hx K
  obtain ⟨v, hr, hv⟩ := h g w a hI hx
  unfold Oper.wp
  rw [hr]
  exact K v g w hv hI (.refl S g w)
/-- What is known is first told otherwise. -/
theorem OpS.pre {P : Program} {o : Oper} {ρ : Operand → A} {S S' : Hp} {pv : A} (h : ∀ (g : G) (w : World) (a : Act), Inv g S w → (∀ x ∈ o.op.operands, V g (ρ x) (a.eval x)) → ∃ S1 g1, Inv g1 S1 w ∧ Ext S g w S1 g1 w ∧ ∃ ρ', (∀ x ∈ o.op.operands, V g1 (ρ' x) (a.eval x)) ∧ OpS P o ρ' S1 S' pv) : OpS P o ρ S S' pv := by
  intro g w a next Q hI hx K
  obtain ⟨S1, g1, h1, h2, ρ', h3, h4⟩ := h g w a hI hx
  exact h4 g1 w a next Q h1 h3 (fun v g' w' k1 k2 k3 => K v g' w' k1 k2 (h2.trans k3))

section
variable {P : Program} {o : Oper} {ρ : Operand → A} {S : Hp}
/-- The cells of a value. -/
def A.cells : A → Option (List A)
  | .agg cs => some cs
  | .v x => bif x.oneCell' then some [.v x] else none
  | .tup _ | .junk | .un => none
  | p => some [p]
theorem one_cells {v : Value} (h1 : v.oneCell' = true) : v.cells = #[v] := by cases v <;> first | rfl | (cases h1)
theorem Vs_one {g : G} {p : A} {v : Value} (h : V g p v) (h1 : v.oneCell' = true) : Vs g [p] v.cells.toList := by
  rw [one_cells h1]
  exact .cons h h1 .nil
theorem VDs.nilV {M : Mem} : VDs M [] [] := ⟨rfl, fun j c x h => by simp at h⟩
theorem V.oneo {g : G} {p : A} {v : Value} (h : V g p v) (hp : match p with | .op _ _ | .os _ _ _ | .om _ _ => True | _ => False := by trivial) : v.oneCell' = true := by
  cases h with
  | op r o v h0 h1 => cases o with
    | none => rw [h0 rfl]; rfl
    | some j => have := h1 j rfl; cases this; rfl
  | os r z o v h0 h1 => cases o with
    | none => have := h0 rfl; cases this; rfl
    | some j => have := h1 j rfl; cases this <;> rfl
  | om r o v h0 h1 => cases o with
    | none => rw [h0 rfl]; rfl
    | some j => have := h1 j rfl; cases this; rfl
  | _ => exact hp.elim
theorem V.cells {g : G} {p : A} {v : Value} {ps : List A} (h : V g p v) (hp : p.cells = some ps) : Vs g ps v.cells.toList := by
  cases p with
  | v y =>
    cases h
    have hp : (bif v.oneCell' then some [A.v v] else none) = some ps := hp
    cases hy : v.oneCell' with
    | true => rw [hy] at hp; cases hp; exact Vs_one (.v v) hy
    | false => rw [hy] at hp; cases hp
  | agg cs =>
    cases hp
    cases h with
    | agg _ vs hl h1 h => exact ⟨by simp [Value.cells, hl], fun j c x h2 h3 => ⟨h j c x h2 (by simpa [Value.cells] using h3), h1 x (List.mem_of_getElem? h3)⟩⟩
  | tup _ => cases hp
  | junk => cases hp
  | un => cases hp
  | tl t f l => cases hp; refine Vs_one h ?_; cases h with | tl _ _ _ _ h1 => exact h1.one
  | op r o => cases hp; exact Vs_one h h.oneo
  | os r z o => cases hp; exact Vs_one h h.oneo
  | om r o => cases hp; exact Vs_one h h.oneo
  | _ => cases hp; refine Vs_one h ?_; cases h <;> rfl
/-- A type's zero. -/
def zeros (z : Value) : List A := z.cells.toList.map .v
theorem zeros_ok {z : Value} (h : (z.cells.toList.all (·.oneCell')) = true) (g : G) : Vs g (zeros z) z.cells.toList := by
  refine ⟨by simp [zeros], fun j c x h1 h2 => ?_⟩
  simp only [zeros, List.getElem?_map, h2, Option.map_some, Option.some.injEq] at h1
  subst h1
  exact ⟨.v x, List.all_eq_true.1 h x (List.mem_of_getElem? h2)⟩
theorem V.v_eq {g : G} {x v : Value} (h : V g (.v x) v) : v = x := by cases h; rfl

theorem opS_move {x : Operand} (ho : o.op = .move x) : OpS P o ρ S S (ρ x) :=
  .value fun g w a _ hx => ⟨a.eval x, by simp [execOp, ho], hx x (by simp [ho, Op.operands])⟩
theorem opS_assign {x : Operand} (ho : o.op = .assign x) : OpS P o ρ S S (ρ x) :=
  .value fun g w a _ hx => ⟨a.eval x, by simp [execOp, ho], hx x (by simp [ho, Op.operands])⟩
theorem opS_extract {x : Operand} {ix : Nat} {cs : List A} {p : A} (ho : o.op = .extract x ix) (hx : ρ x = .tup cs) (hp : cs[ix]? = some p) : OpS P o ρ S S p :=
  .value fun g w a _ hv => by
    have e1 := hv x (by simp [ho, Op.operands])
    rw [hx] at e1
    generalize hu : a.eval x = u at e1
    cases e1 with
    | tup _ vs hl h =>
      have hlt : ix < vs.size := by rw [← hl]; exact (List.getElem?_eq_some_iff.1 hp).1
      exact ⟨vs[ix], by simp [execOp, ho, hu, Instr.extract, hlt], h ix p vs[ix] hp (by simp [hlt])⟩
theorem opS_pick {x y z : Operand} {b : Bool} (ho : o.op = .pick x y z) (hx : ρ x = .v (.bool b)) : OpS P o ρ S S (if b then ρ y else ρ z) :=
  .value fun g w a _ hv => by
    have e1 := (hx ▸ hv x (by simp [ho, Op.operands])).v_eq
    refine ⟨if b then a.eval y else a.eval z, by simp [execOp, ho, e1, asBool], ?_⟩
    cases b
    · exact hv z (by simp [ho, Op.operands])
    · exact hv y (by simp [ho, Op.operands])
theorem opS_bin {op : BinOp} {T T' : TypeId} {x y : Operand} {k : IntKind} {m n : Int} {r : Value} (ho : o.op = .binOp op T x y T') (hx : ρ x = .v (.int k m)) (hy : ρ y = .v (.int k n)) (h : ibin op k m n = some r) : OpS P o ρ S S (.v r) :=
  .value fun g w a _ hv => by
    have e1 := (hx ▸ hv x (by simp [ho, Op.operands])).v_eq
    have e2 := (hy ▸ hv y (by simp [ho, Op.operands])).v_eq
    exact ⟨r, by simp only [execOp, ho, e1, e2, eqGuard_at_int, pure_bind, Sem.run_bind, run_ibin h, Result.andThen_ok, Sem.run_pure], .v r⟩
theorem opS_shift {op : BinOp} {T T' : TypeId} {x y : Operand} {k k' : IntKind} {m n : Int} {r : Value} (ho : o.op = .binOp op T x y T') (hx : ρ x = .v (.int k m)) (hy : ρ y = .v (.int k' n)) (h : ishift op k m n = some r) : OpS P o ρ S S (.v r) :=
  .value fun g w a _ hv => by
    have k1 := (hx ▸ hv x (by simp [ho, Op.operands])).v_eq
    have k2 := (hy ▸ hv y (by simp [ho, Op.operands])).v_eq
    cases op <;> simp only [ishift] at h <;> (try (split at h)) <;> simp at h
    all_goals
      subst h
      refine ⟨_, ?_, .v _⟩
      clear hv
      simp only [execOp, ho, k1, k2, eqGuard_at_int, pure_bind, Sem.run_bind, binOp, Op.shift]
      rw [if_neg (by assumption)]
      simp
theorem opS_eqb {op : BinOp} {T T' : TypeId} {x y : Operand} {m n : Bool} (ho : o.op = .binOp op T x y T') (hT : P.underlying T = some .bool) (hx : ρ x = .v (.bool m)) (hy : ρ y = .v (.bool n))
    (h : op = .eql ∨ op = .neq) : OpS P o ρ S S (.v (.bool (if op = .eql then m == n else m != n))) :=
  .value fun g w a _ hv => by
    have k1 := (hx ▸ hv x (by simp [ho, Op.operands])).v_eq
    have k2 := (hy ▸ hv y (by simp [ho, Op.operands])).v_eq
    refine ⟨_, ?_, .v _⟩
    rcases h with rfl | rfl
    · simp only [execOp, ho, k1, k2, eqGuard_at_bool, pure_bind, Sem.run_bind, binOp, run_equal_bool hT, Result.andThen_ok, Sem.run_pure, if_true]
    · simp only [execOp, ho, k1, k2, eqGuard_at_bool, pure_bind, Sem.run_bind, binOp, run_equal_bool hT, Result.andThen_ok, Sem.run_pure]
      simp [bne]
theorem opS_not {T : TypeId} {x : Operand} {b : Bool} (ho : o.op = .unOp .not T x) (hx : ρ x = .v (.bool b)) : OpS P o ρ S S (.v (.bool (!b))) :=
  .value fun g w a _ hv => ⟨_, by simp [execOp, ho, (hx ▸ hv x (by simp [ho, Op.operands])).v_eq, Op.unary], .v _⟩
theorem opS_conv {s t : TypeId} {x : Operand} {k k' : IntKind} {n : Int} (ho : o.op = .convert s t x) (hs : (P.underlying s).isSome = true) (ht : P.underlying t = some (.int k')) (hx : ρ x = .v (.int k n)) :
    OpS P o ρ S S (.v (.int k' (k'.wrap n))) :=
  .value fun g w a _ hv => by
    have e1 := (hx ▸ hv x (by simp [ho, Op.operands])).v_eq
    obtain ⟨d, hd⟩ := Option.isSome_iff_exists.mp hs
    exact ⟨_, by simp [execOp, ho, e1, convert, run_underlying hd, run_underlying ht, Conv.intToInt], .v _⟩

/-! ### places -/
/-- Where a pointer points to. -/
def Pl : A → Option (Nat × Nat)
  | .ptr o off => some (o, off)
  | .tp x π => some (x.id, offS π)
  | _ => none
theorem V.pl {g : G} {p : A} {v : Value} {i off : Nat} (h : V g p v) (hp : Pl p = some (i, off)) : ∃ b s, g.at' i = some (some b, s) ∧ v = .pointer (some ⟨b, off, none⟩) := by
  cases h <;> simp only [Pl, Option.some.injEq, Prod.mk.injEq, reduceCtorEq] at hp
  · obtain ⟨rfl, rfl⟩ := hp; exact ⟨_, _, by assumption, rfl⟩
  · obtain ⟨rfl, rfl⟩ := hp; exact ⟨_, _, by assumption, rfl⟩
/-- Is it a pointer that is not nil? -/
def isP : A → Bool
  | .ptr _ _ => true
  | .tp _ _ => true
  | .dp _ _ => true
  | _ => false
theorem V.isP {g : G} {p : A} {v : Value} (h : V g p v) (hp : isP p = true) : ∃ ad, v = .pointer (some ad) := by
  cases h <;> first | exact ⟨_, rfl⟩ | cases hp
theorem opS_nilCheck {x : Operand} (ho : o.op = .nilCheck x) (hx : isP (ρ x) = true) : OpS P o ρ S S (ρ x) :=
  .value fun g w a _ hv => by
    have e1 := hv x (by simp [ho, Op.operands])
    obtain ⟨ad, hu⟩ := e1.isP hx
    exact ⟨a.eval x, by simp [execOp, ho, hu], e1⟩
theorem opS_field {T : TypeId} {fs : Array Field} {f s : Nat} {fd : Field} {x : Operand} {r : A} (ho : o.op = .fieldAddr T x f) (hT : P.underlying T = some (.struct fs)) (hf : fs[f]? = some fd) (hs : SizeIs P fd.type s) (h0 : s ≠ 0)
    (hr : ∀ g v, V g (ρ x) v → ∃ b off, v = .pointer (some ⟨b, off, none⟩) ∧ V g r (.pointer (some ⟨b, off + fd.offset, none⟩))) : OpS P o ρ S S r :=
  .value fun g w a _ hv => by
    obtain ⟨b, off, hu, h1⟩ := hr g _ (hv x (by simp [ho, Op.operands]))
    exact ⟨_, by simp only [execOp, ho, hu, Sem.run_bind, run_fieldAt hT hf hs h0, Result.andThen_ok, Sem.run_pure], h1⟩
theorem opS_index_arr {T E : TypeId} {x y : Operand} {len sz : Nat} {k : IntKind} {n : Int} {r : A} (ho : o.op = .indexAddr T x y) (hT : P.underlying T = some (.array len E)) (hE : SizeIs P E sz)
    (hy : ρ y = .v (.int k n)) (hn : 0 ≤ n ∧ n < len) (hr : ∀ g v, V g (ρ x) v → ∃ b off, v = .pointer (some ⟨b, off, none⟩) ∧ V g r (.pointer (some ⟨b, off + n.toNat * sz, none⟩))) : OpS P o ρ S S r :=
  .value fun g w a _ hv => by
    obtain ⟨b, off, hu, h1⟩ := hr g _ (hv x (by simp [ho, Op.operands]))
    have k2 := (hy ▸ hv y (by simp [ho, Op.operands])).v_eq
    refine ⟨_, ?_, h1⟩
    simp only [execOp, ho, hu, k2, Sem.run_bind, run_indexAt_array (P := P) w T ⟨b, off, none⟩ k n (by simp [Program.elem, Program.arrayLen, hT])]
    simp only [Program.elem, Program.arrayLen, hT, if_pos hn, hE.run w, Result.andThen_ok, Addr.add_lit, Sem.run_pure]
theorem opS_index_sl {T E : TypeId} {x y : Operand} {z : Nat} {k : IntKind} {n : Int} {r : A} (ho : o.op = .indexAddr T x y) (hT : P.underlying T = some (.slice E)) (hE : SizeIs P E z)
    (hy : ρ y = .v (.int k n)) (hr : ∀ g w v, Inv g S w → V g (ρ x) v → ∃ b off m cap, v = .slice (some ⟨b, off, none⟩) m cap ∧ (0 ≤ n ∧ n < m) ∧ V g r (.pointer (some ⟨b, off + n.toNat * z, none⟩))) : OpS P o ρ S S r :=
  .value fun g w a hI hv => by
    obtain ⟨b, off, m, cap, hu, hn, h1⟩ := hr g w _ hI (hv x (by simp [ho, Op.operands]))
    have k2 := (hy ▸ hv y (by simp [ho, Op.operands])).v_eq
    refine ⟨_, ?_, h1⟩
    simp only [execOp, ho, hu, k2, Sem.run_bind, run_indexAt_slice (P := P) w T ⟨b, off, none⟩ m cap k n (by simp [Program.elem, hT]), if_pos hn]
    simp only [Program.elem, hT, hE.run w, Result.andThen_ok, Addr.add_lit, Sem.run_pure]

/-! ### memory -/
/-- A row of cells that lies somewhere. -/
theorem row_part {g : G} {w : World} {b off n : Nat} {cur : Array Value} {ty : TypeId} {cs : List A} (k2 : w.heap[b]? = some (.cells cur ty (0, 0))) (k3 : Vs g cs (cur.toList.take cs.length)) (hn : off + n ≤ cs.length) :
    ∃ us : List Value, Vs g ((cs.drop off).take n) us ∧ us.length = n ∧ ∀ j x, us[j]? = some x → w.cell? ((⟨b, off, none⟩ : Addr).add j) = some x := by
  have h1 := k3.part off n
  have hl := h1.1
  have hl0 := k3.1
  simp only [List.length_take, List.length_drop, Array.length_toList] at hl hl0
  generalize hus : ((cur.toList.take cs.length).drop off).take n = us at h1
  refine ⟨us, h1, by have := h1.1; simp at this; omega, fun j x hj => ?_⟩
  rw [Addr.add_lit, cell_of_row w b _ cur ty _ k2]
  rw [← hus, List.getElem?_take] at hj
  split at hj
  · rw [List.getElem?_drop, List.getElem?_take] at hj
    split at hj
    · simpa using hj
    · cases hj
  · cases hj
theorem load_cells {g : G} {w : World} {b off n : Nat} {cur : Array Value} {ty : TypeId} {cs : List A} (k2 : w.heap[b]? = some (.cells cur ty (0, 0))) (k3 : Vs g cs (cur.toList.take cs.length)) (hn : off + n ≤ cs.length) :
    ∃ us : List Value, (loadCells ⟨b, off, none⟩ n).run P w = .ok us.toArray w ∧ Vs g ((cs.drop off).take n) us ∧ us.length = n ∧ ∀ j x, us[j]? = some x → w.cell? ((⟨b, off, none⟩ : Addr).add j) = some x := by
  obtain ⟨us, h1, h2, h3⟩ := row_part k2 k3 hn
  have := run_loadCells_list (P := P) w ⟨b, off, none⟩ us h3
  rw [h2] at this
  exact ⟨us, this, h1, h2, h3⟩
theorem opV_load {T : TypeId} {d : TypeDesc} {x : Operand} {p off : Nat} {cs : List A} {q : A} (ho : o.op = .load T x) (hT : P.underlying T = some d) (hd : aggT d = false) (hx : Pl (ρ x) = some (p, off))
    (hp : S.ob p = some (.cells cs)) (hq : cs[off]? = some q) : OpV P o ρ S q :=
  fun g w a hI hv => by
    obtain ⟨b', s, h, hu⟩ := (hv x (by simp [ho, Op.operands])).pl hx
    rcases hI.cells p cs hp with ⟨k1, _⟩ | ⟨b, t, k1, cur, ty, k2, k2', k3⟩
    · rw [k1] at h; cases h
    rw [k1] at h; simp at h
    obtain ⟨rfl, _⟩ := h
    have hlt : off < cs.length := (List.getElem?_eq_some_iff.1 hq).1
    have hl := k3.1
    simp only [List.length_take, Array.length_toList] at hl
    have hc : w.cell? ⟨b, off, none⟩ = some cur[off] := by rw [cell_of_row w b off cur ty _ k2]; simp [show off < cur.size by omega]
    have := k3.2 off q cur[off] hq (by rw [List.getElem?_take, if_pos hlt]; simp [show off < cur.size by omega])
    exact ⟨cur[off], by simp [execOp, ho, hu, Instr.loadAt, Instr.sureAddr, loadVar, run_isAgg hT, hd, hc], this.1⟩
theorem Vs.agg {g : G} {cs : List A} {us : List Value} (h : Vs g cs us) : V g (.agg cs) (.agg us.toArray) :=
  .agg _ _ (by simpa using h.1) (by simpa using h.one) (fun i c x e1 e2 => (h.2 i c x e1 (by simpa using e2)).1)
theorem opV_load_agg {T : TypeId} {d : TypeDesc} {x : Operand} {p off n : Nat} {cs : List A} (ho : o.op = .load T x) (hT : P.underlying T = some d) (hd : aggT d = true) (hs : SizeIs P T n) (hx : Pl (ρ x) = some (p, off))
    (hp : S.ob p = some (.cells cs)) (hn : off + n ≤ cs.length) : OpV P o ρ S (.agg ((cs.drop off).take n)) :=
  fun g w a hI hv => by
    obtain ⟨b', s, h, hu⟩ := (hv x (by simp [ho, Op.operands])).pl hx
    rcases hI.cells p cs hp with ⟨k1, _⟩ | ⟨b, t, k1, cur, ty, k2, k2', k3⟩
    · rw [k1] at h; cases h
    rw [k1] at h; simp at h
    obtain ⟨rfl, _⟩ := h
    obtain ⟨us, h1, h2, _⟩ := load_cells (P := P) k2 k3 hn
    exact ⟨.agg us.toArray, by simp [execOp, ho, hu, Instr.loadAt, Instr.sureAddr, loadVar, run_isAgg hT, hd, hs.run w, h1], h2.agg⟩
/-- Memory that stays, read. -/
theorem V.dp_at {g : G} {S : Hp} {w : World} (hI : Inv g S w) {t : Ty} {x : t.T} {v : Value} (hd : t.data = true) (h : V g (.dp t x) v) : ∃ b off us, v = .pointer (some ⟨b, off, none⟩) ∧ Vs g (encA t x) us ∧ us.length = t.size ∧ ∀ j y, us[j]? = some y → w.cell? ((⟨b, off, none⟩ : Addr).add j) = some y := by
  cases h with
  | dp _ _ b off f hm =>
    have hl := encD_len t x
    refine ⟨b, off, (List.range t.size).map f, rfl, VDs.cells t x _ hd ⟨by simp [hl], fun j c y e1 e2 => ?_⟩, by simp, fun j y e => ?_⟩
    · have := (hm j c e1).2
      simp only [List.getElem?_map, Option.map_eq_some_iff] at e2
      obtain ⟨k, hk, rfl⟩ := e2
      have hj : j < t.size := by rw [← hl]; exact (List.getElem?_eq_some_iff.1 e1).1
      rw [List.getElem?_range hj] at hk
      obtain rfl := Option.some.inj hk
      exact this
    · simp only [List.getElem?_map, Option.map_eq_some_iff] at e
      obtain ⟨k, hk, rfl⟩ := e
      have hj : j < t.size := by
        rcases Nat.lt_or_ge j t.size with h | h
        · exact h
        · rw [List.getElem?_eq_none (by simpa using h)] at hk; cases hk
      rw [List.getElem?_range hj] at hk
      obtain rfl := Option.some.inj hk
      have hc : (encD t x)[j]? = some ((encD t x)[j]'(by rw [hl]; exact hj)) := List.getElem?_eq_getElem _
      obtain ⟨cur, ty, fz, q1, q2⟩ := hI.mem _ _ _ (hm j _ hc).1
      rw [Addr.add_lit, cell_of_row w b _ cur ty _ q1]; exact q2
theorem opV_load_dp {T : TypeId} {d : TypeDesc} {x : Operand} {t : Ty} {y : t.T} {r : A} (ho : o.op = .load T x) (hT : P.underlying T = some d) (hs : SizeIs P T t.size) (hx : ρ x = .dp t y) (hd : t.data = true) (hr : if aggT d = true then r = .agg (encA t y) else encA t y = [r]) : OpV P o ρ S r :=
  fun g w a hI hv => by
    obtain ⟨b, off, us, hu, h1, h2, h3⟩ := V.dp_at hI hd (hx ▸ hv x (by simp [ho, Op.operands]))
    cases ha : aggT d with
    | true =>
      rw [ha, if_pos rfl] at hr; subst hr
      have := run_loadCells_list (P := P) w ⟨b, off, none⟩ us h3
      rw [h2] at this
      exact ⟨.agg us.toArray, by simp [execOp, ho, hu, Instr.loadAt, Instr.sureAddr, loadVar, run_isAgg hT, ha, hs.run w, this], h1.agg⟩
    | false =>
      rw [ha, if_neg (by simp)] at hr
      rw [hr] at h1
      match us, h1 with
      | [u], h1 =>
        have := h3 0 u rfl
        rw [Addr.add_lit, Nat.add_zero] at this
        exact ⟨u, by simp [execOp, ho, hu, Instr.loadAt, Instr.sureAddr, loadVar, run_isAgg hT, ha, this], (h1.2 0 r u rfl rfl).1⟩
      | [], h1 => exact absurd h1.1 (by simp)
      | _ :: _ :: _, h1 => exact absurd h1.1 (by simp)
def put (cs : List A) (off : Nat) (ps : List A) : List A := cs.take off ++ (ps ++ cs.drop (off + ps.length))
theorem put_len {cs ps : List A} {off : Nat} (h : off + ps.length ≤ cs.length) : (put cs off ps).length = cs.length := by simp [put]; omega
theorem Vs.put {g : G} {cs ps : List A} {vs us : List Value} (h : Vs g cs vs) (k : Vs g ps us) {off : Nat} (ho : off + ps.length ≤ cs.length) : Vs g (put cs off ps) (vs.take off ++ (us ++ vs.drop (off + us.length))) := by
  unfold Bm.put
  have h1 := h.part 0 off
  have h2 := h.part (off + ps.length) (cs.length - (off + ps.length))
  simp only [List.drop_zero] at h1
  refine h1.append (k.append ?_)
  have e1 : (cs.drop (off + ps.length)).take (cs.length - (off + ps.length)) = cs.drop (off + ps.length) := List.take_of_length_le (by simp)
  have e2 : (vs.drop (off + ps.length)).take (cs.length - (off + ps.length)) = vs.drop (off + us.length) := by rw [k.1]; exact List.take_of_length_le (by rw [List.length_drop, h.1]; omega)
  rwa [e1, e2] at h2
/-- A place is written. -/
theorem Inv.store {g : G} {S : Hp} {w : World} (h : Inv g S w) {p b off : Nat} {s : Nat × Nat} {cs ps : List A} {us : List Value} (hp : S.ob p = some (.cells cs)) (hg : g.at' p = some (some b, s)) (hv : Vs g ps us) (hn : off + ps.length ≤ cs.length) :
    ∃ cur ty, w.heap[b]? = some (.cells cur ty (0, 0)) ∧ off + us.length ≤ cur.size ∧ Inv g (S.set p (.cells (put cs off ps))) (w.setRow b (cur.toList.take off ++ us ++ cur.toList.drop (off + us.length)).toArray) ∧
      Ext S g w (S.set p (.cells (put cs off ps))) g (w.setRow b (cur.toList.take off ++ us ++ cur.toList.drop (off + us.length)).toArray) := by
  rcases h.cells p cs hp with ⟨k1, _⟩ | ⟨b', t, k1, cur, ty, k2, k2', k3⟩
  · rw [k1] at hg; cases hg
  have hg0 := hg
  rw [k1] at hg; simp at hg
  obtain ⟨rfl, rfl⟩ := hg
  have hl := k3.1
  simp only [List.length_take, Array.length_toList] at hl
  have hul := hv.1
  obtain ⟨h1, h2⟩ := h.write (w' := w.setRow b' (cur.toList.take off ++ us ++ cur.toList.drop (off + us.length)).toArray) (y := .cells (put cs off ps)) hp k1 (size_setRow ..) (fun k hk => setRow_other w b' k _ hk) rfl rfl rfl
    ⟨(put_len hn).symm, _, ty, setRow_heap w b' cur _ ty _ k2, by simp; omega, by
      rw [put_len hn]
      have := k3.put hv hn
      have e : ((cur.toList.take off ++ us ++ cur.toList.drop (off + us.length)).toArray.toList).take cs.length = (cur.toList.take cs.length).take off ++ (us ++ (cur.toList.take cs.length).drop (off + us.length)) := by
        apply List.ext_getElem?
        intro j
        have hl2 : cur.toList.length = cur.size := Array.length_toList
        simp only [List.append_assoc, List.getElem?_take, List.getElem?_append, List.length_take, List.getElem?_drop]
        have m1 : min off cur.toList.length = off := by omega
        have m2 : min off (min cs.length cur.toList.length) = off := by omega
        rw [m1, m2]
        by_cases c1 : j < off
        · simp [c1, show j < cs.length by omega]
        · by_cases c2 : j - off < us.length
          · simp [c1, c2, show j < cs.length by omega]
          · simp only [c1, c2, if_false, show off + us.length + (j - off - us.length) = j by omega]
      rw [e]; exact this⟩
  exact ⟨cur, ty, k2, by omega, h1, h2⟩
theorem opS_store {T : TypeId} {x y : Operand} {p off n : Nat} {cs ps : List A} (ho : o.op = .store T x y) (hs : SizeIs P T n) (hx : Pl (ρ x) = some (p, off)) (hy : (ρ y).cells = some ps) (hl : ps.length = n)
    (hp : S.ob p = some (.cells cs)) (hn : off + n ≤ cs.length) : OpS P o ρ S (S.set p (.cells (put cs off ps))) .junk := by
  intro g w a next Q hI hv K
  obtain ⟨b, s, h, hu⟩ := (hv x (by simp [ho, Op.operands])).pl hx
  have e2 := (hv y (by simp [ho, Op.operands])).cells hy
  obtain ⟨cur, ty, k2, k2', h3, h4⟩ := hI.store (off := off) hp h e2 (by omega)
  unfold Oper.wp
  have hsz : (a.eval y).cells.size = n := by have := e2.1; simp at this; omega
  have hst := run_storeCells_at P b off ty (a.eval y).cells.toList 0 cur w k2 (by simpa using k2') e2.one
  simp only [execOp, ho, hu, Instr.storeAt, Instr.sureAddr, pure_bind, storeVar, Sem.run_bind, hs.run w, Result.andThen_ok, hsz, ne_eq, not_true_eq_false, if_false]
  simp only [Nat.add_zero] at hst
  simp only [hst, Result.andThen_ok, Sem.run_pure]
  exact K _ g _ (.junk _) h3 h4
theorem Vs.all {g : G} {cs : List A} {vs : Array Value} (h : Vs g cs vs.toList) : Vs g cs (vs.toList.take cs.length) := by
  rw [List.take_of_length_le (by rw [h.1]; exact Nat.le_refl _)]; exact h
theorem Inv.allocs {g : G} {S : Hp} {w : World} (h : Inv g S w) {q : Nat} (hf : S.fr q) {cs : List A} {vs : Array Value} (ty : TypeId) (hl : cs.length ≤ vs.size) (hv : Vs g cs (vs.toList.take cs.length)) :
    Inv (gput g q (some w.heap.size, (cs.length, vs.size))) (S.new q (.cells cs)) (w.alloc (.cells vs ty)) ∧ Ext S g w (S.new q (.cells cs)) (gput g q (some w.heap.size, (cs.length, vs.size))) (w.alloc (.cells vs ty)) :=
  h.alloc hf ⟨rfl, vs, ty, heap_alloc_new w _, rfl, hv.mono (gput_le (h.fresh q hf))⟩
theorem opS_alloc {T : TypeId} {i : TypeInfo} {z : Value} {q : Nat} (ho : o.op = .alloc T) (hi : P.info? T = some i) (hz : i.zero = some z) (hz1 : (z.cells.toList.all (·.oneCell')) = true) (hf : S.fr q) :
    OpS P o ρ S (S.new q (.cells (zeros z))) (.ptr q 0) := by
  intro g w a next Q hI hv K
  have hzs := zeros_ok hz1 g
  obtain ⟨h1, h2⟩ := hI.allocs hf (cs := zeros z) (vs := z.cells) T (by have := hzs.1; simp at this ⊢; omega) hzs.all
  unfold Oper.wp
  simp only [execOp, ho, Instr.alloc, Sem.run_bind, zeroValue, typeInfo, run_program, Result.andThen_ok, hi, hz, Sem.run_pure, newVar, newRow, run_newObj]
  exact K _ _ _ (.ptr _ _ w.heap.size _ gput_at) h1 h2
theorem opS_box {T : TypeId} {x : Operand} {ps : List A} {q : Nat} (ho : o.op = .box T x) (hx : (ρ x).cells = some ps) (hf : S.fr q) : OpS P o ρ S (S.new q (.cells ps)) (.ptr q 0) := by
  intro g w a next Q hI hv K
  have e2 := (hv x (by simp [ho, Op.operands])).cells hx
  obtain ⟨h1, h2⟩ := hI.allocs hf (cs := ps) (vs := (a.eval x).cells) T (by have := e2.1; simp at this ⊢; omega) e2.all
  unfold Oper.wp
  simp only [execOp, ho, Instr.box, Sem.run_bind, Result.andThen_ok, Sem.run_pure, newVar, newRow, run_newObj]
  exact K _ _ _ (.ptr _ _ w.heap.size _ gput_at) h1 h2
end
end
end Go.Bm
