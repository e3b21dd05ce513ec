/- What each operation does, in the logic of pure values. -/
import Derived.Test.YtopmocpjgjbdbaaPvB
namespace Go.Pv
open Go.RowKit
section
variable {P : Program}

/-- An operation, from what its operands are: it leaves 'pv' and the own variables S'. -/
def OpS (P : Program) (o : Oper) (ρ : Operand → PV) (S S' : Sx) (pv : PV) : Prop :=
  ∀ (g : Gh) (w : World) (a : Act) (next : Act → World → Prop) (Q : Exit → Act → World → Prop), Inv g S w → (∀ x ∈ o.op.operands, V g (ρ x) (a.eval x)) →
   (∀ v g' w', V g' pv v → Inv g' S' w' → Ext g w g' w' → next (a.put o.dst v) w') → o.wp P a w next Q

theorem OpS.value {o : Oper} {ρ : Operand → PV} {S : Sx} {pv : PV}
    (h : ∀ (g : Gh) (w : World) (a : Act), Inv g S w → (∀ x ∈ o.op.operands, V g (ρ x) (a.eval x)) → ∃ v, (execOp a.eval o).run P w = .ok (.value v) w ∧ V g pv v) : OpS P o ρ S S pv := by
  intro g w a next Q hI hx K
  obtain ⟨v, hr, hv⟩ := h g w a hI hx
  unfold Oper.wp
  rw [hr]
  exact K v g w hv hI (.refl g w)

variable {o : Oper} {ρ : Operand → PV} {S : Sx}

theorem opS_move {x : Operand} (ho : o.op = .move x) : OpS P o ρ S S (ρ x) :=
  .value fun g w a _ hx => ⟨a.eval x, by simp [execOp, ho], hx x (by simp [ho, Op.operands])⟩
theorem opS_assign {x : Operand} (ho : o.op = .assign x) : OpS P o ρ S S (ρ x) :=
  .value fun g w a _ hx => ⟨a.eval x, by simp [execOp, ho], hx x (by simp [ho, Op.operands])⟩

/-- What two whole numbers come to. -/
def ibin : BinOp → IntKind → Int → Int → Option Value
  | .add, k, a, b => some (.int k (k.wrap (a + b)))
  | .sub, k, a, b => some (.int k (k.wrap (a - b)))
  | .mul, k, a, b => some (.int k (k.wrap (a * b)))
  | .quo, k, a, b => if b = 0 then none else some (.int k (k.wrap (a.tdiv b)))
  | .rem, k, a, b => if b = 0 then none else some (.int k (a.tmod b))
  | .and, k, a, b => some (.int k (bits .and k a b))
  | .or, k, a, b => some (.int k (bits .or k a b))
  | .xor, k, a, b => some (.int k (bits .xor k a b))
  | .eql, _, a, b => some (.bool (decide (a = b)))
  | .neq, _, a, b => some (.bool (!decide (a = b)))
  | .lss, _, a, b => some (.bool (decide (a < b)))
  | .leq, _, a, b => some (.bool (decide (a ≤ b)))
  | .gtr, _, a, b => some (.bool (decide (b < a)))
  | .geq, _, a, b => some (.bool (decide (b ≤ a)))
  | _, _, _, _ => none

theorem run_ibin {op : BinOp} {k : IntKind} {a b : Int} {r : Value} (h : ibin op k a b = some r) (T : TypeId) (w : World) : (binOp op T (.int k a) (.int k b)).run P w = .ok r w := by
  cases op <;> simp only [ibin] at h <;> (try (split at h)) <;> simp at h <;> subst h <;>
    simp_all [binOp, Op.intArith, Op.intDiv, Op.intBits, Op.intCmp, bits, bne] <;> (rw [Bool.eq_iff_iff]; simp)

theorem one_ibin {op : BinOp} {k : IntKind} {a b : Int} {r : Value} (h : ibin op k a b = some r) : r.oneCell' = true := by
  cases op <;> simp only [ibin] at h <;> (try (split at h)) <;> simp at h <;> subst h <;> rfl

theorem opS_bin {op : BinOp} {T T' : TypeId} {x y : Operand} {k : IntKind} {m n : Int} {r : Value} (ho : o.op = .binOp op T x y T') (hx : ρ x = .d (.v (.int k m))) (hy : ρ y = .d (.v (.int k n)))
    (h : ibin op k m n = some r) : OpS P o ρ S S (.d (.v r)) :=
  .value fun g w a _ hv => by
    have e1 := hv x (by simp [ho, Op.operands])
    have e2 := hv y (by simp [ho, Op.operands])
    rw [hx] at e1
    rw [hy] at e2
    refine ⟨r, ?_, .d _ _ (.v _ (one_ibin h))⟩
    simp only [execOp, ho, e1.d_v.1, e2.d_v.1, eqGuard_at_int, pure_bind, Sem.run_bind, run_ibin h, Result.andThen_ok, Sem.run_pure]

/-- Shifts. -/
def ishift : BinOp → IntKind → Int → Int → Option Value
  | .shl, k, a, b => if b < 0 then none else some (.int k (k.wrap (a * 2 ^ (min b.toNat k.bits))))
  | .shr, k, a, b => if b < 0 then none else some (.int k (a.fdiv (2 ^ (min b.toNat k.bits))))
  | _, _, _, _ => none
theorem opS_shift {op : BinOp} {T T' : TypeId} {x y : Operand} {k k' : IntKind} {m n : Int} {r : Value} (ho : o.op = .binOp op T x y T') (hx : ρ x = .d (.v (.int k m))) (hy : ρ y = .d (.v (.int k' n)))
    (h : ishift op k m n = some r) : OpS P o ρ S S (.d (.v r)) :=
  .value fun g w a _ hv => by
    have e1 := hv x (by simp [ho, Op.operands])
    have e2 := hv y (by simp [ho, Op.operands])
    rw [hx] at e1
    rw [hy] at e2
    cases op <;> simp only [ishift] at h <;> (try (split at h)) <;> simp at h
    all_goals
      subst h
      refine ⟨_, ?_, .d _ _ (.v _ rfl)⟩
      have k1 := e1.d_v.1
      have k2 := e2.d_v.1
      clear e1 e2 hv
      simp only [execOp, ho, k1, k2, eqGuard_at_int, pure_bind, Sem.run_bind, binOp, Op.shift]
      rw [if_neg (by assumption)]
      simp

theorem run_equalIn_bool (d : Nat) {T : TypeId} (hT : P.underlying T = some .bool) (m n : Bool) (w : World) : (Op.equalIn (d + 1) T (.bool m) (.bool n)).run P w = .ok (m == n) w := by
  simp [Op.equalIn, run_underlying hT]
theorem run_equal_bool {T : TypeId} (hT : P.underlying T = some .bool) (m n : Bool) (w : World) : (Op.equal T (.bool m) (.bool n)).run P w = .ok (m == n) w :=
  run_equalIn_bool 9999 hT m n w
/-- '==' and '!=' on bools. -/
theorem opS_eqb {op : BinOp} {T T' : TypeId} {x y : Operand} {m n : Bool} (ho : o.op = .binOp op T x y T') (hT : P.underlying T = some .bool) (hx : ρ x = .d (.v (.bool m))) (hy : ρ y = .d (.v (.bool n)))
    (h : op = .eql ∨ op = .neq) : OpS P o ρ S S (.d (.v (.bool (if op = .eql then m == n else m != n)))) :=
  .value fun g w a _ hv => by
    have e1 := hv x (by simp [ho, Op.operands])
    have e2 := hv y (by simp [ho, Op.operands])
    rw [hx] at e1
    rw [hy] at e2
    refine ⟨_, ?_, .d _ _ (.v _ rfl)⟩
    have k1 := e1.d_v.1
    have k2 := e2.d_v.1
    rcases h with rfl | rfl
    · simp only [execOp, ho, k1, k2, eqGuard_at_bool, pure_bind, Sem.run_bind, binOp, run_equal_bool hT, Result.andThen_ok, Sem.run_pure, if_true]
    · simp only [execOp, ho, k1, k2, eqGuard_at_bool, pure_bind, Sem.run_bind, binOp, run_equal_bool hT, Result.andThen_ok, Sem.run_pure]
      simp [bne]

theorem opS_not {T : TypeId} {x : Operand} {b : Bool} (ho : o.op = .unOp .not T x) (hx : ρ x = .d (.v (.bool b))) : OpS P o ρ S S (.d (.v (.bool (!b)))) :=
  .value fun g w a _ hv => by
    have e1 := hv x (by simp [ho, Op.operands])
    rw [hx] at e1
    exact ⟨_, by simp [execOp, ho, e1.d_v.1, Op.unary], .d _ _ (.v _ rfl)⟩

theorem opS_conv {s t : TypeId} {x : Operand} {k k' : IntKind} {n : Int} (ho : o.op = .convert s t x) (hs : (P.underlying s).isSome = true) (ht : P.underlying t = some (.int k')) (hx : ρ x = .d (.v (.int k n))) :
    OpS P o ρ S S (.d (.v (.int k' (k'.wrap n)))) :=
  .value fun g w a _ hv => by
    have e1 := hv x (by simp [ho, Op.operands])
    rw [hx] at e1
    obtain ⟨d, hd⟩ := Option.isSome_iff_exists.mp hs
    exact ⟨_, by simp [execOp, ho, e1.d_v.1, convert, run_underlying hd, run_underlying ht, Conv.intToInt], .d _ _ (.v _ rfl)⟩

theorem opS_extract {x : Operand} {ix : Nat} {cs : List PV} {p : PV} (ho : o.op = .extract x ix) (hx : ρ x = .tup cs) (hp : cs[ix]? = some p) : OpS P o ρ S S p :=
  .value fun g w a _ hv => by
    have e1 := hv x (by simp [ho, Op.operands])
    rw [hx] at e1
    generalize hu : a.eval x = u at e1
    cases e1 with
    | tup _ vs hl h =>
      have hlt : ix < vs.size := by rw [← hl]; exact (List.getElem?_eq_some_iff.1 hp).1
      exact ⟨vs[ix], by simp [execOp, ho, hu, Instr.extract, hlt], h ix p vs[ix] hp (by simp [hlt])⟩

theorem opS_pick {x y z : Operand} {b : Bool} (ho : o.op = .pick x y z) (hx : ρ x = .d (.v (.bool b))) : OpS P o ρ S S (if b then ρ y else ρ z) :=
  .value fun g w a _ hv => by
    have e1 := hv x (by simp [ho, Op.operands])
    rw [hx] at e1
    refine ⟨if b then a.eval y else a.eval z, by simp [execOp, ho, e1.d_v.1, asBool], ?_⟩
    cases b
    · exact hv z (by simp [ho, Op.operands])
    · exact hv y (by simp [ho, Op.operands])
/-- A type's size. -/
def SizeIs (P : Program) (t : TypeId) (n : Nat) : Prop := ∃ i, P.info? t = some i ∧ i.size = n
theorem sizeIs_of {t : TypeId} {n : Nat} (h : (P.info? t).map (·.size) = some n) : SizeIs P t n := by
  cases hi : P.info? t with
  | none => simp [hi] at h
  | some i => exact ⟨i, hi, by simpa [hi] using h⟩
theorem SizeIs.run {t : TypeId} {n : Nat} (h : SizeIs P t n) (w : World) : (sizeOf t).run P w = .ok n w := by
  obtain ⟨i, hi, rfl⟩ := h
  simp [sizeOf, typeInfo, hi]
/-- Is a value of the type one of several cells? -/
def aggT : TypeDesc → Bool
  | .struct _ | .array _ _ => true
  | _ => false
theorem run_isAgg {t : TypeId} {d : TypeDesc} (h : P.underlying t = some d) (w : World) : (isAgg t).run P w = .ok (aggT d) w := by
  simp only [isAgg, Sem.run_bind, run_underlying h, Result.andThen_ok]
  cases d <;> rfl

/-- The elements of a slice. -/
def PV.els : PV → Option (Nat × List (List D))
  | .d (.sl sz _ es) => some (sz, es)
  | .app _ sz es => some (sz, es)
  | _ => none
theorem VD.unfull {M : Mem} {sz : Nat} {full : Bool} {es : List (List D)} {v : Value} (h : VD M (.sl sz full es) v) : VD M (.sl sz false es) v := by
  cases h with
  | sl _ _ _ a cap vs hz hc hf hn hx hl hm hv => exact .sl sz false es a cap vs hz hc (fun h => by cases h) hn hx hl hm hv
  | sl0 _ A => exact .sl0 sz A
theorem V.els {g : Gh} {p : PV} {v : Value} {sz : Nat} {es : List (List D)} (h : V g p v) (he : p.els = some (sz, es)) : VD g.mem (.sl sz false es) v := by
  cases h <;> (try (cases he))
  case d x h =>
    cases x <;> (try (cases he))
    exact h.unfull
  case app => assumption

theorem opS_len {T : TypeId} {x : Operand} {sz : Nat} {es : List (List D)} {E : TypeId} (ho : o.op = .call { callee := .builtin .len, args := #[x], argTypes := #[T] }) (hT : P.underlying T = some (.slice E))
    (hx : (ρ x).els = some (sz, es)) : OpS P o ρ S S (.d (.v (.int .i64 es.length))) :=
  .value fun g w a _ hv => by
    have e1 := (hv x (by simp [ho, Op.operands, Call.operands])).els hx
    generalize hu : a.eval x = u at e1
    cases e1 with
    | sl _ _ _ a' cap vs hz hc hf hn hx hl hm hv => exact ⟨_, by simp [execOp, ho, resolve, invoke, builtin, hu, Builtin.len_, run_underlying hT, goInt], .d _ _ (.v _ rfl)⟩
    | sl0 _ A => exact ⟨_, by simp [execOp, ho, resolve, invoke, builtin, hu, Builtin.len_, run_underlying hT, goInt], .d _ _ (.v _ rfl)⟩

theorem flat_get {α : Type} {sz : Nat} : ∀ {es : List (List α)} (_ : ∀ e, e ∈ es → e.length = sz) {i j : Nat} {e : List α} {c : α}, es[i]? = some e → e[j]? = some c → es.flatten[i * sz + j]? = some c
  | [], _, i, j, e, c, h1, _ => by simp at h1
  | d :: es, hz, 0, j, e, c, h1, h2 => by
    simp at h1
    subst h1
    rw [List.flatten_cons, Nat.zero_mul, Nat.zero_add, List.getElem?_append_left (List.getElem?_eq_some_iff.1 h2).1]
    exact h2
  | d :: es, hz, i + 1, j, e, c, h1, h2 => by
    have hd := hz d (List.mem_cons_self ..)
    rw [List.flatten_cons, List.getElem?_append_right (by rw [hd, Nat.add_mul]; omega)]
    rw [show (i + 1) * sz + j - d.length = i * sz + j from by rw [hd, Nat.add_mul]; omega]
    exact flat_get (fun e he => hz e (List.mem_cons_of_mem _ he)) (by simpa using h1) h2
theorem flat_len {α : Type} {sz : Nat} : ∀ {es : List (List α)}, (∀ e, e ∈ es → e.length = sz) → es.flatten.length = es.length * sz
  | [], _ => by simp
  | d :: es, hz => by
    rw [List.flatten_cons, List.length_append, hz d (List.mem_cons_self ..), flat_len (fun e he => hz e (List.mem_cons_of_mem _ he)), List.length_cons, Nat.add_mul]
    omega

theorem add_adr (p : Nat × Nat) (n : Nat) : (adr p).add n = ⟨p.1, p.2 + n, none⟩ := Addr.add_lit _ _ _

theorem opS_index {T E : TypeId} {x y : Operand} {sz : Nat} {es : List (List D)} {k : IntKind} {n : Int} {e : List D} (ho : o.op = .indexAddr T x y) (hT : P.underlying T = some (.slice E)) (hE : SizeIs P E sz)
    (hx : (ρ x).els = some (sz, es)) (hy : ρ y = .d (.v (.int k n))) (hn : 0 ≤ n) (he : es[n.toNat]? = some e) : OpS P o ρ S S (.rp e) :=
  .value fun g w a _ hv => by
    have e1 := (hv x (by simp [ho, Op.operands])).els hx
    have e2 := hv y (by simp [ho, Op.operands])
    rw [hy] at e2
    have k2 := e2.d_v.1
    have hlt : n.toNat < es.length := (List.getElem?_eq_some_iff.1 he).1
    generalize hu : a.eval x = u at e1
    cases e1 with
    | sl0 _ A => simp at hlt
    | sl _ _ _ a' cap vs hz hc hf hnn hx hl hm hv =>
      cases a' with
      | none => have := hnn rfl; omega
      | some p =>
        have key : ∀ (j : Nat) (c : D), e[j]? = some c → ∃ x, vs[n.toNat * sz + j]? = some x ∧ es.flatten[n.toNat * sz + j]? = some c := fun j c hj => by
          have h1 := flat_get hz he hj
          have h2 : n.toNat * sz + j < vs.length := by rw [← hl]; exact (List.getElem?_eq_some_iff.1 h1).1
          exact ⟨_, List.getElem?_eq_getElem h2, h1⟩
        refine ⟨.pointer (some ⟨p.1, p.2 + n.toNat * sz, none⟩), ?_, .rp e _ _ (fun j => vs.getD (n.toNat * sz + j) undef) (fun j c hj => ?_) (fun j c hj => ?_)⟩
        · simp only [execOp, ho, hu, k2, Sem.run_bind, Option.map_some, run_indexAt_slice (P := P) w T (adr p) es.length cap k n (by simp [Program.elem, hT]), if_pos (show 0 ≤ n ∧ n < (es.length : Int) by omega)]
          simp only [Program.elem, hT, hE.run w, Result.andThen_ok, add_adr, Sem.run_pure]
        · obtain ⟨x, h1, _⟩ := key j c hj
          rw [Nat.add_assoc, hm p _ x rfl h1]
          simp [List.getD, h1]
        · obtain ⟨x, h1, h2⟩ := key j c hj
          have := hv _ c x h2 h1
          simpa [List.getD, h1] using this

theorem opS_index_arr_ptr {T E : TypeId} {x y : Operand} {len sz b off : Nat} {k : IntKind} {n : Int} (ho : o.op = .indexAddr T x y) (hT : P.underlying T = some (.array len E)) (hE : SizeIs P E sz)
    (hx : ρ x = .ptr b off) (hy : ρ y = .d (.v (.int k n))) (hn : 0 ≤ n ∧ n < len) : OpS P o ρ S S (.ptr b (off + n.toNat * sz)) :=
  .value fun g w a _ hv => by
    have e1 := hv x (by simp [ho, Op.operands])
    rw [hx] at e1
    have e2 := hv y (by simp [ho, Op.operands])
    rw [hy] at e2
    have k2 := e2.d_v.1
    generalize hu : a.eval x = u at e1
    cases e1 with
    | ptr _ _ blk h hg =>
      refine ⟨.pointer (some ⟨blk, off + n.toNat * sz, none⟩), ?_, .ptr _ _ blk h hg⟩
      simp only [execOp, ho, hu, k2, Sem.run_bind, run_indexAt_array (P := P) w T ⟨blk, off, none⟩ k n (by simp [Program.elem, Program.arrayLen, hT])]
      simp only [Program.elem, Program.arrayLen, hT, if_pos hn, hE.run w, Result.andThen_ok, Addr.add_lit, Sem.run_pure]

theorem opS_index_arr_rp {T E : TypeId} {x y : Operand} {len sz : Nat} {cs : List D} {k : IntKind} {n : Int} (ho : o.op = .indexAddr T x y) (hT : P.underlying T = some (.array len E)) (hE : SizeIs P E sz)
    (hx : ρ x = .rp cs) (hy : ρ y = .d (.v (.int k n))) (hn : 0 ≤ n ∧ n < len) : OpS P o ρ S S (.rp (cs.drop (n.toNat * sz))) :=
  .value fun g w a _ hv => by
    have e1 := hv x (by simp [ho, Op.operands])
    rw [hx] at e1
    have e2 := hv y (by simp [ho, Op.operands])
    rw [hy] at e2
    have k2 := e2.d_v.1
    generalize hu : a.eval x = u at e1
    cases e1 with
    | rp _ blk off f h1 h2 =>
      refine ⟨.pointer (some ⟨blk, off + n.toNat * sz, none⟩), ?_, .rp _ blk _ (fun j => f (n.toNat * sz + j)) (fun j c hj => ?_) (fun j c hj => ?_)⟩
      · simp only [execOp, ho, hu, k2, Sem.run_bind, run_indexAt_array (P := P) w T ⟨blk, off, none⟩ k n (by simp [Program.elem, Program.arrayLen, hT])]
        simp only [Program.elem, Program.arrayLen, hT, if_pos hn, hE.run w, Result.andThen_ok, Addr.add_lit, Sem.run_pure]
      · rw [List.getElem?_drop] at hj; rw [Nat.add_assoc]; exact h1 _ c hj
      · rw [List.getElem?_drop] at hj; exact h2 _ c hj

theorem run_fieldAt {T : TypeId} {fs : Array Field} {f : Nat} {fd : Field} {s : Nat} (hT : P.underlying T = some (.struct fs)) (hf : fs[f]? = some fd) (hs : SizeIs P fd.type s) (h0 : s ≠ 0) (b off : Nat) (w : World) :
    (Instr.fieldAt T (.pointer (some ⟨b, off, none⟩)) f).run P w = .ok (.pointer (some ⟨b, off + fd.offset, none⟩)) w := by
  simp [Instr.fieldAt, run_underlying hT, hf, Instr.sureAddr, fieldPlace, hs.run w, h0, Addr.add_lit]

theorem opS_field_ptr {T : TypeId} {fs : Array Field} {f b off s : Nat} {fd : Field} {x : Operand} (ho : o.op = .fieldAddr T x f) (hT : P.underlying T = some (.struct fs)) (hf : fs[f]? = some fd) (hs : SizeIs P fd.type s) (h0 : s ≠ 0)
    (hx : ρ x = .ptr b off) : OpS P o ρ S S (.ptr b (off + fd.offset)) :=
  .value fun g w a _ hv => by
    have e1 := hv x (by simp [ho, Op.operands])
    rw [hx] at e1
    generalize hu : a.eval x = u at e1
    cases e1 with
    | ptr _ _ blk h hg => exact ⟨_, by simp only [execOp, ho, hu, Sem.run_bind, run_fieldAt hT hf hs h0, Result.andThen_ok, Sem.run_pure], .ptr _ _ blk h hg⟩
theorem opS_field_rp {T : TypeId} {fs : Array Field} {f s : Nat} {cs : List D} {fd : Field} {x : Operand} (ho : o.op = .fieldAddr T x f) (hT : P.underlying T = some (.struct fs)) (hf : fs[f]? = some fd) (hs : SizeIs P fd.type s) (h0 : s ≠ 0)
    (hx : ρ x = .rp cs) : OpS P o ρ S S (.rp (cs.drop fd.offset)) :=
  .value fun g w a _ hv => by
    have e1 := hv x (by simp [ho, Op.operands])
    rw [hx] at e1
    generalize hu : a.eval x = u at e1
    cases e1 with
    | rp _ blk off f' h1 h2 =>
      refine ⟨.pointer (some ⟨blk, off + fd.offset, none⟩), by simp only [execOp, ho, hu, Sem.run_bind, run_fieldAt hT hf hs h0, Result.andThen_ok, Sem.run_pure], .rp _ blk _ (fun j => f' (fd.offset + j)) (fun j c hj => ?_) (fun j c hj => ?_)⟩
      · rw [List.getElem?_drop] at hj; rw [Nat.add_assoc]; exact h1 _ c hj
      · rw [List.getElem?_drop] at hj; exact h2 _ c hj

theorem opS_nilCheck {x : Operand} (ho : o.op = .nilCheck x) (hx : (∃ b off, ρ x = .ptr b off) ∨ (∃ cs, ρ x = .rp cs) ∨ ∃ b N off, ρ x = .vp b N off) : OpS P o ρ S S (ρ x) :=
  .value fun g w a _ hv => by
    have e1 := hv x (by simp [ho, Op.operands])
    refine ⟨a.eval x, ?_, e1⟩
    rcases hx with ⟨b, off, hx⟩ | ⟨cs, hx⟩ | ⟨b, N, off, hx⟩ <;> rw [hx] at e1 <;> generalize hu : a.eval x = u at e1 <;> cases e1 <;> simp [execOp, ho, hu]

/-- A cell of memory that stays is read. -/
theorem opS_load_rp {T : TypeId} {d : TypeDesc} {x : Operand} {c : D} {cs : List D} (ho : o.op = .load T x) (hT : P.underlying T = some d) (hd : aggT d = false) (hx : ρ x = .rp (c :: cs)) : OpS P o ρ S S (.d c) :=
  .value fun g w a hI hv => by
    have e1 := hv x (by simp [ho, Op.operands])
    rw [hx] at e1
    generalize hu : a.eval x = u at e1
    cases e1 with
    | rp _ blk off f h1 h2 =>
      have hc := hI.mem blk (off + 0) (f 0) (h1 0 c rfl)
      exact ⟨f 0, by simp [execOp, ho, hu, Instr.loadAt, Instr.sureAddr, loadVar, run_isAgg hT, hd, show w.cell? ⟨blk, off, none⟩ = some (f 0) from hc], .d _ _ (h2 0 c rfl)⟩

theorem opS_load_rp_agg {T : TypeId} {d : TypeDesc} {x : Operand} {n : Nat} {cs : List D} (ho : o.op = .load T x) (hT : P.underlying T = some d) (hd : aggT d = true) (hs : SizeIs P T n) (hx : ρ x = .rp cs) (hn : n ≤ cs.length) :
    OpS P o ρ S S (.d (.agg (cs.take n))) :=
  .value fun g w a hI hv => by
    have e1 := hv x (by simp [ho, Op.operands])
    rw [hx] at e1
    generalize hu : a.eval x = u at e1
    cases e1 with
    | rp _ blk off f h1 h2 =>
      have hc : ∀ j, j < n → w.cell? ⟨blk, off + j, none⟩ = some (f j) := fun j hj => hI.mem blk _ _ (h1 j (cs[j]'(by omega)) (List.getElem?_eq_getElem (by omega)))
      have h3 : ∀ j, j < n → (f j).oneCell' = true := fun j hj => hI.one blk (off + j) _ (h1 j (cs[j]'(by omega)) (List.getElem?_eq_getElem (by omega)))
      have hl : (loadCells ⟨blk, off, none⟩ n).run P w = .ok ((List.range n).map f).toArray w := by
        have := run_loadCells_list (P := P) w ⟨blk, off, none⟩ ((List.range n).map f) (fun j v hj => by
          rw [Addr.add_lit]
          simp only [List.getElem?_map, Option.map_eq_some_iff] at hj
          obtain ⟨k, hk, rfl⟩ := hj
          rw [List.getElem?_eq_some_iff] at hk
          obtain ⟨hk1, hk2⟩ := hk
          simp at hk1 hk2
          subst hk2
          exact hc j hk1)
        simpa using this
      refine ⟨.agg ((List.range n).map f).toArray, by simp [execOp, ho, hu, Instr.loadAt, Instr.sureAddr, loadVar, run_isAgg hT, hd, hs.run w, hl], .d _ _ (.agg _ _ (by simp; omega) ?_ ?_)⟩
      · intro v hm
        simp at hm
        obtain ⟨j, hj, rfl⟩ := hm
        exact h3 j hj
      · intro i c x h4 h5
        rw [List.getElem?_take] at h4
        split at h4
        · rename_i hi
          simp [hi] at h5
          subst h5
          exact h2 i c h4
        · cases h4
end
end Go.Pv
