/- Facts about the language's operations. Nothing of a program stands here. -/
import Derived.Test.YtihiooaimdoapaaGreatBmB
import Derived.Great.BuildSlice
import Derived.Great.FillDense
import Derived.Deep.Slices
import Derived.Deep.OwnRows
import Derived.Laws.CopyRow
import Derived.Laws.IdiomCopy
import Derived.Laws.MakeOwn
import Derived.Laws.StructEq
import Derived.Carry
set_option linter.unusedVariables false
set_option linter.unusedSimpArgs false
namespace Go.Bm
noncomputable section
open Go.RowKit
section
variable {P : Program}
theorem flat_len {α : Type} {sz : Nat} : ∀ {es : List (List α)}, (∀ e, e ∈ es → e.length = sz) → es.flatten.length = es.length * sz
  | [], _ => by simp
  | d :: es, hz => by
    rw [List.flatten_cons, List.length_append, hz d (List.mem_cons_self ..), flat_len (fun e he => hz e (List.mem_cons_of_mem _ he)), List.length_cons, Nat.add_mul]
    omega
theorem flat_get {α : Type} {sz : Nat} : ∀ {es : List (List α)} (_ : ∀ e, e ∈ es → e.length = sz) {i j : Nat} {e : List α} {c : α}, es[i]? = some e → e[j]? = some c → es.flatten[i * sz + j]? = some c
  | [], _, i, j, e, c, h1, _ => by simp at h1
  | d :: es, hz, 0, j, e, c, h1, h2 => by
    simp at h1
    subst h1
    rw [List.flatten_cons, Nat.zero_mul, Nat.zero_add, List.getElem?_append_left (List.getElem?_eq_some_iff.1 h2).1]
    exact h2
  | d :: es, hz, i + 1, j, e, c, h1, h2 => by
    have hd := hz d (List.mem_cons_self ..)
    rw [List.flatten_cons, List.getElem?_append_right (by rw [hd, Nat.add_mul]; omega)]
    rw [show (i + 1) * sz + j - d.length = i * sz + j from by rw [hd, Nat.add_mul]; omega]
    exact flat_get (fun e he => hz e (List.mem_cons_of_mem _ he)) (by simpa using h1) h2
def SizeIs (P : Program) (t : TypeId) (n : Nat) : Prop := ∃ i, P.info? t = some i ∧ i.size = n
theorem sizeIs_of {t : TypeId} {n : Nat} (h : (P.info? t).map (·.size) = some n) : SizeIs P t n := by
  cases hi : P.info? t with
  | none => simp [hi] at h
  | some i => exact ⟨i, hi, by simpa [hi] using h⟩
theorem SizeIs.run {t : TypeId} {n : Nat} (h : SizeIs P t n) (w : World) : (sizeOf t).run P w = .ok n w := by
  obtain ⟨i, hi, rfl⟩ := h
  simp [sizeOf, typeInfo, hi]
def aggT : TypeDesc → Bool
  | .struct _ | .array _ _ => true
  | _ => false
theorem run_isAgg {t : TypeId} {d : TypeDesc} (h : P.underlying t = some d) (w : World) : (isAgg t).run P w = .ok (aggT d) w := by
  simp only [isAgg, Sem.run_bind, run_underlying h, Result.andThen_ok]
  cases d <;> rfl
def ibin : BinOp → IntKind → Int → Int → Option Value
  | .add, k, a, b => some (.int k (k.wrap (a + b)))
  | .sub, k, a, b => some (.int k (k.wrap (a - b)))
  | .mul, k, a, b => some (.int k (k.wrap (a * b)))
  | .quo, k, a, b => if b = 0 then none else some (.int k (k.wrap (a.tdiv b)))
  | .rem, k, a, b => if b = 0 then none else some (.int k (a.tmod b))
  | .and, k, a, b => some (.int k (bits .and k a b))
  | .or, k, a, b => some (.int k (bits .or k a b))
  | .xor, k, a, b => some (.int k (bits .xor k a b))
  | .andNot, k, a, b => some (.int k (bits .andNot k a b))
  | .eql, _, a, b => some (.bool (decide (a = b)))
  | .neq, _, a, b => some (.bool (!decide (a = b)))
  | .lss, _, a, b => some (.bool (decide (a < b)))
  | .leq, _, a, b => some (.bool (decide (a ≤ b)))
  | .gtr, _, a, b => some (.bool (decide (b < a)))
  | .geq, _, a, b => some (.bool (decide (b ≤ a)))
  | _, _, _, _ => none
theorem run_ibin {op : BinOp} {k : IntKind} {a b : Int} {r : Value} (h : ibin op k a b = some r) (T : TypeId) (w : World) : (binOp op T (.int k a) (.int k b)).run P w = .ok r w := by
  cases op <;> simp only [ibin] at h <;> (try (split at h)) <;> simp at h <;> subst h <;>
    simp_all [binOp, Op.intArith, Op.intDiv, Op.intBits, Op.intCmp, bits, bne] <;> (rw [Bool.eq_iff_iff]; simp)
def ishift : BinOp → IntKind → Int → Int → Option Value
  | .shl, k, a, b => if b < 0 then none else some (.int k (k.wrap (a * 2 ^ (min b.toNat k.bits))))
  | .shr, k, a, b => if b < 0 then none else some (.int k (a.fdiv (2 ^ (min b.toNat k.bits))))
  | _, _, _, _ => none
theorem run_equalIn_bool (d : Nat) {T : TypeId} (hT : P.underlying T = some .bool) (m n : Bool) (w : World) : (Op.equalIn (d + 1) T (.bool m) (.bool n)).run P w = .ok (m == n) w := by
  simp [Op.equalIn, run_underlying hT]
theorem run_equal_bool {T : TypeId} (hT : P.underlying T = some .bool) (m n : Bool) (w : World) : (Op.equal T (.bool m) (.bool n)).run P w = .ok (m == n) w :=
  run_equalIn_bool 9999 hT m n w
theorem run_fieldAt {T : TypeId} {fs : Array Field} {f : Nat} {fd : Field} {s : Nat} (hT : P.underlying T = some (.struct fs)) (hf : fs[f]? = some fd) (hs : SizeIs P fd.type s) (h0 : s ≠ 0) (b off : Nat) (w : World) :
    (Instr.fieldAt T (.pointer (some ⟨b, off, none⟩)) f).run P w = .ok (.pointer (some ⟨b, off + fd.offset, none⟩)) w := by
  simp [Instr.fieldAt, run_underlying hT, hf, Instr.sureAddr, fieldPlace, hs.run w, h0, Addr.add_lit]
def TI (P : Program) (T : TypeId) (sz bytes : Nat) (z : Value) : Prop := ∃ i, P.info? T = some i ∧ i.zero = some z ∧ i.size = sz ∧ i.bytes = bytes ∧ z.cells.size = sz ∧ (z.cells.toList.all (·.oneCell')) = true
theorem ti_of {T : TypeId} {sz bytes : Nat} {z : Value} (h : (P.info? T).map (fun i => (i.zero, i.size, i.bytes)) = some (some z, sz, bytes)) (h1 : z.cells.size = sz) (h2 : (z.cells.toList.all (·.oneCell')) = true) : TI P T sz bytes z := by
  cases hi : P.info? T with
  | none => simp [hi] at h
  | some i =>
    simp [hi] at h
    exact ⟨i, hi, h.1, h.2.1, h.2.2, h1, h2⟩
theorem TI.size {T : TypeId} {sz bytes : Nat} {z : Value} (h : TI P T sz bytes z) : SizeIs P T sz := let ⟨i, h1, _, h2, _⟩ := h; ⟨i, h1, h2⟩
def reps {α : Type} (n : Nat) (zs : List α) : List α := (List.replicate n zs).flatten
theorem reps_len {α : Type} (n : Nat) (zs : List α) : (reps n zs).length = n * zs.length := by
  unfold reps; rw [flat_len (sz := zs.length) (fun e he => by rw [(List.mem_replicate.1 he).2])]; simp
theorem reps_get {α : Type} {n : Nat} {zs : List α} {j : Nat} (h : j < n * zs.length) : (reps n zs)[j]? = zs[j % zs.length]? := by
  have h0 : 0 < zs.length := by
    rcases Nat.eq_zero_or_pos zs.length with h1 | h1
    · rw [h1] at h; omega
    · exact h1
  have hd : j / zs.length < n := Nat.div_lt_of_lt_mul (by rw [Nat.mul_comm]; exact h)
  have hm := Nat.mod_lt j h0
  have := flat_get (sz := zs.length) (es := List.replicate n zs) (i := j / zs.length) (j := j % zs.length) (e := zs) (c := zs[j % zs.length]) (fun e he => by rw [(List.mem_replicate.1 he).2]) (by simp [hd]) (by simp [hm])
  unfold reps
  rw [show j / zs.length * zs.length + j % zs.length = j by rw [Nat.mul_comm]; exact Nat.div_add_mod j zs.length] at this
  rw [this]; simp [hm]
theorem madeCells_get {z : Array Value} {n j : Nat} (h0 : 0 < z.size) (h : j < n * z.size) : (madeCells z (n * z.size))[j]? = z[j % z.size]? := by
  have hm := Nat.mod_lt j h0
  simp [madeCells, h, hm]
theorem fold_take (off : Nat) (l : List Value) (cs : Array Value) (h : off + l.length ≤ cs.size) :
    ((l.zipIdx 0).foldl (fun cs (x : Value × Nat) => cs.setIfInBounds (off + x.2) x.1) cs).toList = cs.toList.take off ++ l ++ cs.toList.drop (off + l.length) := by
  obtain ⟨h1, h2⟩ := Go.Great.foldl_set off l 0 cs
  generalize (l.zipIdx 0).foldl (fun cs (x : Value × Nat) => cs.setIfInBounds (off + x.2) x.1) cs = r at *
  apply List.ext_getElem?
  intro k
  have h3 := h2 k
  simp only [Nat.add_zero] at h3
  rw [Array.getElem?_toList, h3]
  by_cases hk : k < off
  · rw [if_neg (by omega), List.append_assoc, List.getElem?_append_left (by simp; omega), List.getElem?_take, if_pos hk, Array.getElem?_toList]
  · by_cases hk2 : k < off + l.length
    · rw [if_pos ⟨by omega, hk2, by omega⟩, List.append_assoc, List.getElem?_append_right (by simp; omega), List.getElem?_append_left (by simp; omega)]
      simp [Nat.min_eq_left (show off ≤ cs.size by omega)]
    · rw [if_neg (by omega), List.getElem?_append_right (by simp; omega), List.getElem?_drop]
      simp only [List.length_append, List.length_take, Array.length_toList, Nat.min_eq_left (show off ≤ cs.size by omega)]
      rw [Array.getElem?_toList]
      congr 1; omega
theorem run_bound {x : Value} {k : IntKind} {n : Int} (hx : x = .int k n) {y : Nat} (c : BoundsCode) (h : 0 ≤ n ∧ n ≤ y) (w : World) : (Instr.sliceBound x y c).run P w = .ok n.toNat w := by
  subst hx
  simp [Instr.sliceBound, asIntOf, h]
theorem run_append_zeroA (w : World) (T E ty : TypeId) (hT : P.underlying T = some (.slice E)) {sz : Nat} (hE : SizeIs P E sz) (A : Option Addr) (b : Option Addr) (n cap c : Nat) (h : n ≤ cap) :
    (Builtin.append_ #[T, T] ty #[.slice A n cap, .slice b 0 c]).run P w = .ok (.slice A n cap) w := by
  have hf : (Builtin.firstCells sz 0 (.slice b 0 c)).run P w = .ok #[] w := by
    cases b <;> simp [Builtin.firstCells, loadCells, loadCellsFrom]
  cases A <;> simp [Builtin.append_, run_underlying hT, hE.run, Builtin.lenOf, h, hf, storeCells]
theorem run_copyG (w : World) {T T' ty E t : TypeId} {sz blk off n cap m c2 : Nat} {q : Addr} {cur : Array Value} {us : List Value} (hT : P.underlying T = some (.slice E)) (hE : SizeIs P E sz) (hg : w.heap[blk]? = some (.cells cur t (0, 0)))
    (hul : us.length = m * sz) (hq : ∀ j v, us[j]? = some v → w.cell? (q.add j) = some v) (h1 : ∀ v ∈ us, v.oneCell' = true) (hm : m ≤ n) (hfit : off + us.length ≤ cur.size) :
    (Builtin.copy_ #[T, T'] ty #[.slice (some ⟨blk, off, none⟩) n cap, .slice (some q) m c2]).run P w = .ok (.int .i64 ((m : Nat) : Int)) (w.setRow blk (cur.toList.take off ++ us ++ cur.toList.drop (off + us.length)).toArray) := by
  have hl := run_loadCells_list (P := P) w q us hq
  rw [hul] at hl
  have hst := run_storeCells_at P blk off t us 0 cur w hg (by simpa using hfit) h1
  simp only [Nat.add_zero] at hst
  have hmin : Nat.min m n = m := Nat.min_eq_left hm
  simp only [Builtin.copy_, List.getElem?_toArray, List.getElem?_cons_zero, List.getElem?_cons_succ, Sem.run_bind, run_underlying hT, Result.andThen_ok, Builtin.lenOf, Sem.run_pure, hmin, hE.run w, Builtin.firstCells, hl]
  simp only [hst, Result.andThen_ok, Sem.run_pure, goInt]
theorem run_copy_zero (w : World) {T T' ty E : TypeId} {sz n cap c2 : Nat} {A B : Option Addr} (hT : P.underlying T = some (.slice E)) (hE : SizeIs P E sz) :
    (Builtin.copy_ #[T, T'] ty #[.slice A n cap, .slice B 0 c2]).run P w = .ok (.int .i64 ((0 : Nat) : Int)) w := by
  have hl : ∀ (x : Addr), (loadCells x 0).run P w = .ok #[] w := fun x => by simpa using run_loadCells_list (P := P) w x [] (by simp)
  cases A <;> cases B <;> simp [Builtin.copy_, run_underlying hT, Builtin.lenOf, Builtin.firstCells, hE.run w, storeCells, hl, goInt]
theorem heap_alloc_lt (w : World) (o : Obj) {k : Nat} {x : Obj} (h : w.heap[k]? = some x) : (w.alloc o).heap[k]? = some x := by
  rw [Below.heap_alloc w o k (Array.getElem?_eq_some_iff.1 h).1]; exact h
def resOf (rv : ResultVar) (tmps : Array Value) : Sem Value :=
  match rv with
  | .tmp t => pure (tmps.getD t undef)
  | .cell a t => do loadVar t (← asAddr (tmps.getD a undef))
theorem results_run {fn : Func} {tmps : Array Value} {w : World} {vs : List Value} (h : (fn.results.toList.mapM (fun rv => resOf rv tmps)).run P w = .ok vs w) :
    (results fn tmps).run P w = .ok (if h : vs.toArray.size = 1 then vs.toArray[0] else .tuple vs.toArray) w := by
  show (do
    let vs ← fn.results.mapM (fun rv => resOf rv tmps)
    pure (if h : vs.size = 1 then vs[0] else .tuple vs) : Sem Value).run P w = _
  rw [Array.mapM_eq_mapM_toList]
  simp only [Sem.run_bind, Sem.run_map, h, Result.andThen_ok, Sem.run_pure]
structure FnOk (P : Program) (f : FuncId) : Prop where
  out : ∃ fn, P.funcs[f]? = some fn ∧ (fn.name == "runtime.NumGoroutine") = false ∧ fn.body.isSome = true
theorem FnOk.run {f : FuncId} (h : FnOk P f) (args : Array Value) (w : World) : (callFunc f args).run P w = .ok (.enter f args) w := by
  obtain ⟨fn, h1, h2, h3⟩ := h.out
  have h4 : fn.body.isNone = false := by cases hb : fn.body <;> simp_all
  simp only [callFunc, Sem.run_bind, run_program, Result.andThen_ok, h1, h2, h4, Bool.false_eq_true, if_false, Sem.run_pure]
theorem run_append_room' (w : World) (t ty e e' : TypeId) (i : TypeInfo) (ht : P.underlying t = some (.slice e)) (hi : P.info? e = some i)
    (g sLen sCap : Nat) (cur : Array Value) (hg : w.heap[g]? = some (.cells cur e' (0, 0)))
    (a : Addr) (m c : Nat) (news : List Value) (hl : news.length = m * i.size) (hnews : ∀ j u, news[j]? = some u → w.cell? (a.add j) = some u) (h1 : ∀ u ∈ news, u.oneCell' = true)
    (hroom : sLen + m ≤ sCap) (hfit : sLen * i.size + news.length ≤ cur.size) :
    (Builtin.append_ #[t, t] ty #[.slice (some ⟨g, 0, none⟩) sLen sCap, .slice (some a) m c]).run P w =
      .ok (.slice (some ⟨g, 0, none⟩) (sLen + m) sCap) (w.setRow g (cur.toList.take (sLen * i.size) ++ news ++ cur.toList.drop (sLen * i.size + news.length)).toArray) := by
  have hf := run_firstCells_some (P := P) w i.size m a m c news hl hnews
  have hst := run_storeCells_at P g (sLen * i.size) e' news 0 cur w hg (by simpa using hfit) h1
  simp only [Nat.add_zero] at hst
  simp [Builtin.append_, run_underlying ht, sizeOf, typeInfo, hi, Builtin.lenOf, hroom, hf, Addr.add_lit, hst]
end
end
end Go.Bm
