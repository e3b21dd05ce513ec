/- Families: operations. -/
import Derived.Test.YtopmocpjgjbdbaaPvFd
namespace Go.Pv
open Go.RowKit
section
variable {P : Program} {o : Oper} {ρ : Operand → PV} {S : Sx}
theorem o_append_fv {T E : TypeId} {sz bt : Nat} {z : Value} {x y : Operand} {i j n m : Nat} {cs ds ps : List PV} (ho : o.op = .call { callee := .builtin .append, args := #[x, y], argTypes := #[T, T] }) (hT : P.underlying T = some (.slice E)) (hE : TI P E sz bt z) (h0 : 0 < sz)
    (hx : ρ x = .fv i j sz n) (hy : Src S (ρ y) sz m ps) (hcs : S.bs[i]? = some (some cs)) (hf : isFam cs = true) (hmm : cs[j + 1]? = some (.agg ds)) (hcl : ds.length = n * sz) (hb : (n + m) * bt ≤ 140737488355328) (hmax : n + m ≤ 9223372036854775807) :
    OpS P o ρ S ⟨S.bs.set i (some (cs.set (j + 1) (.agg (ds ++ ps)))), S.ts⟩ (.fv i j sz (n + m)) := by
  intro g w a next Q hI hv K
  have e1 := hv x (by simp [ho, Op.operands, Call.operands])
  rw [hx] at e1
  have hg := hy.given hI h0 (hv y (by simp [ho, Op.operands, Call.operands]))
  obtain ⟨ti, t1, t2, t3, t4, t5, t6⟩ := hE
  subst t3 t4
  obtain ⟨v, g', w', h1, h2, h3, h4⟩ := fv_core (P := P) hI (ty := o.type) hT t1 t2 rfl h0 t5 (fun v hv => List.all_eq_true.1 t6 v hv) e1 hcs hf hmm hcl hg hb (by simp only [maxLen]; omega)
  unfold Oper.wp
  simp only [execOp, ho, resolve, invoke, builtin, Sem.run_bind, Sem.run_pure, Result.andThen_ok, List.map_toArray, List.map_cons, List.map_nil, h1]
  exact K v g' w' h2 h3 h4
/-- append to nothing: a new own row. -/
theorem o_append_new {T E : TypeId} {sz bt : Nat} {z : Value} {x y : Operand} {m : Nat} {ps : List PV} (ho : o.op = .call { callee := .builtin .append, args := #[x, y], argTypes := #[T, T] }) (hT : P.underlying T = some (.slice E)) (hE : TI P E sz bt z) (h0 : 0 < sz)
    (hx : ρ x = .d (.sl sz true [])) (hy : Src S (ρ y) sz m ps) (hb : m * bt ≤ 140737488355328) (hmax : m ≤ 9223372036854775807) (hnf : isFam ps = false) :
    OpS P o ρ S ⟨S.bs ++ [some ps], S.ts⟩ (.ms S.bs.length 0 sz m) := by
  intro g w a next Q hI hv K
  have e1 := hv x (by simp [ho, Op.operands, Call.operands])
  rw [hx] at e1
  have hg := hy.given hI h0 (hv y (by simp [ho, Op.operands, Call.operands]))
  obtain ⟨ti, t1, t2, t3, t4, t5, t6⟩ := hE
  subst t3 t4
  have e1' : VD g.mem (.sl ti.size true []) (a.eval x) := by cases e1 with | d _ _ h => exact h
  unfold Oper.wp
  rcases app_empty (P := P) hI (ty := o.type) hT t1 t2 rfl t5 (fun v hv => List.all_eq_true.1 t6 v hv) e1' hg hb (by simp only [maxLen]; omega) with ⟨rfl, rfl, a1, hr⟩ | ⟨hm0, vs, C, c1, c2, hr, hvb, hpl⟩
  · simp only [execOp, ho, resolve, invoke, builtin, Sem.run_bind, Sem.run_pure, Result.andThen_ok, List.map_toArray, List.map_cons, List.map_nil, hr]
    obtain ⟨r1, r2⟩ := hI.reserve 1
    refine K _ { g with bx := g.bx ++ [none] } w (.ms _ 0 _ 0 0 a1 (fun h => absurd rfl h) (Nat.le_refl _) (by simp [maxLen]) (fun _ => rfl)) ?_ r2
    have hb1 : (S.bs ++ List.replicate 1 none)[S.bs.length]? = some none := by simp
    refine ⟨by have := r1.hbx; simpa using this, r1.htg, r1.mem, r1.one, ?_, ?_, r1.bmem, r1.blt, r1.inj, ?_, r1.tag, r1.tbx, r1.tinj, ?_⟩
    · intro j cs e hne hf
      change (S.bs ++ [some []])[j]? = _ at e
      by_cases hj : j < S.bs.length
      · refine r1.box j cs ?_ hne hf
        show (S.bs ++ List.replicate 1 none)[j]? = _
        rw [List.getElem?_append_left hj] at e ⊢; exact e
      · rw [List.getElem?_append_right (by omega)] at e
        have : j - S.bs.length < 1 := by have := (List.getElem?_eq_some_iff.1 e).1; simpa using this
        rw [show j - S.bs.length = 0 by omega] at e
        simp at e; first | exact absurd e.symm hne | exact absurd e hne
    · intro j e
      change (S.bs ++ [some []])[j]? = _ at e
      by_cases hj : j < S.bs.length
      · refine r1.nob j ?_
        show (S.bs ++ List.replicate 1 none)[j]? = _
        rw [List.getElem?_append_left hj] at e ⊢; exact e
      · rw [List.getElem?_append_right (by omega)] at e
        have : j - S.bs.length < 1 := by have := (List.getElem?_eq_some_iff.1 e).1; simpa using this
        rw [show j - S.bs.length = 0 by omega] at e
        simp at e
    · intro j G e
      obtain ⟨cs, k1, k2, k3, k4, k5, k6⟩ := hI.gr j G e
      refine ⟨cs, (List.getElem?_append_left (hI.gr_lt e)).trans k1, k2, k3, k4, k5, fun hc => ?_⟩
      obtain ⟨blk, cur, ty, q1, q2⟩ := k6 hc
      exact ⟨blk, cur, ty, (List.getElem?_append_left (by rw [hI.hbx]; exact hI.gr_lt e)).trans q1, q2⟩
    · refine r1.fam.keep (.refl _) rfl (fun j cs hf => ?_) (fun j cs e hf => r1.fam.bx j cs e hf) (Nat.le_refl _) (fun j k F b e1 e2 => ⟨rfl, (r1.fam.out j k F b e1 e2).2⟩)
      show (S.bs ++ [some []])[j]? = _ ↔ (S.bs ++ List.replicate 1 none)[j]? = _
      rw [fam_push (c := []) rfl hf, fam_app 1]
  · simp only [execOp, ho, resolve, invoke, builtin, Sem.run_bind, Sem.run_pure, Result.andThen_ok, List.map_toArray, List.map_cons, List.map_nil, hr]
    obtain ⟨k1, k2⟩ := hI.drew.newbox E hvb
    refine K _ { g with bx := g.bx ++ [some w.heap.size] } _ (.ms S.bs.length 0 _ m C (some (w.heap.size, 0)) (fun _ => ⟨w.heap.size, rfl, ?_, hI.gx_new (Nat.le_refl _)⟩) c1 c2 (fun h => by cases h)) k1 ⟨k2.le, k2.os, k2.tape, k2.output, k2.size, k2.frame, k2.own, k2.memx⟩
    show (g.bx ++ [some w.heap.size])[S.bs.length]? = _
    rw [← hI.hbx]; simp
/-- append to nothing: a new member. -/
theorem o_append_mem {T E : TypeId} {sz bt : Nat} {z : Value} {x y : Operand} {i N m : Nat} {cs ps : List PV} (ho : o.op = .call { callee := .builtin .append, args := #[x, y], argTypes := #[T, T] }) (hT : P.underlying T = some (.slice E)) (hE : TI P E sz bt z) (h0 : 0 < sz)
    (hx : ρ x = .d (.sl sz true [])) (hy : Src S (ρ y) sz m ps) (hb : m * bt ≤ 140737488355328) (hmax : m ≤ 9223372036854775807) (hbb : S.bs[i]? = some (some cs)) (hf : isFam cs = true) (hN : cs.length = N + 1) :
    OpS P o ρ S ⟨S.bs.set i (some (cs ++ [.agg ps])), S.ts⟩ (.fs i N 0 sz m) := by
  intro g w a next Q hI hv K
  have e1 := hv x (by simp [ho, Op.operands, Call.operands])
  rw [hx] at e1
  have hg := hy.given hI h0 (hv y (by simp [ho, Op.operands, Call.operands]))
  obtain ⟨ti, t1, t2, t3, t4, t5, t6⟩ := hE
  subst t3 t4
  have e1' : VD g.mem (.sl ti.size true []) (a.eval x) := by cases e1 with | d _ _ h => exact h
  unfold Oper.wp
  rcases app_empty (P := P) hI (ty := o.type) hT t1 t2 rfl t5 (fun v hv => List.all_eq_true.1 t6 v hv) e1' hg hb (by simp only [maxLen]; omega) with ⟨rfl, rfl, a1, hr⟩ | ⟨hm0, vs, C, c1, c2, hr, hvb, hpl⟩
  · simp only [execOp, ho, resolve, invoke, builtin, Sem.run_bind, Sem.run_pure, Result.andThen_ok, List.map_toArray, List.map_cons, List.map_nil, hr]
    have h1 := hI.newmem (F := ⟨none, .pl⟩) (ds := []) hbb hf hN (fun h => absurd rfl h) (fun b e => by cases e)
    refine K _ _ w (.fs i N 0 _ 0 0 a1 (fun h => absurd rfl h) (Nat.le_refl _) (by simp [maxLen]) (fun _ => rfl)) h1 ⟨hI.le_addf hbb hN _, rfl, rfl, rfl, Nat.le_refl _, fun _ _ _ => rfl, fun k hk => ?_, fun _ _ _ e => .inl e⟩
    rcases hk with hk | hk | ⟨i', j', F', e1, e2⟩
    · exact .inl (.inl hk)
    · exact .inl (.inr (.inl hk))
    · rcases addf_inv e1 with ⟨_, _, rfl⟩ | e1
      · cases e2
      · exact .inl (.inr (.inr ⟨i', j', F', e1, e2⟩))
  · simp only [execOp, ho, resolve, invoke, builtin, Sem.run_bind, Sem.run_pure, Result.andThen_ok, List.map_toArray, List.map_cons, List.map_nil, hr]
    obtain ⟨k1, k2⟩ := hI.drew.allocmem (k := .pl) (o := .cells vs E) (ds := ps) hbb hf hN (Member.pl_new (hvb.mono (hI.le_addf hbb hN _)))
    exact K _ _ _ (.fs i N 0 _ m C (some (w.heap.size, 0)) (fun _ => ⟨w.heap.size, rfl, addf_new⟩) c1 c2 (fun h => by cases h)) k1 ⟨k2.le, k2.os, k2.tape, k2.output, k2.size, k2.frame, k2.own, k2.memx⟩

theorem o_field_fp {T : TypeId} {fs : Array Field} {f i j off s : Nat} {fd : Field} {x : Operand} (ho : o.op = .fieldAddr T x f) (hT : P.underlying T = some (.struct fs)) (hf : fs[f]? = some fd) (hs : SizeIs P fd.type s) (h0 : s ≠ 0)
    (hx : ρ x = .fp i j off) : OpS P o ρ S S (.fp i j (off + fd.offset)) :=
  .value fun g w a _ hv => by
    have e1 := hv x (by simp [ho, Op.operands])
    rw [hx] at e1
    generalize hu : a.eval x = u at e1
    cases e1 with
    | fp _ _ _ blk h => exact ⟨_, by simp only [execOp, ho, hu, Sem.run_bind, run_fieldAt hT hf hs h0, Result.andThen_ok, Sem.run_pure], .fp _ _ _ blk h⟩
theorem o_field_fq {T : TypeId} {fs : Array Field} {f i j N off s : Nat} {fd : Field} {x : Operand} (ho : o.op = .fieldAddr T x f) (hT : P.underlying T = some (.struct fs)) (hf : fs[f]? = some fd) (hs : SizeIs P fd.type s) (h0 : s ≠ 0)
    (hx : ρ x = .fq i j N off) : OpS P o ρ S S (.fq i j N (off + fd.offset)) :=
  .value fun g w a _ hv => by
    have e1 := hv x (by simp [ho, Op.operands])
    rw [hx] at e1
    generalize hu : a.eval x = u at e1
    cases e1 with
    | fq _ _ _ _ blk b G hF h1 hle he => exact ⟨_, by simp only [execOp, ho, hu, Sem.run_bind, run_fieldAt hT hf hs h0, Result.andThen_ok, Sem.run_pure], .fq _ _ _ _ blk b G hF h1 hle he⟩
theorem o_nil_fam {x : Operand} (ho : o.op = .nilCheck x) (hx : (∃ i j off, ρ x = .fp i j off) ∨ ∃ i j N off, ρ x = .fq i j N off) : OpS P o ρ S S (ρ x) :=
  .value fun g w a hI hv => by
    have e1 := hv x (by simp [ho, Op.operands])
    refine ⟨a.eval x, ?_, e1⟩
    rcases hx with ⟨b, j, off, hx⟩ | ⟨b, j, N, off, hx⟩ <;> rw [hx] at e1 <;> generalize hu : a.eval x = u at e1 <;> cases e1 <;> simp [execOp, ho, hu]
theorem o_len_fs {T E : TypeId} {x : Operand} {i j off sz n : Nat} (ho : o.op = .call { callee := .builtin .len, args := #[x], argTypes := #[T] }) (hT : P.underlying T = some (.slice E)) (hx : ρ x = .fs i j off sz n) : OpS P o ρ S S (.d (.v (.int .i64 ((n : Nat) : Int)))) :=
  .value fun g w a _ hv => by
    have e1 := hv x (by simp [ho, Op.operands, Call.operands])
    rw [hx] at e1
    generalize hu : a.eval x = u at e1
    cases e1 with
    | fs _ _ _ _ _ cap a' h hc hx' hn => exact ⟨_, by simp [execOp, ho, resolve, invoke, builtin, hu, Builtin.len_, run_underlying hT, goInt], .d _ _ (.v _ rfl)⟩
theorem o_len_fv {T E : TypeId} {x : Operand} {i j sz n : Nat} (ho : o.op = .call { callee := .builtin .len, args := #[x], argTypes := #[T] }) (hT : P.underlying T = some (.slice E)) (hx : ρ x = .fv i j sz n) : OpS P o ρ S S (.d (.v (.int .i64 ((n : Nat) : Int)))) :=
  .value fun g w a _ hv => by
    have e1 := hv x (by simp [ho, Op.operands, Call.operands])
    rw [hx] at e1
    generalize hu : a.eval x = u at e1
    cases e1 with
    | fv _ _ _ _ cap A b G hG hz hle he hc hx' hn => exact ⟨_, by simp [execOp, ho, resolve, invoke, builtin, hu, Builtin.len_, run_underlying hT, goInt], .d _ _ (.v _ rfl)⟩
theorem o_index_fs {T E : TypeId} {x y : Operand} {i j off sz n : Nat} {k : IntKind} {m : Int} (ho : o.op = .indexAddr T x y) (hT : P.underlying T = some (.slice E)) (hE : SizeIs P E sz) (hx : ρ x = .fs i j off sz n) (hy : ρ y = .d (.v (.int k m))) (hi : 0 ≤ m) (hn : m < n) :
    OpS P o ρ S S (.fp i j (off + m.toNat * sz)) :=
  .value fun g w a _ hv => by
    have e1 := hv x (by simp [ho, Op.operands])
    rw [hx] at e1
    have e2 := hv y (by simp [ho, Op.operands])
    rw [hy] at e2
    have k2 := e2.d_v.1
    generalize hu : a.eval x = u at e1
    cases e1 with
    | fs _ _ _ _ _ cap a' h hc hx' hnn =>
      obtain ⟨blk, rfl, h2⟩ := h (by omega)
      refine ⟨.pointer (some ⟨blk, off + m.toNat * sz, none⟩), ?_, .fp _ _ _ blk h2⟩
      simp only [execOp, ho, hu, k2, Sem.run_bind, Option.map_some, run_indexAt_slice (P := P) w T (adr (blk, off)) n cap k m (by simp [Program.elem, hT]), if_pos (show 0 ≤ m ∧ m < (n : Int) from ⟨hi, hn⟩)]
      simp only [Program.elem, hT, hE.run w, Result.andThen_ok, add_adr, Sem.run_pure]
theorem o_index_fv {T E : TypeId} {x y : Operand} {i j sz n : Nat} {ds : List PV} {k : IntKind} {m : Int} (ho : o.op = .indexAddr T x y) (hT : P.underlying T = some (.slice E)) (hE : SizeIs P E sz) (h0 : 0 < sz) (hx : ρ x = .fv i j sz n) (hy : ρ y = .d (.v (.int k m)))
    (hm : FamAt S i j ds) (hl : ds.length = n * sz) (hi : 0 ≤ m) (hn : m < n) : OpS P o ρ S S (.fq i j (n * sz) (m.toNat * sz)) :=
  .value fun g w a hI hv => by
    have e1 := hv x (by simp [ho, Op.operands])
    rw [hx] at e1
    have e2 := hv y (by simp [ho, Op.operands])
    rw [hy] at e2
    have k2 := e2.d_v.1
    generalize hu : a.eval x = u at e1
    cases e1 with
    | fv _ _ _ _ cap A b G hG hz hle he hc hx' hnn =>
      obtain ⟨F, q1, q2⟩ := hm.member hI
      rw [hG] at q1
      obtain rfl := Option.some.inj q1
      obtain ⟨j2, j3, _⟩ := q2
      have hnm : n = G.m := by
        rw [j2, hz] at hl
        exact (Nat.eq_of_mul_eq_mul_right h0 hl).symm
      obtain ⟨hcap, hA⟩ := he hnm
      obtain ⟨blk, hbx, rfl⟩ := hA (by omega)
      refine ⟨.pointer (some ⟨blk, m.toNat * sz, none⟩), ?_, .fq _ _ _ _ blk b G hG j3 (by rw [hnm, hz]; exact Nat.le_refl _) (fun _ => hbx)⟩
      simp only [execOp, ho, hu, k2, Sem.run_bind, show (⟨blk, 0, none⟩ : Addr) = adr (blk, 0) from rfl, run_indexAt_slice (P := P) w T (adr (blk, 0)) n cap k m (by simp [Program.elem, hT]), if_pos (show 0 ≤ m ∧ m < (n : Int) from ⟨hi, hn⟩)]
      simp only [Program.elem, hT, hE.run w, Result.andThen_ok, add_adr, Sem.run_pure, Nat.zero_add]

/-- The cells of a literal's elements. -/
def elsP (ρ : Operand → PV) : List (Nat × Operand) → Nat → Option (List (List PV))
  | [], _ => some []
  | (i, x) :: r, k => bif Nat.beq i k then (match (ρ x).cells, elsP ρ r (k + 1) with
      | some e, some es => some (e :: es)
      | _, _ => none)
    else none
theorem elsP_ok {g : Gh} {a : Act} {sz : Nat} : ∀ (l : List (Nat × Operand)) (k : Nat) (es : List (List PV)), (∀ x ∈ l, V g (ρ x.2) (a.eval x.2)) → elsP ρ l k = some es → (∀ e ∈ es, e.length = sz) →
    l.length = es.length ∧ (l.map fun (i, x) => (i, a.eval x)) = ((l.map fun x => a.eval x.2).zipIdx k).map (fun x => (x.2, x.1)) ∧
      (∀ v ∈ l.map fun x => a.eval x.2, v.cells.size = sz) ∧ Vs g es.flatten ((l.map fun x => a.eval x.2).flatMap fun v => v.cells.toList)
  | [], k, es, _, h, _ => by cases h; exact ⟨rfl, rfl, by simp, ⟨rfl, fun j c x h => by simp at h⟩⟩
  | (i, x) :: r, k, es, hv, h, hz => by
    unfold elsP at h
    cases hik : Nat.beq i k with
    | false => rw [hik] at h; cases h
    | true =>
      rw [hik] at h; simp only [cond_true] at h
      have hik := Nat.eq_of_beq_eq_true hik
      split at h
      · rename_i e es' h1 h2
        cases h
        have hx := (hv (i, x) (List.mem_cons_self ..)).cells h1
        obtain ⟨e1, e2, e3, e4⟩ := elsP_ok r (k + 1) es' (fun y hy => hv y (List.mem_cons_of_mem _ hy)) h2 (fun e he => hz e (List.mem_cons_of_mem _ he))
        have hsz : (a.eval x).cells.size = sz := by have := hx.1; rw [hz e (List.mem_cons_self ..)] at this; simpa using this.symm
        refine ⟨by simp [e1], ?_, ?_, ?_⟩
        · simp only [List.map_cons, List.zipIdx_cons, hik, e2]
        · intro v hm
          simp only [List.map_cons, List.mem_cons] at hm
          rcases hm with rfl | hm
          · exact hsz
          · exact e3 v hm
        · simp only [List.map_cons, List.flatMap_cons, List.flatten_cons]
          refine ⟨by simp [hx.1, e4.1], fun j c y k1 k2 => ?_⟩
          have hxl : e.length = (a.eval x).cells.toList.length := hx.1
          change (((a.eval x).cells.toList ++ _ : List Value))[j]? = some y at k2
          by_cases hj : j < e.length
          · rw [List.getElem?_append_left hj] at k1
            rw [List.getElem?_append_left (by omega)] at k2
            exact hx.2 j c y k1 k2
          · rw [List.getElem?_append_right (by omega)] at k1
            rw [List.getElem?_append_right (by omega), ← hxl] at k2
            exact e4.2 _ c y k1 k2
      · cases h
/-- A literal slice that is an own row. -/
theorem o_buildSlice_ms {T E : TypeId} {n sz b : Nat} {parts : Array (Nat × Operand)} {z : Value} {es : List (List PV)} (ho : o.op = .buildSlice T n parts) (hT : P.underlying T = some (.slice E)) (hE : TI P E sz b z) (h0 : 0 < sz) (hn : n * sz ≤ 16777216) (hn0 : 0 < n)
    (hes : elsP ρ parts.toList 0 = some es) (hl : es.length = n) (hel : es.all (fun e => e.length == sz) = true) : OpS P o ρ S ⟨S.bs ++ [some es.flatten], S.ts⟩ (.ms S.bs.length 0 sz n) := by
  intro g w a next Q hI hv K
  obtain ⟨ie, hE, hz, hs, _⟩ := hE
  subst hs
  have hel : ∀ e ∈ es, e.length = ie.size := fun e he => by simpa using List.all_eq_true.1 hel e he
  obtain ⟨e1, e2, e3, e4⟩ := elsP_ok (sz := ie.size) (a := a) (g := g) parts.toList 0 es (fun x hx => hv x.2 (by
    simp only [ho, Op.operands]
    rw [List.mem_toArray]
    exact List.mem_map.2 ⟨x, hx, rfl⟩)) hes hel
  have hsz0 : ((Array.range (n * ie.size)).map (z.cells[· % z.cells.size]!)).size = n * ie.size := by simp
  have hfill := Go.Great.fill_whole h0 (parts.toList.map fun x => a.eval x.2) ((Array.range (n * ie.size)).map (z.cells[· % z.cells.size]!)) e3 (by simp only [List.length_map]; rw [hsz0, e1, hl])
  have hparts : (parts.map fun (i, x) => (i, a.eval x)).toList = ((parts.toList.map fun x => a.eval x.2).zipIdx 0).map (fun x => (x.2, x.1)) := by rw [← e2]; simp
  generalize hvs : (parts.toList.map fun x => a.eval x.2).flatMap (fun v => v.cells.toList) = vs at *
  obtain ⟨h1, h2⟩ := hI.newbox (vs := vs.toArray) E (show Vb g es.flatten vs.toArray.toList by simpa using e4.b)
  unfold Oper.wp
  have hpos : ¬ n * ie.size = 0 := by
    intro h; rcases Nat.mul_eq_zero.1 h with h | h <;> omega
  have hrun : (execOp a.eval o).run P w = .ok (.value (.slice (some ⟨w.heap.size, 0, none⟩) n n)) (w.alloc (.cells vs.toArray E)) := by
    have := run_buildSlice (P := P) w T E n (parts.map fun (i, x) => (i, a.eval x)) vs.toArray ie z hT hE hz (by omega) hpos (by rw [hparts]; exact hfill)
    simp only [execOp, ho, Sem.run_bind, this, Result.andThen_ok, Sem.run_pure]
  rw [hrun]
  have hnm : n ≤ n * ie.size := Nat.le_mul_of_pos_right _ h0
  refine K _ { g with bx := g.bx ++ [some w.heap.size] } _ (.ms S.bs.length 0 _ n n (some (w.heap.size, 0)) (fun _ => ⟨w.heap.size, rfl, ?_, hI.gx_new (Nat.le_refl _)⟩) (Nat.le_refl _) (by simp only [maxLen]; omega) (fun h => by cases h)) h1 h2
  show (g.bx ++ [some w.heap.size])[S.bs.length]? = _
  rw [← hI.hbx]; simp

theorem run_slice3 {T E : TypeId} {x hi mx : Operand} {sz k n : Nat} {kh km : IntKind} {a : Act} {w : World} (ho : o.op = .slice T x none (some hi) (some mx)) (hT : P.underlying T = some (.slice E)) (hE : SizeIs P E sz)
    (eh : a.eval hi = .int kh ((k : Nat) : Int)) (em : a.eval mx = .int km ((k : Nat) : Int)) (hk : k ≤ n) (A : Option Addr) (cap : Nat) (hc : n ≤ cap) (hA : a.eval x = .slice A n cap) (h0 : k = 0 ∨ ∀ a0, A = some a0 → a0.add 0 = a0) :
    (execOp a.eval o).run P w = .ok (.value (.slice A k k)) w := by
  have hb : (Instr.sliceBounds true n cap none (some (.int kh ((k : Nat) : Int))) (some (.int km ((k : Nat) : Int)))).run P w = .ok (0, k, k) w := by
    have r1 := run_bound (P := P) (x := .int km ((k : Nat) : Int)) rfl (y := cap) BoundsCode.slice3Acap ⟨by omega, by omega⟩ w
    have r2 := run_bound (P := P) (x := .int kh ((k : Nat) : Int)) rfl (y := k) BoundsCode.slice3B ⟨by omega, by omega⟩ w
    simp only [Int.toNat_natCast] at r1 r2
    simp [Instr.sliceBounds, r1, r2]
  simp only [execOp, ho, hA, Option.map_none, Option.map_some, eh, em, Sem.run_bind, Instr.sliceAt, run_underlying hT, Result.andThen_ok, Instr.slice, hb, hE.run w, Sem.run_pure]
  have : (if k = 0 then A else A.map (·.add (0 * sz))) = A := by
    split
    · rfl
    · rename_i hk0
      cases A with
      | none => rfl
      | some a0 => simp [(h0.resolve_left hk0) a0 rfl]
  rw [this]
  simp
/-- A slice's first part, with no room behind it. -/
theorem o_slice3 {T E : TypeId} {x hi mx : Operand} {sz k : Nat} {es : List (List D)} {kh km : IntKind} (ho : o.op = .slice T x none (some hi) (some mx)) (hT : P.underlying T = some (.slice E)) (hE : SizeIs P E sz) (hx : (ρ x).els = some (sz, es)) (hne : es ≠ [])
    (hh : ρ hi = .d (.v (.int kh ((k : Nat) : Int)))) (hm : ρ mx = .d (.v (.int km ((k : Nat) : Int)))) (hk : k ≤ es.length) : OpS P o ρ S S (.d (.sl sz true (es.take k))) :=
  .value fun g w a hI hv => by
    have e1 := (hv x (by simp [ho, Op.operands])).els hx
    have eh := (hh ▸ hv hi (by simp [ho, Op.operands])).d_v.1
    have em := (hm ▸ hv mx (by simp [ho, Op.operands])).d_v.1
    obtain ⟨a2, cap2, us, h2, hz2, hc2, _, hn2, hx2, hl2, hm2, hv2⟩ := e1.unslN hne
    refine ⟨_, run_slice3 ho hT hE eh em hk (a2.map adr) cap2 hc2 h2 (.inr (fun a0 h => ?_)), .d _ _ ?_⟩
    · cases a2 with
      | none => cases h
      | some p => cases h; rw [add_adr]; rfl
    · have hlen : (es.take k).length = k := by simp; omega
      have hfl : (es.take k).flatten.length = k * sz := by rw [flat_len (fun e he => hz2 e (List.mem_of_mem_take he)), hlen]
      have hle : k * sz ≤ us.length := by rw [← hl2, flat_len hz2]; exact Nat.mul_le_mul_right _ hk
      have hsub : es.flatten = (es.take k).flatten ++ (es.drop k).flatten := by rw [← List.flatten_append, List.take_append_drop]
      have key := VD.sl (M := g.mem) sz true (es.take k) a2 k (us.take (k * sz)) (fun e he => hz2 e (List.mem_of_mem_take he)) (by omega) (fun _ => hlen.symm) (fun h => by have := hn2 h; omega) (by omega) (by rw [hfl]; simp; omega)
        (fun p j v hp hj => hm2 p j v hp (by
          rw [List.getElem?_take] at hj
          split at hj
          · exact hj
          · cases hj)) (fun j c v h3 h4 => hv2 j c v (by rw [hsub, List.getElem?_append_left (List.getElem?_eq_some_iff.1 h3).1]; exact h3) (by
          rw [List.getElem?_take] at h4
          split at h4
          · exact h4
          · cases h4))
      rw [hlen] at key
      exact key
theorem o_slice3n {T E : TypeId} {x hi mx : Operand} {sz : Nat} {kh km : IntKind} (ho : o.op = .slice T x none (some hi) (some mx)) (hT : P.underlying T = some (.slice E)) (hE : SizeIs P E sz) (hx : (ρ x).els = some (sz, []))
    (hh : ρ hi = .d (.v (.int kh 0))) (hm : ρ mx = .d (.v (.int km 0))) : OpS P o ρ S S (.d (.sl sz false [])) :=
  .value fun g w a hI hv => by
    have e1 := (hv x (by simp [ho, Op.operands])).els hx
    have eh := (hh ▸ hv hi (by simp [ho, Op.operands])).d_v.1
    have em := (hm ▸ hv mx (by simp [ho, Op.operands])).d_v.1
    obtain ⟨A, cap, hu⟩ := e1.unsl0
    have hu' : a.eval x = .slice A 0 cap := hu
    exact ⟨_, run_slice3 (k := 0) ho hT hE eh em (Nat.le_refl 0) A cap (Nat.zero_le _) hu' (.inl rfl), .d _ _ (.sl0 sz A)⟩
theorem run_slice2 {T E : TypeId} {x hi : Operand} {sz k n : Nat} {kh : IntKind} {a : Act} {w : World} (ho : o.op = .slice T x none (some hi) none) (hT : P.underlying T = some (.slice E)) (hE : SizeIs P E sz)
    (eh : a.eval hi = .int kh ((k : Nat) : Int)) (hk : k ≤ n) (A : Option (Nat × Nat)) (cap : Nat) (hc : n ≤ cap) (hA : a.eval x = .slice (A.map adr) n cap) :
    (execOp a.eval o).run P w = .ok (.value (.slice (A.map adr) k cap)) w := by
  have hb : (Instr.sliceBounds true n cap none (some (.int kh ((k : Nat) : Int))) none).run P w = .ok (0, k, cap) w := by
    have r2 := run_bound (P := P) (x := .int kh ((k : Nat) : Int)) rfl (y := cap) BoundsCode.sliceAcap ⟨by omega, by omega⟩ w
    simp only [Int.toNat_natCast] at r2
    simp [Instr.sliceBounds, r2]
  simp only [execOp, ho, hA, Option.map_none, Option.map_some, eh, Sem.run_bind, Instr.sliceAt, run_underlying hT, Result.andThen_ok, Instr.slice, hb, hE.run w, Sem.run_pure]
  have h2 : Option.map ((fun x => x.add 0) ∘ adr) A = Option.map adr A := by
    cases A with
    | none => rfl
    | some p => exact congrArg some (add_adr p 0)
  simp [h2]
/-- The first part of an own row. -/
theorem o_slice_ms {T E : TypeId} {x hi : Operand} {sz k b off n : Nat} {kh : IntKind} (ho : o.op = .slice T x none (some hi) none) (hT : P.underlying T = some (.slice E)) (hE : SizeIs P E sz) (hx : ρ x = .ms b off sz n)
    (hh : ρ hi = .d (.v (.int kh ((k : Nat) : Int)))) (hk : k ≤ n) : OpS P o ρ S S (.ms b off sz k) :=
  .value fun g w a hI hv => by
    have e1 := hv x (by simp [ho, Op.operands])
    have eh := (hh ▸ hv hi (by simp [ho, Op.operands])).d_v.1
    rw [hx] at e1
    generalize hu : a.eval x = u at e1
    cases e1 with
    | ms _ _ _ _ cap a0 h hc hx' hn =>
      exact ⟨_, run_slice2 ho hT hE eh hk a0 cap hc hu, .ms b off sz k cap a0 (fun h0 => h (by omega)) (by omega) hx' hn⟩
theorem o_slice_fs {T E : TypeId} {x hi : Operand} {sz k i j off n : Nat} {kh : IntKind} (ho : o.op = .slice T x none (some hi) none) (hT : P.underlying T = some (.slice E)) (hE : SizeIs P E sz) (hx : ρ x = .fs i j off sz n)
    (hh : ρ hi = .d (.v (.int kh ((k : Nat) : Int)))) (hk : k ≤ n) : OpS P o ρ S S (.fs i j off sz k) :=
  .value fun g w a hI hv => by
    have e1 := hv x (by simp [ho, Op.operands])
    have eh := (hh ▸ hv hi (by simp [ho, Op.operands])).d_v.1
    rw [hx] at e1
    generalize hu : a.eval x = u at e1
    cases e1 with
    | fs _ _ _ _ _ cap a0 h hc hx' hn =>
      exact ⟨_, run_slice2 ho hT hE eh hk a0 cap hc hu, .fs i j off sz k cap a0 (fun h0 => h (by omega)) (by omega) hx' hn⟩
/-- Nothing of an own row, or of a member. -/
theorem o_slice3z {T E : TypeId} {x hi mx : Operand} {sz : Nat} {kh km : IntKind} (ho : o.op = .slice T x none (some hi) (some mx)) (hT : P.underlying T = some (.slice E)) (hE : SizeIs P E sz) (hx : (∃ b off n, ρ x = .ms b off sz n) ∨ ∃ i j off n, ρ x = .fs i j off sz n)
    (hh : ρ hi = .d (.v (.int kh 0))) (hm : ρ mx = .d (.v (.int km 0))) : OpS P o ρ S S (.d (.sl sz true [])) :=
  .value fun g w a hI hv => by
    have e1 := hv x (by simp [ho, Op.operands])
    have eh := (hh ▸ hv hi (by simp [ho, Op.operands])).d_v.1
    have em := (hm ▸ hv mx (by simp [ho, Op.operands])).d_v.1
    have key : ∃ (a0 : Option (Nat × Nat)) (n cap : Nat), a.eval x = .slice (a0.map adr) n cap ∧ n ≤ cap := by
      rcases hx with ⟨b, off, n, hx⟩ | ⟨i, j, off, n, hx⟩
      · rw [hx] at e1
        generalize a.eval x = u at e1
        cases e1 with | ms _ _ _ _ cap a0 h hc hx' hn => exact ⟨a0, n, cap, rfl, hc⟩
      · rw [hx] at e1
        generalize a.eval x = u at e1
        cases e1 with | fs _ _ _ _ _ cap a0 h hc hx' hn => exact ⟨a0, n, cap, rfl, hc⟩
    obtain ⟨a0, n, cap, hu, hc⟩ := key
    refine ⟨_, run_slice3 (k := 0) ho hT hE eh em (Nat.zero_le n) (a0.map adr) cap hc hu (.inl rfl), .d _ _ ?_⟩
    exact VD.sl (M := g.mem) sz true [] a0 0 [] (by simp) (Nat.le_refl _) (fun _ => rfl) (fun _ => rfl) (by simp [maxLen]) rfl (by simp) (by simp)
/-- append of nothing to data. -/
theorem o_append_zero {T E : TypeId} {sz bt : Nat} {z : Value} {x y : Operand} (ho : o.op = .call { callee := .builtin .append, args := #[x, y], argTypes := #[T, T] }) (hT : P.underlying T = some (.slice E)) (hE : TI P E sz bt z)
    (hx : (ρ x).els = some (sz, [])) (hy : (ρ y).els = some (sz, [])) : OpS P o ρ S S (.d (.sl sz false [])) := by
  intro g w a next Q hI hv K
  have e1 := (hv x (by simp [ho, Op.operands, Call.operands])).els hx
  have e2 := (hv y (by simp [ho, Op.operands, Call.operands])).els hy
  obtain ⟨ti, t1, t2, t3, t4, t5, t6⟩ := hE
  obtain ⟨A, c1, h1⟩ := e1.unsl0
  obtain ⟨B, c2, h2⟩ := e2.unsl0
  have h1' : a.eval x = .slice A 0 c1 := h1
  have h2' : a.eval y = .slice B 0 c2 := h2
  have hr := run_append_zeroA (P := P) w T E o.type hT ⟨ti, t1, t3⟩ A B 0 c1 c2 (Nat.zero_le _)
  unfold Oper.wp
  simp only [execOp, ho, resolve, invoke, builtin, Sem.run_bind, Sem.run_pure, Result.andThen_ok, List.map_toArray, List.map_cons, List.map_nil, h1', h2', hr]
  rw [h1'] at e1
  exact K _ g w (.d _ _ e1) hI (.refl g w)
theorem o_append_zero2 {T E : TypeId} {sz bt c2 : Nat} {B : Option Addr} {z : Value} {x y : Operand} (ho : o.op = .call { callee := .builtin .append, args := #[x, y], argTypes := #[T, T] }) (hT : P.underlying T = some (.slice E)) (hE : TI P E sz bt z)
    (hx : (ρ x).els = some (sz, [])) (hy : ρ y = .d (.v (.slice B 0 c2))) : OpS P o ρ S S (.d (.sl sz false [])) := by
  intro g w a next Q hI hv K
  have e1 := (hv x (by simp [ho, Op.operands, Call.operands])).els hx
  have h2' := (hy ▸ hv y (by simp [ho, Op.operands, Call.operands])).d_v.1
  obtain ⟨ti, t1, t2, t3, t4, t5, t6⟩ := hE
  obtain ⟨A, c1, h1⟩ := e1.unsl0
  have h1' : a.eval x = .slice A 0 c1 := h1
  have hr := run_append_zeroA (P := P) w T E o.type hT ⟨ti, t1, t3⟩ A B 0 c1 c2 (Nat.zero_le _)
  unfold Oper.wp
  simp only [execOp, ho, resolve, invoke, builtin, Sem.run_bind, Sem.run_pure, Result.andThen_ok, List.map_toArray, List.map_cons, List.map_nil, h1', h2', hr]
  rw [h1'] at e1
  exact K _ g w (.d _ _ e1) hI (.refl g w)
/-- A slice held against nil. -/
theorem run_eqs' (d : Nat) (w : World) {T E : TypeId} (hT : P.underlying T = some (.slice E)) (A : Option Addr) (n c : Nat) : (Op.equalIn (d + 1) T (.slice A n c) (.slice none 0 0)).run P w = .ok A.isNone w := by
  cases A <;> simp [Op.equalIn, run_underlying hT]
theorem run_eqs (w : World) {T E : TypeId} (hT : P.underlying T = some (.slice E)) (A : Option Addr) (n c : Nat) : (Op.equalIn 10000 T (.slice A n c) (.slice none 0 0)).run P w = .ok A.isNone w := run_eqs' 9999 w hT A n c
theorem o_eqs {op : BinOp} {T T' E : TypeId} {x : Operand} {A : Act → Option Addr} {b : Bool} (ho : o.op = .binOp op T x (.const (.slice none 0 0)) T') (hT : P.underlying T = some (.slice E)) (hop : op = .eql ∨ op = .neq)
    (hx : ∀ (g : Gh) (v : Value), V g (ρ x) v → ∃ A n c, v = .slice A n c ∧ A.isNone = b) : OpS P o ρ S S (.d (.v (.bool (if op = .eql then b else !b)))) :=
  .value fun g w a _ hv => by
    obtain ⟨A, n, c, h1, h2⟩ := hx g _ (hv x (by simp [ho, Op.operands]))
    have hrun := run_eqs (P := P) w hT A n c
    rw [h2] at hrun
    refine ⟨.bool (if op = .eql then b else !b), ?_, .d _ _ (.v _ rfl)⟩
    have hguard : (eqGuard op T x (.const (.slice none 0 0)) (.slice A n c) (.slice none 0 0)).run P w = .ok () w := by
      rcases hop with rfl | rfl <;> rfl
    have e2 : a.eval (.const (.slice none 0 0)) = .slice none 0 0 := rfl
    rcases hop with rfl | rfl
    · have hb : (binOp .eql T (.slice A n c) (.slice none 0 0)).run P w = .ok (.bool b) w := by
        simp only [binOp]; simp [Op.equal, Op.maxDepth, hrun]
      simp only [execOp, ho, h1, e2, Sem.run_bind, hguard, Result.andThen_ok, if_true, hb, Sem.run_pure]
    · have hb : (binOp .neq T (.slice A n c) (.slice none 0 0)).run P w = .ok (.bool (!b)) w := by
        simp only [binOp]; simp [Op.equal, Op.maxDepth, hrun]
      simp only [execOp, ho, h1, e2, Sem.run_bind, hguard, Result.andThen_ok, hb, Sem.run_pure]
      rfl
/-- And not. -/
def bitsN (k : IntKind) (a b : Int) : Int := k.wrap ((BitVec.ofInt k.bits a &&& ~~~(BitVec.ofInt k.bits b)).toNat : Nat)
theorem o_andNot {T T' : TypeId} {x y : Operand} {k : IntKind} {m n : Int} (ho : o.op = .binOp .andNot T x y T') (hx : ρ x = .d (.v (.int k m))) (hy : ρ y = .d (.v (.int k n))) : OpS P o ρ S S (.d (.v (.int k (bitsN k m n)))) :=
  .value fun g w a _ hv => by
    have e1 := (hx ▸ hv x (by simp [ho, Op.operands])).d_v.1
    have e2 := (hy ▸ hv y (by simp [ho, Op.operands])).d_v.1
    refine ⟨.int k (bitsN k m n), ?_, .d _ _ (.v _ rfl)⟩
    have hguard : (eqGuard .andNot T x y (.int k m) (.int k n)).run P w = .ok () w := rfl
    have hb : (binOp .andNot T (.int k m) (.int k n)).run P w = .ok (.int k (bitsN k m n)) w := by
      simp [binOp, Op.intBits, bitsN]
    simp only [execOp, ho, e1, e2, Sem.run_bind, hguard, Result.andThen_ok, hb, Sem.run_pure]
/-- copy into an own row, of all that is given. -/
theorem run_copyG (w : World) {T T' ty E t : TypeId} {sz blk off n cap m c2 : Nat} {q : Addr} {cur : Array Value} {us : List Value} (hT : P.underlying T = some (.slice E)) (hE : SizeIs P E sz) (hg : w.heap[blk]? = some (.cells cur t (0, 0)))
    (hul : us.length = m * sz) (hq : ∀ j v, us[j]? = some v → w.cell? (q.add j) = some v) (h1 : ∀ v ∈ us, v.oneCell' = true) (hm : m ≤ n) (hfit : off + us.length ≤ cur.size) :
    (Builtin.copy_ #[T, T'] ty #[.slice (some ⟨blk, off, none⟩) n cap, .slice (some q) m c2]).run P w = .ok (.int .i64 ((m : Nat) : Int)) (w.setRow blk (cur.toList.take off ++ us ++ cur.toList.drop (off + us.length)).toArray) := by
  have hl := run_loadCells_list (P := P) w q us hq
  rw [hul] at hl
  have hst := run_storeCells_at P blk off t us 0 cur w hg (by simpa using hfit) h1
  simp only [Nat.add_zero] at hst
  have hmin : Nat.min m n = m := Nat.min_eq_left hm
  simp only [Builtin.copy_, List.getElem?_toArray, List.getElem?_cons_zero, List.getElem?_cons_succ, Sem.run_bind, run_underlying hT, Result.andThen_ok, Builtin.lenOf, Sem.run_pure, hmin, hE.run w, Builtin.firstCells, hl]
  simp only [hst, Result.andThen_ok, Sem.run_pure, goInt]
theorem run_copy_zero (w : World) {T T' ty E : TypeId} {sz n cap c2 : Nat} {A B : Option Addr} (hT : P.underlying T = some (.slice E)) (hE : SizeIs P E sz) :
    (Builtin.copy_ #[T, T'] ty #[.slice A n cap, .slice B 0 c2]).run P w = .ok (.int .i64 ((0 : Nat) : Int)) w := by
  have hl : ∀ (x : Addr), (loadCells x 0).run P w = .ok #[] w := fun x => by simpa using run_loadCells_list (P := P) w x [] (by simp)
  cases A <;> cases B <;> simp [Builtin.copy_, run_underlying hT, Builtin.lenOf, Builtin.firstCells, hE.run w, storeCells, hl, goInt]
theorem o_copyG {T T' E : TypeId} {x y : Operand} {b off sz n m : Nat} {cs ps : List PV} (ho : o.op = .call { callee := .builtin .copy, args := #[x, y], argTypes := #[T, T'] }) (hT : P.underlying T = some (.slice E)) (hE : SizeIs P E sz) (h0 : 0 < sz)
    (hx : ρ x = .ms b off sz n) (hy : Src S (ρ y) sz m ps) (hb : S.bs[b]? = some (some cs)) (hn : off + n * sz ≤ cs.length) (hm : m ≤ n) :
    OpS P o ρ S ⟨S.bs.set b (some (splice cs off ps)), S.ts⟩ (.d (.v (.int .i64 ((m : Nat) : Int)))) := by
  intro g w a next Q hI hv K
  have e1 := hv x (by simp [ho, Op.operands, Call.operands])
  rw [hx] at e1
  obtain ⟨A2, c2, us, hu2, hvs, hul, hq⟩ := hy.given hI h0 (hv y (by simp [ho, Op.operands, Call.operands]))
  have hpl : ps.length = m * sz := by rw [hvs.1]; exact hul
  generalize hu : a.eval x = u at e1
  cases e1 with
  | ms _ _ _ _ cap a1 hh hc hx1 hnn =>
    unfold Oper.wp
    by_cases hm0 : m = 0
    · subst hm0
      have hps : ps = [] := List.eq_nil_of_length_eq_zero (by rw [hpl]; simp)
      subst hps
      have hrun := run_copy_zero (P := P) w (T := T) (T' := T') (ty := o.type) (n := n) (cap := cap) (c2 := c2) (A := a1.map adr) (B := A2) hT hE
      have e : (⟨S.bs.set b (some (splice cs off [])), S.ts⟩ : Sx) = S := by
        have : splice cs off [] = cs := by rw [splice_eq _ _ _ (by simp; omega)]; simp
        rw [this, set_self hb]
      simp only [execOp, ho, resolve, invoke, builtin, Sem.run_bind, Sem.run_pure, Result.andThen_ok, List.map_toArray, List.map_cons, List.map_nil, hu, hu2, hrun]
      rw [e] at K
      exact K _ g w (.d _ _ (.v _ rfl)) hI (.refl g w)
    · obtain ⟨blk, rfl, hblk, _⟩ := hh (by omega)
      obtain ⟨q, rfl, hq2⟩ := hq (Nat.pos_of_ne_zero hm0)
      have hle : m * sz ≤ n * sz := Nat.mul_le_mul_right _ hm
      have hpos : 0 < m * sz := Nat.mul_pos (Nat.pos_of_ne_zero hm0) h0
      obtain ⟨cur, ty, k1, k2, k3, k4⟩ := hI.setbox (off := off) hb hblk hvs (by rw [hpl]; omega) (by rintro rfl; simp at hn; omega)
      have hrun := run_copyG (P := P) w (T := T) (T' := T') (ty := o.type) (n := n) (cap := cap) (c2 := c2) hT hE k1 hul hq2 hvs.one hm (by simpa using k2)
      simp only [execOp, ho, resolve, invoke, builtin, Sem.run_bind, Sem.run_pure, Result.andThen_ok, List.map_toArray, List.map_cons, List.map_nil, hu, hu2, Option.map_some, show adr (blk, off) = (⟨blk, off, none⟩ : Addr) from rfl, hrun]
      exact K _ g _ (.d _ _ (.v _ rfl)) k3 k4
/-- A row made in a place that is kept for it. -/
theorem o_mk_at {T E : TypeId} {sz b n p : Nat} {z : Value} {zs : List PV} {x y : Operand} {k k' : IntKind} (ho : o.op = .makeSlice T x y) (hT : P.underlying T = some (.slice E)) (hE : TI P E sz b z) (h0 : 0 < sz) (hz : Zs zs z.cells.toList)
    (hx : ρ x = .d (.v (.int k ((n : Nat) : Int)))) (hy : ρ y = .d (.v (.int k' ((n : Nat) : Int)))) (hb : n * b ≤ 281474976710656) (hm : n ≤ 9223372036854775807) (hp : S.bs[p]? = some none) : OpS P o ρ S ⟨S.bs.set p (some (reps n zs)), S.ts⟩ (.ms p 0 sz n) := by
  intro g w a next Q hI hv K
  have hr := o_mk_core (w := w) ho hT hE hv hx hy hb hm
  obtain ⟨i, t1, t2, t3, t4, t5, t6⟩ := hE
  subst t3 t4
  have hzl : zs.length = z.cells.size := by have := (hz g).1; simpa using this
  have hbox := hI.newbox_at hp (cs := reps n zs) (vs := madeCells z.cells (n * z.cells.size)) E (by
    refine ⟨by rw [reps_len, hzl]; simp [madeCells], fun j c x q1 q2 => ?_⟩
    have hj : j < n * zs.length := by have := (List.getElem?_eq_some_iff.1 q1).1; rwa [reps_len] at this
    rw [reps_get hj] at q1
    rw [Array.getElem?_toList, madeCells_get (by omega) (by rw [← hzl]; exact hj), ← hzl] at q2
    exact (hz g).2 _ c x q1 (by simpa using q2))
  rw [← t5] at hr
  have hlt : p < g.bx.length := by rw [hI.hbx]; exact (List.getElem?_eq_some_iff.1 hp).1
  unfold Oper.wp
  rw [hr]
  exact K _ { g with bx := g.bx.set p (some w.heap.size) } _ (.ms p 0 _ n n (some (w.heap.size, 0)) (fun _ => ⟨w.heap.size, rfl, by
    show (g.bx.set p _)[p]? = _; simp [hlt], hI.gx_no hp⟩) (Nat.le_refl _) (by simp only [maxLen]; omega) (fun h => by cases h)) hbox.1 hbox.2
/-- A literal slice that is a growing member. -/
theorem o_buildSlice_fv {T E : TypeId} {n sz b i N : Nat} {parts : Array (Nat × Operand)} {z : Value} {es : List (List PV)} {cs : List PV} (ho : o.op = .buildSlice T n parts) (hT : P.underlying T = some (.slice E)) (hE : TI P E sz b z) (h0 : 0 < sz) (hn : n * sz ≤ 16777216) (hn0 : 0 < n)
    (hes : elsP ρ parts.toList 0 = some es) (hl : es.length = n) (hel : es.all (fun e => e.length == sz) = true) (hb : S.bs[i]? = some (some cs)) (hf : isFam cs = true) (hN : cs.length = N + 1) : OpS P o ρ S ⟨S.bs.set i (some (cs ++ [.agg es.flatten])), S.ts⟩ (.fv i N sz n) := by
  intro g w a next Q hI hv K
  obtain ⟨ie, hE, hz, hs, _⟩ := hE
  subst hs
  have hel : ∀ e ∈ es, e.length = ie.size := fun e he => by simpa using List.all_eq_true.1 hel e he
  obtain ⟨e1, e2, e3, e4⟩ := elsP_ok (sz := ie.size) (a := a) (g := g) parts.toList 0 es (fun x hx => hv x.2 (by
    simp only [ho, Op.operands]
    rw [List.mem_toArray]
    exact List.mem_map.2 ⟨x, hx, rfl⟩)) hes hel
  have hsz0 : ((Array.range (n * ie.size)).map (z.cells[· % z.cells.size]!)).size = n * ie.size := by simp
  have hfill := Go.Great.fill_whole h0 (parts.toList.map fun x => a.eval x.2) ((Array.range (n * ie.size)).map (z.cells[· % z.cells.size]!)) e3 (by simp only [List.length_map]; rw [hsz0, e1, hl])
  have hparts : (parts.map fun (i, x) => (i, a.eval x)).toList = ((parts.toList.map fun x => a.eval x.2).zipIdx 0).map (fun x => (x.2, x.1)) := by rw [← e2]; simp
  generalize hvs : (parts.toList.map fun x => a.eval x.2).flatMap (fun v => v.cells.toList) = vs at *
  have hfl : es.flatten.length = n * ie.size := by rw [flat_len hel, hl]
  have hvl : vs.length = n * ie.size := by rw [← hfl]; exact e4.1.symm
  have hnm : n ≤ n * ie.size := Nat.le_mul_of_pos_right _ h0
  have hcap : n ≤ maxLen := by simp only [maxLen]; omega
  obtain ⟨h1, h2⟩ := hI.allocmem (k := .gr ⟨n, n, ie.size⟩) (o := .cells vs.toArray E) (ds := es.flatten) hb hf hN ⟨hfl, h0, Nat.le_refl _, hcap, fun _ => ⟨w.heap.size, vs.toArray, E, rfl, heap_alloc_new w _, by simpa using hvl, fun j c x q1 q2 => ((e4.b).mono (hI.le_addf hb hN _)).2 j c x q1 (by simpa using q2)⟩⟩
  unfold Oper.wp
  have hpos : ¬ n * ie.size = 0 := by
    intro h; rcases Nat.mul_eq_zero.1 h with h | h <;> omega
  have hrun : (execOp a.eval o).run P w = .ok (.value (.slice (some ⟨w.heap.size, 0, none⟩) n n)) (w.alloc (.cells vs.toArray E)) := by
    have := run_buildSlice (P := P) w T E n (parts.map fun (i, x) => (i, a.eval x)) vs.toArray ie z hT hE hz (by omega) hpos (by rw [hparts]; exact hfill)
    simp only [execOp, ho, Sem.run_bind, this, Result.andThen_ok, Sem.run_pure]
  rw [hrun]
  exact K _ _ _ (.fv i N _ n n (some ⟨w.heap.size, 0, none⟩) (some w.heap.size) ⟨n, n, ie.size⟩ addf_new rfl (Nat.le_refl _) (fun _ => ⟨rfl, fun _ => ⟨w.heap.size, rfl, rfl⟩⟩) (Nat.le_refl _) hcap (fun h => by cases h)) h1 h2
end
end Go.Pv
