/- A field of a struct's value. -/
import Derived.Test.YtihiooaimdoapaaGreatBmW
set_option linter.unusedVariables false
set_option linter.unusedSimpArgs false
namespace Go.Bm
noncomputable section
variable {P : Program} {E : Env} {o : Oper} {ρ : Operand → A} {h : H} {β : Type} {K : A → H → Fp → Option β} {r : β}
def fvK (E : Env) (T f : Nat) (px : A) (h : H) (K : A → H → Fp → Option β) : Option β := match px with
  | .agg cs => match tget E.tab T with
    | some ⟨.struct fs, _, _, _, _, _, _⟩ => match fs[f]? with
      | some fd => match tget E.tab fd.type with
        | some e => bif aggT e.d then K (.agg ((cs.drop fd.offset).take e.size)) h .no else (match (cs.drop fd.offset).take e.size with
          | [p] => spK p (fun v => K v h .no)
          | _ => none)
        | none => none
      | none => none
    | _ => none
  | _ => none
theorem V.aggVs {g : G} {cs : List A} {u : Value} (h : V g (.agg cs) u) : ∃ vs, u = .agg vs ∧ Vs g cs vs.toList := by
  cases h with
  | agg _ vs hl h1 hh =>
    refine ⟨vs, rfl, by simpa using hl, fun j c x a b => ?_⟩
    have b' : vs[j]? = some x := by simpa using b
    exact ⟨hh j c x a b', h1 x (List.mem_of_getElem? b)⟩
theorem fvK_ok (hE : EnvOk P E) {T f : Nat} {x : Operand} (ho : o.op = .field T x f) (hr : fvK E T f (ρ x) h K = some r) : Out P o ρ h K r := by
  have hd : ∀ c, o.op ≠ .defer c := by rw [ho]; intro c e; cases e
  unfold fvK at hr
  split at hr
  · rename_i cs hx
    split at hr
    · rename_i fs _ _ _ _ t _ ht
      split at hr
      · rename_i fd hf
        split at hr
        · rename_i e he
          have key : ∀ {S2 : Hp} {v : A}, (∀ g xs, Vs g ((cs.drop fd.offset).take e.size) xs → ∃ u, valOf e.d xs u ∧ V g v u) → OpS P o ρ S2 S2 v := fun {S2 v} hk => .value fun g w a _ hv => by
            have e1 := hv x (by simp [ho, Op.operands])
            rw [hx] at e1
            obtain ⟨vs, e2, e3⟩ := e1.aggVs
            obtain ⟨u, h1, h2⟩ := hk g _ (e3.part fd.offset e.size)
            refine ⟨u, ?_, h2⟩
            simp only [execOp, ho, e2, Sem.run_bind, Instr.field, run_underlying (hE.tab _ _ ht).u, Result.andThen_ok, hf, asAgg, Sem.run_pure, run_part (hE.tab _ _ he) h1 w]
          cases ha : aggT e.d with
          | true =>
            rw [ha] at hr
            refine .pure hr (fun S2 => key fun g xs hxs => ⟨.agg xs.toArray, by simp [valOf, ha], ?_⟩) hd
            exact .agg _ _ (by simpa using hxs.1) (fun v hm => by
              obtain ⟨j, hj⟩ := List.getElem?_of_mem hm
              simp only [List.toList_toArray] at hj
              have hlt : j < ((cs.drop fd.offset).take e.size).length := by
                have := (List.getElem?_eq_some_iff.1 hj).1; have := hxs.1; omega
              exact (hxs.2 j _ v (List.getElem?_eq_getElem hlt) hj).2) (fun i c y h1 h2 => (hxs.2 i c y h1 (by simpa using h2)).1)
          | false =>
            rw [ha] at hr
            simp only [cond_false] at hr
            split at hr
            · rename_i p hp
              refine .sp hr (.pure (fun S2 => key fun g xs hxs => ?_) hd)
              rw [hp] at hxs
              obtain ⟨z, e1, e2⟩ := hxs.single
              exact ⟨z, by simp [valOf, ha, e1], e2⟩
            · cases hr
        · cases hr
      · cases hr
    · cases hr
  · cases hr
/-- A row of its own is held against nil: of one with elements it is known. -/
def isNil (py : A) : Bool := match py with
  | .v (.slice none 0 0) => true
  | _ => false
theorem isNil_eq {py : A} (h : isNil py = true) : py = .v (.slice none 0 0) := by
  unfold isNil at h
  split at h
  · rfl
  · cases h
def eqwR (E : Env) (op : BinOp) (T : Nat) (X : Ref) (z : Nat) (h : H) (K : A → H → Fp → Option β) : Option β := bif isEq op then (match tget E.tab T with
    | some e => match e.d with
      | .slice _ => rowK h X (fun t l => bif Nat.beq z t.size && Nat.blt 0 z then gd (nlt 0 (len l)) (K (.v (.bool (neg1 op false))) h (.rd [rs1 X])) else none)
      | _ => none
    | none => none) else none
def eqwK (E : Env) (op : BinOp) (T : Nat) (px py : A) (h : H) (K : A → H → Fp → Option β) : Option β := match px with
  | .tw X z => bif isNil py then eqwR E op T X z h K else binK E op T px py h K
  | .os r z o => bif isNil py then opt o none (fun j => eqwR E op T (.reg r j) z h K) else binK E op T px py h K
  | _ => binK E op T px py h K
theorem opS_eqw {S : Hp} {op : BinOp} {T T' E : TypeId} {x y : Operand} (ho : o.op = .binOp op T x y T') (hT : P.underlying T = some (.slice E)) (hop : op = .eql ∨ op = .neq)
    (hy : ρ y = .v (.slice none 0 0)) (hx : ∀ g w v, Inv g S w → V g (ρ x) v → ∃ a n c, v = .slice (some a) n c) : OpS P o ρ S S (.v (.bool (if op = .eql then false else !false))) :=
  .value fun g w a hI hv => by
    have e2 := hv y (by simp [ho, Op.operands])
    rw [hy] at e2
    have e2 := e2.v_eq
    obtain ⟨A, n, c, h1⟩ := hx g w _ hI (hv x (by simp [ho, Op.operands]))
    have hrun := run_eqs (P := P) w hT (some A) n c
    refine ⟨.bool (if op = .eql then false else !false), ?_, .v _⟩
    have hguard : (eqGuard op T x y (.slice (some A) n c) (.slice none 0 0)).run P w = .ok () w := by
      rcases hop with rfl | rfl <;> rfl
    rcases hop with rfl | rfl
    · have hb : (binOp .eql T (.slice (some A) n c) (.slice none 0 0)).run P w = .ok (.bool false) w := by
        simp only [binOp]; simp [Op.equal, Op.maxDepth, hrun]
      simp only [execOp, ho, h1, e2, Sem.run_bind, hguard, Result.andThen_ok, if_true, hb, Sem.run_pure]
    · have hb : (binOp .neq T (.slice (some A) n c) (.slice none 0 0)).run P w = .ok (.bool (!false)) w := by
        simp only [binOp]; simp [Op.equal, Op.maxDepth, hrun]
      simp only [execOp, ho, h1, e2, Sem.run_bind, hguard, Result.andThen_ok, hb, Sem.run_pure]
      rfl
theorem eqwR_ok (hE : EnvOk P E) {op : BinOp} {T T' : TypeId} {x y : Operand} {X : Ref} {z : Nat} (ho : o.op = .binOp op T x y T') (hn : isNil (ρ y) = true) (hx : ∀ g v, V g (ρ x) v → V g (.tw X z) v) (hr : eqwR E op T X z h K = some r) : Out P o ρ h K r := by
  have hd : ∀ c, o.op ≠ .defer c := by rw [ho]; intro c e; cases e
  have hy := isNil_eq hn
  unfold eqwR at hr
  obtain ⟨hq, hr⟩ := cond_some hr
  split at hr
  · rename_i e ht
    split at hr
    · rename_i el hdd
      obtain ⟨t, l, hr, hX, hob⟩ := rowK_ok hr
      obtain ⟨hz, hr⟩ := cond_some hr
      simp only [Bool.and_eq_true] at hz
      have hz1 := beq_eq hz.1
      have h0 := blt_lt hz.2
      obtain ⟨hl, hr⟩ := gd_inv hr
      have hl : 0 < l.length := hl
      refine .read _ hr (fun S2 hA => ?_) hd
      have hob2 := (hA _ (touch_ref hX (.head _))).1.trans hob
      rw [neg1_eq _ hq]
      refine opS_eqw ho (by rw [(hE.tab _ _ ht).u, hdd]) (isEq_or hq) hy (fun g w v hI hv => ?_)
      have hv := hx _ _ hv
      rw [hz1] at hv
      rcases hv.twLen hI (by omega) hob2 with ⟨ad, _, rfl, rfl⟩ | ⟨b, s, cap, d, _, rfl, _⟩
      · cases hl
      · exact ⟨_, _, _, rfl⟩
    · cases hr
  · cases hr
theorem eqwK_ok (hE : EnvOk P E) {op : BinOp} {T T' : TypeId} {x y : Operand} (ho : o.op = .binOp op T x y T') (hr : eqwK E op T (ρ x) (ρ y) h K = some r) : Out P o ρ h K r := by
  unfold eqwK at hr
  split at hr
  · rename_i X z hx
    cases hn : isNil (ρ y) with
    | true =>
      rw [hn] at hr
      exact eqwR_ok hE ho hn (fun g v hv => by rwa [hx] at hv) hr
    | false =>
      rw [hn] at hr
      exact binK_ok hE ho hr
  · rename_i ri z oo hx
    cases hn : isNil (ρ y) with
    | true =>
      rw [hn] at hr
      rcases opt_inv (show opt oo none (fun j => eqwR E op T (.reg ri j) z h K) = some r from hr) with ⟨_, h2⟩ | ⟨j, h1, h2⟩
      · cases h2
      · exact eqwR_ok hE ho hn (fun g v hv => by
          rw [hx] at hv
          cases hv with
          | os _ _ _ _ _ k1 => exact k1 j h1) h2
    | false =>
      rw [hn] at hr
      exact binK_ok hE ho hr
  · exact binK_ok hE ho hr
end
end Go.Bm
