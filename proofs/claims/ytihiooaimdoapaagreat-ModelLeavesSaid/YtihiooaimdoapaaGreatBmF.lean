/- What operations do: comparisons, lengths, copy; what is known of types. -/
import Derived.Test.YtihiooaimdoapaaGreatBmE
set_option linter.unusedVariables false
set_option linter.unusedSimpArgs false
namespace Go.Bm
noncomputable section
open Go.RowKit
/-- What is known of a type. -/
structure TyE where
  d : TypeDesc
  size : Nat
  bytes : Nat
  zero : Value
  pl : List (Nat × Nat)
  t : Option Ty
  lt : Bool
inductive Tab where
  | nil
  | node (l : Tab) (v : Option TyE) (r : Tab)
def tget (t : Tab) : Nat → Option TyE :=
  Tab.rec (motive := fun _ => Nat → Option TyE) (fun _ => none) (fun _ v _ gl gr n => Nat.rec (motive := fun _ => Option TyE) v (fun n _ => Nat.rec (motive := fun _ => Option TyE) (gl (n / 2)) (fun _ _ => gr (n / 2)) (n % 2)) n) t
theorem tget_succ (l : Tab) (v : Option TyE) (r : Tab) (n : Nat) : tget (.node l v r) (n + 1) = bif Nat.beq (n % 2) 0 then tget l (n / 2) else tget r (n / 2) := by
  show Nat.rec (motive := fun _ => Option TyE) (tget l (n / 2)) (fun _ _ => tget r (n / 2)) (n % 2) = _
  cases n % 2 <;> rfl
structure TyOk (P : Program) (t : Nat) (e : TyE) : Prop where
  u : P.underlying t = some e.d
  ti : TI P t e.size e.bytes e.zero
  pl : ∀ fs, e.d = .struct fs → ∀ w : World, (fs.mapM fun f => (do pure (f.offset, ← sizeOf f.type) : Sem (Nat × Nat))).run P w = .ok e.pl.toArray w
  ts : ∀ t, e.t = some t → t.size = e.size
  tz : ∀ t, e.t = some t → Zs (encA t t.dflt) e.zero
/-- What is known of a struct's type that is compared. -/
structure EqTy (P : Program) (t : Nat) : Prop where
  held : P.stoodInHeld t = false
  guard : P.eqGuardType P.depth t = false
  names : ∀ fs, P.underlying t = some (.struct fs) → ∀ f ∈ fs.toList, f.name ≠ "_"
structure Env where
  tab : Tab
  eqs : List Nat
structure EnvOk (P : Program) (E : Env) : Prop where
  tab : ∀ t e, tget E.tab t = some e → TyOk P t e
  eqs : ∀ t, E.eqs.any (Nat.beq t) = true → EqTy P t
  mixed : P.follows .mixedOrders = true
def eqF (E : Env) (rec : Nat → List A → List A → Option Bool) : List Field → List A → List A → Option Bool
  | [], _, _ => some true
  | fd :: fs, cs, ds => match tget E.tab fd.type with
    | some ef => match rec fd.type ((cs.drop fd.offset).take ef.size) ((ds.drop fd.offset).take ef.size), eqF E rec fs cs ds with
      | some a, some b => some (band a b)
      | _, _ => none
    | none => none
/-- Are two values the same? By their cells. -/
def eqC (E : Env) : Nat → Nat → List A → List A → Option Bool
  | 0, _, _, _ => none
  | f + 1, T, cs, ds => match tget E.tab T with
    | some e => match e.d with
      | .int _ => match cs, ds with
        | [.v (.int k m)], [.v (.int k' n)] => if k = k' then some (ieql m n) else none
        | _, _ => none
      | .bool => match cs, ds with
        | [.v (.bool m)], [.v (.bool n)] => some (beql m n)
        | _, _ => none
      | .struct fs => bif E.eqs.any (Nat.beq T) then eqF E (eqC E f) fs.toList cs ds else none
      | _ => none
    | none => none
section
variable {P : Program} {E : Env}
def valOf (d : TypeDesc) (xs : List Value) (v : Value) : Prop := if aggT d = true then v = .agg xs.toArray else xs = [v]
theorem Vs.single {g : G} {c : A} {xs : List Value} (h : Vs g [c] xs) : ∃ x, xs = [x] ∧ V g c x := by
  have := h.1
  match xs, this with
  | [x], _ => exact ⟨x, rfl, (h.2 0 c x rfl rfl).1⟩
theorem run_part {t : TypeId} {e : TyE} (hk : TyOk P t e) {xs : Array Value} {off : Nat} {v : Value} (hv : valOf e.d ((xs.toList.drop off).take e.size) v) (w : World) : (part t xs off).run P w = .ok v w := by
  unfold valOf at hv
  unfold part
  simp only [Sem.run_bind, run_isAgg hk.u, Result.andThen_ok]
  split at hv
  · rename_i ha
    rw [if_pos ha]
    simp only [Sem.run_bind, hk.ti.size.run w, Result.andThen_ok, Sem.run_pure, hv]
    congr 2
    apply Array.ext'
    simp [List.extract_eq_take_drop]
  · rename_i ha
    rw [if_neg ha]
    have h0 : ((xs.toList.drop off).take e.size)[0]? = some v := by rw [hv]; rfl
    rw [List.getElem?_take] at h0
    split at h0
    · rw [List.getElem?_drop] at h0
      have h1 : xs[off]? = some v := by simpa using h0
      rw [h1]; simp
    · cases h0
theorem eqC_ok (hE : EnvOk P E) : ∀ (f T : Nat) (cs ds : List A) (b : Bool), eqC E f T cs ds = some b → ∀ (g : G) (xs ys : List Value) (k : Nat) (w : World) (e : TyE) (v v' : Value), tget E.tab T = some e → Vs g cs xs → Vs g ds ys → valOf e.d xs v → valOf e.d ys v' →
    (Op.equalIn (f + k) T v v').run P w = .ok b w
  | 0, _, _, _, _, h => by cases h
  | f + 1, T, cs, ds, b, h => by
    intro g xs ys k w e v v' he hc hd hv hv'
    have hk := hE.tab T e he
    have hu := hk.u
    unfold eqC at h
    rw [he] at h
    simp only at h
    rw [show f + 1 + k = (f + k) + 1 by omega]
    split at h
    · rename_i kk hd'
      rw [hd'] at hv hv' hu
      split at h
      · split at h
        · rename_i hkk; subst hkk
          cases h
          obtain ⟨x, rfl, hx⟩ := hc.single
          obtain ⟨y, rfl, hy⟩ := hd.single
          obtain rfl : x = v := by simpa [valOf, aggT] using hv
          obtain rfl : y = v' := by simpa [valOf, aggT] using hv'
          rw [hx.v_eq, hy.v_eq, run_equalIn_int w (f + k) T _ _ _ _ hu]
          congr 1
        · cases h
      · cases h
    · rename_i hd'
      rw [hd'] at hv hv' hu
      split at h
      · cases h
        obtain ⟨x, rfl, hx⟩ := hc.single
        obtain ⟨y, rfl, hy⟩ := hd.single
        obtain rfl : x = v := by simpa [valOf, aggT] using hv
        obtain rfl : y = v' := by simpa [valOf, aggT] using hv'
        rw [hx.v_eq, hy.v_eq, run_equalIn_bool' w (f + k) T _ _ hu]; rfl
      · cases h
    · rename_i fs hd'
      rw [hd'] at hv hv' hu
      cases hq : E.eqs.any (Nat.beq T) with
      | false => rw [hq] at h; cases h
      | true =>
        rw [hq] at h; simp only [cond_true] at h
        have hT := hE.eqs T hq
        obtain rfl : v = .agg xs.toArray := by simpa [valOf, aggT] using hv
        obtain rfl : v' = .agg ys.toArray := by simpa [valOf, aggT] using hv'
        have hfo : P.fieldsOf T = fs := by simp [Program.fieldsOf, hu]
        rw [run_equalIn_agg w (f + k) T xs.toArray ys.toArray (by rw [hfo]; exact hu) hT.held, hfo]
        have hn := hT.names fs hu
        generalize fs.toList = l at h hn
        clear hu hd' hv hv' hfo
        induction l generalizing b with
        | nil => simp only [eqF, Option.some.injEq] at h; subst h; simp [Op.eqFields]
        | cons fd l ih =>
          unfold eqF at h
          split at h
          · rename_i ef hef
            split at h
            · rename_i a b' h1 h2
              cases h
              have hkf := hE.tab _ _ hef
              have pc := hc.part fd.offset ef.size
              have pd := hd.part fd.offset ef.size
              have ex : ∀ zs : List Value, ∀ ps : List A, Vs g ps zs → (∃ b ps', eqC E f fd.type ps ps' = some b) ∨ (∃ b ps', eqC E f fd.type ps' ps = some b) → ∃ v, valOf ef.d zs v := by
                intro zs ps hz hex
                unfold valOf
                by_cases ha : aggT ef.d = true
                · exact ⟨.agg zs.toArray, by rw [if_pos ha]⟩
                · have : ∃ c, ps = [c] := by
                    rcases hex with ⟨b, ps', hb⟩ | ⟨b, ps', hb⟩
                    · cases f with
                      | zero => cases hb
                      | succ f =>
                        unfold eqC at hb
                        rw [hef] at hb
                        simp only at hb
                        split at hb <;> (try (split at hb)) <;> first
                          | exact ⟨_, rfl⟩
                          | (cases hb; done)
                          | (rename_i hx _; rw [hx] at ha; exact absurd rfl ha)
                          | (rename_i hx; rw [hx] at ha; exact absurd rfl ha)
                    · cases f with
                      | zero => cases hb
                      | succ f =>
                        unfold eqC at hb
                        rw [hef] at hb
                        simp only at hb
                        split at hb <;> (try (split at hb)) <;> first
                          | exact ⟨_, rfl⟩
                          | (cases hb; done)
                          | (rename_i hx _; rw [hx] at ha; exact absurd rfl ha)
                          | (rename_i hx; rw [hx] at ha; exact absurd rfl ha)
                  obtain ⟨c, rfl⟩ := this
                  obtain ⟨x, rfl, _⟩ := hz.single
                  exact ⟨x, by rw [if_neg ha]⟩
              obtain ⟨u, hu1⟩ := ex _ _ pc (.inl ⟨_, _, h1⟩)
              obtain ⟨u', hu2⟩ := ex _ _ pd (.inr ⟨_, _, h1⟩)
              have hrec := eqC_ok hE f fd.type _ _ a h1 g _ _ k w ef u u' hef pc pd hu1 hu2
              have hp1 := run_part hkf (xs := xs.toArray) (off := fd.offset) (v := u) (by simpa using hu1) w
              have hp2 := run_part hkf (xs := ys.toArray) (off := fd.offset) (v := u') (by simpa using hu2) w
              simp only [Op.eqFields]
              rw [if_pos (hn fd (List.mem_cons_self ..))]
              simp only [Sem.run_bind, hp1, hp2, hrec, Result.andThen_ok]
              cases a with
              | true =>
                simp only [Bool.not_true, Bool.false_eq_true, if_false, Bool.true_and, band]
                exact ih b' h2 (fun f hf => hn f (List.mem_cons_of_mem _ hf))
              | false => simp [band]
            · cases h
          · cases h
    · cases h
def isAggP : A → Bool
  | .agg _ => true
  | _ => false
theorem V.aggP {g : G} {p : A} {v : Value} (h : V g p v) (hp : isAggP p = true) : ∃ vs, v = .agg vs := by
  unfold isAggP at hp
  split at hp
  · cases h; exact ⟨_, rfl⟩
  · cases hp
theorem opS_eqagg (hE : EnvOk P E) {o : Oper} {ρ : Operand → A} {S : Hp} {op : BinOp} {T T' : TypeId} {x y : Operand} {cs ds : List A} {e : TyE} {f : Nat} {b : Bool} (ho : o.op = .binOp op T x y T') (he : tget E.tab T = some e) (ha : aggT e.d = true)
    (hq : EqTy P T) (hax : isAggP (ρ x) = true) (hay : isAggP (ρ y) = true) (hx : (ρ x).cells = some cs) (hy : (ρ y).cells = some ds) (hb : eqC E f T cs ds = some b) (hf : f ≤ 10000) (hop : op = .eql ∨ op = .neq) :
    OpS P o ρ S S (.v (.bool (if op = .eql then b else !b))) :=
  .value fun g w a _ hv => by
    have e1 := hv x (by simp [ho, Op.operands])
    have e2 := hv y (by simp [ho, Op.operands])
    obtain ⟨vs, h1⟩ := e1.aggP hax
    obtain ⟨us, h2⟩ := e2.aggP hay
    have c1 := e1.cells hx
    have c2 := e2.cells hy
    rw [h1] at c1
    rw [h2] at c2
    have hrun := eqC_ok hE f T cs ds b hb g _ _ (10000 - f) w e (.agg vs) (.agg us) he c1 c2 (by simp [valOf, ha, Value.cells]) (by simp [valOf, ha, Value.cells])
    rw [show f + (10000 - f) = 10000 from Nat.add_sub_cancel' hf] at hrun
    refine ⟨.bool (if op = .eql then b else !b), ?_, .v _⟩
    have hguard := run_eqGuard_agg (P := P) w op T x y vs us hq.guard
    rcases hop with rfl | rfl
    · simp only [execOp, ho, h1, h2, Sem.run_bind, hguard, Result.andThen_ok, if_true, run_eql_struct, hrun, Sem.run_pure]
    · simp only [execOp, ho, h1, h2, Sem.run_bind, hguard, Result.andThen_ok, run_neq_struct, hrun, Sem.run_pure]
      rfl
theorem equal_nil_l (d : Nat) {t el : TypeId} (b : Option Addr) (w : World) (hu : P.underlying t = some (.pointer el)) : (Op.equalIn (d + 1) t (.pointer none) (.pointer b)).run P w = .ok b.isNone w := by
  simp [Op.equalIn, run_underlying hu]
theorem equal_nil_r (d : Nat) {t el : TypeId} (a : Addr) (w : World) (hu : P.underlying t = some (.pointer el)) : (Op.equalIn (d + 1) t (.pointer (some a)) (.pointer none)).run P w = .ok false w := by
  simp [Op.equalIn, run_underlying hu]
theorem run_eqlp (t : TypeId) (a b : Option Addr) (w : World) : (binOp .eql t (.pointer a) (.pointer b)).run P w = ((Op.equalIn 10000 t (.pointer a) (.pointer b)).run P w).andThen fun b w' => .ok (.bool b) w' := by
  simp only [binOp]
  simp [Op.equal, Op.maxDepth]
theorem run_neqp (t : TypeId) (a b : Option Addr) (w : World) : (binOp .neq t (.pointer a) (.pointer b)).run P w = ((Op.equalIn 10000 t (.pointer a) (.pointer b)).run P w).andThen fun b w' => .ok (.bool (!b)) w' := by
  simp only [binOp]
  simp [Op.equal, Op.maxDepth]
/-- A pointer held against nil. -/
def isNilP : A → Bool
  | .v (.pointer none) => true
  | _ => false
def nilEq (p q : A) : Option Bool := bif isNilP p && isNilP q then some true else bif (isNilP p && isP q) || (isP p && isNilP q) then some false else none
theorem V.nilP {g : G} {p : A} {v : Value} (h : V g p v) (hp : isNilP p = true) : v = .pointer none := by
  unfold isNilP at hp
  split at hp
  · exact h.v_eq
  · cases hp
theorem opS_eqptr {o : Oper} {ρ : Operand → A} {S : Hp} {op : BinOp} {T T' : TypeId} {x y : Operand} {el : Nat} {b : Bool} (ho : o.op = .binOp op T x y T') (hu : P.underlying T = some (.pointer el))
    (hb : nilEq (ρ x) (ρ y) = some b) (hop : op = .eql ∨ op = .neq) : OpS P o ρ S S (.v (.bool (if op = .eql then b else !b))) :=
  .value fun g w a _ hv => by
    have e1 := hv x (by simp [ho, Op.operands])
    have e2 := hv y (by simp [ho, Op.operands])
    have key : ∃ p q, a.eval x = .pointer p ∧ a.eval y = .pointer q ∧ (Op.equalIn 10000 T (.pointer p) (.pointer q)).run P w = .ok b w := by
      unfold nilEq at hb
      cases h1 : (isNilP (ρ x) && isNilP (ρ y)) with
      | true =>
        rw [h1] at hb; simp only [cond_true, Option.some.injEq] at hb; subst hb
        simp only [Bool.and_eq_true] at h1
        exact ⟨none, none, e1.nilP h1.1, e2.nilP h1.2, equal_nil_l 9999 _ w hu⟩
      | false =>
        rw [h1] at hb; simp only [cond_false] at hb
        cases h2 : ((isNilP (ρ x) && isP (ρ y)) || (isP (ρ x) && isNilP (ρ y))) with
        | false => rw [h2] at hb; cases hb
        | true =>
          rw [h2] at hb; simp only [cond_true, Option.some.injEq] at hb; subst hb
          simp only [Bool.or_eq_true, Bool.and_eq_true] at h2
          rcases h2 with ⟨h3, h4⟩ | ⟨h3, h4⟩
          · obtain ⟨ad, h5⟩ := e2.isP h4
            exact ⟨none, some ad, e1.nilP h3, h5, equal_nil_l 9999 _ w hu⟩
          · obtain ⟨ad, h5⟩ := e1.isP h3
            exact ⟨some ad, none, h5, e2.nilP h4, equal_nil_r 9999 _ w hu⟩
    obtain ⟨p, q, h1, h2, hrun⟩ := key
    refine ⟨.bool (if op = .eql then b else !b), ?_, .v _⟩
    have hguard : (eqGuard op T x y (.pointer p) (.pointer q)).run P w = .ok () w := by
      rcases hop with rfl | rfl <;> rfl
    rcases hop with rfl | rfl
    · simp only [execOp, ho, h1, h2, Sem.run_bind, hguard, Result.andThen_ok, if_true, run_eqlp, hrun, Sem.run_pure]
    · simp only [execOp, ho, h1, h2, Sem.run_bind, hguard, Result.andThen_ok, run_neqp, hrun, Sem.run_pure]
      rfl
theorem opS_len {o : Oper} {ρ : Operand → A} {S : Hp} {T : TypeId} {x : Operand} {n : Nat} (ho : o.op = .call { callee := .builtin .len, args := #[x], argTypes := #[T] }) (hT : ∃ El, P.underlying T = some (.slice El)) (hx : ∀ g w v, Inv g S w → V g (ρ x) v → ∃ ad c, v = .slice ad n c) : OpS P o ρ S S (.v (.int .i64 ((n : Nat) : Int))) :=
  .value fun g w a hI hv => by
    obtain ⟨El, hT⟩ := hT
    obtain ⟨A1, c, hu⟩ := hx g w _ hI (hv x (by simp [ho, Op.operands, Call.operands]))
    exact ⟨_, by simp [execOp, ho, resolve, invoke, builtin, hu, Builtin.len_, run_underlying hT, goInt], .v _⟩
theorem opS_copy {o : Oper} {ρ : Operand → A} {S : Hp} {T T' E : TypeId} {x y : Operand} {z p off n m : Nat} {cs ps : List A} (ho : o.op = .call { callee := .builtin .copy, args := #[x, y], argTypes := #[T, T'] }) (hT : P.underlying T = some (.slice E)) (hE : SizeIs P E z)
    (hx : ∀ g w v, Inv g S w → V g (ρ x) v → ∃ b s cap d, g.at' p = some (some b, s) ∧ v = .slice (some ⟨b, d, none⟩) n cap ∧ (n ≠ 0 → d = off)) (hp : S.ob p = some (.cells cs)) (hcl : off + n * z ≤ cs.length) (hy : ∀ g w v, Inv g S w → V g (ρ y) v → Given g w v z m ps) (hm : m ≤ n) : OpS P o ρ S (S.set p (.cells (put cs off ps))) (.v (.int .i64 ((m : Nat) : Int))) := by
  intro g w a next Q hI hv K
  obtain ⟨b, s, cap, d, hg, hu, hd⟩ := hx g w _ hI (hv x (by simp [ho, Op.operands, Call.operands]))
  obtain ⟨A2, c2, us, hu2, hpv, hul, hq⟩ := hy g w _ hI (hv y (by simp [ho, Op.operands, Call.operands]))
  have hpl : ps.length = m * z := by rw [hpv.1, hul]
  have hmz : m * z ≤ n * z := Nat.mul_le_mul_right _ hm
  obtain ⟨cur, ty, k1, k2, k3, k4⟩ := hI.store (off := off) hp hg hpv (by omega)
  unfold Oper.wp
  rcases Nat.eq_zero_or_pos m with rfl | hm0
  · have hps : ps = [] := List.eq_nil_of_length_eq_zero (by rw [hpl]; simp)
    have hus : us = [] := List.eq_nil_of_length_eq_zero (by rw [hul]; simp)
    subst hps hus
    have hrun := run_copy_zero (P := P) w (T := T) (T' := T') (ty := o.type) (n := n) (cap := cap) (c2 := c2) (A := some ⟨b, d, none⟩) (B := A2) hT hE
    have hput : put cs off [] = cs := by simp [put]
    have hS : S.set p (.cells (put cs off [])) = S := by
      rw [hput]
      show (⟨fun i => if i = p then some (.cells cs) else S.ob i, S.fr⟩ : Hp) = S
      have : (fun i => if i = p then some (.cells cs) else S.ob i) = S.ob := by
        funext i
        by_cases hi : i = p
        · subst hi; rw [if_pos rfl, hp]
        · rw [if_neg hi]
      rw [this]
    rw [hS] at K
    simp only [execOp, ho, resolve, invoke, builtin, Sem.run_bind, Sem.run_pure, Result.andThen_ok, List.map_toArray, List.map_cons, List.map_nil, hu, hu2, hrun]
    exact K _ g w (.v _) hI (.refl S g w)
  · obtain rfl := hd (by omega)
    obtain ⟨q, rfl, hq2⟩ := hq hm0
    have hrun := run_copyG (P := P) w (T := T) (T' := T') (ty := o.type) (n := n) (cap := cap) (c2 := c2) (off := d) hT hE k1 hul hq2 hpv.one hm (by omega)
    simp only [execOp, ho, resolve, invoke, builtin, Sem.run_bind, Sem.run_pure, Result.andThen_ok, List.map_toArray, List.map_cons, List.map_nil, hu, hu2, hrun]
    exact K _ g _ (.v _) k3 k4
end
end
end Go.Bm
