/- Operations, run: all of them. -/
import Derived.Test.YtihiooaimdoapaaGreatBnA
import Derived.Test.YtihiooaimdoapaaGreatBnT
set_option linter.unusedVariables false
set_option linter.unusedSimpArgs false
namespace Go.Bm
noncomputable section
open Go.RowKit
section
variable {P : Program} {E : Env} {o : Oper} {ρ : Operand → A} {h : H} {β : Type} {K : A → H → Fp → Option β} {r : β}
/-- What is known of a call. -/
structure CStep (P : Program) (f : FuncId) (as : List A) (h h' : H) (T : Fp) (pv : A) : Prop where
  out : ∀ i, touch T i = false → (hp h').ob i = (hp h).ob i ∧ ((hp h').fr i ↔ (hp h).fr i)
  rd : ∀ i, wt T i = false → (hp h').ob i = (hp h).ob i ∧ ((hp h').fr i ↔ (hp h).fr i)
  fn : FnOk P f
  ok : ∀ S2, Agree T (hp h) S2 → PC P f as S2 (ovr T (hp h') S2) pv
/-- A round of a loop over a function. -/
def RC (P : Program) (y : A) (as : List A) (S S' : Hp) (r : A) : Prop :=
  ∀ g w u (vs : List Value), Inv g S w → V g y u → as.length = vs.length → (∀ (i : Nat) (p : A) (v : Value), as[i]? = some p → vs[i]? = some v → V g p v) →
    ∃ (b : Nat) (rr : Loop), u = .func (.yield b) #[] #[] ∧ w.heap[b]? = some (.loop rr) ∧ rr.params.size = vs.length ∧
      RoundIn (FR none) 0 P b rr.fn ((rr.params.zip vs.toArray).foldl (fun tmps (t, a) => tmps.setIfInBounds t a) rr.tmps) rr.assign rr.body w (fun e w' => ∃ v g', e = .returned v ∧ V g' r v ∧ Inv g' S' w' ∧ Ext S g w S' g' w')
structure YStep (P : Program) (y : A) (as : List A) (h h' : H) (T : Fp) (pv : A) : Prop where
  out : ∀ i, touch T i = false → (hp h').ob i = (hp h).ob i ∧ ((hp h').fr i ↔ (hp h).fr i)
  rd : ∀ i, wt T i = false → (hp h').ob i = (hp h).ob i ∧ ((hp h').fr i ↔ (hp h).fr i)
  ok : ∀ S2, Agree T (hp h) S2 → RC P y as S2 (ovr T (hp h') S2) pv
theorem opR_yield {y : A} {x : Operand} {xs : Array Operand} {ts : Array TypeId} {S S' : Hp} {r : A} (ho : o.op = .call { callee := .value x, args := xs, argTypes := ts }) (hx : ρ x = y) (h : RC P y (xs.toList.map ρ) S S' r) : OpR P o ρ S S' r := by
  intro ro g w a next Q hI hv K
  have e1 := hx ▸ hv x (by simp [ho, Op.operands, Call.operands])
  obtain ⟨b, rr, hu, h1, h2, h3⟩ := h g w (a.eval x) (xs.toList.map a.eval) hI e1 (by simp) (fun i p v k1 k2 => by
    simp only [List.getElem?_map, Option.map_eq_some_iff, Array.getElem?_toList] at k1 k2
    obtain ⟨y, hy, rfl⟩ := k1
    obtain ⟨y', hy', rfl⟩ := k2
    rw [hy] at hy'
    obtain rfl := Option.some.inj hy'
    exact hv y (by simp only [ho, Op.operands, Call.operands]; exact Array.mem_append.2 (.inr (Array.mem_of_getElem? hy))))
  refine ⟨fun f _ => trivial, ?_⟩
  rw [Oper.semAt_eq _ _ _ (by rw [ho]; intro c h; cases h)]
  have ea : #[] ++ Array.map a.eval xs = (xs.toList.map a.eval).toArray := by apply Array.ext'; simp
  have e : (execOp a.eval o).run P w = .ok (.round b rr.fn ((rr.params.zip (xs.toList.map a.eval).toArray).foldl (fun tmps (t, a) => tmps.setIfInBounds t a) rr.tmps) rr.assign rr.body) w := by
    simp only [execOp, ho, resolve, hu, Deferred.ofValue, pure_bind, invoke]
    rw [ea]
    exact run_yield h1 (by simp [h2])
  rw [e]
  refine ⟨fun h => by simp [FR, Fence.wide] at h, RoundIn.mono (F := FR ro) h3 ?_⟩
  rintro e w' ⟨v, g', rfl, k1, k2, k3⟩
  exact K v g' w' k1 k2 k3
/-- How functions are called, and rounds are run; and where things of a type are made. -/
structure Cx where
  call : (β : Type) → FuncId → List A → H → (A → H → Fp → Option β) → Option β
  hm : List (Nat × Nat)
  yld : (β : Type) → A → List A → H → (A → H → Fp → Option β) → Option β
structure CxOk (P : Program) (cx : Cx) : Prop where
  call : ∀ (β : Type) (f : FuncId) (as : List A) (h : H) (K : A → H → Fp → Option β) (r : β), cx.call β f as h K = some r → ∃ pv h' T, K pv h' T = some r ∧ CStep P f as h h' T pv
  yld : ∀ (β : Type) (y : A) (as : List A) (h : H) (K : A → H → Fp → Option β) (r : β), cx.yld β y as h K = some r → ∃ pv h' T, K pv h' T = some r ∧ YStep P y as h h' T pv
def callK (cx : Cx) (px : A) (as : List A) (h : H) (K : A → H → Fp → Option β) : Option β := match px with
  | .fn f fi ca => cx.call β f (fi ++ as ++ ca) h K
  | .yld _ _ _ _ _ _ _ => cx.yld β px as h K
  | _ => none
theorem callK_ok {cx : Cx} (hx : CxOk P cx) {x : Operand} {xs : Array Operand} {ts : Array TypeId} (ho : o.op = .call { callee := .value x, args := xs, argTypes := ts }) (hr : callK cx (ρ x) (xs.toList.map ρ) h K = some r) : Out P o ρ h K r := by
  have hd : ∀ c, o.op ≠ .defer c := by rw [ho]; intro c e; cases e
  unfold callK at hr
  split at hr
  · rename_i f fi ca hp'
    obtain ⟨pv, h', T, k1, k2⟩ := hx.call β f _ h K r hr
    exact ⟨pv, h', T, k1, ⟨k2.out, k2.rd, fun S2 hA => (opS_callv ho k2.fn hp' (k2.ok S2 hA)).opR hd⟩⟩
  · rename_i hp'
    obtain ⟨pv, h', T, k1, k2⟩ := hx.yld β _ _ h K r hr
    exact ⟨pv, h', T, k1, ⟨k2.out, k2.rd, fun S2 hA => opR_yield ho hp' (hp' ▸ k2.ok S2 hA)⟩⟩
  · cases hr
def sameO : Operand → Operand → Bool
  | .tmp i, .tmp j => Nat.beq i j
  | _, _ => false
theorem sameO_eq {x y : Operand} (h : sameO x y = true) : x = y := by
  unfold sameO at h
  split at h
  · rw [beq_eq h]
  · cases h
def neO : Operand → Operand → Bool
  | .tmp i, .tmp j => !(Nat.beq i j)
  | .tmp _, .const _ => true
  | .const _, .tmp _ => true
  | _, _ => false
theorem neO_ne {x y : Operand} (h : neO x y = true) : y ≠ x := by
  rintro rfl
  cases y <;> simp [neO] at h
def sameB : Option Operand → Option Operand → Bool
  | some x, some y => sameO x y
  | _, _ => false
theorem sameB_eq {x y : Option Operand} (h : sameB x y = true) : x = y := by
  unfold sameB at h
  split at h
  · rw [sameO_eq h]
  · cases h
def bltK (E : Env) (b : Builtin) (xs : List Operand) (ts : List TypeId) (ρ : Operand → A) (h : H) (K : A → H → Fp → Option β) : Option β := match b, xs, ts with
  | .append, [x, y], [T, T'] => bif Nat.beq T T' then appK E T (ρ x) (ρ y) h K else none
  | .len, [x], [T] => lenK E T (ρ x) h K
  | .min, [x, y], _ => mmK false (ρ x) (ρ y) h K
  | .max, [x, y], _ => mmK true (ρ x) (ρ y) h K
  | .copy, [x, y], [T, _] => copyK E T (ρ x) (ρ y) h K
  | .clear, [x], [T] => clrK E T (ρ x) h K
  | .delete, [x, y], T :: _ => mdelK E T (ρ x) (ρ y) h K
  | _, _, _ => none
theorem bltK_ok (hE : EnvOk P E) {b : Builtin} {xs : Array Operand} {ts : Array TypeId} (ho : o.op = .call { callee := .builtin b, args := xs, argTypes := ts }) (hr : bltK E b xs.toList ts.toList ρ h K = some r) : Out P o ρ h K r := by
  obtain ⟨xs⟩ := xs
  obtain ⟨ts⟩ := ts
  simp only at hr
  unfold bltK at hr
  split at hr
  · obtain ⟨hT, hk⟩ := cond_some hr
    clear hr
    obtain rfl := beq_eq hT
    exact appK_ok hE ho hk
  · exact lenK_ok hE ho hr
  · exact mmK_min ho hr
  · exact mmK_max ho hr
  · exact copyK_ok hE ho hr
  · exact clrK_ok hE ho hr
  · exact mdelK_ok hE ho rfl hr
  · cases hr
/-- An operation of the same values is the same. -/
theorem OpR.cong {P : Program} {op' : Op} {ρ : Operand → A} {S S' : Hp} {v : A} (hd : ∀ c, o.op ≠ .defer c) (hd' : ∀ c, op' ≠ .defer c) (hs : ∀ x ∈ op'.operands, x ∈ o.op.operands) (he : ∀ (g : G) (a : Act), (∀ x ∈ o.op.operands, V g (ρ x) (a.eval x)) → execOp a.eval o = execOp a.eval { o with op := op' }) (h : OpR P { o with op := op' } ρ S S' v) : OpR P o ρ S S' v := by
  intro r g w a next Q hI hv K
  have h1 := h r g w a next Q hI (fun x hx => hv x (hs x hx)) K
  refine ⟨fun f _ => trivial, ?_⟩
  have h2 := h1.2
  rw [Oper.semAt_eq _ _ _ hd'] at h2
  rw [Oper.semAt_eq _ _ _ hd, he g a hv]
  exact h2
/-- A piece with a third bound that nobody looks at: the bounds alone. -/
def jslK (E : Env) (T : Nat) (X : Ref) (z : Nat) (lo hi mx : Option A) (h : H) (K : A → H → Fp → Option β) : Option β := match tget E.tab T with
  | some ⟨.slice el, _, _, _, _, _, _⟩ => match tget E.tab el with
    | some e => rowK h X (fun t x => bif Nat.beq z e.size && Nat.beq z t.size && Nat.blt 0 z then bdK lo 0 (fun l => bdK hi 0 (fun n => bdK mx 0 (fun m => gd (nle l n) (gd (nle n m) (gd (nle m (len x)) (K .junk h (.rd [rs1 X]))))))) else none)
    | none => none
  | _ => none
theorem jslK_ok (hE : EnvOk P E) {T : Nat} {X : Ref} {z : Nat} {x lo hi mx : Operand} (ho : o.op = .slice T x (some lo) (some hi) (some mx)) (hx : ρ x = .tw X z) (hr : jslK E T X z (some (ρ lo)) (some (ρ hi)) (some (ρ mx)) h K = some r) : Out P o ρ h K r := by
  have hd : ∀ c, o.op ≠ .defer c := by rw [ho]; intro c e; cases e
  unfold jslK at hr
  split at hr
  · rename_i el _ _ _ _ _ _ ht
    have hT := (hE.tab _ _ ht).u
    split at hr
    · rename_i e he
      have hz := (hE.tab _ _ he).ti.size
      obtain ⟨t, x', hr, hX, hob⟩ := rowK_ok hr
      obtain ⟨hq, hr⟩ := cond_some hr
      simp only [Bool.and_eq_true] at hq
      have hq1 := beq_eq hq.1.1
      have hq2 := beq_eq hq.1.2
      have h0 := blt_lt hq.2
      obtain ⟨l, hr, hlo⟩ := bdK_ok (x := some lo) hr
      obtain ⟨n, hr, hhi⟩ := bdK_ok (x := some hi) hr
      obtain ⟨m, hr, hmx⟩ := bdK_ok (x := some mx) hr
      obtain ⟨h1, hr⟩ := gd_inv hr
      obtain ⟨h2, hr⟩ := gd_inv hr
      obtain ⟨h3, hr⟩ := gd_inv hr
      have h1 : l ≤ n := h1
      have h2 : n ≤ m := h2
      have h3 : m ≤ x'.length := h3
      refine .read [rs1 X] hr (fun S2 hA => opS_slice3 ho hT hz hlo hhi hmx h1 h2 (fun g w v hI hv => ?_)) hd
      have hob2 := (hA _ (touch_ref hX (.head _))).1.trans hob
      rw [hx, hq2] at hv
      obtain ⟨ad, cap, k1, k2, _, _⟩ := hv.twCut (lo := l) (hi := n) hI (by omega) hob2 h1 (by omega)
      exact ⟨ad, _, cap, k1, by omega, .junk _⟩
    · cases hr
  · cases hr
def isTw : A → Bool
  | .tw _ _ => true
  | _ => false
/-- A piece with bounds that are alike. -/
def slmK (E : Env) (T : Nat) (px : A) (lo hi mx : Option A) (same : Bool) (h : H) (K : A → H → Fp → Option β) : Option β := bif same then slcK E T px lo hi mx true h K else bif isTw px && lo.isSome && mx.isSome && hi.isSome then (match px with
  | .tw X z => jslK E T X z lo hi mx h K
  | _ => none) else (match mx, hi with
  | some (.v (.int k m)), some (.v (.int k' n)) => if k = k' then gd (ieq m n) (slcK E T px lo hi hi true h K) else none
  | mx, hi => slcK E T px lo hi mx false h K)
theorem slmK_ok (hE : EnvOk P E) {T : Nat} {x : Operand} {lo hi mx : Option Operand} (ho : o.op = .slice T x lo hi mx) (hr : slmK E T (ρ x) (lo.map ρ) (hi.map ρ) (mx.map ρ) (sameB mx hi) h K = some r) : Out P o ρ h K r := by
  unfold slmK at hr
  cases hb : sameB mx hi with
  | true => rw [hb] at hr; exact slcK_ok hE ho (fun _ => sameB_eq hb) hr
  | false =>
    rw [hb] at hr
    simp only [cond_false] at hr
    cases ht : (isTw (ρ x) && (lo.map ρ).isSome && (mx.map ρ).isSome && (hi.map ρ).isSome) with
    | true =>
      rw [ht] at hr
      simp only [cond_true] at hr
      simp only [Bool.and_eq_true] at ht
      obtain ⟨lo', rfl⟩ := isSome_map ht.1.1.2
      obtain ⟨mx', rfl⟩ := isSome_map ht.1.2
      obtain ⟨hi', rfl⟩ := isSome_map ht.2
      split at hr
      · rename_i X z hx
        exact jslK_ok hE ho hx hr
      · cases hr
    | false =>
    rw [ht] at hr
    simp only [cond_false] at hr
    split at hr
    · rename_i k m k' n hm hn
      split at hr
      · rename_i hk
        subst hk
        obtain ⟨he, hr1⟩ := gd_inv hr
        clear hr
        have he : m = n := he
        subst he
        cases hi with
        | none => cases hn
        | some hi =>
        cases mx with
        | none => cases hm
        | some mx =>
        have hn : ρ hi = .v (.int k m) := Option.some.inj hn
        have hm : ρ mx = .v (.int k m) := Option.some.inj hm
        obtain ⟨pv, h', T', k1, k2⟩ := slcK_ok (o := { o with op := .slice T x lo (some hi) (some hi) }) hE rfl (fun _ => rfl) hr1
        refine ⟨pv, h', T', k1, k2.out, k2.rd, fun S2 hA => OpR.cong (op' := .slice T x lo (some hi) (some hi)) (by rw [ho]; intro c e; cases e) (fun c e => by cases e) (fun y hy => ?_) (fun g a hv => ?_) (k2.ok S2 hA)⟩
        · rw [ho]
          simp only [Op.operands, Array.mem_append] at hy ⊢
          rcases hy with (hy | hy) | hy
          · exact .inl (.inl hy)
          · exact .inl (.inr hy)
          · exact .inl (.inr hy)
        · have e1 := hv mx (by rw [ho]; simp [Op.operands])
          have e2 := hv hi (by rw [ho]; simp [Op.operands])
          rw [hm] at e1
          rw [hn] at e2
          have e3 := e1.v_eq.trans e2.v_eq.symm
          simp only [execOp, ho, Option.map_some, e3]
      · cases hr
    · exact slcK_ok hE ho (fun h => by cases h) hr
def opK (E : Env) (cx : Cx) (op : Op) (ρ : Operand → A) (h : H) (K : A → H → Fp → Option β) : Option β := match op with
  | .move x => mvK (ρ x) h K
  | .assign x => mvK (ρ x) h K
  | .pick c x y => pickK (ρ c) (ρ x) (ρ y) h K
  | .extract x i => extK (ρ x) i h K
  | .binOp op T x y _ => eqwK E op T (ρ x) (ρ y) h K
  | .unOp op _ x => unK op (ρ x) h K
  | .convert s d x => cvK E s d (ρ x) h K
  | .nilCheck x => nilK (ρ x) h K
  | .fieldAddr T x f => fldK E T f (ρ x) h K
  | .field T x f => fvK E T f (ρ x) h K
  | .indexAddr T x y => ixK E T (ρ x) y (ρ y) h K
  | .load T x => ldK E T (ρ x) h K
  | .store T x y => stK E T (ρ x) (ρ y) h K
  | .alloc T => alhK E cx.hm T h K
  | .box T x => bxhK E cx.hm T (ρ x) h K
  | .build T ps => bldK E T ρ ps.toList h K
  | .buildSlice T n ps => bslK E T n ρ ps.toList h K
  | .makeSlice T x y => mkK E T (sameO x y) (ρ x) h K
  | .slice T x lo hi mx => slmK E T (ρ x) (lo.map ρ) (hi.map ρ) (mx.map ρ) (sameB mx hi) h K
  | .makeFunc (.func f) fi ca => mkfK f (fi.toList.map ρ) (ca.toList.map ρ) h K
  | .makeMap _ none => mkmK h K
  | .lookup T x y ok => lkpK E T ok (ρ x) (ρ y) h K
  | .mapUpdate T x y z => mputK E T false (neO y z) (ρ x) (ρ y) (ρ z) h K
  | .insert T x y z => mputK E T true (neO y z) (ρ x) (ρ y) (ρ z) h K
  | .call c => match c.callee with
    | .value x => callK cx (ρ x) (c.args.toList.map ρ) h K
    | .builtin b => bltK E b c.args.toList c.argTypes.toList ρ h K
    | _ => none
  | _ => none
theorem opK_ok (hE : EnvOk P E) {cx : Cx} (hx : CxOk P cx) (hr : opK E cx o.op ρ h K = some r) : Out P o ρ h K r := by
  generalize ho : o.op = op at hr
  have nd : ∀ {op : Op}, o.op = op → (∀ c, op ≠ .defer c) → ∀ c, o.op ≠ .defer c := fun e k => by rw [e]; exact k
  unfold opK at hr
  split at hr
  · exact .pure hr (fun S2 => opS_move ho) (nd ho (fun c e => by cases e))
  · exact .pure hr (fun S2 => opS_assign ho) (nd ho (fun c e => by cases e))
  · exact pickK_ok ho hr
  · exact extK_ok ho hr
  · exact eqwK_ok hE ho hr
  · exact unK_ok ho hr
  · exact cvK_ok hE ho hr
  · exact nilK_ok ho hr
  · exact fldK_ok hE ho hr
  · exact fvK_ok hE ho hr
  · exact ixK_ok hE ho hr
  · exact ldK_ok hE ho hr
  · exact stK_ok hE ho hr
  · exact alhK_ok hE ho hr
  · exact bxhK_ok ho hr
  · exact bldK_ok hE ho hr
  · exact bslK_ok hE ho hr
  · exact mkK_ok hE ho sameO_eq hr
  · exact slmK_ok hE ho hr
  · exact mkfK_ok ho hr
  · exact mkmK_ok ho hr
  · exact lkpK_ok hE ho hr
  · exact mputK_ok hE neO_ne (.inl ⟨rfl, ho⟩) hr
  · exact mputK_ok hE neO_ne (.inr ⟨rfl, ho⟩) hr
  · rename_i c
    obtain ⟨cal, xs, ts⟩ := c
    simp only at hr
    split at hr
    · exact callK_ok hx ho hr
    · exact bltK_ok hE ho hr
    · cases hr
  · cases hr
end
end
end Go.Bm
