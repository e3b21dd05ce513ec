/- Code, and regions that draw their order. -/
import Derived.Test.YtihiooaimdoapaaGreatBmG
import Derived.OrdersIn
import Derived.RangeFuncRecord
set_option linter.unusedVariables false
set_option linter.unusedSimpArgs false
namespace Go.Bm
noncomputable section
open Go.RowKit
def dep (ops : Array Oper) (i j : Nat) : Bool :=
  match ops[i]? with
  | some o => o.after.any fun e => Region.binds .any e && e.on == j
  | none => false
def dstOf (ops : Array Oper) (j : Nat) : Option Tmp := (ops[j]?).bind (·.dst)
def chk (ops : Array Oper) : Bool :=
  (List.range ops.size).all fun i => match ops[i]? with
    | none => true
    | some o => (o.after.all fun e => !Region.binds .any e || decide (e.on < i)) &&
      (List.range ops.size).all fun j => j == i || match dstOf ops j with
        | none => true
        | some d => (o.dst != some d) && (!(o.looksAt ops).contains d || dep ops i j || dep ops j i)
def ins (L : Nat → Bool) (i : Nat) : Nat → Bool := fun j => j == i || L j
theorem Ext.drew (S : Hp) (g : G) (w : World) : Ext S g w S g w.drew := ⟨.refl g, rfl, rfl, rfl, Nat.le_refl _, fun _ _ _ => rfl, fun _ h => .inl h, fun _ _ h => .inl h, fun _ h => h, fun _ _ _ h => .inl h, fun _ _ h => .inl h⟩
structure St where
  t : Nat → A
  n : Nat
  ds : List Nat
  S : Hp
/-- The fence: everything may be; the frame is of a round, or not. -/
def FR (r : Option Nat) : Fence := { Fence.wide with round := r }
theorem FR_fn (r : Option Nat) (f : FuncId) : (FR r).fn f := trivial
theorem callsIn_FR {r : Option Nat} {P : Program} {f : FuncId} {args : Array Value} {w : World} {Q : Ending → World → Prop} (h : Calls P f args w Q) : CallsIn (FR r) 0 P f args w Q := (callsIn_wide (n := 0)).2 h
/-- An operation, in any frame. -/
def OpR (P : Program) (o : Oper) (ρ : Operand → A) (S S' : Hp) (pv : A) : Prop :=
  ∀ (r : Option Nat) (g : G) (w : World) (a : Act) (next : Act → World → Prop) (Q : Exit → Act → World → Prop), Inv g S w → (∀ x ∈ o.op.operands, V g (ρ x) (a.eval x)) →
   (∀ v g' w', V g' pv v → Inv g' S' w' → Ext S g w S' g' w' → next (a.put o.dst v) w') → o.wpIn (FR r) 0 P a w next Q
theorem OpS.opR {P : Program} {o : Oper} {ρ : Operand → A} {S S' : Hp} {pv : A} (h : OpS P o ρ S S' pv) (hd : ∀ c, o.op ≠ .defer c) : OpR P o ρ S S' pv := by
  intro r g w a next Q hI hv K
  have h1 := h g w a next Q hI hv K
  refine ⟨fun f _ => trivial, ?_⟩
  rw [Oper.semAt_eq _ _ _ hd]
  unfold Oper.wp at h1
  generalize (execOp a.eval o).run P w = res at h1 ⊢
  cases res with
  | ok x w' =>
    cases x <;> simp only [Oper.upon, Oper.uponIn] at h1 ⊢ <;> first
      | exact h1
      | exact ⟨fun h => by simp [FR, Fence.wide] at h, callsIn_FR h1⟩
      | exact ⟨fun h => by simp [FR, Fence.wide] at h, fun c cs _ => let ⟨v, w1, k1, k2⟩ := h1 c cs; ⟨v, w1, k1, stepsIn_wide.2 k2⟩⟩
      | exact h1.elim
  | halt x w' => cases x <;> simp only [Oper.upon, Oper.uponIn] at h1 ⊢ <;> first | exact h1 | exact h1.elim
/-- The blocks that are taken when the function is left. -/
def DefOk (g : G) (ds : List Nat) (l : List Deferred) : Prop := ds.length = l.length ∧ ∀ (i d : Nat) (e : Deferred), ds[i]? = some d → l[i]? = some e → ∃ b s, g.at' d = some (some b, s) ∧ e = { target := .collected b, args := #[] }
theorem DefOk.mono {g g' : G} (h : Le g g') {ds : List Nat} {l : List Deferred} (k : DefOk g ds l) : DefOk g' ds l := ⟨k.1, fun i d e e1 e2 => let ⟨b, s, q1, q2⟩ := k.2 i d e e1 e2; ⟨b, s, h.at' _ _ q1, q2⟩⟩
def St.put (st : St) (d : Option Tmp) (p : A) : St :=
  match d with
  | some d => { st with t := fun i => if i = d then p else st.t i }
  | none => st
def St.to (st : St) (S : Hp) : St := { st with S := S }
def St.opz (st : St) (z : Nat) : Operand → A
  | .tmp t => if t < st.n then st.t t else .junk
  | .const v => .v v
  | .global _ => .junk
  | .func f => .fn f [] []

def R (S0 : Hp) (g0 : G) (w0 : World) (st : St) (a : Act) (w : World) : Prop :=
  ∃ g, Inv g st.S w ∧ Ext S0 g0 w0 st.S g w ∧ DefOk g st.ds a.defers ∧ a.tmps.size = st.n ∧ ∀ i, i < st.n → V g (st.t i) (a.tmps.getD i undef)
def lift (S0 : Hp) (g0 : G) (w0 : World) (Q : Exit → St → Prop) (e : Exit) (a : Act) (w : World) : Prop := ∃ st, R S0 g0 w0 st a w ∧ Q e st
def pw (P : Program) (ro : Option Nat) (S0 : Hp) (g0 : G) (w0 : World) (c : Code) (Q : Exit → St → Prop) (st : St) : Prop := ∀ a w, R S0 g0 w0 st a w → c.wpIn (FR ro) 0 P (lift S0 g0 w0 Q) a w
def pwl (P : Program) (ro : Option Nat) (S0 : Hp) (g0 : G) (w0 : World) (ops : Array Oper) (Q : Exit → St → Prop) (l : List Oper) (st : St) : Prop := ∀ a w, R S0 g0 w0 st a w → wpListIn (FR ro) 0 P ops (lift S0 g0 w0 Q) l a w

section
variable {P : Program} {ro : Option Nat} {S0 : Hp} {g0 : G} {w0 : World} {Q : Exit → St → Prop} {st : St} {ops : Array Oper}

theorem V_opz {g : G} {a : Act} (_hs : a.tmps.size = st.n) (hv : ∀ i, i < st.n → V g (st.t i) (a.tmps.getD i undef)) (z : Nat) (x : Operand) : V g (st.opz z x) (a.eval x) := by
  cases x with
  | tmp t =>
    simp only [St.opz, Act.eval]
    split
    · exact hv t (by assumption)
    · exact .junk _
  | const v => exact .v v
  | global _ => exact .junk _
  | func f => exact .fn f [] [] #[] #[] rfl rfl (by simp) (by simp)

theorem put_vals {g : G} {a : Act} {d : Option Tmp} {p : A} {v : Value} (hv : ∀ i, i < st.n → V g (st.t i) (a.tmps.getD i undef)) (h : V g p v) (hs : a.tmps.size = st.n) :
    ∀ i, i < (st.put d p).n → V g ((st.put d p).t i) ((a.put d v).tmps.getD i undef) := by
  cases d with
  | none => exact hv
  | some d =>
    intro i hi
    simp only [St.put, Act.put]
    by_cases hid : i = d
    · subst hid
      have hlt : i < a.tmps.size := by rw [hs]; exact hi
      simp only [if_true]
      rw [show (a.tmps.setIfInBounds i v).getD i undef = v by simp [Array.getD, hlt]]
      exact h
    · simp only [if_neg hid]
      rw [show (a.tmps.setIfInBounds d v).getD i undef = a.tmps.getD i undef by
        simp only [Array.getD_eq_getD_getElem?]
        rw [Array.getElem?_setIfInBounds_ne (fun h => hid h.symm)]]
      exact hv i hi
theorem size_put (a : Act) (d : Option Tmp) (v : Value) : (a.put d v).tmps.size = a.tmps.size := by cases d <;> simp [Act.put]
theorem defers_put (a : Act) (d : Option Tmp) (v : Value) : (a.put d v).defers = a.defers := by cases d <;> rfl

theorem R.put {a : Act} {w w' : World} {g g' : G} {S' : Hp} {d : Option Tmp} {p : A} {v : Value} (h1 : Ext S0 g0 w0 st.S g w) (h2 : DefOk g st.ds a.defers) (h3 : a.tmps.size = st.n) (h4 : ∀ i, i < st.n → V g (st.t i) (a.tmps.getD i undef))
    (hv : V g' p v) (hI : Inv g' S' w') (hE : Ext st.S g w S' g' w') : R S0 g0 w0 ((st.put d p).to S') (a.put d v) w' := by
  refine ⟨g', hI, h1.trans hE, by rw [defers_put]; cases d <;> exact h2.mono hE.le, by rw [size_put, h3]; cases d <;> rfl, ?_⟩
  exact put_vals (fun i hi => (h4 i hi).mono hE.le) hv h3

theorem pwl_nil (h : Q .normal st) : pwl P ro S0 g0 w0 ops Q [] st := fun _ _ hr => ⟨st, hr, h⟩

/-- One operation. -/
theorem pwl_step {o : Oper} {rest : List Oper} {pv : A} {S' : Hp} (z : Nat) (hg : o.guard = none) (h : OpR P o (st.opz z) st.S S' pv) (k : pwl P ro S0 g0 w0 ops Q rest ((st.put o.dst pv).to S')) : pwl P ro S0 g0 w0 ops Q (o :: rest) st := by
  intro a w hr
  obtain ⟨g, h0, h1, h2, h3, h4⟩ := hr
  refine wpListIn_plain hg (fun K hK => ?_)
  exact h ro g w a K _ h0 (fun x _ => V_opz h3 h4 z x) (fun v g' w' hv hI hE => hK _ _ (k _ _ (R.put h1 h2 h3 h4 hv hI hE)))

/-- What a guard asks. -/
def gval (ops : Array Oper) (st : St) (j : Nat) (want : Bool) : Option Bool :=
  match (ops[j]?).bind (·.dst) with
  | some d => match st.opz 0 (.tmp d) with
    | .v (.bool b) => some (b == want)
    | .un => some false
    | _ => none
  | none => none
theorem wanted_of {g : G} {a : Act} {o : Oper} {j : Nat} {want b : Bool} (hs : a.tmps.size = st.n) (hv : ∀ i, i < st.n → V g (st.t i) (a.tmps.getD i undef)) (hg : o.guard = some (j, want)) (h : gval ops st j want = some b) :
    Region.wanted o (yielded ops a.tmps) = b := by
  unfold gval at h
  split at h
  · rename_i d hd
    have hvd := V_opz (st := st) hs hv 0 (.tmp d)
    simp only [Act.eval] at hvd
    split at h
    · rename_i b' hb
      cases h
      rw [hb] at hvd
      have := hvd.v_eq
      rw [Array.getD_eq_getD_getElem?] at this
      cases ht : a.tmps[d]? with
      | none => rw [ht] at this; cases this
      | some u =>
        rw [ht] at this
        simp only [Option.getD_some] at this
        subst this
        simp only [Region.wanted, hg, yielded, hd, Option.bind_some, ht]
        cases b' <;> cases want <;> rfl
    · rename_i hb
      cases h
      rw [hb] at hvd
      generalize hu : a.tmps.getD d undef = u at hvd
      cases hvd
      rw [Array.getD_eq_getD_getElem?] at hu
      simp only [Region.wanted, hg, yielded, hd, Option.bind_some]
      cases ht : a.tmps[d]? with
      | none => simp
      | some u =>
        rw [ht] at hu
        simp only [Option.getD_some] at hu
        subst hu
        rfl
    · cases h
  · cases h
theorem put_to (d : Option Tmp) (p : A) : (st.put d p).to st.S = st.put d p := by cases d <;> rfl

theorem pwl_step_yes {o : Oper} {rest : List Oper} {pv : A} {S' : Hp} {j : Nat} {want : Bool} (z : Nat) (hg : o.guard = some (j, want)) (hb : gval ops st j want = some true) (h : OpR P o (st.opz z) st.S S' pv)
    (k : pwl P ro S0 g0 w0 ops Q rest ((st.put o.dst pv).to S')) : pwl P ro S0 g0 w0 ops Q (o :: rest) st := by
  intro a w hr
  obtain ⟨g, h0, h1, h2, h3, h4⟩ := hr
  refine wpListIn_step (fun K hK => ?_)
  rw [wanted_of h3 h4 hg hb, if_pos rfl]
  exact h ro g w a K _ h0 (fun x _ => V_opz h3 h4 z x) (fun v g' w' hv hI hE => hK _ _ (k _ _ (R.put h1 h2 h3 h4 hv hI hE)))
theorem pwl_step_no {o : Oper} {rest : List Oper} {j : Nat} {want : Bool} (hg : o.guard = some (j, want)) (hb : gval ops st j want = some false) (k : pwl P ro S0 g0 w0 ops Q rest (st.put o.dst .un)) : pwl P ro S0 g0 w0 ops Q (o :: rest) st := by
  intro a w hr
  obtain ⟨g, h0, h1, h2, h3, h4⟩ := hr
  refine wpListIn_step (fun K hK => ?_)
  rw [wanted_of h3 h4 hg hb, if_neg (by simp)]
  exact ⟨fun _ _ => trivial, hK _ _ (k _ _ (by have := R.put (S' := st.S) (d := o.dst) h1 h2 h3 h4 .un h0 (.refl _ g w); rwa [put_to] at this))⟩

theorem pw_region {id : Nat} {l : List Oper} (h : pwl P ro S0 g0 w0 l.toArray Q l st) : pw P ro S0 g0 w0 (.region id l.toArray false) Q st := fun a w hr => wpIn_region_lit (h a w hr)

def andThen (K : St → Prop) (Q : Exit → St → Prop) : Exit → St → Prop
  | .normal, st => K st
  | e, st => Q e st
theorem lift_mono {Q Q' : Exit → St → Prop} (h : ∀ e st, Q e st → Q' e st) {e : Exit} {a : Act} {w : World} (hl : lift S0 g0 w0 Q e a w) : lift S0 g0 w0 Q' e a w := let ⟨st, h1, h2⟩ := hl; ⟨st, h1, h _ _ h2⟩
theorem pw_mono {c : Code} {Q' : Exit → St → Prop} (h : pw P ro S0 g0 w0 c Q st) (hq : ∀ e st, Q e st → Q' e st) : pw P ro S0 g0 w0 c Q' st := fun a w hr => wpIn_mono (h a w hr) (fun _ _ _ hl => lift_mono hq hl)
theorem pw_seq {x y : Code} (h : pw P ro S0 g0 w0 x (andThen (fun st => pw P ro S0 g0 w0 y Q st) Q) st) : pw P ro S0 g0 w0 (.seq x y) Q st := fun a w hr => wpIn_seq (wpIn_mono (h a w hr) (fun e a w hl => by
  obtain ⟨st, h1, h2⟩ := hl
  cases e with
  | normal => exact h2 a w h1
  | _ => exact ⟨st, h1, h2⟩))
theorem pw_skip (h : Q .normal st) : pw P ro S0 g0 w0 .skip Q st := fun _ _ hr => wpIn_skip ⟨st, hr, h⟩
theorem pw_ret (h : Q .ret st) : pw P ro S0 g0 w0 .ret Q st := fun _ _ hr => wpIn_ret ⟨st, hr, h⟩
theorem pw_exit {id : Nat} (h : Q (.exit id) st) : pw P ro S0 g0 w0 (.exit id) Q st := fun _ _ hr => wpIn_exit ⟨st, hr, h⟩
theorem pw_cond {c : Operand} {x y : Code} {b : Bool} (hc : st.opz 0 c = .v (.bool b)) (h1 : b = true → pw P ro S0 g0 w0 x Q st) (h2 : b = false → pw P ro S0 g0 w0 y Q st) : pw P ro S0 g0 w0 (.cond c x y) Q st := by
  intro a w hr
  have hr' := hr
  obtain ⟨g, _, _, _, h5, h6⟩ := hr'
  have := V_opz h5 h6 0 c
  rw [hc] at this
  exact wpIn_cond_split this.v_eq (fun h => h1 h a w hr) (fun h => h2 h a w hr)
def inBlock (id : Nat) (Q : Exit → St → Prop) : Exit → St → Prop
  | .exit id', st => if id' = id then Q .normal st else Q (.exit id') st
  | e, st => Q e st
theorem pw_block {id : Nat} {c : Code} (h : pw P ro S0 g0 w0 c (inBlock id Q) st) : pw P ro S0 g0 w0 (.block id c) Q st := fun a w hr => wpIn_block (wpIn_mono (h a w hr) (fun e a w hl => by
  obtain ⟨st, h1, h2⟩ := hl
  cases e with
  | exit id' =>
    simp only [inBlock] at h2
    simp only [Exit.inBlock]
    split at h2
    · rename_i hid; rw [if_pos hid]; exact ⟨st, h1, h2⟩
    · rename_i hid; rw [if_neg hid]; exact ⟨st, h1, h2⟩
  | _ => exact ⟨st, h1, h2⟩))

end
/-- What may be listed when 'i' comes up. -/
structure Adm (ops : Array Oper) (i : Nat) (L : Nat → Bool) : Prop where
  new : L i = false
  lt : ∀ j, L j = true → j < ops.size
  deps : ∀ j, dep ops i j = true → L j = true
  down : ∀ k j, L k = true → dep ops k j = true → L j = true
theorem Adm.later {ops : Array Oper} {i : Nat} {L : Nat → Bool} (h : Adm ops i L) {j : Nat} (hd : dep ops j i = true) : L j = false := by
  cases hj : L j with
  | false => rfl
  | true => have := h.down j i hj hd; rw [h.new] at this; cases this

def stepD (P : Program) (ops : Array Oper) (Sf : (Nat → Bool) → Hp) (i : Nat) (o : Oper) (st : St) (pv : A) : Prop :=
  match o.guard with
  | none => ∃ z, ∀ L, Adm ops i L → OpR P o (st.opz z) (Sf L) (Sf (ins L i)) pv
  | some (j, want) => (gval ops st j want = some true ∧ ∃ z, ∀ L, Adm ops i L → OpR P o (st.opz z) (Sf L) (Sf (ins L i)) pv) ∨
      (gval ops st j want = some false ∧ (∀ g, V g pv undef) ∧ ∀ L, Adm ops i L → Sf (ins L i) = Sf L)
def drawOk (P : Program) (ops : Array Oper) (Sf : (Nat → Bool) → Hp) : List Oper → Nat → St → (St → Prop) → Prop
  | [], _, st, K => K st
  | o :: l, i, st, K => ∃ pv, stepD P ops Sf i o st pv ∧ drawOk P ops Sf l (i + 1) (st.put o.dst pv) K

/-- The text's states. -/
def tst (ops : Array Oper) (pv : Nat → A) (st : St) : Nat → St
  | 0 => st
  | i + 1 => (tst ops pv st i).put (dstOf ops i) (pv i)
theorem drawOk_pv {P : Program} {ops : Array Oper} {Sf : (Nat → Bool) → Hp} : ∀ (l : List Oper) (k : Nat) (st0 : St) (pv0 : Nat → A) (K : St → Prop), (∀ j, l[j]? = ops[k + j]?) → drawOk P ops Sf l k (tst ops pv0 st0 k) K →
    ∃ pv : Nat → A, (∀ j, j < k → pv j = pv0 j) ∧ (∀ i o, k ≤ i → ops[i]? = some o → stepD P ops Sf i o (tst ops pv st0 i) (pv i)) ∧ K (tst ops pv st0 (k + l.length))
  | [], k, st0, pv0, K, hl, h => ⟨pv0, fun _ _ => rfl, fun i o hk ho => by
      have := hl (i - k)
      rw [show k + (i - k) = i by omega, ho] at this
      simp at this, h⟩
  | o :: l, k, st0, pv0, K, hl, h => by
    obtain ⟨p, h1, h2⟩ := h
    have ho : ops[k]? = some o := by simpa using (hl 0).symm
    have hcong : ∀ (pv1 pv2 : Nat → A) i, (∀ j, j < i → pv1 j = pv2 j) → tst ops pv1 st0 i = tst ops pv2 st0 i := by
      intro pv1 pv2 i
      induction i with
      | zero => intro _; rfl
      | succ i ih => intro hh; simp only [tst]; rw [ih (fun j hj => hh j (by omega)), hh i (by omega)]
    have e1 : tst ops (fun j => if j = k then p else pv0 j) st0 k = tst ops pv0 st0 k := hcong _ _ k (fun j hj => if_neg (by omega))
    have hst : tst ops (fun j => if j = k then p else pv0 j) st0 (k + 1) = (tst ops pv0 st0 k).put o.dst p := by
      simp only [tst, e1, dstOf, ho, Option.bind_some, if_true]
    obtain ⟨pv, k1, k2, k3⟩ := drawOk_pv l (k + 1) st0 (fun j => if j = k then p else pv0 j) K (fun j => by have := hl (j + 1); simpa [Nat.add_assoc, Nat.add_comm 1 j] using this) (by rw [hst]; exact h2)
    refine ⟨pv, fun j hj => by rw [k1 j (by omega), if_neg (by omega)], fun i o' hi ho' => ?_, by rw [List.length_cons, show k + (l.length + 1) = k + 1 + l.length by omega]; exact k3⟩
    by_cases hik : i = k
    · subst hik
      rw [ho] at ho'
      cases ho'
      rw [show tst ops pv st0 i = tst ops pv0 st0 i from hcong _ _ i (fun j hj => by rw [k1 j (by omega), if_neg (by omega)]), show pv i = p by rw [k1 i (by omega), if_pos rfl]]
      exact h1
    · exact k2 i o' (by omega) ho'

/-- Who writes a slot. -/
theorem tst_n {ops : Array Oper} {pv : Nat → A} {st : St} : ∀ i, (tst ops pv st i).n = st.n
  | 0 => rfl
  | i + 1 => by
    have ih := tst_n (ops := ops) (pv := pv) (st := st) i
    simp only [tst]
    cases dstOf ops i <;> exact ih
theorem tst_ds {ops : Array Oper} {pv : Nat → A} {st : St} : ∀ i, (tst ops pv st i).ds = st.ds
  | 0 => rfl
  | i + 1 => by
    have ih := tst_ds (ops := ops) (pv := pv) (st := st) i
    simp only [tst]
    cases dstOf ops i <;> exact ih
/-- A slot in the text's states: its writer's value, if that has come. -/
theorem tst_slot {ops : Array Oper} {pv : Nat → A} {st : St} {d : Nat} : ∀ i, (∀ j, dstOf ops j ≠ some d) → (tst ops pv st i).t d = st.t d
  | 0, _ => rfl
  | i + 1, h => by
    simp only [tst]
    cases hd : dstOf ops i with
    | none => exact tst_slot i h
    | some e =>
      simp only [St.put]
      rw [if_neg (fun he => h i (by rw [hd, he]))]
      exact tst_slot i h
theorem tst_writer {ops : Array Oper} {pv : Nat → A} {st : St} {d w : Nat} (hw : dstOf ops w = some d) (hu : ∀ j, dstOf ops j = some d → j = w) : ∀ i, (tst ops pv st i).t d = if w < i then pv w else st.t d
  | 0 => by simp [tst]
  | i + 1 => by
    simp only [tst]
    have ih := tst_writer (pv := pv) (st := st) hw hu i
    cases hd : dstOf ops i with
    | none =>
      simp only [St.put]
      rw [ih]
      by_cases h : w < i
      · rw [if_pos h, if_pos (by omega)]
      · rw [if_neg h, if_neg (by intro h2; have : w = i := by omega
                                 subst this; rw [hw] at hd; cases hd)]
    | some e =>
      simp only [St.put]
      by_cases he : d = e
      · subst he
        have : i = w := hu i hd
        subst this
        rw [if_pos rfl, if_pos (by omega)]
      · rw [if_neg he, ih]
        by_cases h : w < i
        · rw [if_pos h, if_pos (by omega)]
        · rw [if_neg h, if_neg (by intro h2; have : w = i := by omega
                                   subst this; rw [hw] at hd; cases hd; exact he rfl)]

section
variable {P : Program} {ro : Option Nat} {S0 : Hp} {g0 : G} {w0 : World} {Q : Exit → St → Prop} {st : St}

theorem chk_spec {ops : Array Oper} (h : chk ops = true) {i : Nat} {o : Oper} (ho : ops[i]? = some o) :
    (∀ e ∈ o.after, Region.binds .any e = true → e.on < i) ∧ (∀ j d, j ≠ i → dstOf ops j = some d → o.dst ≠ some d ∧ (d ∈ o.looksAt ops → dep ops i j = true ∨ dep ops j i = true)) := by
  have hi : i < ops.size := (Array.getElem?_eq_some_iff.1 ho).1
  simp only [chk, List.all_eq_true, List.mem_range] at h
  have h1 := h i hi
  simp only [ho, Bool.and_eq_true] at h1
  refine ⟨fun e he hb => ?_, fun j d hj hd => ?_⟩
  · have := Array.all_eq_true_iff_forall_mem.1 h1.1 e he
    simpa [hb] using this
  · have hjs : j < ops.size := by
      rcases Nat.lt_or_ge j ops.size with h | h
      · exact h
      · simp [dstOf, Array.getElem?_eq_none h] at hd
    have h2 := h1.2
    rw [List.all_eq_true] at h2
    have h3 := h2 j (List.mem_range.2 hjs)
    simp only [hd, Bool.or_eq_true, beq_iff_eq, hj, false_or, Bool.and_eq_true, bne_iff_ne, ne_eq] at h3
    refine ⟨h3.1, fun hm => ?_⟩
    rcases h3.2 with (h4 | h4) | h4
    · simp [hm] at h4
    · exact .inl h4
    · exact .inr h4

/-- The frame when just 'L' have come. -/
structure Fr (ops : Array Oper) (pv : Nat → A) (st : St) (L : Nat → Bool) (g : G) (a : Act) : Prop where
  size : a.tmps.size = st.n
  none : ∀ d, d < st.n → (∀ j, dstOf ops j ≠ some d) → V g (st.t d) (a.tmps.getD d undef)
  some : ∀ d w, d < st.n → dstOf ops w = some d → V g (if L w = true then pv w else st.t d) (a.tmps.getD d undef)

theorem gval_congr {ops : Array Oper} {s1 s2 : St} {j : Nat} {want : Bool} (h : ∀ d, dstOf ops j = some d → s1.opz 0 (.tmp d) = s2.opz 0 (.tmp d)) : gval ops s1 j want = gval ops s2 j want := by
  unfold gval
  cases hd : (ops[j]?).bind (·.dst) with
  | none => rfl
  | some d => simp only [h d hd]

theorem draw_any {ops : Array Oper} {Sf : (Nat → Bool) → Hp} {pv : Nat → A} (hc : chk ops = true) (hstep : ∀ i o, ops[i]? = some o → stepD P ops Sf i o (tst ops pv st i) (pv i))
    (hQ : Q .normal ((tst ops pv st ops.size).to (Sf fun j => decide (j < ops.size)))) :
    ∀ (fuel : Nat) (listed : Array Bool) (a : Act) (w : World) (g : G), listed.size = ops.size → (ops.size ≤ fuel + (List.range ops.size).countP fun j => listed.getD j false) →
      (∀ k j, listed.getD k false = true → dep ops k j = true → listed.getD j false = true) → Inv g (Sf fun j => listed.getD j false) w → Ext S0 g0 w0 (Sf fun j => listed.getD j false) g w → DefOk g st.ds a.defers → Fr ops pv st (fun j => listed.getD j false) g a →
      wpAnyIn (FR ro) 0 P .any ops (lift S0 g0 w0 Q) fuel listed a w := by
  -- when nothing is ready, all is listed
  have fin : ∀ (listed : Array Bool) (a : Act) (w : World) (g : G), listed.size = ops.size → (∀ k, k < ops.size → listed.getD k false = true) → Inv g (Sf fun j => listed.getD j false) w → Ext S0 g0 w0 (Sf fun j => listed.getD j false) g w → DefOk g st.ds a.defers →
      Fr ops pv st (fun j => listed.getD j false) g a → lift S0 g0 w0 Q .normal a w := by
    intro listed a w g hls hall hI hE hd hF
    have hL : (fun j => listed.getD j false) = fun j => decide (j < ops.size) := by
      funext j
      by_cases hj : j < ops.size
      · rw [hall j hj]; simp [hj]
      · rw [show listed.getD j false = false by simp [Array.getD, show ¬ j < listed.size by omega]]; simp [hj]
    rw [hL] at hI hE
    refine ⟨(tst ops pv st ops.size).to (Sf fun j => decide (j < ops.size)), ⟨g, hI, hE, by show DefOk g (tst ops pv st ops.size).ds a.defers; rw [tst_ds]; exact hd, by rw [hF.size]; exact (tst_n _).symm, fun d hdn => ?_⟩, hQ⟩
    have hdn' : d < st.n := by have h := hdn; simp only [St.to, tst_n] at h; exact h
    show V g ((tst ops pv st ops.size).t d) _
    by_cases hw : ∃ w, dstOf ops w = some d
    · obtain ⟨u, hu⟩ := hw
      have hus : u < ops.size := by
        rcases Nat.lt_or_ge u ops.size with h | h
        · exact h
        · simp [dstOf, Array.getElem?_eq_none h] at hu
      have huniq : ∀ j, dstOf ops j = some d → j = u := fun j hj => by
        rcases Nat.lt_or_ge j ops.size with h | h
        · by_cases hju : j = u
          · exact hju
          · have := (chk_spec hc (i := j) (o := ops[j]) (by simp [h])).2 u d (fun e => hju e.symm) hu
            exact absurd (by simpa [dstOf, h] using hj) this.1
        · simp [dstOf, Array.getElem?_eq_none h] at hj
      rw [tst_writer hu huniq, if_pos hus]
      have := hF.some d u hdn' hu
      rwa [if_pos (hall u hus)] at this
    · have hno : ∀ j, dstOf ops j ≠ some d := fun j hj => hw ⟨j, hj⟩
      rw [tst_slot _ hno]
      exact hF.none d hdn' hno
  have ready_nil : ∀ (listed : Array Bool), listed.size = ops.size → Region.ready .any ops listed = [] → ∀ k, k < ops.size → listed.getD k false = true := by
    intro listed hls hr k
    induction k using Nat.strongRecOn with
    | _ k ih =>
      intro hk
      cases hx : listed.getD k false with
      | true => rfl
      | false =>
        have : k ∈ Region.ready .any ops listed := mem_ready.2 ⟨by
          have hlt : k < listed.size := by omega
          simpa [Array.getD, hlt] using hx, ops[k], by simp [hk], fun e he hb => ?_⟩
        · rw [hr] at this; cases this
        · have := (chk_spec hc (i := k) (o := ops[k]) (by simp [hk])).1 e he hb
          exact ih e.on this (by omega)
  intro fuel
  induction fuel with
  | zero =>
    intro listed a w g hls hcnt hdown hI hE hd hF
    have hall : ∀ k, k < ops.size → listed.getD k false = true := by
      have h1 : (List.range ops.size).countP (fun j => listed.getD j false) = (List.range ops.size).length := by
        have := List.countP_le_length (p := fun j => listed.getD j false) (l := List.range ops.size)
        simp only [List.length_range] at this ⊢
        omega
      have := List.countP_eq_length.1 h1
      exact fun k hk => this k (List.mem_range.2 hk)
    refine ⟨?_, fin listed a w g hls hall hI hE hd hF⟩
    cases hr : Region.ready .any ops listed with
    | nil => rfl
    | cons k r =>
      have hk : k ∈ Region.ready .any ops listed := by rw [hr]; exact List.mem_cons_self ..
      obtain ⟨h1, o, ho, _⟩ := mem_ready.1 hk
      have hks := (Array.getElem?_eq_some_iff.1 ho).1
      have := hall k hks
      have hlt : k < listed.size := by omega
      simp [Array.getD, hlt] at h1 this
      rw [h1] at this; cases this
  | succ fuel ih =>
    intro listed a w g hls hcnt hdown hI hE hd hF
    refine ⟨fun hr => fin listed a w g hls (ready_nil listed hls hr) hI hE hd hF, fun i hi => ?_⟩
    obtain ⟨h1, o, ho, h2⟩ := mem_ready.1 hi
    have his : i < ops.size := (Array.getElem?_eq_some_iff.1 ho).1
    have hlt : i < listed.size := by omega
    have hnew : listed.getD i false = false := by simpa [Array.getD, hlt] using h1
    have hadm : Adm ops i (fun j => listed.getD j false) := ⟨hnew, fun j hj => by
      rcases Nat.lt_or_ge j listed.size with h | h
      · omega
      · simp [Array.getD, Nat.not_lt.2 h] at hj, fun j hj => by
      simp only [dep, ho] at hj
      obtain ⟨e, he, hb⟩ := Array.any_eq_true'.1 hj
      simp only [Bool.and_eq_true, beq_iff_eq] at hb
      rw [← hb.2]
      exact h2 e he hb.1, hdown⟩
    have hLins : (fun j => (listed.setIfInBounds i true).getD j false) = ins (fun j => listed.getD j false) i := by
      funext j
      by_cases hji : j = i
      · subst hji; simp [ins, hlt]
      · simp only [ins]
        rw [getD_set_ne false (fun h => hji h.symm)]
        simp [hji]
    -- the frame at the operands
    have hslot : ∀ d, d ∈ o.looksAt ops → d < st.n → V g ((tst ops pv st i).t d) (a.tmps.getD d undef) := by
      intro d hdl hdn
      by_cases hw : ∃ w, dstOf ops w = some d
      · obtain ⟨u, hu⟩ := hw
        have huniq : ∀ j, dstOf ops j = some d → j = u := fun j hj => by
          rcases Nat.lt_or_ge j ops.size with h | h
          · by_cases hju : j = u
            · exact hju
            · have := (chk_spec hc (i := j) (o := ops[j]) (by simp [h])).2 u d (fun e => hju e.symm) hu
              exact absurd (by simpa [dstOf, h] using hj) this.1
          · simp [dstOf, Array.getElem?_eq_none h] at hj
        have hv := hF.some d u hdn hu
        rw [tst_writer hu huniq]
        by_cases hui : u = i
        · subst hui
          rw [if_neg (Nat.lt_irrefl _)]
          rwa [if_neg (by simp only [hnew]; simp)] at hv
        · rcases ((chk_spec hc ho).2 u d hui hu).2 hdl with h | h
          · have hLu := hadm.deps u h
            have hlt' : u < i := by
              simp only [dep, ho] at h
              obtain ⟨e, he, hb⟩ := Array.any_eq_true'.1 h
              simp only [Bool.and_eq_true, beq_iff_eq] at hb
              rw [← hb.2]; exact (chk_spec hc ho).1 e he hb.1
            rw [if_pos hlt']
            rwa [if_pos hLu] at hv
          · have hLu := hadm.later h
            have hus : u < ops.size := by
              rcases Nat.lt_or_ge u ops.size with h | h
              · exact h
              · simp [dstOf, Array.getElem?_eq_none h] at hu
            have hlt' : i < u := by
              simp only [dep, show ops[u]? = some ops[u] by simp [hus]] at h
              obtain ⟨e, he, hb⟩ := Array.any_eq_true'.1 h
              simp only [Bool.and_eq_true, beq_iff_eq] at hb
              rw [← hb.2]; exact (chk_spec hc (i := u) (o := ops[u]) (by simp [hus])).1 e he hb.1
            rw [if_neg (by omega)]
            rwa [if_neg (by rw [hLu]; simp)] at hv
      · have hno : ∀ j, dstOf ops j ≠ some d := fun j hj => hw ⟨j, hj⟩
        rw [tst_slot _ hno]
        exact hF.none d hdn hno
    have hops : ∀ z, ∀ x ∈ o.op.operands, V g ((tst ops pv st i).opz z x) (a.eval x) := by
      intro z x hx
      cases x with
      | tmp t =>
        simp only [St.opz, Act.eval, tst_n]
        split
        · refine hslot t ?_ (by assumption)
          exact List.mem_append_left _ (List.mem_filterMap.2 ⟨.tmp t, by simpa using hx, rfl⟩)
        · exact .junk _
      | const v => exact .v v
      | global _ => exact .junk _
      | func f => exact .fn f [] [] #[] #[] rfl rfl (by simp) (by simp)
    -- what comes behind
    have next : ∀ v g' w', V g' (pv i) v → Inv g' (Sf (ins (fun j => listed.getD j false) i)) w' → Ext (Sf fun j => listed.getD j false) g w (Sf (ins (fun j => listed.getD j false) i)) g' w' → wpAnyIn (FR ro) 0 P .any ops (lift S0 g0 w0 Q) fuel (listed.setIfInBounds i true) (a.put o.dst v) w' := by
      intro v g' w' hv hI' hE'
      refine ih (listed.setIfInBounds i true) (a.put o.dst v) w' g' (by simp [hls]) ?_ ?_ (by rw [hLins]; exact hI') (by rw [hLins]; exact hE.trans hE') (by rw [defers_put]; exact hd.mono hE'.le) ?_
      · rw [show (fun j => (listed.setIfInBounds i true).getD j false) = ins (fun j => listed.getD j false) i from hLins]
        have hcount : (List.range ops.size).countP (fun j => listed.getD j false) < (List.range ops.size).countP (ins (fun j => listed.getD j false) i) := by
          have hle : ∀ (l : List Nat), l.countP (fun j => listed.getD j false) ≤ l.countP (ins (fun j => listed.getD j false) i) := fun l => List.countP_mono_left (fun j _ hj => by simp only [ins]; rw [Bool.or_eq_true]; exact .inr hj)
          have hstrict : ∀ (l : List Nat), i ∈ l → l.countP (fun j => listed.getD j false) < l.countP (ins (fun j => listed.getD j false) i) := by
            intro l
            induction l with
            | nil => intro h; cases h
            | cons x l ihl =>
              intro hm
              simp only [List.countP_cons]
              by_cases hxi : x = i
              · subst hxi
                have := hle l
                have e1 : (if (fun j => listed.getD j false) x = true then 1 else 0) = 0 := if_neg (by simp only [hnew]; simp)
                have e2 : (if ins (fun j => listed.getD j false) x x = true then 1 else 0) = 1 := if_pos (by simp [ins])
                have h3 := Nat.lt_succ_of_le this
                simp only at e1
                rw [e2, e1]
                exact h3
              · have := ihl (by rcases List.mem_cons.1 hm with h | h
                                · exact absurd h.symm hxi
                                · exact h)
                have e : ins (fun j => listed.getD j false) i x = listed.getD x false := by simp [ins, hxi]
                rw [e]
                exact Nat.add_lt_add_right this _
          exact hstrict _ (List.mem_range.2 his)
        omega
      · intro k j hk hkj
        have hk' : ins (fun j => listed.getD j false) i k = true := by rw [← hLins]; exact hk
        have : ins (fun j => listed.getD j false) i j = true := by
          simp only [ins, Bool.or_eq_true, beq_iff_eq] at hk' ⊢
          rcases hk' with rfl | hk'
          · exact .inr (hadm.deps j hkj)
          · exact .inr (hdown k j hk' hkj)
        rw [← hLins] at this; exact this
      · rw [hLins]
        refine ⟨by rw [size_put]; exact hF.size, fun d hdn hno => ?_, fun d u hdn hu => ?_⟩
        · have hne : o.dst ≠ some d := fun h => hno i (by simp [dstOf, ho, h])
          have : (a.put o.dst v).tmps.getD d undef = a.tmps.getD d undef := by
            cases hdst : o.dst with
            | none => rfl
            | some e =>
              simp only [Act.put, Array.getD_eq_getD_getElem?]
              rw [Array.getElem?_setIfInBounds_ne (fun h => hne (by rw [hdst, h]))]
          rw [this]; exact (hF.none d hdn hno).mono hE'.le
        · by_cases hui : u = i
          · subst hui
            have hdst : o.dst = some d := by simpa [dstOf, ho] using hu
            have hlt' : d < a.tmps.size := by rw [hF.size]; exact hdn
            rw [show (a.put o.dst v).tmps.getD d undef = v by simp [hdst, Act.put, Array.getD, hlt']]
            simp only [ins, beq_self_eq_true, Bool.true_or, if_true]
            exact hv
          · have hne : o.dst ≠ some d := ((chk_spec hc ho).2 u d hui hu).1
            have : (a.put o.dst v).tmps.getD d undef = a.tmps.getD d undef := by
              cases hdst : o.dst with
              | none => rfl
              | some e =>
                simp only [Act.put, Array.getD_eq_getD_getElem?]
                rw [Array.getElem?_setIfInBounds_ne (fun h => hne (by rw [hdst, h]))]
            rw [this]
            have := (hF.some d u hdn hu).mono hE'.le
            simpa [ins, hui] using this
    -- the operation
    have hgv : ∀ j want b, o.guard = some (j, want) → gval ops (tst ops pv st i) j want = some b → Region.wanted o (yielded ops a.tmps) = b := by
      intro j want b hg hb
      -- a state that agrees at the guard's slot, and says nothing of the others
      refine wanted_of (st := { t := fun d => if dstOf ops j = some d then (tst ops pv st i).t d else .junk, n := st.n, ds := st.ds, S := st.S }) (g := g) hF.size (fun d hdn => ?_) hg ?_
      · show V g (if dstOf ops j = some d then _ else _) _
        split
        · rename_i hj
          refine hslot d ?_ hdn
          unfold Oper.looksAt
          refine List.mem_append_right _ ?_
          simp only [hg]
          simp only [dstOf] at hj
          rw [hj]; simp
        · exact .junk _
      · rw [← hb]
        refine gval_congr (fun d hj => ?_)
        simp only [St.opz, tst_n]
        split
        · first | rfl | simp [hj]
        · rfl
    have hs := hstep i o ho
    unfold wpOpIn
    simp only [ho]
    unfold stepD at hs
    cases hg : o.guard with
    | none =>
      rw [hg] at hs
      obtain ⟨z, hs⟩ := hs
      rw [if_pos (by simp [Region.wanted, hg])]
      exact hs _ hadm ro g w a _ _ hI (hops z) next
    | some jw =>
      obtain ⟨j, want⟩ := jw
      rw [hg] at hs
      rcases hs with ⟨hb, z, hs⟩ | ⟨hb, hp, hs⟩
      · rw [if_pos (hgv j want true hg hb)]
        exact hs _ hadm ro g w a _ _ hI (hops z) next
      · rw [if_neg (by rw [hgv j want false hg hb]; simp)]
        exact ⟨fun _ _ => trivial, next undef g w (hp g) (by rw [hs _ hadm]; exact hI) (by rw [hs _ hadm]; exact .refl _ g w)⟩

/-- **A region that draws its order.** -/
theorem pw_draw {id : Nat} {l : List Oper} (Sf : (Nat → Bool) → Hp) (hm : P.follows .mixedOrders = true) (hc : chk l.toArray = true) (h0 : Sf (fun _ => false) = st.S)
    (h : drawOk P l.toArray Sf l 0 st (fun st' => Q .normal (st'.to (Sf fun j => decide (j < l.length))))) : pw P ro S0 g0 w0 (.region id l.toArray true) Q st := by
  intro a w hr
  obtain ⟨g, hI, hE, hd, hs, hv⟩ := hr
  obtain ⟨pv, _, h2, h3⟩ := drawOk_pv (ops := l.toArray) l 0 st (fun _ => .junk) _ (fun j => by simp) h
  refine wpIn_region_any hm ?_
  have hLf : (fun j => (Array.replicate l.toArray.size false).getD j false) = fun _ => false := by
    funext j
    by_cases hj : j < l.length <;> simp [Array.getD, hj]
  refine draw_any (pv := pv) hc (fun i o ho => h2 i o (Nat.zero_le _) ho) (by simpa using h3) _ _ a w.drew g (by simp) (by omega) (fun k j hk _ => ?_) (by rw [hLf, h0]; exact hI.drew) (by rw [hLf, h0]; exact hE.trans (.drew _ g w)) hd ⟨hs, fun d hdn _ => hv d hdn, fun d u hdn _ => ?_⟩
  · have := congrFun hLf k
    rw [this] at hk; cases hk
  · have := congrFun hLf u
    simp only [this]
    exact hv d hdn
end
end
end Go.Bm
