/- Walking code in the logic of pure values. -/
import Derived.Test.YtopmocpjgjbdbaaPvQ
namespace Go.Pv
open Go.RowKit

/-- What a constant is; 'z': the cells of an element, for the slice that is none. -/
def cpv (z : Nat) : Value → PV
  | .slice none 0 0 => .d (.sl z true [])
  | v => if v.oneCell' = true then .d (.v v) else .junk
theorem V_nil (g : Gh) (z : Nat) (f : Bool) : V g (.d (.sl z f [])) (.slice none 0 0) :=
  .d _ _ (.sl z f [] none 0 [] (by simp) (Nat.le_refl _) (fun _ => rfl) (fun _ => rfl) (by simp) rfl (by simp) (by simp))
theorem V_cpv (g : Gh) (z : Nat) (v : Value) : V g (cpv z v) v := by
  unfold cpv
  split
  · exact V_nil g z true
  · split
    · exact .d _ _ (.v _ (by assumption))
    · exact .junk _

structure St where
  t : Nat → PV
  n : Nat
  S : Sx
def St.put (st : St) (d : Option Tmp) (p : PV) : St :=
  match d with
  | some d => { st with t := fun i => if i = d then p else st.t i }
  | none => st
def St.to (st : St) (S : Sx) : St := { st with S := S }
def St.opz (st : St) (z : Nat) : Operand → PV
  | .tmp t => if t < st.n then st.t t else .junk
  | .const v => cpv z v
  | .global _ => .junk
  | .func f => .fn f [] []

def R (g0 : Gh) (w0 : World) (st : St) (a : Act) (w : World) : Prop :=
  ∃ g, Inv g st.S w ∧ Ext g0 w0 g w ∧ a.defers = [] ∧ a.tmps.size = st.n ∧ ∀ i, i < st.n → V g (st.t i) (a.tmps.getD i undef)
def lift (g0 : Gh) (w0 : World) (Q : Exit → St → Prop) (e : Exit) (a : Act) (w : World) : Prop := ∃ st, R g0 w0 st a w ∧ Q e st
def pw (P : Program) (g0 : Gh) (w0 : World) (c : Code) (Q : Exit → St → Prop) (st : St) : Prop := ∀ a w, R g0 w0 st a w → c.wp P (lift g0 w0 Q) a w
def pwl (P : Program) (g0 : Gh) (w0 : World) (ops : Array Oper) (Q : Exit → St → Prop) (l : List Oper) (st : St) : Prop := ∀ a w, R g0 w0 st a w → wpList P ops (lift g0 w0 Q) l a w

section
variable {P : Program} {g0 : Gh} {w0 : World} {Q : Exit → St → Prop} {st : St} {ops : Array Oper}

theorem V_opz {g : Gh} {a : Act} (_hs : a.tmps.size = st.n) (hv : ∀ i, i < st.n → V g (st.t i) (a.tmps.getD i undef)) (z : Nat) (x : Operand) : V g (st.opz z x) (a.eval x) := by
  cases x with
  | tmp t =>
    simp only [St.opz, Act.eval]
    split
    · exact hv t (by assumption)
    · exact .junk _
  | const v => exact V_cpv g z v
  | global _ => exact .junk _
  | func f => exact .fn f [] [] #[] #[] rfl rfl (by simp) (by simp)

theorem put_vals {g : Gh} {a : Act} {d : Option Tmp} {p : PV} {v : Value} (hv : ∀ i, i < st.n → V g (st.t i) (a.tmps.getD i undef)) (h : V g p v) (hs : a.tmps.size = st.n) :
    ∀ i, i < (st.put d p).n → V g ((st.put d p).t i) ((a.put d v).tmps.getD i undef) := by
  cases d with
  | none => exact hv
  | some d =>
    intro i hi
    simp only [St.put, Act.put]
    by_cases hid : i = d
    · subst hid
      have hlt : i < a.tmps.size := by rw [hs]; exact hi
      simp only [if_true]
      rw [show (a.tmps.setIfInBounds i v).getD i undef = v by simp [Array.getD, hlt]]
      exact h
    · simp only [if_neg hid]
      rw [show (a.tmps.setIfInBounds d v).getD i undef = a.tmps.getD i undef by
        simp only [Array.getD_eq_getD_getElem?]
        rw [Array.getElem?_setIfInBounds_ne (fun h => hid h.symm)]]
      exact hv i hi
theorem size_put (a : Act) (d : Option Tmp) (v : Value) : (a.put d v).tmps.size = a.tmps.size := by cases d <;> simp [Act.put]
theorem defers_put (a : Act) (d : Option Tmp) (v : Value) : (a.put d v).defers = a.defers := by cases d <;> rfl

theorem R.put {a : Act} {w w' : World} {g g' : Gh} {S' : Sx} {d : Option Tmp} {p : PV} {v : Value} (h1 : Ext g0 w0 g w) (h2 : a.defers = []) (h3 : a.tmps.size = st.n) (h4 : ∀ i, i < st.n → V g (st.t i) (a.tmps.getD i undef))
    (hv : V g' p v) (hI : Inv g' S' w') (hE : Ext g w g' w') : R g0 w0 ((st.put d p).to S') (a.put d v) w' := by
  refine ⟨g', hI, h1.trans hE, by rw [defers_put]; exact h2, by rw [size_put, h3]; cases d <;> rfl, ?_⟩
  exact put_vals (fun i hi => (h4 i hi).mono hE.le) hv h3

theorem pwl_nil (h : Q .normal st) : pwl P g0 w0 ops Q [] st := fun _ _ hr => ⟨st, hr, h⟩

/-- One operation. -/
theorem pwl_step {o : Oper} {rest : List Oper} {pv : PV} {S' : Sx} (z : Nat) (hg : o.guard = none) (h : OpS P o (st.opz z) st.S S' pv) (k : pwl P g0 w0 ops Q rest ((st.put o.dst pv).to S')) : pwl P g0 w0 ops Q (o :: rest) st := by
  intro a w hr
  obtain ⟨g, h0, h1, h2, h3, h4⟩ := hr
  refine wpList_plain hg (fun K hK => ?_)
  exact h g w a K _ h0 (fun x _ => V_opz h3 h4 z x) (fun v g' w' hv hI hE => hK _ _ (k _ _ (R.put h1 h2 h3 h4 hv hI hE)))

/-- What a guard asks. -/
def gval (ops : Array Oper) (st : St) (j : Nat) (want : Bool) : Option Bool :=
  match (ops[j]?).bind (·.dst) with
  | some d => match st.opz 0 (.tmp d) with
    | .d (.v (.bool b)) => some (b == want)
    | .opt c (.d (.v (.bool b))) => some (c && (b == want))
    | .un => some false
    | _ => none
  | none => none
theorem wanted_of {g : Gh} {a : Act} {o : Oper} {j : Nat} {want b : Bool} (hs : a.tmps.size = st.n) (hv : ∀ i, i < st.n → V g (st.t i) (a.tmps.getD i undef)) (hg : o.guard = some (j, want)) (h : gval ops st j want = some b) :
    Region.wanted o (yielded ops a.tmps) = b := by
  unfold gval at h
  split at h
  · rename_i d hd
    have hvd := V_opz (st := st) hs hv 0 (.tmp d)
    simp only [Act.eval] at hvd
    split at h
    · rename_i b' hb
      cases h
      rw [hb] at hvd
      have := hvd.d_v.1
      rw [Array.getD_eq_getD_getElem?] at this
      cases ht : a.tmps[d]? with
      | none => rw [ht] at this; cases this
      | some u =>
        rw [ht] at this
        simp only [Option.getD_some] at this
        subst this
        simp only [Region.wanted, hg, yielded, hd, Option.bind_some, ht]
        cases b' <;> cases want <;> rfl
    · rename_i c b' hb
      cases h
      rw [hb] at hvd
      generalize hu : a.tmps.getD d undef = u at hvd
      cases hvd with
      | opt _ _ _ k1 k2 =>
      cases c with
      | true =>
        have := (k1 rfl).d_v.1
        subst this
        rw [Array.getD_eq_getD_getElem?] at hu
        cases ht : a.tmps[d]? with
        | none => rw [ht] at hu; cases hu
        | some u =>
          rw [ht] at hu
          simp only [Option.getD_some] at hu
          subst hu
          simp only [Region.wanted, hg, yielded, hd, Option.bind_some, ht]
          cases b' <;> cases want <;> rfl
      | false =>
        have := k2 rfl
        subst this
        rw [Array.getD_eq_getD_getElem?] at hu
        simp only [Region.wanted, hg, yielded, hd, Option.bind_some]
        cases ht : a.tmps[d]? with
        | none => simp
        | some u =>
          rw [ht] at hu
          simp only [Option.getD_some] at hu
          subst hu
          rfl
    · rename_i hb
      cases h
      rw [hb] at hvd
      generalize hu : a.tmps.getD d undef = u at hvd
      cases hvd
      rw [Array.getD_eq_getD_getElem?] at hu
      simp only [Region.wanted, hg, yielded, hd, Option.bind_some]
      cases ht : a.tmps[d]? with
      | none => simp
      | some u =>
        rw [ht] at hu
        simp only [Option.getD_some] at hu
        subst hu
        rfl
    · cases h
  · cases h
theorem put_to (d : Option Tmp) (p : PV) : (st.put d p).to st.S = st.put d p := by cases d <;> rfl

theorem pwl_step_yes {o : Oper} {rest : List Oper} {pv : PV} {S' : Sx} {j : Nat} {want : Bool} (z : Nat) (hg : o.guard = some (j, want)) (hb : gval ops st j want = some true) (h : OpS P o (st.opz z) st.S S' pv)
    (k : pwl P g0 w0 ops Q rest ((st.put o.dst pv).to S')) : pwl P g0 w0 ops Q (o :: rest) st := by
  intro a w hr
  obtain ⟨g, h0, h1, h2, h3, h4⟩ := hr
  refine wpList_step (fun K hK => ?_)
  rw [wanted_of h3 h4 hg hb, if_pos rfl]
  exact h g w a K _ h0 (fun x _ => V_opz h3 h4 z x) (fun v g' w' hv hI hE => hK _ _ (k _ _ (R.put h1 h2 h3 h4 hv hI hE)))
theorem pwl_step_no {o : Oper} {rest : List Oper} {j : Nat} {want : Bool} (hg : o.guard = some (j, want)) (hb : gval ops st j want = some false) (k : pwl P g0 w0 ops Q rest (st.put o.dst .un)) : pwl P g0 w0 ops Q (o :: rest) st := by
  intro a w hr
  obtain ⟨g, h0, h1, h2, h3, h4⟩ := hr
  refine wpList_step (fun K hK => ?_)
  rw [wanted_of h3 h4 hg hb, if_neg (by simp)]
  exact hK _ _ (k _ _ (by have := R.put (S' := st.S) (d := o.dst) h1 h2 h3 h4 .un h0 (.refl g w); rwa [put_to] at this))

theorem pw_region {id : Nat} {l : List Oper} (h : pwl P g0 w0 l.toArray Q l st) : pw P g0 w0 (.region id l.toArray false) Q st := fun a w hr => wp_region_lit (h a w hr)

def andThen (K : St → Prop) (Q : Exit → St → Prop) : Exit → St → Prop
  | .normal, st => K st
  | e, st => Q e st
theorem lift_mono {Q Q' : Exit → St → Prop} (h : ∀ e st, Q e st → Q' e st) {e : Exit} {a : Act} {w : World} (hl : lift g0 w0 Q e a w) : lift g0 w0 Q' e a w := let ⟨st, h1, h2⟩ := hl; ⟨st, h1, h _ _ h2⟩
theorem pw_mono {c : Code} {Q' : Exit → St → Prop} (h : pw P g0 w0 c Q st) (hq : ∀ e st, Q e st → Q' e st) : pw P g0 w0 c Q' st := fun a w hr => wp_mono (h a w hr) (fun _ _ _ hl => lift_mono hq hl)
theorem pw_seq {x y : Code} (h : pw P g0 w0 x (andThen (fun st => pw P g0 w0 y Q st) Q) st) : pw P g0 w0 (.seq x y) Q st := fun a w hr => wp_seq (wp_mono (h a w hr) (fun e a w hl => by
  obtain ⟨st, h1, h2⟩ := hl
  cases e with
  | normal => exact h2 a w h1
  | _ => exact ⟨st, h1, h2⟩))
theorem pw_skip (h : Q .normal st) : pw P g0 w0 .skip Q st := fun _ _ hr => wp_skip ⟨st, hr, h⟩
theorem pw_ret (h : Q .ret st) : pw P g0 w0 .ret Q st := fun _ _ hr => wp_ret ⟨st, hr, h⟩
theorem pw_exit {id : Nat} (h : Q (.exit id) st) : pw P g0 w0 (.exit id) Q st := fun _ _ hr => wp_exit ⟨st, hr, h⟩
theorem pw_cond {c : Operand} {x y : Code} {b : Bool} (hc : st.opz 0 c = .d (.v (.bool b))) (h1 : b = true → pw P g0 w0 x Q st) (h2 : b = false → pw P g0 w0 y Q st) : pw P g0 w0 (.cond c x y) Q st := by
  intro a w hr
  have hr' := hr
  obtain ⟨g, _, _, _, h5, h6⟩ := hr'
  have := V_opz h5 h6 0 c
  rw [hc] at this
  exact wp_cond_split this.d_v.1 (fun h => h1 h a w hr) (fun h => h2 h a w hr)
def inBlock (id : Nat) (Q : Exit → St → Prop) : Exit → St → Prop
  | .exit id', st => if id' = id then Q .normal st else Q (.exit id') st
  | e, st => Q e st
theorem pw_block {id : Nat} {c : Code} (h : pw P g0 w0 c (inBlock id Q) st) : pw P g0 w0 (.block id c) Q st := fun a w hr => wp_block (wp_mono (h a w hr) (fun e a w hl => by
  obtain ⟨st, h1, h2⟩ := hl
  cases e with
  | exit id' =>
    simp only [inBlock] at h2
    simp only [Exit.inBlock]
    split at h2
    · rename_i hid; rw [if_pos hid]; exact ⟨st, h1, h2⟩
    · rename_i hid; rw [if_neg hid]; exact ⟨st, h1, h2⟩
  | _ => exact ⟨st, h1, h2⟩))

/-- What is known may be forgotten. -/
def Weak (st st' : St) : Prop := ∀ g0 w0 a w, R g0 w0 st a w → R g0 w0 st' a w
theorem pw_weak {c : Code} {st' : St} (hw : Weak st st') (h : pw P g0 w0 c Q st') : pw P g0 w0 c Q st := fun a w hr => h a w (hw _ _ a w hr)

/-- A loop: what holds at each round's head, for some 'x' that gets less. -/
theorem pw_loop {c : Code} {α : Type} (inv : α → St) (ok : α → Prop) (μ : α → Nat) (x0 : α) (h0 : ok x0) (hw : Weak st (inv x0))
    (round : ∀ x, ok x → pw P g0 w0 c (andThen (fun st' => ∃ x', ok x' ∧ μ x' < μ x ∧ Weak st' (inv x')) Q) (inv x)) : pw P g0 w0 (.loop c) Q st := by
  intro a w hr
  refine wp_loop_ghost (fun n a w => ∃ x, ok x ∧ μ x = n ∧ R g0 w0 (inv x) a w) (μ x0) ⟨x0, h0, rfl, hw _ _ _ _ hr⟩ ?_
  rintro n a w ⟨x, hx, rfl, hr⟩
  refine wp_mono (round x hx a w hr) (fun e a' w' hl => ?_)
  obtain ⟨st', h1, h2⟩ := hl
  cases e with
  | normal =>
    obtain ⟨x', h3, h4, h5⟩ := h2
    exact ⟨_, h4, x', h3, rfl, h5 _ _ _ _ h1⟩
  | _ => exact ⟨st', h1, h2⟩
end
end Go.Pv
