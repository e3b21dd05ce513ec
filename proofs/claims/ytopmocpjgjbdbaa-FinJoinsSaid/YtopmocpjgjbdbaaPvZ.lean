/- A reckoner, continued: regions, code, functions. -/
import Derived.Test.YtopmocpjgjbdbaaPvYf
namespace Go.Pv
open Go.RowKit

abbrev Fm := List (Nat × PV)
inductive H : Type 1 where
  | nil
  | op (skip : Nat) (h : Hint) (r : H)
  | br (a b : H)
  | bt (a : H)
  | bf (a : H)
  | len (l : List Nat) (r : H)
  | loop (α : Type) (inv : α → Fm × Sx) (ok : α → Prop) (μ : α → Nat) (x0 : α) (body : α → H)
  | cut (α : Type) (inv : α → Fm × Sx) (ok : α → Prop) (first : H) (rest : α → H)
  | nx (β : Type) (y : β)
  | rg (k : Nat) (r : H)
  | retag (d : Nat) (r : H)
  | reserve (k : Nat) (r : H)
  | freeze (b sz : Nat) (es : List (List D)) (keep conv : List Nat) (r : H)
  | retagc (b off : Nat) (r : H)
  | vec (d : Nat) (r : H)
  | vecc (b off : Nat) (r : H)
  | retagr (b ez n : Nat) (r : H)
  | newfam (r : H)
  | vecf (d i N : Nat) (cs c' : List PV) (r : H)
  | split (φ : Prop) (a b : H)
  | eqS (S1 : Sx) (r : H)
  | wks (d : Nat) (q : PV) (r : H)
  | letv (α : Type) (ok : α → Prop) (b : α → H)
  | still (d : Nat) (keep : List Nat) (r : H)
  | trunc (d : Nat) (c' : List PV) (r : H)
  | peel (k : Nat) (r : H)
  | dead
def popH : H → Hint × H
  | .op 0 h r => (h, r)
  | .op (k + 1) h r => (.no, .op k h r)
  | r => (.no, r)

def isNilC : Operand → Bool
  | .const (.slice none 0 0) => true
  | _ => false
def esz (E : Env) (T : Nat) : Nat :=
  match tget E.tab T with
  | some ⟨.slice el, _, _, _, _, _⟩ => match tget E.tab el with
    | some e => e.size
    | none => 1
  | _ => 1
def argz (E : Env) : List Operand → List Nat → Nat
  | x :: xs, t :: ts => bif isNilC x then esz E t else argz E xs ts
  | _, _ => 1
def partz (E : Env) (tyOf : Nat → Nat) : List (Nat × Operand) → Nat
  | (i, x) :: r => bif isNilC x then esz E (tyOf i) else partz E tyOf r
  | [] => 1
def zOf (E : Env) (o : Oper) : Nat :=
  match o.op with
  | .move _ | .assign _ | .pick _ _ _ => esz E o.type
  | .store T _ _ => esz E T
  | .call c => argz E c.args.toList c.argTypes.toList
  | .build T ps => match tget E.tab T with
    | some ⟨.struct fs, _, _, _, _, _⟩ => partz E (fun i => match fs[i]? with | some f => f.type | none => 0) ps.toList
    | some ⟨.array _ el, _, _, _, _, _⟩ => esz E el
    | _ => 1
  | .buildSlice T _ _ => match tget E.tab T with
    | some ⟨.slice el, _, _, _, _, _⟩ => esz E el
    | _ => 1
  | .box T _ => esz E T
  | _ => 1

def optC (c : Prop) (ρ : Operand → PV) : List Operand → List Prop
  | [] => []
  | x :: r => (unopt c (ρ x)).1 ++ optC c ρ r
def isPick : Op → Bool
  | .pick _ _ _ => true
  | _ => false
def stripR (ρ : Operand → PV) : Operand → PV := fun x => (unopt True (ρ x)).2
/-- A result told more weakly. -/
def Ro.wk (q : PV) : Ro → Ro
  | .v φ p => .v (PVle p q :: φ) q
  | .r φ p T => .r (PVle p q :: φ) q T
  | .e φ p ef => .e (PVle p q :: φ) q ef
theorem Ro.wk_ok {P : Program} {o : Oper} {ρ : Operand → PV} {S : Sx} {q : PV} {r : Ro} (h : RoOk P o ρ S r) : RoOk P o ρ S (r.wk q) := by
  cases r with
  | v φ p => exact fun hφ S2 => OpS.le (h hφ.2 S2) hφ.1
  | r φ p T => exact fun hφ S2 ha => OpS.le (h hφ.2 S2 ha) hφ.1
  | e φ p ef => exact fun hφ S2 ha => OpS.le (h hφ.2 S2 ha) hφ.1
def opB (P : Program) (E : Env) (op : Op) (ρ : Operand → PV) (S : Sx) : Hint → Option Ro
  | .fam k => opF E op ρ S k
  | h => opE P E op ρ S h
theorem opB_ok {P : Program} {E : Env} {o : Oper} {ρ : Operand → PV} {S : Sx} (hE : EnvOk P E) {h : Hint} {r : Ro} (hr : opB P E o.op ρ S h = some r) : RoOk P o ρ S r := by
  unfold opB at hr
  split at hr
  · exact opF_ok hE hr
  · exact opE_ok hE hr
def opW (P : Program) (E : Env) (op : Op) (ρ : Operand → PV) (S : Sx) : Hint → Option Ro
  | .wk q h => match opB P E op ρ S h with
    | some r => some (r.wk q)
    | none => none
  | h => opB P E op ρ S h
theorem opW_ok {P : Program} {E : Env} {o : Oper} {ρ : Operand → PV} {S : Sx} (hE : EnvOk P E) {h : Hint} {r : Ro} (hr : opW P E o.op ρ S h = some r) : RoOk P o ρ S r := by
  unfold opW at hr
  split at hr
  · split at hr
    · rename_i r' h'
      simp only [Option.some.injEq] at hr; subst hr
      exact Ro.wk_ok (opB_ok hE h')
    · cases hr
  · exact opB_ok hE hr
def opC (P : Program) (E : Env) (c : Prop) (op : Op) (ρ : Operand → PV) (S : Sx) (h : Hint) : Option Ro :=
  match op with
  | .pick x y z => pickE c h (ρ x) (ρ y) (ρ z)
  | op => opW P E op (stripR ρ) S h
def preC (c : Prop) (op : Op) (ρ : Operand → PV) : List Prop := bif isPick op then [] else optC c ρ op.operands.toList
/-- What an operation looks at, and what it changes. -/
abbrev Inf := Option Rs × Option Ef
def runE (P : Program) (E : Env) (o : Oper) (c : Prop) (st : St) (h : Hint) : Option (Inf × List Prop × PV) :=
  match opC P E c o.op (st.opz (zOf E o)) st.S h with
  | some (.v φ p) => some ((none, none), preC c o.op (st.opz (zOf E o)) ++ φ, p)
  | some (.r φ p T) => some ((some T, none), preC c o.op (st.opz (zOf E o)) ++ φ, p)
  | some (.e φ p ef) => some ((some ef.rs, some ef), preC c o.op (st.opz (zOf E o)) ++ φ, p)
  | none => none
def guardB (ops : Array Oper) (st : St) (j : Nat) (want : Bool) : Option Bool :=
  match (ops[j]?).bind (·.dst) with
  | some d => match st.opz 0 (.tmp d) with
    | .d (.v (.bool b)) => some (cond want b (!b))
    | .opt c (.d (.v (.bool b))) => some (c && cond want b (!b))
    | .un => some false
    | _ => none
  | none => none
def under (g : Bool) : List Prop → List Prop
  | [] => []
  | l => [g = true → AllP l]
def stepE (P : Program) (E : Env) (ops : Array Oper) (o : Oper) (st : St) (h : Hint) : Option (Inf × List Prop × PV) :=
  match o.guard with
  | none => runE P E o True st h
  | some (j, want) => match guardB ops st j want with
    | none => none
    | some g => match h with
      | .known true h' => match runE P E o True st h' with
        | some (k, φ, p) => some (k, (g = true) :: φ, p)
        | none => none
      | .known false _ => some ((none, none), [g = false], .un)
      | _ => match runE P E o (g = true) st h with
        | some ((T, none), φ, p) => some ((T, none), under g φ, .opt g p)
        | _ => none
def eff : Option Ef → Sx → Sx
  | some e, S => e.app S
  | none, S => S

section
variable {P : Program} {E : Env} {o : Oper} {ops : Array Oper} {st : St}

def OpI (P : Program) (o : Oper) (ρ : Operand → PV) (S : Sx) (p : PV) : Inf → Prop
  | (none, none) => ∀ S2, OpS P o ρ S2 S2 p
  | (some T, none) => ∀ S2, Agree S S2 T → OpS P o ρ S2 S2 p
  | (some T, some ef) => T = ef.rs ∧ ∀ S2, Agree S S2 T → OpS P o ρ S2 (ef.app S2) p
  | (none, some _) => False
theorem OpI.le {ρ : Operand → PV} {k : Inf} {S : Sx} {p q : PV} (h : OpI P o ρ S p k) (hq : PVle p q) : OpI P o ρ S q k := by
  obtain ⟨T, ef⟩ := k
  cases T <;> cases ef
  · exact fun S2 => (h S2).le hq
  · exact h
  · exact fun S2 ha => (h S2 ha).le hq
  · exact ⟨h.1, fun S2 ha => (h.2 S2 ha).le hq⟩
theorem OpI.s {ρ : Operand → PV} {k : Inf} {S : Sx} {p : PV} (h : OpI P o ρ S p k) : OpS P o ρ S (eff k.2 S) p := by
  obtain ⟨T, ef⟩ := k
  cases T <;> cases ef
  · exact h S
  · exact h.elim
  · exact h S (.refl _ _)
  · exact h.2 S (.refl _ _)
theorem optC_ok {c : Prop} (hc : c) {ρ : Operand → PV} : ∀ {l : List Operand}, AllP (optC c ρ l) → ∀ x ∈ l, PVle (ρ x) (stripR ρ x)
  | [], _, x, hx => by cases hx
  | y :: r, h, x, hx => by
    obtain ⟨h1, h2⟩ := AllP_app.1 h
    rcases List.mem_cons.1 hx with rfl | hx
    · unfold stripR
      have e : (unopt True (ρ x)).2 = (unopt c (ρ x)).2 := by cases ρ x <;> rfl
      rw [e]; exact unopt_le hc h1
    · exact optC_ok hc h2 x hx

theorem opC_ok (hE : EnvOk P E) {c : Prop} (hc : c) {ρ : Operand → PV} {S : Sx} {h : Hint} {r : Ro} (hr : opC P E c o.op ρ S h = some r) (hp : AllP (preC c o.op ρ)) : RoOk P o ρ S r := by
  generalize hop : o.op = op at hr hp
  unfold opC at hr
  split at hr
  · exact pickE_ok hc hop hr
  · rename_i hnp
    have h1 : AllP (optC c ρ o.op.operands.toList) := by
      rw [hop]
      unfold preC at hp
      have : isPick op = false := by cases op <;> first | rfl | exact absurd rfl (hnp _ _ _)
      rw [this] at hp; exact hp
    have hm : ∀ {S S' : Sx} {p : PV}, OpS P o (stripR ρ) S S' p → OpS P o ρ S S' p := fun h2 => OpS.mono h2 (fun x hx => optC_ok hc h1 x (by simpa using hx))
    have h2 := opW_ok (o := o) hE (by rw [hop]; exact hr)
    cases r with
    | v φ p => exact fun hφ S => hm (h2 hφ S)
    | r φ p T => exact fun hφ S2 ha => hm (h2 hφ S2 ha)
    | e φ p ef => exact fun hφ S2 ha => hm (h2 hφ S2 ha)
theorem runE_ok (hE : EnvOk P E) {c : Prop} (hc : c) {h : Hint} {k : Inf} {φ : List Prop} {p : PV} (hr : runE P E o c st h = some (k, φ, p)) (hφ : AllP φ) : OpI P o (st.opz (zOf E o)) st.S p k := by
  unfold runE at hr
  split at hr
  · rename_i e; simp only [Option.some.injEq, Prod.mk.injEq] at hr; obtain ⟨rfl, rfl, rfl⟩ := hr
    obtain ⟨h1, h2⟩ := AllP_app.1 hφ
    exact opC_ok hE hc e h1 h2
  · rename_i e; simp only [Option.some.injEq, Prod.mk.injEq] at hr; obtain ⟨rfl, rfl, rfl⟩ := hr
    obtain ⟨h1, h2⟩ := AllP_app.1 hφ
    exact opC_ok hE hc e h1 h2
  · rename_i e; simp only [Option.some.injEq, Prod.mk.injEq] at hr; obtain ⟨rfl, rfl, rfl⟩ := hr
    obtain ⟨h1, h2⟩ := AllP_app.1 hφ
    exact ⟨rfl, opC_ok hE hc e h1 h2⟩
  · cases hr

theorem guardB_gval {j : Nat} {want g : Bool} (h : guardB ops st j want = some g) : gval ops st j want = some g := by
  unfold guardB at h
  unfold gval
  split at h
  · rename_i d hd
    split at h
    · rename_i b hb
      simp only [hd, hb]
      cases h
      cases want <;> cases b <;> rfl
    · rename_i c b hb
      simp only [hd, hb]
      cases h
      cases want <;> cases b <;> cases c <;> rfl
    · rename_i hb
      simp only [hd, hb]
      cases h
      rfl
    · cases h
  · cases h

def StepOk (P : Program) (ops : Array Oper) (o : Oper) (st : St) (k : Inf) (p : PV) : Prop :=
  match o.guard with
  | none => ∃ z, OpI P o (st.opz z) st.S p k
  | some (j, want) => (gval ops st j want = some true ∧ ∃ z, OpI P o (st.opz z) st.S p k) ∨ (gval ops st j want = some false ∧ (∀ g, V g p undef) ∧ k.2 = none)
theorem V.optF {g : Gh} {p : PV} : V g (.opt false p) undef := .opt _ _ _ (fun h => by cases h) (fun _ => rfl)
theorem PVle.toOpt {p : PV} : PVle p (.opt true p) := fun _ _ h => .opt _ _ _ (fun _ => h) (fun h => by cases h)
theorem under_ok {g : Bool} (hg : g = true) {φ : List Prop} (h : AllP (under g φ)) : AllP φ := by
  cases φ with
  | nil => trivial
  | cons a l => exact h.1 hg

theorem stepE_ok (hE : EnvOk P E) {h : Hint} {k : Inf} {φ : List Prop} {p : PV} (hr : stepE P E ops o st h = some (k, φ, p)) (hφ : AllP φ) : StepOk P ops o st k p := by
  unfold stepE at hr
  unfold StepOk
  split at hr
  · exact ⟨_, runE_ok hE trivial hr hφ⟩
  · rename_i j want hg
    split at hr
    · cases hr
    · rename_i g hgb
      have hgv := guardB_gval hgb
      split at hr
      · split at hr
        · rename_i e
          simp only [Option.some.injEq, Prod.mk.injEq] at hr; obtain ⟨rfl, rfl, rfl⟩ := hr
          refine .inl ⟨by rw [hgv, hφ.1], _, runE_ok hE trivial e hφ.2⟩
        · cases hr
      · simp only [Option.some.injEq, Prod.mk.injEq] at hr; obtain ⟨rfl, rfl, rfl⟩ := hr
        exact .inr ⟨by rw [hgv, hφ.1], fun _ => .un, rfl⟩
      · split at hr
        · rename_i e
          simp only [Option.some.injEq, Prod.mk.injEq] at hr; obtain ⟨rfl, rfl, rfl⟩ := hr
          cases g with
          | true => exact .inl ⟨hgv, _, (runE_ok hE rfl e (under_ok rfl hφ)).le .toOpt⟩
          | false => exact .inr ⟨hgv, fun _ => .optF, rfl⟩
        · cases hr
end

def putF (d : Option Nat) (p : PV) (F : Fm) : Fm :=
  match d with
  | some d => (d, p) :: F
  | none => F
def regE (P : Program) (E : Env) (n : Nat) (ops : Array Oper) : List Oper → H → Fm → Sx → Option (List Prop × H × Fm × Sx × List Inf)
  | [], h, F, S => some ([], h, F, S, [])
  | o :: l, h, F, S => match stepE P E ops o (St.ofL n F S) (popH h).1 with
    | some (k, φ, p) => match regE P E n ops l (popH h).2 (putF o.dst p F) (eff k.2 S) with
      | some (φs, h', F', S'', ks) => some (φ ++ φs, h', F', S'', k :: ks)
      | none => none
    | none => none

theorem ofL_put {n : Nat} {F : Fm} {S S' : Sx} (d : Option Nat) (p : PV) : ((St.ofL n F S).put d p).to S' = St.ofL n (putF d p F) S' := by cases d <;> rfl
theorem to_S' (st : St) : st.to st.S = st := rfl

section
variable {P : Program} {E : Env} {n : Nat} {ops : Array Oper} {g0 : Gh} {w0 : World} {Q : Exit → St → Prop}

theorem R_un {st : St} {a : Act} {w : World} {d : Option Tmp} {p : PV} (h : R g0 w0 (st.put d .un) a w) (hun : ∀ g, V g p undef) : R g0 w0 (st.put d p) a w := by
  cases d with
  | none => exact h
  | some d =>
    obtain ⟨g, k1, k2, k3, k4, k5⟩ := h
    refine ⟨g, k1, k2, k3, k4, fun i hi => ?_⟩
    have := k5 i hi
    simp only [St.put] at this ⊢
    split
    · rename_i e
      rw [if_pos e] at this
      generalize a.tmps.getD i undef = u at this
      cases this
      exact hun g
    · rename_i e
      rw [if_neg e] at this; exact this
theorem regE_pwl (hE : EnvOk P E) : ∀ (l : List Oper) (h : H) (F : Fm) (S : Sx) (φs : List Prop) (h' : H) (F' : Fm) (S' : Sx) (ks : List Inf), regE P E n ops l h F S = some (φs, h', F', S', ks) → AllP φs → Q .normal (St.ofL n F' S') → pwl P g0 w0 ops Q l (St.ofL n F S)
  | [], h, F, S, φs, h', F', S', ks, hr, hφ, hq => by
    simp only [regE, Option.some.injEq, Prod.mk.injEq] at hr
    obtain ⟨rfl, rfl, rfl, rfl, rfl⟩ := hr
    exact pwl_nil hq
  | o :: l, h, F, S, φs, h', F', S', ks, hr, hφ, hq => by
    unfold regE at hr
    split at hr
    · rename_i k φ p hs
      split at hr
      · rename_i φs1 h1 F1 S2 ks1 hr1
        simp only [Option.some.injEq, Prod.mk.injEq] at hr
        obtain ⟨rfl, rfl, rfl, rfl, rfl⟩ := hr
        obtain ⟨hφ1, hφ2⟩ := AllP_app.1 hφ
        have ih := regE_pwl hE l _ _ _ _ _ _ _ _ hr1 hφ2 hq
        have hst := stepE_ok hE hs hφ1
        unfold StepOk at hst
        split at hst
        · rename_i hg
          obtain ⟨z, hk⟩ := hst
          exact pwl_step z hg hk.s (by rw [ofL_put]; exact ih)
        · rename_i j want hg
          rcases hst with ⟨hb, z, hk⟩ | ⟨hb, hun, hS⟩
          · exact pwl_step_yes z hg hb hk.s (by rw [ofL_put]; exact ih)
          · refine pwl_step_no hg hb (fun a w hr => ?_)
            have h2 := R_un hr hun
            rw [← put_to, ofL_put] at h2
            rw [hS] at ih
            exact ih a w h2
      · cases hr
    · cases hr
end
end Go.Pv
