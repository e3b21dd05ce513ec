/- What is printed for a program: types, functions. -/
import Derived.Test.YtihiooaimdoapaaGreatBnG
set_option linter.unusedVariables false
set_option linter.unusedSimpArgs false
namespace Go.Bm
open Go.RowKit
inductive TabL (P : Program) : Nat → Nat → Tab → Prop
  | nil (a b : Nat) : TabL P a b .nil
  | no {a b : Nat} {l r : Tab} (h1 : TabL P (2 * a) (a + b) l) (h2 : TabL P (2 * a) (2 * a + b) r) : TabL P a b (.node l none r)
  | yes {a b : Nat} {e : TyE} {l r : Tab} (h : TyOk P b e) (h1 : TabL P (2 * a) (a + b) l) (h2 : TabL P (2 * a) (2 * a + b) r) : TabL P a b (.node l (some e) r)
theorem tabL_ok {P : Program} {T : Tab} {a b : Nat} (h : TabL P a b T) : ∀ t e, tget T t = some e → TyOk P (a * t + b) e := by
  have key : ∀ (a b : Nat) (l r : Tab), (∀ t e, tget l t = some e → TyOk P (2 * a * t + (a + b)) e) → (∀ t e, tget r t = some e → TyOk P (2 * a * t + (2 * a + b)) e) →
      ∀ n e v, tget (.node l v r) (n + 1) = some e → TyOk P (a * (n + 1) + b) e := by
    intro a b l r hl hr n e v ht
    rw [tget_succ] at ht
    cases hn : Nat.beq (n % 2) 0 with
    | true =>
      rw [hn] at ht
      have h0 := Nat.eq_of_beq_eq_true hn
      have := hl _ e ht
      have e1 : a * (n + 1) + b = 2 * a * (n / 2) + (a + b) := by
        have : n = 2 * (n / 2) := by omega
        generalize n / 2 = k at this
        subst this
        rw [Nat.mul_add, Nat.mul_one, Nat.mul_comm 2 a, Nat.mul_assoc]; omega
      rw [e1]; exact this
    | false =>
      rw [hn] at ht
      have h0 : n % 2 ≠ 0 := fun h => by rw [h] at hn; cases hn
      have := hr _ e ht
      have e1 : a * (n + 1) + b = 2 * a * (n / 2) + (2 * a + b) := by
        have : n = 2 * (n / 2) + 1 := by omega
        generalize n / 2 = k at this
        subst this
        rw [show 2 * k + 1 + 1 = 2 * (k + 1) by omega, ← Nat.mul_assoc, Nat.mul_comm a 2, Nat.mul_add, Nat.mul_one]; omega
      rw [e1]; exact this
  induction h with
  | nil => intro t e h; cases h
  | no h1 h2 ih1 ih2 =>
    intro t e ht
    cases t with
    | zero => cases ht
    | succ n => exact key _ _ _ _ ih1 ih2 n e _ ht
  | yes h h1 h2 ih1 ih2 =>
    intro t e ht
    cases t with
    | zero => cases ht; rw [Nat.mul_zero, Nat.zero_add]; exact h
    | succ n => exact key _ _ _ _ ih1 ih2 n e _ ht
theorem tget_ok {P : Program} {T : Tab} (h : TabL P 1 0 T) : ∀ t e, tget T t = some e → TyOk P t e := fun t e ht => by
  have := tabL_ok h t e ht
  rwa [Nat.one_mul, Nat.add_zero] at this
inductive EqL (P : Program) : List Nat → Prop
  | nil : EqL P []
  | cons {t : Nat} {r : List Nat} (h : EqTy P t) (k : EqL P r) : EqL P (t :: r)
theorem eqs_ok {P : Program} {l : List Nat} (h : EqL P l) : ∀ t, l.any (Nat.beq t) = true → EqTy P t := by
  induction h with
  | nil => intro f h; simp at h
  | cons h k ih =>
    rename_i f0 r
    intro f hf
    rw [List.any_cons, Bool.or_eq_true] at hf
    rcases hf with hf | hf
    · obtain rfl := Nat.eq_of_beq_eq_true hf; exact h
    · exact ih f hf
theorem eqTy_of {P : Program} {t : Nat} {fs : Array Field} (h1 : P.stoodInHeld t = false) (h2 : P.eqGuardType P.depth t = false) (h3 : P.underlying t = some (.struct fs)) (h4 : fs.toList.all (fun f => f.name != "_") = true) : EqTy P t :=
  ⟨h1, h2, fun fs' e f hf => by
    rw [h3] at e
    cases e
    have := List.all_eq_true.1 h4 f hf
    simpa using this⟩
theorem tyOk_of {P : Program} {t : Nat} {e : TyE} (h1 : P.underlying t = some e.d) (h2 : TI P t e.size e.bytes e.zero) (h3 : ∀ fs, e.d = .struct fs → ∀ w : World, (fs.mapM fun f => (do pure (f.offset, ← sizeOf f.type) : Sem (Nat × Nat))).run P w = .ok e.pl.toArray w)
    (h4 : ∀ u, e.t = some u → u.size = e.size ∧ toC u (zeros e.zero) = some u.dflt) : TyOk P t e where
  u := h1
  ti := h2
  pl := h3
  ts := fun u hu => (h4 u hu).1
  tz := fun u hu g => by
    obtain ⟨i, t1, t2, t3, t4, t5, t6⟩ := h2
    exact (toC_ok (g := g) u _ _ (h4 u hu).2).2 _ (zeros_ok t6 g)
theorem noTy {e : TyE} (h : e.t = none) : ∀ u, e.t = some u → u.size = e.size ∧ toC u (zeros e.zero) = some u.dflt := fun u hu => by rw [h] at hu; cases hu
theorem someTy {e : TyE} {u : Ty} (h : e.t = some u) (h1 : u.size = e.size) (h2 : toC u (zeros e.zero) = some u.dflt) : ∀ u, e.t = some u → u.size = e.size ∧ toC u (zeros e.zero) = some u.dflt := fun u' hu => by rw [h] at hu; cases hu; exact ⟨h1, h2⟩
/-- Hints, where the code has them. -/
inductive HT where
  | o
  | n (h : Option LH) (x y : HT)
def HT.h : HT → Option LH
  | .o => none
  | .n h _ _ => h
def HT.l : HT → HT
  | .o => .o
  | .n _ x _ => x
def HT.r : HT → HT
  | .o => .o
  | .n _ _ y => y
def noLH : LH := ⟨[], [], [], [], [], []⟩
def mkSeq (h : Option LH) (x y : XCode) : XCode := match h with
  | some h => .cut h x y
  | none => .seq x y
def mkLoop (h : Option LH) (x : XCode) : XCode := match h with
  | some h => .loop h x
  | none => .loop noLH x
/-- Code, made ready. -/
def comp : Code → HT → XCode
  | .skip, _ => .skip
  | .ret, _ => .ret
  | .exit id, _ => .exit id
  | .region id ops d, _ => .region id ops.toList d
  | .seq x y, t => mkSeq t.h (comp x t.l) (comp y t.r)
  | .cond c x y, t => .cond c (comp x t.l) (comp y t.r)
  | .block id x, t => .block id (comp x t.l)
  | .loop x, t => mkLoop t.h (comp x t.l)
  | .rangeFunc g ps x y, t => .range g ps.toList noLH (comp x t.l) (comp y t.r)
  | c, _ => .bad c
theorem mkSeq_code (h : Option LH) (x y : XCode) : (mkSeq h x y).code = .seq x.code y.code := by cases h <;> rfl
theorem mkLoop_code (h : Option LH) (x : XCode) : (mkLoop h x).code = .loop x.code := by cases h <;> rfl
theorem comp_code (c : Code) (t : HT) : (comp c t).code = c := by
  fun_induction comp c t <;> simp_all [XCode.code, mkSeq_code, mkLoop_code]
def bodyOf (f : Func) : Code := match f.body with
  | some c => c
  | none => .skip
theorem fxOk_of {P : Program} {f : Nat} {fn : Func} {t : HT} (h1 : P.funcs[f]? = some fn) (h2 : fn.body = some (bodyOf fn)) (h3 : (fn.name == "runtime.NumGoroutine") = false) : FxOk P f fn (comp (bodyOf fn) t) := ⟨h1, by rw [comp_code]; exact h2, h3⟩
end Go.Bm
