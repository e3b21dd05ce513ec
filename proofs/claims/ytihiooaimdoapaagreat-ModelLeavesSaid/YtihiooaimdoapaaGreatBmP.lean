/- The words of which plain functions are made. Nothing of a program stands here. -/
import Derived.WalkKit
import Derived.Deep.LoopGhost
import Derived.KernelRfl
set_option linter.unusedVariables false
set_option linter.unusedSimpArgs false
namespace Go.Bm
section
variable {α β σ ρ : Type}
def gd (p : Prop) [Decidable p] (x : Option α) : Option α := if p then x else none
def bd (x : Option α) (f : α → Option β) : Option β := match x with
  | some a => f a
  | none => none
def br (b : Bool) (x y : Option α) : Option α := match b with
  | true => x
  | false => y
/-- One that may be none. -/
def opt (x : Option α) (n : Option β) (s : α → Option β) : Option β := match x with
  | some a => s a
  | none => n
def iter (f : (σ → Option α) → σ → Option α) : Nat → σ → Option α
  | 0, _ => none
  | n + 1, s => f (iter f n) s
def big : Nat := 9223372036854775808
/-- The kernel is not to look into these. -/
abbrev LpT : Type 1 := (α σ : Type) → ((σ → Option α) → σ → Option α) → σ → Option α
abbrev JnT : Type 1 := (σ ρ : Type) → ((σ → Option ρ) → Option ρ) → (σ → Option ρ) → Option ρ
def lpE : LpT := fun _ _ f s => iter f big s
def jnE : JnT := fun _ _ f k => f k
theorem loop_ex : ∃ L : LpT, L = lpE := ⟨lpE, rfl⟩
theorem jn_ex : ∃ J : JnT, J = jnE := ⟨jnE, rfl⟩
noncomputable def lpO : LpT := Classical.choose loop_ex
noncomputable def jnO : JnT := Classical.choose jn_ex
noncomputable def loop (f : (σ → Option α) → σ → Option α) (s : σ) : Option α := lpO α σ f s
noncomputable def jn (f : (σ → Option ρ) → Option ρ) (k : σ → Option ρ) : Option ρ := jnO σ ρ f k
theorem lpO_eq : lpO = lpE := Classical.choose_spec loop_ex
theorem jnO_eq : jnO = jnE := Classical.choose_spec jn_ex
theorem loop_eq (f : (σ → Option α) → σ → Option α) (s : σ) : loop f s = iter f big s := by unfold loop; rw [lpO_eq]; rfl
theorem jn_eq (f : (σ → Option ρ) → Option ρ) (k : σ → Option ρ) : jn f k = f k := by unfold jn; rw [jnO_eq]; rfl
def nth (d : α) (l : List α) (i : Nat) : α := l.getD i d
def upd (l : List α) (i : Nat) (x : α) : List α := l.set i x
def aset (d : α) (l : List α) (i : Nat) (x : α) : List α := if i < l.length then l.set i x else l ++ (List.replicate (i - l.length) d ++ [x])
def cat (l k : List α) : List α := l ++ k
def len (l : List α) : Nat := l.length
def tk (n : Nat) (l : List α) : List α := l.take n
def dr (n : Nat) (l : List α) : List α := l.drop n
def rep (n : Nat) (x : α) : List α := List.replicate n x
def nN (n : Int) : Nat := n.toNat
def zN (n : Nat) : Int := n
def nadd (a b : Nat) : Nat := a + b
def nsub (a b : Nat) : Nat := a - b
def nle (a b : Nat) : Prop := a ≤ b
def nlt (a b : Nat) : Prop := a < b
def neq (a b : Nat) : Prop := a = b
def ige (a : Int) : Prop := 0 ≤ a
def ine (a : Int) : Prop := a ≠ 0
instance (a b : Nat) : Decidable (nle a b) := inferInstanceAs (Decidable (a ≤ b))
instance (a b : Nat) : Decidable (nlt a b) := inferInstanceAs (Decidable (a < b))
instance (a b : Nat) : Decidable (neq a b) := inferInstanceAs (Decidable (a = b))
instance (a : Int) : Decidable (ige a) := inferInstanceAs (Decidable (0 ≤ a))
instance (a : Int) : Decidable (ine a) := inferInstanceAs (Decidable (a ≠ 0))
/-- Row 'j' of some, if it is there. -/
def rwA (l : List (Option (List α))) (j : Nat) : Option (List α) := l.getD j none
def isome (x : Option α) : Bool := x.isSome
def ileq (a b : Int) : Bool := decide (a ≤ b)
def ilss (a b : Int) : Bool := decide (a < b)
def ieql (a b : Int) : Bool := decide (a = b)
def bnot (b : Bool) : Bool := !b
def beql (a b : Bool) : Bool := a == b
def band (a b : Bool) : Bool := a && b
def ieq (a b : Int) : Prop := a = b
instance (a b : Int) : Decidable (ieq a b) := inferInstanceAs (Decidable (a = b))
def wrp (k : IntKind) (n : Int) : Int := k.wrap n
def iadd (k : IntKind) (a b : Int) : Int := k.wrap (a + b)
def isub (k : IntKind) (a b : Int) : Int := k.wrap (a - b)
def imul (k : IntKind) (a b : Int) : Int := k.wrap (a * b)
def iquo (k : IntKind) (a b : Int) : Int := k.wrap (a.tdiv b)
def irem (a b : Int) : Int := a.tmod b
def ishl (k : IntKind) (a b : Int) : Int := k.wrap (a * 2 ^ (min b.toNat k.bits))
def ishr (k : IntKind) (a b : Int) : Int := a.fdiv (2 ^ (min b.toNat k.bits))
def imin (a b : Int) : Int := if b < a then b else a
def imax (a b : Int) : Int := if a < b then b else a
theorem gd_inv {p : Prop} [Decidable p] {x : Option α} {r : α} (h : gd p x = some r) : p ∧ x = some r := by
  unfold gd at h; split at h
  · exact ⟨by assumption, h⟩
  · cases h
theorem bd_inv {x : Option α} {f : α → Option β} {r : β} (h : bd x f = some r) : ∃ a, x = some a ∧ f a = some r := by
  cases x with
  | none => cases h
  | some a => exact ⟨a, rfl, h⟩
theorem br_inv {b : Bool} {x y : Option α} {r : α} (h : br b x y = some r) : (b = true ∧ x = some r) ∨ (b = false ∧ y = some r) := by
  cases b with
  | true => exact .inl ⟨rfl, h⟩
  | false => exact .inr ⟨rfl, h⟩
theorem opt_inv {x : Option α} {n : Option β} {s : α → Option β} {r : β} (h : opt x n s = some r) : (x = none ∧ n = some r) ∨ ∃ a, x = some a ∧ s a = some r := by
  cases x with
  | none => exact .inl ⟨rfl, h⟩
  | some a => exact .inr ⟨a, rfl, h⟩
theorem gd_pos {p : Prop} [Decidable p] {x : Option α} (h : p) : gd p x = x := if_pos h
theorem bd_some {a : α} {f : α → Option β} : bd (some a) f = f a := rfl
theorem br_true {x y : Option α} : br true x y = x := rfl
theorem br_false {x y : Option α} : br false x y = y := rfl
theorem opt_none {n : Option β} {s : α → Option β} : opt none n s = n := rfl
theorem opt_some {a : α} {n : Option β} {s : α → Option β} : opt (some a) n s = s a := rfl
theorem aset_get {d x : α} {l : List α} {i k : Nat} : (aset d l i x).getD k d = if k = i then x else l.getD k d := by
  unfold aset
  simp only [List.getD_eq_getElem?_getD]
  split
  · rename_i h
    by_cases hk : k = i
    · subst hk; simp [h]
    · rw [if_neg hk, List.getElem?_set_ne (fun e => hk e.symm)]
  · rename_i h
    by_cases hk : k = i
    · subst hk
      rw [List.getElem?_append_right (by omega), List.getElem?_append_right (by simp)]
      simp
    · rw [if_neg hk]
      by_cases h1 : k < l.length
      · rw [List.getElem?_append_left h1]
      · rw [List.getElem?_append_right (by omega), List.getElem?_eq_none (l := l) (by omega)]
        by_cases h2 : k - l.length < i - l.length
        · rw [List.getElem?_append_left (by simpa using h2), List.getElem?_replicate, if_pos h2]; rfl
        · rw [List.getElem?_append_right (by simp; omega), List.getElem?_eq_none (by simp; omega)]
end
/-- A tree of things, by numbers. -/
inductive Tr (α : Type) where
  | nil
  | node (l : Tr α) (v : Option α) (r : Tr α)
end Go.Bm
