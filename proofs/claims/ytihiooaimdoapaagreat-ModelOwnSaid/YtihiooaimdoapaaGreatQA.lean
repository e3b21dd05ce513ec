/- Texts of one proof, put together: see each part. -/
import Derived.WalkKit
import Derived.Deep.LoopGhost
import Derived.KernelRfl
import Derived.Great.BuildSlice
import Derived.Great.FillDense
import Derived.Deep.Slices
import Derived.Deep.OwnRows
import Derived.Laws.CopyRow
import Derived.Laws.IdiomCopy
import Derived.Laws.MakeOwn
import Derived.Laws.StructEq
import Derived.Carry
import Derived.MapKept
import Derived.WideKeyArgs
import Derived.OrdersIn
import Derived.RangeFuncRecord
set_option linter.unusedVariables false
set_option linter.unusedSimpArgs false
namespace Go.Bm
section
variable {α β σ ρ : Type}
def gd (p : Prop) [Decidable p] (x : Option α) : Option α := if p then x else none
def bd (x : Option α) (f : α → Option β) : Option β := match x with
 | some a => f a
 | none => none
def br (b : Bool) (x y : Option α) : Option α := match b with
 | true => x
 | false => y
def opt (x : Option α) (n : Option β) (s : α → Option β) : Option β := match x with
 | some a => s a
 | none => n
def iter (f : (σ → Option α) → σ → Option α) : Nat → σ → Option α
 | 0, _ => none
 | n + 1, s => f (iter f n) s
def big : Nat := 9223372036854775808
abbrev LpT : Type 1 := (α σ : Type) → ((σ → Option α) → σ → Option α) → σ → Option α
abbrev JnT : Type 1 := (σ ρ : Type) → ((σ → Option ρ) → Option ρ) → (σ → Option ρ) → Option ρ
def lpE : LpT := fun _ _ f s => iter f big s
def jnE : JnT := fun _ _ f k => f k
theorem loop_ex : ∃ L : LpT, L = lpE := ⟨lpE, rfl⟩
theorem jn_ex : ∃ J : JnT, J = jnE := ⟨jnE, rfl⟩
noncomputable def lpO : LpT := Classical.choose loop_ex
noncomputable def jnO : JnT := Classical.choose jn_ex
noncomputable def loop (f : (σ → Option α) → σ → Option α) (s : σ) : Option α := lpO α σ f s
noncomputable def jn (f : (σ → Option ρ) → Option ρ) (k : σ → Option ρ) : Option ρ := jnO σ ρ f k
theorem lpO_eq : lpO = lpE := Classical.choose_spec loop_ex
theorem jnO_eq : jnO = jnE := Classical.choose_spec jn_ex
theorem loop_eq (f : (σ → Option α) → σ → Option α) (s : σ) : loop f s = iter f big s := by unfold loop; rw [lpO_eq]; rfl
theorem jn_eq (f : (σ → Option ρ) → Option ρ) (k : σ → Option ρ) : jn f k = f k := by unfold jn; rw [jnO_eq]; rfl
def nth (d : α) (l : List α) (i : Nat) : α := l.getD i d
def upd (l : List α) (i : Nat) (x : α) : List α := l.set i x
def aset (d : α) (l : List α) (i : Nat) (x : α) : List α := if i < l.length then l.set i x else l ++ (List.replicate (i - l.length) d ++ [x])
def cat (l k : List α) : List α := l ++ k
def len (l : List α) : Nat := l.length
def tk (n : Nat) (l : List α) : List α := l.take n
def dr (n : Nat) (l : List α) : List α := l.drop n
def rep (n : Nat) (x : α) : List α := List.replicate n x
def nN (n : Int) : Nat := n.toNat
def zN (n : Nat) : Int := n
def nadd (a b : Nat) : Nat := a + b
def nsub (a b : Nat) : Nat := a - b
def nle (a b : Nat) : Prop := a ≤ b
def nlt (a b : Nat) : Prop := a < b
def neq (a b : Nat) : Prop := a = b
def ige (a : Int) : Prop := 0 ≤ a
def ine (a : Int) : Prop := a ≠ 0
instance (a b : Nat) : Decidable (nle a b) := inferInstanceAs (Decidable (a ≤ b))
instance (a b : Nat) : Decidable (nlt a b) := inferInstanceAs (Decidable (a < b))
instance (a b : Nat) : Decidable (neq a b) := inferInstanceAs (Decidable (a = b))
instance (a : Int) : Decidable (ige a) := inferInstanceAs (Decidable (0 ≤ a))
instance (a : Int) : Decidable (ine a) := inferInstanceAs (Decidable (a ≠ 0))
def rwA (l : List (Option (List α))) (j : Nat) : Option (List α) := l.getD j none
def ileq (a b : Int) : Bool := decide (a ≤ b)
def ilss (a b : Int) : Bool := decide (a < b)
def ieql (a b : Int) : Bool := decide (a = b)
def bnot (b : Bool) : Bool := !b
def beql (a b : Bool) : Bool := a == b
def band (a b : Bool) : Bool := a && b
def ieq (a b : Int) : Prop := a = b
instance (a b : Int) : Decidable (ieq a b) := inferInstanceAs (Decidable (a = b))
def wrp (k : IntKind) (n : Int) : Int := k.wrap n
def iadd (k : IntKind) (a b : Int) : Int := k.wrap (a + b)
def isub (k : IntKind) (a b : Int) : Int := k.wrap (a - b)
def imul (k : IntKind) (a b : Int) : Int := k.wrap (a * b)
def iquo (k : IntKind) (a b : Int) : Int := k.wrap (a.tdiv b)
def irem (a b : Int) : Int := a.tmod b
def ishl (k : IntKind) (a b : Int) : Int := k.wrap (a * 2 ^ (min b.toNat k.bits))
def ishr (k : IntKind) (a b : Int) : Int := a.fdiv (2 ^ (min b.toNat k.bits))
def imin (a b : Int) : Int := if b < a then b else a
def imax (a b : Int) : Int := if a < b then b else a
theorem gd_inv {p : Prop} [Decidable p] {x : Option α} {r : α} (h : gd p x = some r) : p ∧ x = some r := by
 unfold gd at h; split at h
 ·exact ⟨by assumption, h⟩
 ·cases h
theorem bd_inv {x : Option α} {f : α → Option β} {r : β} (h : bd x f = some r) : ∃ a, x = some a ∧ f a = some r := by
 cases x with
 | none => cases h
 | some a => exact ⟨a, rfl, h⟩
theorem br_inv {b : Bool} {x y : Option α} {r : α} (h : br b x y = some r) : (b = true ∧ x = some r) ∨ (b = false ∧ y = some r) := by
 cases b with
 | true => exact .inl ⟨rfl, h⟩
 | false => exact .inr ⟨rfl, h⟩
theorem opt_inv {x : Option α} {n : Option β} {s : α → Option β} {r : β} (h : opt x n s = some r) : (x = none ∧ n = some r) ∨ ∃ a, x = some a ∧ s a = some r := by
 cases x with
 | none => exact .inl ⟨rfl, h⟩
 | some a => exact .inr ⟨a, rfl, h⟩
theorem bd_some {a : α} {f : α → Option β} : bd (some a) f = f a := rfl
theorem br_true {x y : Option α} : br true x y = x := rfl
theorem br_false {x y : Option α} : br false x y = y := rfl
theorem opt_none {n : Option β} {s : α → Option β} : opt none n s = n := rfl
theorem opt_some {a : α} {n : Option β} {s : α → Option β} : opt (some a) n s = s a := rfl
theorem aset_get {d x : α} {l : List α} {i k : Nat} : (aset d l i x).getD k d = if k = i then x else l.getD k d := by
 unfold aset
 simp only [List.getD_eq_getElem?_getD]
 split
 ·rename_i h
  by_cases hk : k = i
  ·subst hk; simp [h]
  ·rw [if_neg hk, List.getElem?_set_ne (fun e => hk e.symm)]
 ·rename_i h
  by_cases hk : k = i
  ·subst hk
   rw [List.getElem?_append_right (by omega), List.getElem?_append_right (by simp)]
   simp
  ·rw [if_neg hk]
   by_cases h1 : k < l.length
   ·rw [List.getElem?_append_left h1]
   ·rw [List.getElem?_append_right (by omega), List.getElem?_eq_none (l := l) (by omega)]
    by_cases h2 : k - l.length < i - l.length
    ·rw [List.getElem?_append_left (by simpa using h2), List.getElem?_replicate, if_pos h2]; rfl
    ·rw [List.getElem?_append_right (by simp; omega), List.getElem?_eq_none (by simp; omega)]
end
inductive Tr (α : Type) where
 | nil
 | node (l : Tr α) (v : Option α) (r : Tr α)
end Go.Bm
set_option linter.unusedVariables false
set_option linter.unusedSimpArgs false
namespace Go.Bm
noncomputable section
open Go.RowKit
inductive Ty where
 | int (k : IntKind)
 | bool
 | unit
 | pair (a b : Ty)
 | arr (n : Nat) (t : Ty)
 | slc (t : Ty)
 | ptr (r : Nat)
 | nptr (r : Nat)
 | rsl (r : Nat) (z : Nat)
 | wrg (r : Nat) (z : Nat)
 | mp (r : Nat)
 deriving DecidableEq
def Ty.T : Ty → Type
 | .int _ => Int
 | .bool => Bool
 | .unit => Unit
 | .pair a b => a.T × b.T
 | .arr _ t => List t.T
 | .slc t => List t.T
 | .ptr _ => Option Nat
 | .nptr _ => Nat
 | .rsl _ _ => Option Nat
 | .wrg _ _ => Nat
 | .mp _ => Option Nat
def Ty.dflt : (t : Ty) → t.T
 | .int _ => (0 : Int)
 | .bool => false
 | .unit => ()
 | .pair a b => (a.dflt, b.dflt)
 | .arr n t => List.replicate n t.dflt
 | .slc _ => []
 | .ptr _ => none
 | .nptr _ => (0 : Nat)
 | .rsl _ _ => none
 | .wrg _ _ => (0 : Nat)
 | .mp _ => none
def Ty.size : Ty → Nat
 | .int _ => 1
 | .bool => 1
 | .unit => 0
 | .pair a b => a.size + b.size
 | .arr n t => n * t.size
 | _ => 1
def Ty.data : Ty → Bool
 | .int _ => true
 | .bool => true
 | .unit => true
 | .pair a b => a.data && b.data
 | .arr _ t => t.data
 | .slc t => t.data
 | _ => false
inductive RK where
 | box (t : Ty)
 | row (t : Ty)
 | map (ka : Bool) (tk : Ty) (va : Bool) (tv : Ty)
structure LH where
 vary : List (Nat × Bool × Ty)
 grow : List (Nat × Ty)
 boxes : List ((Nat × Option Nat) × Ty)
 cbox : List ((Nat × Option Nat) × List (Bool × Ty))
 loops : List Nat
 regs : List (Nat × RK)
inductive XCode where
 | skip
 | ret
 | exit (id : Nat)
 | bad (c : Code)
 | region (id : Nat) (ops : List Oper) (draw : Bool)
 | seq (x y : XCode)
 | cut (h : LH) (x y : XCode)
 | cond (c : Operand) (x y : XCode)
 | block (id : Nat) (x : XCode)
 | loop (h : LH) (x : XCode)
 | range (g : Operand) (ps : List Tmp) (h : LH) (as bd : XCode)
def XCode.code : XCode → Code
 | .skip => .skip
 | .ret => .ret
 | .exit id => .exit id
 | .bad c => c
 | .region id ops dr => .region id ops.toArray dr
 | .seq x y => .seq x.code y.code
 | .cut _ x y => .seq x.code y.code
 | .cond c x y => .cond c x.code y.code
 | .block id x => .block id x.code
 | .loop _ x => .loop x.code
 | .range g ps _ as bd => .rangeFunc g ps.toArray as.code bd.code
def Tr.get {α : Type} (t : Tr α) : Nat → Option α :=
 Tr.rec (motive := fun _ => Nat → Option α) (fun _ => none) (fun _ v _ gl gr n => Nat.rec (motive := fun _ => Option α) v (fun n _ => Nat.rec (motive := fun _ => Option α) (gl (n / 2)) (fun _ _ => gr (n / 2)) (n % 2)) n) t
theorem Tr.get_nil {α : Type} (n : Nat) : (Tr.nil : Tr α).get n = none := rfl
theorem Tr.get_zero {α : Type} (l : Tr α) (v : Option α) (r : Tr α) : (Tr.node l v r).get 0 = v := rfl
theorem Tr.get_succ {α : Type} (l : Tr α) (v : Option α) (r : Tr α) (n : Nat) : (Tr.node l v r).get (n + 1) = bif Nat.beq (n % 2) 0 then l.get (n / 2) else r.get (n / 2) := by
 show Nat.rec (motive := fun _ => Option α) (l.get (n / 2)) (fun _ _ => r.get (n / 2)) (n % 2) = _
 cases n % 2 <;> rfl
abbrev Mem := Nat → Nat → Option Value
def adr (p : Nat × Nat) : Addr := ⟨p.1, p.2, none⟩
inductive D where
 | v (x : Value)
 | sl (sz : Nat) (full : Bool) (es : List (List D))
inductive VD (M : Mem) : D → Value → Prop
 | v (x : Value) (h : x.oneCell' = true) : VD M (.v x) x
 | sl (sz : Nat) (full : Bool) (es : List (List D)) (a : Option (Nat × Nat)) (cap : Nat) (vs : List Value)
   (hz : ∀ e, e ∈ es → e.length = sz) (hc : es.length ≤ cap) (hf : full = true → cap = es.length) (hn : a = none → cap = 0) (hx : cap ≤ maxLen)
   (hl : es.flatten.length = vs.length)
   (hm : ∀ (p : Nat × Nat) (j : Nat) (x : Value), a = some p → vs[j]? = some x → M p.1 (p.2 + j) = some x)
   (hv : ∀ (j : Nat) (c : D) (x : Value), es.flatten[j]? = some c → vs[j]? = some x → VD M c x) :
   VD M (.sl sz full es) (.slice (a.map adr) es.length cap)
 | sl0 (sz : Nat) (full : Bool) (A : Option Addr) : VD M (.sl sz full []) (.slice A 0 0)
theorem VD.mono {M M' : Mem} (h : ∀ b o x, M b o = some x → M' b o = some x) {d : D} {v : Value} (hv : VD M d v) : VD M' d v := by
 induction hv with
 | v x h1 => exact .v x h1
 | sl sz full es a cap vs hz hc hf hn hx hl hm _ ih => exact .sl sz full es a cap vs hz hc hf hn hx hl (fun p j x h1 h2 => h _ _ _ (hm p j x h1 h2)) ih
 | sl0 sz f A => exact .sl0 sz f A
def arrF {α β : Type} (f : α → List β) (d : α) (n : Nat) (l : List α) : List β := (List.range n).flatMap fun i => f (nth d l i)
def encD : (t : Ty) → t.T → List D
 | .int k, x => [.v (.int k x)]
 | .bool, x => [.v (.bool x)]
 | .unit, _ => []
 | .pair a b, x => encD a x.1 ++ encD b x.2
 | .arr n t, l => arrF (encD t) t.dflt n l
 | .slc t, l => [.sl t.size false (List.map (encD t) l)]
 | _, _ => [.v undef]
inductive Ref where
 | loc (o : Nat)
 | reg (r j : Nat)
def lim : Nat := 16777216
def rOf (i : Nat) : Nat := (i - lim) % 64
def jOf (i : Nat) : Nat := (i - lim) / 64
theorem aux_mod (m L : Nat) : m + L = 64 * (m / 64) + (m % 64 + L) := by have := Nat.div_add_mod m 64; omega
theorem rid_ex : ∃ f : Nat → Nat → Nat, (∀ r j, lim ≤ f r j) ∧ (∀ r j, r < 64 → rOf (f r j) = r ∧ jOf (f r j) = j) ∧ ∀ i, ¬ i < lim → i = f (rOf i) (jOf i) := by
 unfold rOf jOf
 generalize lim = L
 refine ⟨fun r j => 64 * j + (r + L), fun r j => by show L ≤ 64 * j + (r + L); omega, fun r j h => by show (64 * j + (r + L) - L) % 64 = r ∧ (64 * j + (r + L) - L) / 64 = j; omega, fun i h => ?_⟩
 have h2 := aux_mod (i - L) L
 rw [Nat.sub_add_cancel (Nat.le_of_not_lt h)] at h2
 exact h2
def rid : Nat → Nat → Nat := Classical.choose rid_ex
theorem rid_ge (r j : Nat) : lim ≤ rid r j := (Classical.choose_spec rid_ex).1 r j
theorem rOf_rid {r j : Nat} (h : r < 64) : rOf (rid r j) = r := ((Classical.choose_spec rid_ex).2.1 r j h).1
theorem jOf_rid {r j : Nat} (h : r < 64) : jOf (rid r j) = j := ((Classical.choose_spec rid_ex).2.1 r j h).2
theorem rid_of {i : Nat} (h : ¬ i < lim) : i = rid (rOf i) (jOf i) := (Classical.choose_spec rid_ex).2.2 i h
def Ref.id : Ref → Nat
 | .loc o => o
 | .reg r j => rid r j
inductive Sp where
 | fst
 | snd (c : Nat)
 | ix (i z : Nat)
 | ai (i n z : Nat)
def offS : List Sp → Nat
 | [] => 0
 | .fst :: π => offS π
 | .snd c :: π => c + offS π
 | .ix i z :: π => i * z + offS π
 | .ai i _ z :: π => i * z + offS π
def Pok (s : Nat) : List Sp → Prop
 | [] => True
 | .ix i z :: π => (i + 1) * z ≤ s ∧ Pok s π
 | .ai i n _ :: π => i < n ∧ Pok s π
 | _ :: π => Pok s π
inductive A where
 | v (x : Value)
 | agg (cs : List A)
 | tup (cs : List A)
 | ptr (o off : Nat)
 | tp (x : Ref) (π : List Sp)
 | sl (o off z n : Nat)
 | ts (x : Ref) (z off n : Nat)
 | tf (x : Ref) (z off n : Nat)
 | tw (x : Ref) (z : Nat)
 | as (x : Ref) (π : List Sp) (n z : Nat)
 | e0
 | tl (t : Ty) (full : Bool) (l : List t.T)
 | nn (t : Ty) (l : List t.T)
 | dp (t : Ty) (x : t.T)
 | mp (x : Ref)
 | op (r : Nat) (o : Option Nat)
 | os (r z : Nat) (o : Option Nat)
 | om (r : Nat) (o : Option Nat)
 | fn (f : FuncId) (fi ca : List A)
 | yld (q n : Nat) (F : Tr A) (ps : List Tmp) (h : LH) (as bd : XCode)
 | un
 | junk
instance : Inhabited A := ⟨.junk⟩
def slotA (F : Nat → Option A) (i : Nat) : A := match F i with
 | some p => p
 | none => .un
structure Lp where
 tmps : Array Value
 params : List Tmp
 assign : Code
 body : Code
def lpOf (r : Loop) : Lp := ⟨r.tmps, r.params.toList, r.assign, r.body⟩
def encA : (t : Ty) → t.T → List A
 | .int k, x => [.v (.int k x)]
 | .bool, x => [.v (.bool x)]
 | .unit, _ => []
 | .pair a b, x => encA a x.1 ++ encA b x.2
 | .arr n t, l => arrF (encA t) t.dflt n l
 | .slc t, l => [.tl t false l]
 | .ptr r, x => [.op r x]
 | .nptr r, j => [.tp (.reg r j) []]
 | .rsl r z, x => [.os r z x]
 | .wrg r z, j => [.tw (.reg r j) z]
 | .mp r, x => [.om r x]
theorem arrF_len {α β : Type} {f : α → List β} {d : α} {s : Nat} (h : ∀ x, (f x).length = s) (n : Nat) (l : List α) : (arrF f d n l).length = n * s := by
 have : ∀ m : List Nat, (m.flatMap fun i => f (nth d l i)).length = m.length * s := fun m => by
  induction m with
  | nil => simp
  | cons a m ih => rw [List.flatMap_cons, List.length_append, ih, h, List.length_cons, Nat.succ_mul, Nat.add_comm]
 have := this (List.range n)
 rwa [List.length_range] at this
theorem encD_len : ∀ (t : Ty) (x : t.T), (encD t x).length = t.size
 | .int _, _ => rfl
 | .bool, _ => rfl
 | .unit, _ => rfl
 | .pair a b, x => by simp [encD, Ty.size, encD_len a, encD_len b]
 | .arr n t, l => arrF_len (encD_len t) n l
 | .slc _, _ => rfl
 | .ptr _, _ => rfl
 | .nptr _, _ => rfl
 | .rsl _ _, _ => rfl
 | .wrg _ _, _ => rfl
 | .mp _, _ => rfl
theorem encA_len : ∀ (t : Ty) (x : t.T), (encA t x).length = t.size
 | .int _, _ => rfl
 | .bool, _ => rfl
 | .unit, _ => rfl
 | .pair a b, x => by simp [encA, Ty.size, encA_len a, encA_len b]
 | .arr n t, l => arrF_len (encA_len t) n l
 | .slc _, _ => rfl
 | .ptr _, _ => rfl
 | .nptr _, _ => rfl
 | .rsl _ _, _ => rfl
 | .wrg _ _, _ => rfl
 | .mp _, _ => rfl
structure G where
 at' : Nat → Option (Option Nat × (Nat × Nat))
 mem : Mem
 lp : Nat → Option Lp
inductive V (g : G) : A → Value → Prop
 | v (x : Value) : V g (.v x) x
 | agg (cs : List A) (vs : Array Value) (hl : cs.length = vs.size) (h1 : ∀ v ∈ vs.toList, v.oneCell' = true) (h : ∀ (i : Nat) (c : A) (x : Value), cs[i]? = some c → vs[i]? = some x → V g c x) : V g (.agg cs) (.agg vs)
 | tup (cs : List A) (vs : Array Value) (hl : cs.length = vs.size) (h : ∀ (i : Nat) (c : A) (x : Value), cs[i]? = some c → vs[i]? = some x → V g c x) : V g (.tup cs) (.tuple vs)
 | ptr (o off b : Nat) (s : Nat × Nat) (h : g.at' o = some (some b, s)) : V g (.ptr o off) (.pointer (some ⟨b, off, none⟩))
 | tp (x : Ref) (π : List Sp) (b : Nat) (s : Nat × Nat) (h : g.at' x.id = some (some b, s)) (hk : Pok s.1 π) : V g (.tp x π) (.pointer (some ⟨b, offS π, none⟩))
 | sl (o off z n b cap : Nat) (s : Nat × Nat) (h : g.at' o = some (some b, s)) (hn : n ≤ cap) (hx : cap ≤ maxLen) (hs : off + n * z ≤ s.1) : V g (.sl o off z n) (.slice (some ⟨b, off, none⟩) n cap)
 | ts (x : Ref) (z off n b cap : Nat) (s : Nat × Nat) (h : g.at' x.id = some (some b, s)) (hn : n ≤ cap) (hx : cap ≤ maxLen) (hs : (off + n) * z ≤ s.1) (hp : (off + cap) * z ≤ s.2) (d : Nat) (hd : cap ≠ 0 → d = off * z) (hq : s.1 ≤ (off + cap) * z) : V g (.ts x z off n) (.slice (some ⟨b, d, none⟩) n cap)
 | ts0 (x : Ref) (z off n : Nat) (ad : Option Addr) (h : g.at' x.id = some (none, (0, 0))) (hn : off + n = 0) : V g (.ts x z off n) (.slice ad 0 0)
 | tf (x : Ref) (z off n b : Nat) (s : Nat × Nat) (h : g.at' x.id = some (some b, s)) (hx : n ≤ maxLen) (hs : (off + n) * z ≤ s.1) (d : Nat) (hd : n ≠ 0 → d = off * z) : V g (.tf x z off n) (.slice (some ⟨b, d, none⟩) n n)
 | tf0 (x : Ref) (z off n : Nat) (ad : Option Addr) (h : g.at' x.id = some (none, (0, 0))) (hn : off + n = 0) : V g (.tf x z off n) (.slice ad 0 0)
 | tw0 (x : Ref) (z : Nat) (ad : Option Addr) (h : g.at' x.id = some (none, (0, 0))) : V g (.tw x z) (.slice ad 0 0)
 | tw (x : Ref) (z n b cap t : Nat) (h : g.at' x.id = some (some b, (n * z, t))) (hn : n ≤ cap) (hx : cap ≤ maxLen) (hp : cap * z ≤ t) (d : Nat) (hd : cap ≠ 0 → d = 0) : V g (.tw x z) (.slice (some ⟨b, d, none⟩) n cap)
 | as (x : Ref) (π : List Sp) (n z b cap : Nat) (s : Nat × Nat) (h : g.at' x.id = some (some b, s)) (hk : Pok s.1 π) (hn : n ≤ cap) (hx : cap ≤ maxLen) : V g (.as x π n z) (.slice (some ⟨b, offS π, none⟩) n cap)
 | e0 (ad : Option Addr) : V g .e0 (.slice ad 0 0)
 | tl (t : Ty) (full : Bool) (l : List t.T) (v : Value) (h : VD g.mem (.sl t.size full (l.map (encD t))) v) : V g (.tl t full l) v
 | nn (t : Ty) (l : List t.T) (a : Addr) (n c : Nat) (h : VD g.mem (.sl t.size false (l.map (encD t))) (.slice (some a) n c)) : V g (.nn t l) (.slice (some a) n c)
 | dp (t : Ty) (x : t.T) (b off : Nat) (f : Nat → Value) (hm : ∀ (j : Nat) (c : D), (encD t x)[j]? = some c → g.mem b (off + j) = some (f j) ∧ VD g.mem c (f j)) : V g (.dp t x) (.pointer (some ⟨b, off, none⟩))
 | mp (x : Ref) (b : Nat) (s : Nat × Nat) (h : g.at' x.id = some (some b, s)) : V g (.mp x) (.map (some b))
 | op (r : Nat) (o : Option Nat) (v : Value) (h0 : o = none → v = .pointer none) (h1 : ∀ j, o = some j → V g (.tp (.reg r j) []) v) : V g (.op r o) v
 | os (r z : Nat) (o : Option Nat) (v : Value) (h0 : o = none → V g .e0 v) (h1 : ∀ j, o = some j → V g (.tw (.reg r j) z) v) : V g (.os r z o) v
 | om (r : Nat) (o : Option Nat) (v : Value) (h0 : o = none → v = .map none) (h1 : ∀ j, o = some j → V g (.mp (.reg r j)) v) : V g (.om r o) v
 | fn (f : FuncId) (fi ca : List A) (fv cv : Array Value) (hf : fi.length = fv.size) (hc : ca.length = cv.size) (h1 : ∀ (i : Nat) (c : A) (x : Value), fi[i]? = some c → fv[i]? = some x → V g c x) (h2 : ∀ (i : Nat) (c : A) (x : Value), ca[i]? = some c → cv[i]? = some x → V g c x) :
   V g (.fn f fi ca) (.func (.func f) fv cv)
 | yld (q n : Nat) (F : Tr A) (ps : List Tmp) (j : LH) (as bd : XCode) (b : Nat) (s : Nat × Nat) (l : Lp) (h : g.at' q = some (some b, s)) (hl : g.lp b = some l) (h1 : l.params = ps) (h2 : l.assign = as.code) (h3 : l.body = bd.code) (h4 : l.tmps.size = n) (h5 : ∀ i, i < n → V g (slotA F.get i) (l.tmps.getD i undef)) : V g (.yld q n F ps j as bd) (.func (.yield b) #[] #[])
 | un : V g .un undef
 | junk (v : Value) : V g .junk v
structure Le (g g' : G) : Prop where
 at' : ∀ o p, g.at' o = some p → g'.at' o = some p
 mem : ∀ b o x, g.mem b o = some x → g'.mem b o = some x
 lp : ∀ b l, g.lp b = some l → g'.lp b = some l
theorem Le.refl (g : G) : Le g g := ⟨fun _ _ h => h, fun _ _ _ h => h, fun _ _ h => h⟩
theorem Le.trans {a b c : G} (h : Le a b) (k : Le b c) : Le a c := ⟨fun _ _ e => k.at' _ _ (h.at' _ _ e), fun _ _ _ e => k.mem _ _ _ (h.mem _ _ _ e), fun _ _ e => k.lp _ _ (h.lp _ _ e)⟩
theorem V.mono {g g' : G} (h : Le g g') {p : A} {v : Value} (hv : V g p v) : V g' p v := by
 induction hv with
 | v x => exact .v x
 | agg cs vs hl h1 _ ih => exact .agg cs vs hl h1 ih
 | tup cs vs hl _ ih => exact .tup cs vs hl ih
 | ptr o off b s h1 => exact .ptr o off b s (h.at' _ _ h1)
 | tp x π b s h1 hk => exact .tp x π b s (h.at' _ _ h1) hk
 | sl o off z n b cap s h1 hn hx hs => exact .sl o off z n b cap s (h.at' _ _ h1) hn hx hs
 | ts x z off n b cap s h1 hn hx hs hp d hd hq => exact .ts x z off n b cap s (h.at' _ _ h1) hn hx hs hp d hd hq
 | ts0 x z off n ad h1 hn => exact .ts0 x z off n ad (h.at' _ _ h1) hn
 | tf0 x z off n ad h1 hn => exact .tf0 x z off n ad (h.at' _ _ h1) hn
 | tf x z off n b s h1 hx hs d hd => exact .tf x z off n b s (h.at' _ _ h1) hx hs d hd
 | tw0 x z ad h1 => exact .tw0 x z ad (h.at' _ _ h1)
 | tw x z n b cap t h1 hn hx hp d hd => exact .tw x z n b cap t (h.at' _ _ h1) hn hx hp d hd
 | as x π n z b cap s h1 hk hn hx => exact .as x π n z b cap s (h.at' _ _ h1) hk hn hx
 | e0 ad => exact .e0 ad
 | tl t f l v h1 => exact .tl t f l v (h1.mono h.mem)
 | nn t l a n c h1 => exact .nn t l a n c (h1.mono h.mem)
 | dp t x b off f hm => exact .dp t x b off f (fun j c e => ⟨h.mem _ _ _ (hm j c e).1, (hm j c e).2.mono h.mem⟩)
 | mp x b s h1 => exact .mp x b s (h.at' _ _ h1)
 | op r o v h0 _ ih => exact .op r o v h0 ih
 | os r z o v _ _ ih0 ih1 => exact .os r z o v ih0 ih1
 | om r o v h0 _ ih => exact .om r o v h0 ih
 | fn f fi ca fv cv hf hc _ _ ih1 ih2 => exact .fn f fi ca fv cv hf hc ih1 ih2
 | yld q n F ps j as bd b s l h0 hl h1 h2 h3 h4 _ ih => exact .yld q n F ps j as bd b s l (h.at' _ _ h0) (h.lp _ _ hl) h1 h2 h3 h4 ih
 | un => exact .un
 | junk v => exact .junk v
def Vs (g : G) (ps : List A) (vs : List Value) : Prop := ps.length = vs.length ∧ ∀ (j : Nat) (c : A) (x : Value), ps[j]? = some c → vs[j]? = some x → V g c x ∧ x.oneCell' = true
def VDs (M : Mem) (ds : List D) (vs : List Value) : Prop := ds.length = vs.length ∧ ∀ (j : Nat) (c : D) (x : Value), ds[j]? = some c → vs[j]? = some x → VD M c x
theorem VD.one {M : Mem} {c : D} {x : Value} (h : VD M c x) : x.oneCell' = true := by cases h <;> first | assumption | rfl
theorem Vs.mono {g g' : G} (h : Le g g') {ps : List A} {vs : List Value} (k : Vs g ps vs) : Vs g' ps vs := ⟨k.1, fun j c x e1 e2 => ⟨(k.2 j c x e1 e2).1.mono h, (k.2 j c x e1 e2).2⟩⟩
theorem Vs.one {g : G} {ps : List A} {vs : List Value} (h : Vs g ps vs) : ∀ u ∈ vs, u.oneCell' = true := fun u hu => by
 obtain ⟨j, hj, rfl⟩ := List.getElem_of_mem hu
 exact (h.2 j _ _ (List.getElem?_eq_getElem (by rw [h.1]; exact hj)) (List.getElem?_eq_getElem hj)).2
theorem Vs.nil {g : G} : Vs g [] [] := ⟨rfl, fun j c x h => by simp at h⟩
theorem Vs.append {g : G} {ds es : List A} {vs us : List Value} (h : Vs g ds vs) (k : Vs g es us) : Vs g (ds ++ es) (vs ++ us) := by
 refine ⟨by simp [h.1, k.1], fun j c x e1 e2 => ?_⟩
 by_cases hj : j < ds.length
 ·rw [List.getElem?_append_left hj] at e1
  rw [List.getElem?_append_left (by rw [← h.1]; exact hj)] at e2
  exact h.2 j c x e1 e2
 ·rw [List.getElem?_append_right (by omega)] at e1
  rw [List.getElem?_append_right (by rw [← h.1]; omega), ← h.1] at e2
  exact k.2 _ c x e1 e2
theorem Vs.part {g : G} {cs : List A} {xs : List Value} (h : Vs g cs xs) (off n : Nat) : Vs g ((cs.drop off).take n) ((xs.drop off).take n) := by
 refine ⟨by simp [h.1], fun j c x h1 h2 => ?_⟩
 rw [List.getElem?_take] at h1 h2
 split at h1
 ·rename_i hj
  rw [if_pos hj] at h2
  rw [List.getElem?_drop] at h1 h2
  exact h.2 _ c x h1 h2
 ·cases h1
theorem Vs.cons {g : G} {c : A} {x : Value} {cs : List A} {xs : List Value} (h : V g c x) (h1 : x.oneCell' = true) (k : Vs g cs xs) : Vs g (c :: cs) (x :: xs) :=
 Vs.append (ds := [c]) (vs := [x]) ⟨rfl, fun j c' x' e1 e2 => by
  cases j with
  | zero => simp at e1 e2; subst e1 e2; exact ⟨h, h1⟩
  | succ j => simp at e1⟩ k
theorem VDs.append {M : Mem} {ds es : List D} {vs us : List Value} (h : VDs M ds vs) (k : VDs M es us) : VDs M (ds ++ es) (vs ++ us) := by
 refine ⟨by simp [h.1, k.1], fun j c x e1 e2 => ?_⟩
 by_cases hj : j < ds.length
 ·rw [List.getElem?_append_left hj] at e1
  rw [List.getElem?_append_left (by rw [← h.1]; exact hj)] at e2
  exact h.2 j c x e1 e2
 ·rw [List.getElem?_append_right (by omega)] at e1
  rw [List.getElem?_append_right (by rw [← h.1]; omega), ← h.1] at e2
  exact k.2 _ c x e1 e2
theorem Vs.split {g : G} {ds es : List A} {vs : List Value} (h : Vs g (ds ++ es) vs) : Vs g ds (vs.take ds.length) ∧ Vs g es (vs.drop ds.length) := by
 have hl := h.1
 rw [List.length_append] at hl
 refine ⟨⟨by simp; omega, fun j c x e1 e2 => ?_⟩, ⟨by simp; omega, fun j c x e1 e2 => ?_⟩⟩
 ·have hj := (List.getElem?_eq_some_iff.1 e1).1
  rw [List.getElem?_take, if_pos hj] at e2
  exact h.2 j c x (by rw [List.getElem?_append_left hj]; exact e1) e2
 ·rw [List.getElem?_drop] at e2
  exact h.2 (ds.length + j) c x (by rw [List.getElem?_append_right (by omega), Nat.add_sub_cancel_left]; exact e1) e2
theorem VDs.split {M : Mem} {ds es : List D} {vs : List Value} (h : VDs M (ds ++ es) vs) : VDs M ds (vs.take ds.length) ∧ VDs M es (vs.drop ds.length) := by
 have hl := h.1
 rw [List.length_append] at hl
 refine ⟨⟨by simp; omega, fun j c x e1 e2 => ?_⟩, ⟨by simp; omega, fun j c x e1 e2 => ?_⟩⟩
 ·have hj := (List.getElem?_eq_some_iff.1 e1).1
  rw [List.getElem?_take, if_pos hj] at e2
  exact h.2 j c x (by rw [List.getElem?_append_left hj]; exact e1) e2
 ·rw [List.getElem?_drop] at e2
  exact h.2 (ds.length + j) c x (by rw [List.getElem?_append_right (by omega), Nat.add_sub_cancel_left]; exact e1) e2
theorem one_v {g : G} {c : A} {d : D} (h1 : ∀ x, V g c x → x.oneCell' = true → VD g.mem d x) {vs : List Value} (h : Vs g [c] vs) : VDs g.mem [d] vs := by
 obtain ⟨x, rfl⟩ : ∃ x, vs = [x] := by
  match vs, h.1 with
  | [x], _ => exact ⟨x, rfl⟩
 refine ⟨rfl, fun j c' x' e1 e2 => ?_⟩
 cases j with
 | zero => simp at e1 e2; subst e1 e2; have := h.2 0 c x rfl rfl; exact h1 x this.1 this.2
 | succ j => simp at e1
theorem one_d {g : G} {c : A} {d : D} (h1 : ∀ x, VD g.mem d x → V g c x) {vs : List Value} (h : VDs g.mem [d] vs) : Vs g [c] vs := by
 obtain ⟨x, rfl⟩ : ∃ x, vs = [x] := by
  match vs, h.1 with
  | [x], _ => exact ⟨x, rfl⟩
 exact .cons (h1 x (h.2 0 d x rfl rfl)) (h.2 0 d x rfl rfl).one .nil
theorem flatV {α : Type} {g : G} {f : α → List A} {f' : α → List D} (h : ∀ x vs, Vs g (f x) vs → VDs g.mem (f' x) vs) (hl : ∀ x, (f x).length = (f' x).length) : ∀ (l : List α) (vs : List Value), Vs g (l.flatMap f) vs → VDs g.mem (l.flatMap f') vs
 | [], vs, hv => ⟨by simpa using hv.1, fun j c x e => by simp at e⟩
 | a :: l, vs, hv => by
  rw [List.flatMap_cons] at hv ⊢
  obtain ⟨h1, h2⟩ := hv.split
  have := (h a _ h1).append (flatV h hl l _ h2)
  rwa [List.take_append_drop] at this
theorem flatD {α : Type} {g : G} {f : α → List A} {f' : α → List D} (h : ∀ x vs, VDs g.mem (f' x) vs → Vs g (f x) vs) (hl : ∀ x, (f x).length = (f' x).length) : ∀ (l : List α) (vs : List Value), VDs g.mem (l.flatMap f') vs → Vs g (l.flatMap f) vs
 | [], vs, hv => ⟨by simpa using hv.1, fun j c x e => by simp at e⟩
 | a :: l, vs, hv => by
  rw [List.flatMap_cons] at hv ⊢
  obtain ⟨h1, h2⟩ := hv.split
  have := (h a _ h1).append (flatD h hl l _ h2)
  rwa [List.take_append_drop] at this
theorem Vs.data {g : G} : ∀ (t : Ty) (x : t.T) (vs : List Value), t.data = true → Vs g (encA t x) vs → VDs g.mem (encD t x) vs
 | .int k, x, vs, _, h => one_v (fun y hy h1 => by cases hy; exact .v _ rfl) h
 | .bool, x, vs, _, h => one_v (fun y hy h1 => by cases hy; exact .v _ rfl) h
 | .unit, _, vs, _, h => ⟨h.1, fun j c x e => by simp [encD] at e⟩
 | .pair a b, x, vs, hd, h => by
  simp only [Ty.data, Bool.and_eq_true] at hd
  obtain ⟨h1, h2⟩ := Vs.split (show Vs g (encA a x.1 ++ encA b x.2) vs from h)
  have := (Vs.data a x.1 _ hd.1 h1).append (Vs.data b x.2 _ hd.2 h2)
  rwa [List.take_append_drop] at this
 | .arr n t, l, vs, hd, h => flatV (fun i us hu => Vs.data t _ us hd hu) (fun i => by rw [encA_len, encD_len]) _ vs h
 | .slc t, l, vs, _, h => one_v (fun y hy h1 => by cases hy; assumption) h
 | .ptr _, _, _, hd, _ => by cases hd
 | .nptr _, _, _, hd, _ => by cases hd
 | .rsl _ _, _, _, hd, _ => by cases hd
 | .wrg _ _, _, _, hd, _ => by cases hd
 | .mp _, _, _, hd, _ => by cases hd
theorem VDs.cells {g : G} : ∀ (t : Ty) (x : t.T) (vs : List Value), t.data = true → VDs g.mem (encD t x) vs → Vs g (encA t x) vs
 | .int k, x, vs, _, h => one_d (fun y hy => by cases hy; exact .v _) h
 | .bool, x, vs, _, h => one_d (fun y hy => by cases hy; exact .v _) h
 | .unit, _, vs, _, h => ⟨h.1, fun j c x e => by simp [encA] at e⟩
 | .pair a b, x, vs, hd, h => by
  simp only [Ty.data, Bool.and_eq_true] at hd
  obtain ⟨h1, h2⟩ := VDs.split (show VDs g.mem (encD a x.1 ++ encD b x.2) vs from h)
  have := (VDs.cells a x.1 _ hd.1 h1).append (VDs.cells b x.2 _ hd.2 h2)
  rwa [List.take_append_drop] at this
 | .arr n t, l, vs, hd, h => flatD (fun i us hu => VDs.cells t _ us hd hu) (fun i => by rw [encA_len, encD_len]) _ vs h
 | .slc t, l, vs, _, h => one_d (fun y hy => .tl t false l y hy) h
 | .ptr _, _, _, hd, _ => by cases hd
 | .nptr _, _, _, hd, _ => by cases hd
 | .rsl _ _, _, _, hd, _ => by cases hd
 | .wrg _ _, _, _, hd, _ => by cases hd
 | .mp _, _, _, hd, _ => by cases hd
end
end Go.Bm
set_option linter.unusedVariables false
set_option linter.unusedSimpArgs false
namespace Go.Bm
noncomputable section
open Go.RowKit
inductive Oth where
 | map (es : List (A × A))
 | dfr
 | loop (st : LoopState) (pe : Option Code)
inductive Ob where
 | cells (cs : List A)
 | oth (x : Oth)
structure Hp where
 ob : Nat → Option Ob
 fr : Nat → Prop
def Ents (g : G) (mes : Array MapEntry) (es : List (A × A)) : Prop := es.length = mes.size ∧ ∀ (i : Nat) (e : MapEntry) (q : A × A), mes[i]? = some e → es[i]? = some q → V g q.1 e.key ∧ V g q.2 e.val
theorem Ents.mono {g g' : G} (h : Le g g') {mes : Array MapEntry} {es : List (A × A)} (k : Ents g mes es) : Ents g' mes es := ⟨k.1, fun i e q e1 e2 => ⟨(k.2 i e q e1 e2).1.mono h, (k.2 i e q e1 e2).2.mono h⟩⟩
def OthOk (g : G) : Oth → Obj → Prop
 | .map es, ob => ∃ mes clock, ob = .map mes clock ∧ Ents g mes es
 | .dfr, ob => ob = .deferred (some [])
 | .loop st pe, ob => ∃ r : Loop, ob = .loop r ∧ r.state = st ∧ r.pending = pe
def isLp : Ob → Bool
 | .oth (.loop _ _) => true
 | _ => false
theorem OthOk.mono {g g' : G} (h : Le g g') {x : Oth} {ob : Obj} (k : OthOk g x ob) : OthOk g' x ob := by
 cases x with
 | map es => obtain ⟨mes, clock, k1, k2⟩ := k; exact ⟨mes, clock, k1, k2.mono h⟩
 | dfr => exact k
 | loop => exact k
def RowAt (g : G) (w : World) (b t : Nat) (cs : List A) : Prop := ∃ cur ty, w.heap[b]? = some (.cells cur ty (0, 0)) ∧ cur.size = t ∧ Vs g cs (cur.toList.take cs.length)
def ObOk (g : G) (w : World) (b : Nat) (s : Nat × Nat) : Ob → Prop
 | .cells cs => s.1 = cs.length ∧ RowAt g w b s.2 cs
 | .oth x => ∃ ob, w.heap[b]? = some ob ∧ OthOk g x ob
structure Inv (g : G) (S : Hp) (w : World) : Prop where
 cells : ∀ (o : Nat) (cs : List A), S.ob o = some (.cells cs) → (g.at' o = some (none, (0, 0)) ∧ cs = []) ∨ ∃ b t, g.at' o = some (some b, (cs.length, t)) ∧ RowAt g w b t cs
 oth : ∀ (o : Nat) (x : Oth), S.ob o = some (.oth x) → ∃ b s ob, g.at' o = some (some b, s) ∧ w.heap[b]? = some ob ∧ OthOk g x ob
 fresh : ∀ o : Nat, S.fr o → g.at' o = none
 lt : ∀ (o b : Nat) (s : Nat × Nat), g.at' o = some (some b, s) → b < w.heap.size
 inj : ∀ (o o' : Nat) (x x' : Ob) (b : Nat) (s s' : Nat × Nat), S.ob o = some x → S.ob o' = some x' → g.at' o = some (some b, s) → g.at' o' = some (some b, s') → o = o'
 mem : ∀ (b i : Nat) (x : Value), g.mem b i = some x → ∃ cur ty fz, w.heap[b]? = some (.cells cur ty fz) ∧ cur[i]? = some x
 memd : ∀ (o b : Nat) (s : Nat × Nat) (i : Nat) (x : Ob), S.ob o = some x → g.at' o = some (some b, s) → g.mem b i = none
 lp : ∀ (b : Nat) (l : Lp), g.lp b = some l → ∃ r, w.heap[b]? = some (.loop r) ∧ lpOf r = l
def Owned (S : Hp) (g : G) (k : Nat) : Prop := ∃ o s x, S.ob o = some x ∧ g.at' o = some (some k, s)
structure Ext (S : Hp) (g : G) (w : World) (S' : Hp) (g' : G) (w' : World) : Prop where
 le : Le g g'
 os : w'.os = w.os
 tape : w'.tape = w.tape
 output : w'.output = w.output
 size : w.heap.size ≤ w'.heap.size
 frame : ∀ k, k < w.heap.size → ¬ Owned S g k → w'.heap[k]? = w.heap[k]?
 own : ∀ k, Owned S' g' k → Owned S g k ∨ w.heap.size ≤ k
 dom : ∀ o p, g'.at' o = some p → g.at' o = some p ∨ (g.at' o = none ∧ S.fr o)
 fr : ∀ o, S'.fr o → S.fr o
 memo : ∀ b i x, g'.mem b i = some x → g.mem b i = some x ∨ Owned S g b ∨ w.heap.size ≤ b
 lpo : ∀ b l, g'.lp b = some l → g.lp b = some l ∨ w.heap.size ≤ b
theorem Ext.refl (S : Hp) (g : G) (w : World) : Ext S g w S g w := ⟨.refl g, rfl, rfl, rfl, Nat.le_refl _, fun _ _ _ => rfl, fun _ h => .inl h, fun _ _ h => .inl h, fun _ h => h, fun _ _ _ h => .inl h, fun _ _ h => .inl h⟩
theorem Ext.trans {S1 S2 S3 : Hp} {g1 g2 g3 : G} {w1 w2 w3 : World} (h : Ext S1 g1 w1 S2 g2 w2) (k : Ext S2 g2 w2 S3 g3 w3) : Ext S1 g1 w1 S3 g3 w3 where
 le := h.le.trans k.le
 os := k.os.trans h.os
 tape := k.tape.trans h.tape
 output := k.output.trans h.output
 size := Nat.le_trans h.size k.size
 frame := fun i hi hn => by
  rw [k.frame i (Nat.lt_of_lt_of_le hi h.size) (fun ho => (h.own i ho).elim hn (fun hh => absurd hi (by omega)))]
  exact h.frame i hi hn
 own := fun i ho => (k.own i ho).elim (fun ho => h.own i ho) (fun hh => .inr (Nat.le_trans h.size hh))
 dom := fun o p e => by
  rcases k.dom o p e with e1 | ⟨e1, e2⟩
  ·exact h.dom o p e1
  ·refine .inr ⟨?_, h.fr o e2⟩
   cases hg : g1.at' o with
   | none => rfl
   | some q => rw [h.le.at' _ _ hg] at e1; cases e1
 fr := fun o e => h.fr o (k.fr o e)
 memo := fun b i x e => by
  rcases k.memo b i x e with e1 | e1 | e1
  ·exact h.memo b i x e1
  ·exact .inr (h.own b e1)
  ·exact .inr (.inr (Nat.le_trans h.size e1))
 lpo := fun b l e => by
  rcases k.lpo b l e with e1 | e1
  ·exact h.lpo b l e1
  ·exact .inr (Nat.le_trans h.size e1)
theorem Inv.less {g : G} {S S' : Hp} {w : World} (h : Inv g S w) (hs : ∀ o x, S'.ob o = some x → S.ob o = some x) (hf : ∀ o, S'.fr o → S.fr o) : Inv g S' w where
 cells := fun o cs e => h.cells o cs (hs _ _ e)
 oth := fun o x e => h.oth o x (hs _ _ e)
 fresh := fun o e => h.fresh o (hf o e)
 lt := h.lt
 inj := fun o o' x x' b s s' e1 e2 => h.inj o o' x x' b s s' (hs _ _ e1) (hs _ _ e2)
 mem := h.mem
 memd := fun o b s i x e => h.memd o b s i x (hs _ _ e)
 lp := h.lp
theorem Ext.less {S S' : Hp} {g : G} {w : World} (hs : ∀ o x, S'.ob o = some x → S.ob o = some x) (hf : ∀ o, S'.fr o → S.fr o) : Ext S g w S' g w where
 le := .refl g
 os := rfl
 tape := rfl
 output := rfl
 size := Nat.le_refl _
 frame := fun _ _ _ => rfl
 own := fun k ⟨o, s, x, e1, e2⟩ => .inl ⟨o, s, x, hs _ _ e1, e2⟩
 dom := fun _ _ e => .inl e
 fr := hf
 memo := fun _ _ _ e => .inl e
 lpo := fun _ _ e => .inl e
theorem Inv.drew {g : G} {S : Hp} {w : World} (h : Inv g S w) : Inv g S w.drew := ⟨h.cells, h.oth, h.fresh, h.lt, h.inj, h.mem, h.memd, h.lp⟩
theorem Inv.mlt {g : G} {S : Hp} {w : World} (h : Inv g S w) {b i : Nat} {x : Value} (e : g.mem b i = some x) : b < w.heap.size := let ⟨_, _, _, k, _⟩ := h.mem b i x e; (Array.getElem?_eq_some_iff.1 k).1
def Hp.set (S : Hp) (o : Nat) (x : Ob) : Hp := ⟨fun i => if i = o then some x else S.ob i, S.fr⟩
def Hp.new (S : Hp) (o : Nat) (x : Ob) : Hp := ⟨fun i => if i = o then some x else S.ob i, fun i => S.fr i ∧ i ≠ o⟩
def Hp.del (S : Hp) (o : Nat) : Hp := ⟨fun i => if i = o then none else S.ob i, S.fr⟩
def gput (g : G) (o : Nat) (p : Option Nat × (Nat × Nat)) : G := ⟨fun i => if i = o then some p else g.at' i, g.mem, g.lp⟩
theorem gput_le {g : G} {o : Nat} {p : Option Nat × (Nat × Nat)} (h : g.at' o = none) : Le g (gput g o p) := ⟨fun i q e => by
 show (if i = o then some p else g.at' i) = some q
 split
 ·rename_i hh; subst hh; rw [h] at e; cases e
 ·exact e, fun _ _ _ e => e, fun _ _ e => e⟩
theorem gput_at {g : G} {o : Nat} {p : Option Nat × (Nat × Nat)} : (gput g o p).at' o = some p := if_pos rfl
theorem gput_ne {g : G} {o i : Nat} {p : Option Nat × (Nat × Nat)} (h : i ≠ o) : (gput g o p).at' i = g.at' i := if_neg h
theorem Inv.upd {g g' : G} {S S' : Hp} {w w' : World} {o b : Nat} {s : Nat × Nat} {x : Ob} (h : Inv g S w) (hle : Le g g') (hmem : g'.mem = g.mem) (hlp : g'.lp = g.lp) (hlb : ∀ l, g.lp b = some l → ∃ r, w'.heap[b]? = some (.loop r) ∧ lpOf r = l) (hat : ∀ i p, i ≠ o → g'.at' i = some p → g.at' i = some p) (hg : g'.at' o = some (some b, s))
  (hob : S'.ob o = some x) (hS : ∀ i y, i ≠ o → S'.ob i = some y → S.ob i = some y) (hfr : ∀ i, S'.fr i → S.fr i ∧ g'.at' i = none) (hsz : w.heap.size ≤ w'.heap.size) (hb : b < w'.heap.size)
  (hheap : ∀ k, k ≠ b → k < w.heap.size → w'.heap[k]? = w.heap[k]?) (hfar : ∀ i y s', i ≠ o → S'.ob i = some y → g.at' i = some (some b, s') → False) (hmb : ∀ i, g.mem b i = none)
  (hok : ObOk g' w' b s x) : Inv g' S' w' where
 cells := fun i cs e => by
  by_cases hi : i = o
  ·subst hi
   rw [hob] at e
   obtain rfl := Option.some.inj e
   obtain ⟨h1, h2⟩ : s.1 = cs.length ∧ RowAt g' w' b s.2 cs := hok
   exact .inr ⟨b, s.2, by rw [← h1]; exact hg, h2⟩
  ·rcases h.cells i cs (hS i _ hi e) with ⟨k1, k2⟩ | ⟨b', t, k1, cur, ty, k2, k2', k3⟩
   ·exact .inl ⟨hle.at' _ _ k1, k2⟩
   ·exact .inr ⟨b', t, hle.at' _ _ k1, cur, ty, by rw [hheap b' (fun hh => hfar i _ _ hi e (hh ▸ k1)) (h.lt _ _ _ k1)]; exact k2, k2', k3.mono hle⟩
 oth := fun i y e => by
  by_cases hi : i = o
  ·subst hi
   rw [hob] at e
   obtain rfl := Option.some.inj e
   obtain ⟨ob, h1, h2⟩ : ∃ ob, w'.heap[b]? = some ob ∧ OthOk g' y ob := hok
   exact ⟨b, s, ob, hg, h1, h2⟩
  ·obtain ⟨b', s', ob, k1, k2, k3⟩ := h.oth i y (hS i _ hi e)
   exact ⟨b', s', ob, hle.at' _ _ k1, by rw [hheap b' (fun hh => hfar i _ _ hi e (hh ▸ k1)) (h.lt _ _ _ k1)]; exact k2, k3.mono hle⟩
 fresh := fun i e => (hfr i e).2
 lt := fun i b' s' e => by
  by_cases hi : i = o
  ·subst hi; rw [hg] at e; simp at e; omega
  ·exact Nat.lt_of_lt_of_le (h.lt i b' s' (hat i _ hi e)) hsz
 inj := fun i j y z b' s1 s2 e1 e2 k1 k2 => by
  by_cases hi : i = o
  ·by_cases hj : j = o
   ·exact hi.trans hj.symm
   ·subst hi; rw [hg] at k1; simp at k1
    exact (hfar j z s2 hj e2 (by rw [k1.1]; exact hat j _ hj k2)).elim
  ·by_cases hj : j = o
   ·subst hj; rw [hg] at k2; simp at k2
    exact (hfar i y s1 hi e1 (by rw [k2.1]; exact hat i _ hi k1)).elim
   ·exact h.inj i j y z b' s1 s2 (hS i _ hi e1) (hS j _ hj e2) (hat i _ hi k1) (hat j _ hj k2)
 mem := fun b' i y e => by
  rw [hmem] at e
  obtain ⟨cur, ty, fz, k1, k2⟩ := h.mem b' i y e
  exact ⟨cur, ty, fz, by rw [hheap b' (fun hh => by subst hh; rw [hmb] at e; cases e) (h.mlt e)]; exact k1, k2⟩
 memd := fun i b' s' j y e k => by
  rw [hmem]
  by_cases hi : i = o
  ·subst hi; rw [hg] at k; simp at k; rw [← k.1]; exact hmb j
  ·exact h.memd i b' s' j y (hS i _ hi e) (hat i _ hi k)
 lp := fun b' l e => by
  rw [hlp] at e
  by_cases hb' : b' = b
  ·subst hb'; exact hlb l e
  ·obtain ⟨r, k1, k2⟩ := h.lp b' l e
   exact ⟨r, by rw [hheap b' hb' (Array.getElem?_eq_some_iff.1 k1).1]; exact k1, k2⟩
theorem Inv.nlp {g : G} {S : Hp} {w : World} (h : Inv g S w) {o b : Nat} {s : Nat × Nat} {x : Ob} (ho : S.ob o = some x) (hg : g.at' o = some (some b, s)) (hx : isLp x = false) : g.lp b = none := by
 cases hl : g.lp b with
 | none => rfl
 | some l =>
  obtain ⟨r, k1, k2⟩ := h.lp b l hl
  cases x with
  | cells cs =>
   rcases h.cells o cs ho with ⟨q, _⟩ | ⟨b', t, q1, cur, ty, q2, _⟩
   ·rw [q] at hg; cases hg
   ·rw [q1] at hg; simp at hg; rw [hg.1, k1] at q2; cases q2
  | oth y =>
   obtain ⟨b', s', ob, q1, q2, q3⟩ := h.oth o y ho
   rw [q1] at hg; simp at hg; rw [hg.1, k1] at q2
   cases q2
   cases y with
   | map es => obtain ⟨mes, clock, k, _⟩ := q3; cases k
   | dfr => cases q3
   | loop => cases hx
theorem Inv.alloc {g : G} {S : Hp} {w : World} (h : Inv g S w) {o : Nat} {s : Nat × Nat} (ho : S.fr o) {x : Ob} {ob : Obj} (hok : ObOk (gput g o (some w.heap.size, s)) (w.alloc ob) w.heap.size s x) :
  Inv (gput g o (some w.heap.size, s)) (S.new o x) (w.alloc ob) ∧ Ext S g w (S.new o x) (gput g o (some w.heap.size, s)) (w.alloc ob) := by
 have hg := h.fresh o ho
 have hle := gput_le (p := (some w.heap.size, s)) hg
 have hsz : (w.alloc ob).heap.size = w.heap.size + 1 := Array.size_push _
 have hold : ∀ i, i ≠ o → (gput g o (some w.heap.size, s)).at' i = g.at' i := fun i hi => gput_ne hi
 have hs : ∀ i y, i ≠ o → (S.new o x).ob i = some y → S.ob i = some y := fun i y hi e => by
  have e : (if i = o then some x else S.ob i) = some y := e
  rwa [if_neg hi] at e
 refine ⟨h.upd hle rfl rfl (fun l e => by obtain ⟨r, k1, _⟩ := h.lp _ l e; have := (Array.getElem?_eq_some_iff.1 k1).1; omega) (fun i p hi e => by rwa [hold i hi] at e) gput_at (show (if o = o then _ else _) = _ from if_pos rfl) hs (fun i hi => ⟨hi.1, by rw [hold i hi.2]; exact h.fresh i hi.1⟩) (by omega) (by omega)
  (fun k _ hk => Below.heap_alloc w _ k hk) (fun i y s' _ _ e => by have := h.lt _ _ _ e; omega) (fun i => ?_) hok,
  ⟨hle, rfl, rfl, rfl, by omega, fun k hk _ => Below.heap_alloc w _ k hk, fun k ⟨i, s', y, e1, e2⟩ => ?_, fun i p e => ?_, fun i hi => hi.1, fun _ _ _ e => .inl e, fun _ _ e => .inl e⟩⟩
 ·cases hm : g.mem w.heap.size i with
  | none => rfl
  | some x => have := h.mlt hm; omega
 ·by_cases hi : i = o
  ·subst hi; rw [gput_at] at e2; simp at e2; exact .inr (by omega)
  ·rw [hold i hi] at e2; exact .inl ⟨i, s', y, hs i y hi e1, e2⟩
 ·by_cases hi : i = o
  ·subst hi; exact .inr ⟨hg, ho⟩
  ·rw [hold i hi] at e; exact .inl e
theorem V.alloc {g : G} {o b : Nat} {s : Nat × Nat} : (gput g o (some b, s)).at' o = some (some b, s) := gput_at
theorem Inv.write' {g : G} {S : Hp} {w w' : World} (h : Inv g S w) {o b : Nat} {s : Nat × Nat} {x y : Ob} (ho : S.ob o = some x) (hg : g.at' o = some (some b, s)) (hsz : w'.heap.size = w.heap.size) (hheap : ∀ k, k ≠ b → w'.heap[k]? = w.heap[k]?)
  (hos : w'.os = w.os) (htape : w'.tape = w.tape) (hout : w'.output = w.output) (hok : ObOk g w' b s y) (hlb : ∀ l, g.lp b = some l → ∃ r, w'.heap[b]? = some (.loop r) ∧ lpOf r = l) : Inv g (S.set o y) w' ∧ Ext S g w (S.set o y) g w' := by
 have hs : ∀ i z, i ≠ o → (S.set o y).ob i = some z → S.ob i = some z := fun i z hi e => by
  have e : (if i = o then some y else S.ob i) = some z := e
  rwa [if_neg hi] at e
 refine ⟨h.upd (.refl g) rfl rfl hlb (fun i p _ e => e) hg (show (if o = o then _ else _) = _ from if_pos rfl) hs (fun i hi => ⟨hi, h.fresh i hi⟩) (by omega) (by rw [hsz]; exact h.lt _ _ _ hg)
  (fun k hk _ => hheap k hk) (fun i z s' hi e k => hi (h.inj i o z x b s' s (hs i z hi e) ho k hg)) (fun i => h.memd o b s i x ho hg) hok,
  ⟨.refl g, hos, htape, hout, by omega, fun k _ hn => hheap k (fun hh => hn ⟨o, s, x, ho, hh ▸ hg⟩), fun k ⟨i, s', z, e1, e2⟩ => ?_, fun i p e => .inl e, fun i hi => hi, fun _ _ _ e => .inl e, fun _ _ e => .inl e⟩⟩
 by_cases hi : i = o
 ·subst hi; exact .inl ⟨i, s', x, ho, e2⟩
 ·exact .inl ⟨i, s', z, hs i z hi e1, e2⟩
theorem Inv.write {g : G} {S : Hp} {w w' : World} (h : Inv g S w) {o b : Nat} {s : Nat × Nat} {x y : Ob} (ho : S.ob o = some x) (hg : g.at' o = some (some b, s)) (hsz : w'.heap.size = w.heap.size) (hheap : ∀ k, k ≠ b → w'.heap[k]? = w.heap[k]?)
  (hos : w'.os = w.os) (htape : w'.tape = w.tape) (hout : w'.output = w.output) (hok : ObOk g w' b s y) (hx : isLp x = false := by rfl) : Inv g (S.set o y) w' ∧ Ext S g w (S.set o y) g w' :=
 h.write' ho hg hsz hheap hos htape hout hok (fun l e => by rw [h.nlp ho hg hx] at e; cases e)
theorem Inv.mvw {g : G} {S : Hp} {w w' : World} (h : Inv g S w) {o o' b : Nat} {s s' : Nat × Nat} {x x' : Ob} (ho : S.ob o = some x) (hf : S.fr o') (hg : g.at' o = some (some b, s)) (hsz : w'.heap.size = w.heap.size) (hheap : ∀ k, k ≠ b → w'.heap[k]? = w.heap[k]?)
  (hos : w'.os = w.os) (htape : w'.tape = w.tape) (hout : w'.output = w.output) (hok : ObOk (gput g o' (some b, s')) w' b s' x') (hx : isLp x = false := by rfl) :
  Inv (gput g o' (some b, s')) ((S.del o).new o' x') w' ∧ Ext S g w ((S.del o).new o' x') (gput g o' (some b, s')) w' := by
 have hg' := h.fresh o' hf
 have hne : o ≠ o' := fun e => by rw [e, hg'] at hg; cases hg
 have hle := gput_le (p := (some b, s')) hg'
 have hs : ∀ i z, i ≠ o' → ((S.del o).new o' x').ob i = some z → i ≠ o ∧ S.ob i = some z := fun i z hi e => by
  have e : (if i = o' then some x' else if i = o then none else S.ob i) = some z := e
  rw [if_neg hi] at e
  split at e
  ·cases e
  ·exact ⟨by assumption, e⟩
 refine ⟨h.upd (o := o') (b := b) (s := s') hle rfl rfl (fun l e => by rw [h.nlp ho hg hx] at e; cases e) (fun i p hi e => by rwa [gput_ne hi] at e) gput_at (show (if o' = o' then _ else _) = _ from if_pos rfl) (fun i y hi e => (hs i y hi e).2) (fun i hi => ⟨hi.1, by rw [gput_ne hi.2]; exact h.fresh i hi.1⟩) (by omega) (by rw [hsz]; exact h.lt _ _ _ hg) (fun k hk _ => hheap k hk) ?_ (fun i => h.memd o b s i _ ho hg) hok, ⟨hle, hos, htape, hout, by omega, fun k _ hn => hheap k (fun hh => hn ⟨o, s, x, ho, hh ▸ hg⟩), fun k ⟨i, s', y, e1, e2⟩ => ?_, fun i p e => ?_, fun i hi => hi.1, fun _ _ _ e => .inl e, fun _ _ e => .inl e⟩⟩
 ·intro i y s' hi e k
  obtain ⟨hno, e'⟩ := hs i y hi e
  exact hno (h.inj i o y _ b s' s e' ho k hg)
 ·by_cases hi : i = o'
  ·subst hi; rw [gput_at] at e2; simp at e2; exact .inl ⟨o, s, _, ho, e2.1 ▸ hg⟩
  ·rw [gput_ne hi] at e2; exact .inl ⟨i, s', y, (hs i y hi e1).2, e2⟩
 ·by_cases hi : i = o'
  ·subst hi; exact .inr ⟨hg', hf⟩
  ·rw [gput_ne hi] at e; exact .inl e
theorem Inv.grow {g : G} {S : Hp} {w w' : World} (h : Inv g S w) {o o' b : Nat} {s : Nat × Nat} {x : Ob} {cs' : List A} (ho : S.ob o = some x) (hf : S.fr o') (hg : g.at' o = some (some b, s)) (hsz : w'.heap.size = w.heap.size) (hheap : ∀ k, k ≠ b → w'.heap[k]? = w.heap[k]?)
  (hos : w'.os = w.os) (htape : w'.tape = w.tape) (hout : w'.output = w.output) (hok : RowAt g w' b s.2 cs') (hx : isLp x = false := by rfl) :
  Inv (gput g o' (some b, (cs'.length, s.2))) ((S.del o).new o' (.cells cs')) w' ∧ Ext S g w ((S.del o).new o' (.cells cs')) (gput g o' (some b, (cs'.length, s.2))) w' := by
 obtain ⟨cur, ty, k2, k2', k3⟩ := hok
 exact h.mvw ho hf hg hsz hheap hos htape hout ⟨rfl, cur, ty, k2, k2', k3.mono (gput_le (h.fresh o' hf))⟩ hx
theorem Inv.ren {g : G} {S : Hp} {w : World} (h : Inv g S w) {o o' b m : Nat} {s : Nat × Nat} {cs : List A} (ho : S.ob o = some (.cells cs)) (hf : S.fr o') (hg : g.at' o = some (some b, s)) (hm : m ≤ cs.length) :
  Inv (gput g o' (some b, (m, s.2))) ((S.del o).new o' (.cells (cs.take m))) w ∧ Ext S g w ((S.del o).new o' (.cells (cs.take m))) (gput g o' (some b, (m, s.2))) w := by
 have hl : (cs.take m).length = m := by simp; omega
 have hrow : RowAt g w b s.2 (cs.take m) := by
  rcases h.cells o cs ho with ⟨k1, _⟩ | ⟨b', t, k1, cur, ty, k2, k2', k3⟩
  ·rw [k1] at hg; cases hg
  ·rw [k1] at hg; simp at hg
   obtain ⟨rfl, rfl⟩ := hg
   refine ⟨cur, ty, k2, k2', ?_⟩
   have := k3.part 0 m
   simp only [List.drop_zero] at this
   rw [hl]
   rwa [List.take_take, Nat.min_eq_left hm] at this
 have := h.grow ho hf hg rfl (fun _ _ => rfl) rfl rfl rfl hrow rfl
 rwa [hl] at this
theorem Inv.emp {g : G} {S : Hp} {w : World} (h : Inv g S w) {o : Nat} (hf : S.fr o) : Inv (gput g o (none, (0, 0))) (S.new o (.cells [])) w ∧ Ext S g w (S.new o (.cells [])) (gput g o (none, (0, 0))) w := by
 have hg := h.fresh o hf
 have hle := gput_le (p := (none, (0, 0))) hg
 have hs : ∀ i z, i ≠ o → (S.new o (.cells [])).ob i = some z → S.ob i = some z := fun i z hi e => by
  have e : (if i = o then some (.cells []) else S.ob i) = some z := e
  rwa [if_neg hi] at e
 have ho : (S.new o (.cells [])).ob o = some (.cells []) := if_pos rfl
 have hn : ∀ i b s, (gput g o (none, (0, 0))).at' i = some (some b, s) → i ≠ o ∧ g.at' i = some (some b, s) := fun i b s e => by
  have hi : i ≠ o := by rintro rfl; rw [gput_at] at e; simp at e
  exact ⟨hi, by rwa [gput_ne hi] at e⟩
 refine ⟨⟨fun i cs e => ?_, fun i x e => ?_, fun i hi => by rw [gput_ne hi.2]; exact h.fresh i hi.1, fun i b s e => h.lt i b s (hn i b s e).2, fun i j x x' b s s' e1 e2 k1 k2 => ?_, h.mem, fun i b s j x e k => ?_, h.lp⟩,
  ⟨hle, rfl, rfl, rfl, Nat.le_refl _, fun _ _ _ => rfl, fun k ⟨i, s', y, e1, e2⟩ => ?_, fun i p e => ?_, fun i hi => hi.1, fun _ _ _ e => .inl e, fun _ _ e => .inl e⟩⟩
 ·by_cases hi : i = o
  ·subst hi; rw [ho] at e; simp at e; subst e; exact .inl ⟨gput_at, rfl⟩
  ·rcases h.cells i cs (hs i _ hi e) with ⟨k1, k2⟩ | ⟨b', t, k1, cur, ty, k2, k2', k3⟩
   ·exact .inl ⟨hle.at' _ _ k1, k2⟩
   ·exact .inr ⟨b', t, hle.at' _ _ k1, cur, ty, k2, k2', k3.mono hle⟩
 ·have hi : i ≠ o := by rintro rfl; rw [ho] at e; cases e
  obtain ⟨b', s', ob, k1, k2, k3⟩ := h.oth i x (hs i _ hi e)
  exact ⟨b', s', ob, hle.at' _ _ k1, k2, k3.mono hle⟩
 ·exact h.inj i j x x' b s s' (hs i _ (hn _ _ _ k1).1 e1) (hs j _ (hn _ _ _ k2).1 e2) (hn _ _ _ k1).2 (hn _ _ _ k2).2
 ·exact h.memd i b s j x (hs i _ (hn _ _ _ k).1 e) (hn _ _ _ k).2
 ·exact .inl ⟨i, s', y, hs i y (hn _ _ _ e2).1 e1, (hn _ _ _ e2).2⟩
 ·by_cases hi : i = o
  ·subst hi; exact .inr ⟨hg, hf⟩
  ·rw [gput_ne hi] at e; exact .inl e
def gfrz (g : G) (b : Nat) (f : Nat → Option Value) : G := ⟨g.at', fun b' i => if b' = b then f i else g.mem b' i, g.lp⟩
theorem gfrz_le {g : G} {b : Nat} {f : Nat → Option Value} (h : ∀ i, g.mem b i = none) : Le g (gfrz g b f) := ⟨fun _ _ e => e, fun b' i x e => by
 show (if b' = b then f i else g.mem b' i) = some x
 split
 ·rename_i hh; subst hh; rw [h] at e; cases e
 ·exact e, fun _ _ e => e⟩
theorem Inv.frz {g : G} {S : Hp} {w : World} (h : Inv g S w) {o b : Nat} {s : Nat × Nat} {cs : List A} (ho : S.ob o = some (.cells cs)) (hg : g.at' o = some (some b, s)) :
  ∃ cur : Array Value, ∃ ty, w.heap[b]? = some (.cells cur ty (0, 0)) ∧ s.1 = cs.length ∧ Vs g cs (cur.toList.take cs.length) ∧ Le g (gfrz g b fun i => if i < cs.length then cur[i]? else none) ∧
   Inv (gfrz g b fun i => if i < cs.length then cur[i]? else none) (S.del o) w ∧ Ext S g w (S.del o) (gfrz g b fun i => if i < cs.length then cur[i]? else none) w := by
 rcases h.cells o cs ho with ⟨k1, _⟩ | ⟨b', t, k1, cur, ty, k2, k2', k3⟩
 ·rw [k1] at hg; cases hg
 rw [k1] at hg; simp at hg
 obtain ⟨rfl, rfl⟩ := hg
 have hle : Le g (gfrz g b' fun i => if i < cs.length then cur[i]? else none) := gfrz_le (fun i => h.memd o b' _ i _ ho k1)
 have hs : ∀ i z, (S.del o).ob i = some z → i ≠ o ∧ S.ob i = some z := fun i z e => by
  have e : (if i = o then none else S.ob i) = some z := e
  split at e
  ·cases e
  ·exact ⟨by assumption, e⟩
 refine ⟨cur, ty, k2, rfl, k3, hle, ⟨fun i cs' e => ?_, fun i x e => ?_, h.fresh, h.lt, fun i j x x' b s s' e1 e2 => h.inj i j x x' b s s' (hs _ _ e1).2 (hs _ _ e2).2, fun b i x e => ?_, fun i b s j x e k => ?_, h.lp⟩,
  ⟨hle, rfl, rfl, rfl, Nat.le_refl _, fun _ _ _ => rfl, fun k ⟨i, s', y, e1, e2⟩ => .inl ⟨i, s', y, (hs i y e1).2, e2⟩, fun i p e => .inl e, fun i hi => hi, fun b i x e => ?_, fun _ _ e => .inl e⟩⟩
 ·rcases h.cells i cs' (hs i _ e).2 with ⟨k1, k2⟩ | ⟨b', t, k1, cur, ty, k2, k2', k3⟩
  ·exact .inl ⟨k1, k2⟩
  ·exact .inr ⟨b', t, k1, cur, ty, k2, k2', k3.mono hle⟩
 ·obtain ⟨b', s', ob, k1, k2, k3⟩ := h.oth i x (hs i _ e).2
  exact ⟨b', s', ob, k1, k2, k3.mono hle⟩
 ·have e : (if b = b' then (if i < cs.length then cur[i]? else none) else g.mem b i) = some x := e
  by_cases hb : b = b'
  ·rw [if_pos hb] at e
   by_cases hi : i < cs.length
   ·rw [if_pos hi] at e; rw [hb]; exact ⟨cur, ty, _, k2, e⟩
   ·rw [if_neg hi] at e; cases e
  ·rw [if_neg hb] at e; exact h.mem b i x e
 ·show (if b = b' then (if j < cs.length then cur[j]? else none) else g.mem b j) = none
  have hne : b ≠ b' := fun hb => by
   subst hb
   exact (hs i x e).1 (h.inj i o x _ b s _ (hs i x e).2 ho k k1)
  rw [if_neg hne]
  exact h.memd i b s j x (hs i x e).2 k
 ·have e : (if b = b' then (if i < cs.length then cur[i]? else none) else g.mem b i) = some x := e
  split at e
  ·rename_i hb; exact .inr (.inl ⟨o, _, _, ho, hb ▸ k1⟩)
  ·exact .inl e
end
end Go.Bm
set_option linter.unusedVariables false
set_option linter.unusedSimpArgs false
namespace Go.Bm
noncomputable section
open Go.RowKit
section
variable {P : Program}
theorem flat_len {α : Type} {sz : Nat} : ∀ {es : List (List α)}, (∀ e, e ∈ es → e.length = sz) → es.flatten.length = es.length * sz
 | [], _ => by simp
 | d :: es, hz => by
  rw [List.flatten_cons, List.length_append, hz d (List.mem_cons_self ..), flat_len (fun e he => hz e (List.mem_cons_of_mem _ he)), List.length_cons, Nat.add_mul]
  omega
theorem flat_get {α : Type} {sz : Nat} : ∀ {es : List (List α)} (_ : ∀ e, e ∈ es → e.length = sz) {i j : Nat} {e : List α} {c : α}, es[i]? = some e → e[j]? = some c → es.flatten[i * sz + j]? = some c
 | [], _, i, j, e, c, h1, _ => by simp at h1
 | d :: es, hz, 0, j, e, c, h1, h2 => by
  simp at h1
  subst h1
  rw [List.flatten_cons, Nat.zero_mul, Nat.zero_add, List.getElem?_append_left (List.getElem?_eq_some_iff.1 h2).1]
  exact h2
 | d :: es, hz, i + 1, j, e, c, h1, h2 => by
  have hd := hz d (List.mem_cons_self ..)
  rw [List.flatten_cons, List.getElem?_append_right (by rw [hd, Nat.add_mul]; omega)]
  rw [show (i + 1) * sz + j - d.length = i * sz + j from by rw [hd, Nat.add_mul]; omega]
  exact flat_get (fun e he => hz e (List.mem_cons_of_mem _ he)) (by simpa using h1) h2
def SizeIs (P : Program) (t : TypeId) (n : Nat) : Prop := ∃ i, P.info? t = some i ∧ i.size = n
theorem SizeIs.run {t : TypeId} {n : Nat} (h : SizeIs P t n) (w : World) : (sizeOf t).run P w = .ok n w := by
 obtain ⟨i, hi, rfl⟩ := h
 simp [sizeOf, typeInfo, hi]
def aggT : TypeDesc → Bool
 | .struct _ | .array _ _ => true
 | _ => false
theorem run_isAgg {t : TypeId} {d : TypeDesc} (h : P.underlying t = some d) (w : World) : (isAgg t).run P w = .ok (aggT d) w := by
 simp only [isAgg, Sem.run_bind, run_underlying h, Result.andThen_ok]
 cases d <;> rfl
def ibin : BinOp → IntKind → Int → Int → Option Value
 | .add, k, a, b => some (.int k (k.wrap (a + b)))
 | .sub, k, a, b => some (.int k (k.wrap (a - b)))
 | .mul, k, a, b => some (.int k (k.wrap (a * b)))
 | .quo, k, a, b => if b = 0 then none else some (.int k (k.wrap (a.tdiv b)))
 | .rem, k, a, b => if b = 0 then none else some (.int k (a.tmod b))
 | .and, k, a, b => some (.int k (bits .and k a b))
 | .or, k, a, b => some (.int k (bits .or k a b))
 | .xor, k, a, b => some (.int k (bits .xor k a b))
 | .andNot, k, a, b => some (.int k (bits .andNot k a b))
 | .eql, _, a, b => some (.bool (decide (a = b)))
 | .neq, _, a, b => some (.bool (!decide (a = b)))
 | .lss, _, a, b => some (.bool (decide (a < b)))
 | .leq, _, a, b => some (.bool (decide (a ≤ b)))
 | .gtr, _, a, b => some (.bool (decide (b < a)))
 | .geq, _, a, b => some (.bool (decide (b ≤ a)))
 | _, _, _, _ => none
theorem run_ibin {op : BinOp} {k : IntKind} {a b : Int} {r : Value} (h : ibin op k a b = some r) (T : TypeId) (w : World) : (binOp op T (.int k a) (.int k b)).run P w = .ok r w := by
 cases op <;> simp only [ibin] at h <;> (try (split at h)) <;> simp at h <;> subst h <;>
  simp_all [binOp, Op.intArith, Op.intDiv, Op.intBits, Op.intCmp, bits, bne] <;> (rw [Bool.eq_iff_iff]; simp)
def ishift : BinOp → IntKind → Int → Int → Option Value
 | .shl, k, a, b => if b < 0 then none else some (.int k (k.wrap (a * 2 ^ (min b.toNat k.bits))))
 | .shr, k, a, b => if b < 0 then none else some (.int k (a.fdiv (2 ^ (min b.toNat k.bits))))
 | _, _, _, _ => none
theorem run_equalIn_bool (d : Nat) {T : TypeId} (hT : P.underlying T = some .bool) (m n : Bool) (w : World) : (Op.equalIn (d + 1) T (.bool m) (.bool n)).run P w = .ok (m == n) w := by
 simp [Op.equalIn, run_underlying hT]
theorem run_equal_bool {T : TypeId} (hT : P.underlying T = some .bool) (m n : Bool) (w : World) : (Op.equal T (.bool m) (.bool n)).run P w = .ok (m == n) w :=
 run_equalIn_bool 9999 hT m n w
theorem run_fieldAt {T : TypeId} {fs : Array Field} {f : Nat} {fd : Field} {s : Nat} (hT : P.underlying T = some (.struct fs)) (hf : fs[f]? = some fd) (hs : SizeIs P fd.type s) (h0 : s ≠ 0) (b off : Nat) (w : World) :
  (Instr.fieldAt T (.pointer (some ⟨b, off, none⟩)) f).run P w = .ok (.pointer (some ⟨b, off + fd.offset, none⟩)) w := by
 simp [Instr.fieldAt, run_underlying hT, hf, Instr.sureAddr, fieldPlace, hs.run w, h0, Addr.add_lit]
def TI (P : Program) (T : TypeId) (sz bytes : Nat) (z : Value) : Prop := ∃ i, P.info? T = some i ∧ i.zero = some z ∧ i.size = sz ∧ i.bytes = bytes ∧ z.cells.size = sz ∧ (z.cells.toList.all (·.oneCell')) = true
theorem ti_of {T : TypeId} {sz bytes : Nat} {z : Value} (h : (P.info? T).map (fun i => (i.zero, i.size, i.bytes)) = some (some z, sz, bytes)) (h1 : z.cells.size = sz) (h2 : (z.cells.toList.all (·.oneCell')) = true) : TI P T sz bytes z := by
 cases hi : P.info? T with
 | none => simp [hi] at h
 | some i =>
  simp [hi] at h
  exact ⟨i, hi, h.1, h.2.1, h.2.2, h1, h2⟩
theorem TI.size {T : TypeId} {sz bytes : Nat} {z : Value} (h : TI P T sz bytes z) : SizeIs P T sz := let ⟨i, h1, _, h2, _⟩ := h; ⟨i, h1, h2⟩
def reps {α : Type} (n : Nat) (zs : List α) : List α := (List.replicate n zs).flatten
theorem reps_len {α : Type} (n : Nat) (zs : List α) : (reps n zs).length = n * zs.length := by
 unfold reps; rw [flat_len (sz := zs.length) (fun e he => by rw [(List.mem_replicate.1 he).2])]; simp
theorem reps_get {α : Type} {n : Nat} {zs : List α} {j : Nat} (h : j < n * zs.length) : (reps n zs)[j]? = zs[j % zs.length]? := by
 have h0 : 0 < zs.length := by
  rcases Nat.eq_zero_or_pos zs.length with h1 | h1
  ·rw [h1] at h; omega
  ·exact h1
 have hd : j / zs.length < n := Nat.div_lt_of_lt_mul (by rw [Nat.mul_comm]; exact h)
 have hm := Nat.mod_lt j h0
 have := flat_get (sz := zs.length) (es := List.replicate n zs) (i := j / zs.length) (j := j % zs.length) (e := zs) (c := zs[j % zs.length]) (fun e he => by rw [(List.mem_replicate.1 he).2]) (by simp [hd]) (by simp [hm])
 unfold reps
 rw [show j / zs.length * zs.length + j % zs.length = j by rw [Nat.mul_comm]; exact Nat.div_add_mod j zs.length] at this
 rw [this]; simp [hm]
theorem madeCells_get {z : Array Value} {n j : Nat} (h0 : 0 < z.size) (h : j < n * z.size) : (madeCells z (n * z.size))[j]? = z[j % z.size]? := by
 have hm := Nat.mod_lt j h0
 simp [madeCells, h, hm]
theorem fold_take (off : Nat) (l : List Value) (cs : Array Value) (h : off + l.length ≤ cs.size) :
  ((l.zipIdx 0).foldl (fun cs (x : Value × Nat) => cs.setIfInBounds (off + x.2) x.1) cs).toList = cs.toList.take off ++ l ++ cs.toList.drop (off + l.length) := by
 obtain ⟨h1, h2⟩ := Go.Great.foldl_set off l 0 cs
 generalize (l.zipIdx 0).foldl (fun cs (x : Value × Nat) => cs.setIfInBounds (off + x.2) x.1) cs = r at *
 apply List.ext_getElem?
 intro k
 have h3 := h2 k
 simp only [Nat.add_zero] at h3
 rw [Array.getElem?_toList, h3]
 by_cases hk : k < off
 ·rw [if_neg (by omega), List.append_assoc, List.getElem?_append_left (by simp; omega), List.getElem?_take, if_pos hk, Array.getElem?_toList]
 ·by_cases hk2 : k < off + l.length
  ·rw [if_pos ⟨by omega, hk2, by omega⟩, List.append_assoc, List.getElem?_append_right (by simp; omega), List.getElem?_append_left (by simp; omega)]
   simp [Nat.min_eq_left (show off ≤ cs.size by omega)]
  ·rw [if_neg (by omega), List.getElem?_append_right (by simp; omega), List.getElem?_drop]
   simp only [List.length_append, List.length_take, Array.length_toList, Nat.min_eq_left (show off ≤ cs.size by omega)]
   rw [Array.getElem?_toList]
   congr 1; omega
theorem run_bound {x : Value} {k : IntKind} {n : Int} (hx : x = .int k n) {y : Nat} (c : BoundsCode) (h : 0 ≤ n ∧ n ≤ y) (w : World) : (Instr.sliceBound x y c).run P w = .ok n.toNat w := by
 subst hx
 simp [Instr.sliceBound, asIntOf, h]
theorem run_append_zeroA (w : World) (T E ty : TypeId) (hT : P.underlying T = some (.slice E)) {sz : Nat} (hE : SizeIs P E sz) (A : Option Addr) (b : Option Addr) (n cap c : Nat) (h : n ≤ cap) :
  (Builtin.append_ #[T, T] ty #[.slice A n cap, .slice b 0 c]).run P w = .ok (.slice A n cap) w := by
 have hf : (Builtin.firstCells sz 0 (.slice b 0 c)).run P w = .ok #[] w := by
  cases b <;> simp [Builtin.firstCells, loadCells, loadCellsFrom]
 cases A <;> simp [Builtin.append_, run_underlying hT, hE.run, Builtin.lenOf, h, hf, storeCells]
theorem run_copyG (w : World) {T T' ty E t : TypeId} {sz blk off n cap m c2 : Nat} {q : Addr} {cur : Array Value} {us : List Value} (hT : P.underlying T = some (.slice E)) (hE : SizeIs P E sz) (hg : w.heap[blk]? = some (.cells cur t (0, 0)))
  (hul : us.length = m * sz) (hq : ∀ j v, us[j]? = some v → w.cell? (q.add j) = some v) (h1 : ∀ v ∈ us, v.oneCell' = true) (hm : m ≤ n) (hfit : off + us.length ≤ cur.size) :
  (Builtin.copy_ #[T, T'] ty #[.slice (some ⟨blk, off, none⟩) n cap, .slice (some q) m c2]).run P w = .ok (.int .i64 ((m : Nat) : Int)) (w.setRow blk (cur.toList.take off ++ us ++ cur.toList.drop (off + us.length)).toArray) := by
 have hl := run_loadCells_list (P := P) w q us hq
 rw [hul] at hl
 have hst := run_storeCells_at P blk off t us 0 cur w hg (by simpa using hfit) h1
 simp only [Nat.add_zero] at hst
 have hmin : Nat.min m n = m := Nat.min_eq_left hm
 simp only [Builtin.copy_, List.getElem?_toArray, List.getElem?_cons_zero, List.getElem?_cons_succ, Sem.run_bind, run_underlying hT, Result.andThen_ok, Builtin.lenOf, Sem.run_pure, hmin, hE.run w, Builtin.firstCells, hl]
 simp only [hst, Result.andThen_ok, Sem.run_pure, goInt]
theorem run_copy_zero (w : World) {T T' ty E : TypeId} {sz n cap c2 : Nat} {A B : Option Addr} (hT : P.underlying T = some (.slice E)) (hE : SizeIs P E sz) :
  (Builtin.copy_ #[T, T'] ty #[.slice A n cap, .slice B 0 c2]).run P w = .ok (.int .i64 ((0 : Nat) : Int)) w := by
 have hl : ∀ (x : Addr), (loadCells x 0).run P w = .ok #[] w := fun x => by simpa using run_loadCells_list (P := P) w x [] (by simp)
 cases A <;> cases B <;> simp [Builtin.copy_, run_underlying hT, Builtin.lenOf, Builtin.firstCells, hE.run w, storeCells, hl, goInt]
def resOf (rv : ResultVar) (tmps : Array Value) : Sem Value :=
 match rv with
 | .tmp t => pure (tmps.getD t undef)
 | .cell a t => do loadVar t (← asAddr (tmps.getD a undef))
theorem results_run {fn : Func} {tmps : Array Value} {w : World} {vs : List Value} (h : (fn.results.toList.mapM (fun rv => resOf rv tmps)).run P w = .ok vs w) :
  (results fn tmps).run P w = .ok (if h : vs.toArray.size = 1 then vs.toArray[0] else .tuple vs.toArray) w := by
 show (do
  let vs ← fn.results.mapM (fun rv => resOf rv tmps)
  pure (if h : vs.size = 1 then vs[0] else .tuple vs) : Sem Value).run P w = _
 rw [Array.mapM_eq_mapM_toList]
 simp only [Sem.run_bind, Sem.run_map, h, Result.andThen_ok, Sem.run_pure]
structure FnOk (P : Program) (f : FuncId) : Prop where
 out : ∃ fn, P.funcs[f]? = some fn ∧ (fn.name == "runtime.NumGoroutine") = false ∧ fn.body.isSome = true
theorem FnOk.run {f : FuncId} (h : FnOk P f) (args : Array Value) (w : World) : (callFunc f args).run P w = .ok (.enter f args) w := by
 obtain ⟨fn, h1, h2, h3⟩ := h.out
 have h4 : fn.body.isNone = false := by cases hb : fn.body <;> simp_all
 simp only [callFunc, Sem.run_bind, run_program, Result.andThen_ok, h1, h2, h4, Bool.false_eq_true, if_false, Sem.run_pure]
theorem run_append_room' (w : World) (t ty e e' : TypeId) (i : TypeInfo) (ht : P.underlying t = some (.slice e)) (hi : P.info? e = some i)
  (g sLen sCap : Nat) (cur : Array Value) (hg : w.heap[g]? = some (.cells cur e' (0, 0)))
  (a : Addr) (m c : Nat) (news : List Value) (hl : news.length = m * i.size) (hnews : ∀ j u, news[j]? = some u → w.cell? (a.add j) = some u) (h1 : ∀ u ∈ news, u.oneCell' = true)
  (hroom : sLen + m ≤ sCap) (hfit : sLen * i.size + news.length ≤ cur.size) :
  (Builtin.append_ #[t, t] ty #[.slice (some ⟨g, 0, none⟩) sLen sCap, .slice (some a) m c]).run P w =
   .ok (.slice (some ⟨g, 0, none⟩) (sLen + m) sCap) (w.setRow g (cur.toList.take (sLen * i.size) ++ news ++ cur.toList.drop (sLen * i.size + news.length)).toArray) := by
 have hf := run_firstCells_some (P := P) w i.size m a m c news hl hnews
 have hst := run_storeCells_at P g (sLen * i.size) e' news 0 cur w hg (by simpa using hfit) h1
 simp only [Nat.add_zero] at hst
 simp [Builtin.append_, run_underlying ht, sizeOf, typeInfo, hi, Builtin.lenOf, hroom, hf, Addr.add_lit, hst]
end
end
end Go.Bm
set_option linter.unusedVariables false
set_option linter.unusedSimpArgs false
namespace Go.Bm
noncomputable section
open Go.RowKit
def OpS (P : Program) (o : Oper) (ρ : Operand → A) (S S' : Hp) (pv : A) : Prop :=
  ∀ (g : G) (w : World) (a : Act) (next : Act → World → Prop) (Q : Exit → Act → World → Prop), Inv g S w → (∀ x ∈ o.op.operands, V g (ρ x) (a.eval x)) →
   (∀ v g' w', V g' pv v → Inv g' S' w' → Ext S g w S' g' w' → next (a.put o.dst v) w') → o.wp P a w next Q
def OpV (P : Program) (o : Oper) (ρ : Operand → A) (S : Hp) (pv : A) : Prop :=
 ∀ (g : G) (w : World) (a : Act), Inv g S w → (∀ x ∈ o.op.operands, V g (ρ x) (a.eval x)) → ∃ v, (execOp a.eval o).run P w = .ok (.value v) w ∧ V g pv v
theorem OpV.at' {P : Program} {o : Oper} {ρ : Operand → A} {S : Hp} {pv : A} (h : ∀ (g : G) (w : World) (a : Act), Inv g S w → (∀ x ∈ o.op.operands, V g (ρ x) (a.eval x)) → OpV P o ρ S pv) : OpV P o ρ S pv := fun g w a hI hv => h g w a hI hv g w a hI hv
theorem OpS.value {P : Program} {o : Oper} {ρ : Operand → A} {S : Hp} {pv : A}
  (h : ∀ (g : G) (w : World) (a : Act), Inv g S w → (∀ x ∈ o.op.operands, V g (ρ x) (a.eval x)) → ∃ v, (execOp a.eval o).run P w = .ok (.value v) w ∧ V g pv v) : OpS P o ρ S S pv := by
 intro g w a next Q hI hx K
 obtain ⟨v, hr, hv⟩ := h g w a hI hx
 unfold Oper.wp
 rw [hr]
 exact K v g w hv hI (.refl S g w)
theorem OpS.pre {P : Program} {o : Oper} {ρ : Operand → A} {S S' : Hp} {pv : A} (h : ∀ (g : G) (w : World) (a : Act), Inv g S w → (∀ x ∈ o.op.operands, V g (ρ x) (a.eval x)) → ∃ S1 g1, Inv g1 S1 w ∧ Ext S g w S1 g1 w ∧ ∃ ρ', (∀ x ∈ o.op.operands, V g1 (ρ' x) (a.eval x)) ∧ OpS P o ρ' S1 S' pv) : OpS P o ρ S S' pv := by
 intro g w a next Q hI hx K
 obtain ⟨S1, g1, h1, h2, ρ', h3, h4⟩ := h g w a hI hx
 exact h4 g1 w a next Q h1 h3 (fun v g' w' k1 k2 k3 => K v g' w' k1 k2 (h2.trans k3))
section
variable {P : Program} {o : Oper} {ρ : Operand → A} {S : Hp}
def A.cells : A → Option (List A)
 | .agg cs => some cs
 | .v x => bif x.oneCell' then some [.v x] else none
 | .tup _ | .junk | .un => none
 | p => some [p]
theorem one_cells {v : Value} (h1 : v.oneCell' = true) : v.cells = #[v] := by cases v <;> first | rfl | (cases h1)
theorem Vs_one {g : G} {p : A} {v : Value} (h : V g p v) (h1 : v.oneCell' = true) : Vs g [p] v.cells.toList := by
 rw [one_cells h1]
 exact .cons h h1 .nil
theorem V.oneo {g : G} {p : A} {v : Value} (h : V g p v) (hp : match p with | .op _ _ | .os _ _ _ | .om _ _ => True | _ => False := by trivial) : v.oneCell' = true := by
 cases h with
 | op r o v h0 h1 => cases o with
  | none => rw [h0 rfl]; rfl
  | some j => have := h1 j rfl; cases this; rfl
 | os r z o v h0 h1 => cases o with
  | none => have := h0 rfl; cases this; rfl
  | some j => have := h1 j rfl; cases this <;> rfl
 | om r o v h0 h1 => cases o with
  | none => rw [h0 rfl]; rfl
  | some j => have := h1 j rfl; cases this; rfl
 | _ => exact hp.elim
theorem V.cells {g : G} {p : A} {v : Value} {ps : List A} (h : V g p v) (hp : p.cells = some ps) : Vs g ps v.cells.toList := by
 cases p with
 | v y =>
  cases h
  have hp : (bif v.oneCell' then some [A.v v] else none) = some ps := hp
  cases hy : v.oneCell' with
  | true => rw [hy] at hp; cases hp; exact Vs_one (.v v) hy
  | false => rw [hy] at hp; cases hp
 | agg cs =>
  cases hp
  cases h with
  | agg _ vs hl h1 h => exact ⟨by simp [Value.cells, hl], fun j c x h2 h3 => ⟨h j c x h2 (by simpa [Value.cells] using h3), h1 x (List.mem_of_getElem? h3)⟩⟩
 | tup _ => cases hp
 | junk => cases hp
 | un => cases hp
 | tl t f l => cases hp; refine Vs_one h ?_; cases h with | tl _ _ _ _ h1 => exact h1.one
 | op r o => cases hp; exact Vs_one h h.oneo
 | os r z o => cases hp; exact Vs_one h h.oneo
 | om r o => cases hp; exact Vs_one h h.oneo
 | _ => cases hp; refine Vs_one h ?_; cases h <;> rfl
def zeros (z : Value) : List A := z.cells.toList.map .v
theorem zeros_ok {z : Value} (h : (z.cells.toList.all (·.oneCell')) = true) (g : G) : Vs g (zeros z) z.cells.toList := by
 refine ⟨by simp [zeros], fun j c x h1 h2 => ?_⟩
 simp only [zeros, List.getElem?_map, h2, Option.map_some, Option.some.injEq] at h1
 subst h1
 exact ⟨.v x, List.all_eq_true.1 h x (List.mem_of_getElem? h2)⟩
theorem V.v_eq {g : G} {x v : Value} (h : V g (.v x) v) : v = x := by cases h; rfl
theorem opS_move {x : Operand} (ho : o.op = .move x) : OpS P o ρ S S (ρ x) :=
 .value fun g w a _ hx => ⟨a.eval x, by simp [execOp, ho], hx x (by simp [ho, Op.operands])⟩
theorem opS_assign {x : Operand} (ho : o.op = .assign x) : OpS P o ρ S S (ρ x) :=
 .value fun g w a _ hx => ⟨a.eval x, by simp [execOp, ho], hx x (by simp [ho, Op.operands])⟩
theorem opS_extract {x : Operand} {ix : Nat} {cs : List A} {p : A} (ho : o.op = .extract x ix) (hx : ρ x = .tup cs) (hp : cs[ix]? = some p) : OpS P o ρ S S p :=
 .value fun g w a _ hv => by
  have e1 := hv x (by simp [ho, Op.operands])
  rw [hx] at e1
  generalize hu : a.eval x = u at e1
  cases e1 with
  | tup _ vs hl h =>
   have hlt : ix < vs.size := by rw [← hl]; exact (List.getElem?_eq_some_iff.1 hp).1
   exact ⟨vs[ix], by simp [execOp, ho, hu, Instr.extract, hlt], h ix p vs[ix] hp (by simp [hlt])⟩
theorem opS_pick {x y z : Operand} {b : Bool} (ho : o.op = .pick x y z) (hx : ρ x = .v (.bool b)) : OpS P o ρ S S (if b then ρ y else ρ z) :=
 .value fun g w a _ hv => by
  have e1 := (hx ▸ hv x (by simp [ho, Op.operands])).v_eq
  refine ⟨if b then a.eval y else a.eval z, by simp [execOp, ho, e1, asBool], ?_⟩
  cases b
  ·exact hv z (by simp [ho, Op.operands])
  ·exact hv y (by simp [ho, Op.operands])
theorem opS_bin {op : BinOp} {T T' : TypeId} {x y : Operand} {k : IntKind} {m n : Int} {r : Value} (ho : o.op = .binOp op T x y T') (hx : ρ x = .v (.int k m)) (hy : ρ y = .v (.int k n)) (h : ibin op k m n = some r) : OpS P o ρ S S (.v r) :=
 .value fun g w a _ hv => by
  have e1 := (hx ▸ hv x (by simp [ho, Op.operands])).v_eq
  have e2 := (hy ▸ hv y (by simp [ho, Op.operands])).v_eq
  exact ⟨r, by simp only [execOp, ho, e1, e2, eqGuard_at_int, pure_bind, Sem.run_bind, run_ibin h, Result.andThen_ok, Sem.run_pure], .v r⟩
theorem opS_shift {op : BinOp} {T T' : TypeId} {x y : Operand} {k k' : IntKind} {m n : Int} {r : Value} (ho : o.op = .binOp op T x y T') (hx : ρ x = .v (.int k m)) (hy : ρ y = .v (.int k' n)) (h : ishift op k m n = some r) : OpS P o ρ S S (.v r) :=
 .value fun g w a _ hv => by
  have k1 := (hx ▸ hv x (by simp [ho, Op.operands])).v_eq
  have k2 := (hy ▸ hv y (by simp [ho, Op.operands])).v_eq
  cases op <;> simp only [ishift] at h <;> (try (split at h)) <;> simp at h
  all_goals
   subst h
   refine ⟨_, ?_, .v _⟩
   clear hv
   simp only [execOp, ho, k1, k2, eqGuard_at_int, pure_bind, Sem.run_bind, binOp, Op.shift]
   rw [if_neg (by assumption)]
   simp
theorem opS_eqb {op : BinOp} {T T' : TypeId} {x y : Operand} {m n : Bool} (ho : o.op = .binOp op T x y T') (hT : P.underlying T = some .bool) (hx : ρ x = .v (.bool m)) (hy : ρ y = .v (.bool n))
  (h : op = .eql ∨ op = .neq) : OpS P o ρ S S (.v (.bool (if op = .eql then m == n else m != n))) :=
 .value fun g w a _ hv => by
  have k1 := (hx ▸ hv x (by simp [ho, Op.operands])).v_eq
  have k2 := (hy ▸ hv y (by simp [ho, Op.operands])).v_eq
  refine ⟨_, ?_, .v _⟩
  rcases h with rfl | rfl
  ·simp only [execOp, ho, k1, k2, eqGuard_at_bool, pure_bind, Sem.run_bind, binOp, run_equal_bool hT, Result.andThen_ok, Sem.run_pure, if_true]
  ·simp only [execOp, ho, k1, k2, eqGuard_at_bool, pure_bind, Sem.run_bind, binOp, run_equal_bool hT, Result.andThen_ok, Sem.run_pure]
   simp [bne]
theorem opS_not {T : TypeId} {x : Operand} {b : Bool} (ho : o.op = .unOp .not T x) (hx : ρ x = .v (.bool b)) : OpS P o ρ S S (.v (.bool (!b))) :=
 .value fun g w a _ hv => ⟨_, by simp [execOp, ho, (hx ▸ hv x (by simp [ho, Op.operands])).v_eq, Op.unary], .v _⟩
theorem opS_conv {s t : TypeId} {x : Operand} {k k' : IntKind} {n : Int} (ho : o.op = .convert s t x) (hs : (P.underlying s).isSome = true) (ht : P.underlying t = some (.int k')) (hx : ρ x = .v (.int k n)) :
  OpS P o ρ S S (.v (.int k' (k'.wrap n))) :=
 .value fun g w a _ hv => by
  have e1 := (hx ▸ hv x (by simp [ho, Op.operands])).v_eq
  obtain ⟨d, hd⟩ := Option.isSome_iff_exists.mp hs
  exact ⟨_, by simp [execOp, ho, e1, convert, run_underlying hd, run_underlying ht, Conv.intToInt], .v _⟩
def Pl : A → Option (Nat × Nat)
 | .ptr o off => some (o, off)
 | .tp x π => some (x.id, offS π)
 | _ => none
theorem V.pl {g : G} {p : A} {v : Value} {i off : Nat} (h : V g p v) (hp : Pl p = some (i, off)) : ∃ b s, g.at' i = some (some b, s) ∧ v = .pointer (some ⟨b, off, none⟩) := by
 cases h <;> simp only [Pl, Option.some.injEq, Prod.mk.injEq, reduceCtorEq] at hp
 ·obtain ⟨rfl, rfl⟩ := hp; exact ⟨_, _, by assumption, rfl⟩
 ·obtain ⟨rfl, rfl⟩ := hp; exact ⟨_, _, by assumption, rfl⟩
def isP : A → Bool
 | .ptr _ _ => true
 | .tp _ _ => true
 | .dp _ _ => true
 | _ => false
theorem V.isP {g : G} {p : A} {v : Value} (h : V g p v) (hp : isP p = true) : ∃ ad, v = .pointer (some ad) := by
 cases h <;> first | exact ⟨_, rfl⟩ | cases hp
theorem opS_nilCheck {x : Operand} (ho : o.op = .nilCheck x) (hx : isP (ρ x) = true) : OpS P o ρ S S (ρ x) :=
 .value fun g w a _ hv => by
  have e1 := hv x (by simp [ho, Op.operands])
  obtain ⟨ad, hu⟩ := e1.isP hx
  exact ⟨a.eval x, by simp [execOp, ho, hu], e1⟩
theorem opS_field {T : TypeId} {fs : Array Field} {f s : Nat} {fd : Field} {x : Operand} {r : A} (ho : o.op = .fieldAddr T x f) (hT : P.underlying T = some (.struct fs)) (hf : fs[f]? = some fd) (hs : SizeIs P fd.type s) (h0 : s ≠ 0)
  (hr : ∀ g v, V g (ρ x) v → ∃ b off, v = .pointer (some ⟨b, off, none⟩) ∧ V g r (.pointer (some ⟨b, off + fd.offset, none⟩))) : OpS P o ρ S S r :=
 .value fun g w a _ hv => by
  obtain ⟨b, off, hu, h1⟩ := hr g _ (hv x (by simp [ho, Op.operands]))
  exact ⟨_, by simp only [execOp, ho, hu, Sem.run_bind, run_fieldAt hT hf hs h0, Result.andThen_ok, Sem.run_pure], h1⟩
theorem opS_index_arr {T E : TypeId} {x y : Operand} {len sz : Nat} {k : IntKind} {n : Int} {r : A} (ho : o.op = .indexAddr T x y) (hT : P.underlying T = some (.array len E)) (hE : SizeIs P E sz)
  (hy : ρ y = .v (.int k n)) (hn : 0 ≤ n ∧ n < len) (hr : ∀ g v, V g (ρ x) v → ∃ b off, v = .pointer (some ⟨b, off, none⟩) ∧ V g r (.pointer (some ⟨b, off + n.toNat * sz, none⟩))) : OpS P o ρ S S r :=
 .value fun g w a _ hv => by
  obtain ⟨b, off, hu, h1⟩ := hr g _ (hv x (by simp [ho, Op.operands]))
  have k2 := (hy ▸ hv y (by simp [ho, Op.operands])).v_eq
  refine ⟨_, ?_, h1⟩
  simp only [execOp, ho, hu, k2, Sem.run_bind, run_indexAt_array (P := P) w T ⟨b, off, none⟩ k n (by simp [Program.elem, Program.arrayLen, hT])]
  simp only [Program.elem, Program.arrayLen, hT, if_pos hn, hE.run w, Result.andThen_ok, Addr.add_lit, Sem.run_pure]
theorem opS_index_sl {T E : TypeId} {x y : Operand} {z : Nat} {k : IntKind} {n : Int} {r : A} (ho : o.op = .indexAddr T x y) (hT : P.underlying T = some (.slice E)) (hE : SizeIs P E z)
  (hy : ρ y = .v (.int k n)) (hr : ∀ g w v, Inv g S w → V g (ρ x) v → ∃ b off m cap, v = .slice (some ⟨b, off, none⟩) m cap ∧ (0 ≤ n ∧ n < m) ∧ V g r (.pointer (some ⟨b, off + n.toNat * z, none⟩))) : OpS P o ρ S S r :=
 .value fun g w a hI hv => by
  obtain ⟨b, off, m, cap, hu, hn, h1⟩ := hr g w _ hI (hv x (by simp [ho, Op.operands]))
  have k2 := (hy ▸ hv y (by simp [ho, Op.operands])).v_eq
  refine ⟨_, ?_, h1⟩
  simp only [execOp, ho, hu, k2, Sem.run_bind, run_indexAt_slice (P := P) w T ⟨b, off, none⟩ m cap k n (by simp [Program.elem, hT]), if_pos hn]
  simp only [Program.elem, hT, hE.run w, Result.andThen_ok, Addr.add_lit, Sem.run_pure]
theorem row_part {g : G} {w : World} {b off n : Nat} {cur : Array Value} {ty : TypeId} {cs : List A} (k2 : w.heap[b]? = some (.cells cur ty (0, 0))) (k3 : Vs g cs (cur.toList.take cs.length)) (hn : off + n ≤ cs.length) :
  ∃ us : List Value, Vs g ((cs.drop off).take n) us ∧ us.length = n ∧ ∀ j x, us[j]? = some x → w.cell? ((⟨b, off, none⟩ : Addr).add j) = some x := by
 have h1 := k3.part off n
 have hl := h1.1
 have hl0 := k3.1
 simp only [List.length_take, List.length_drop, Array.length_toList] at hl hl0
 generalize hus : ((cur.toList.take cs.length).drop off).take n = us at h1
 refine ⟨us, h1, by have := h1.1; simp at this; omega, fun j x hj => ?_⟩
 rw [Addr.add_lit, cell_of_row w b _ cur ty _ k2]
 rw [← hus, List.getElem?_take] at hj
 split at hj
 ·rw [List.getElem?_drop, List.getElem?_take] at hj
  split at hj
  ·simpa using hj
  ·cases hj
 ·cases hj
theorem load_cells {g : G} {w : World} {b off n : Nat} {cur : Array Value} {ty : TypeId} {cs : List A} (k2 : w.heap[b]? = some (.cells cur ty (0, 0))) (k3 : Vs g cs (cur.toList.take cs.length)) (hn : off + n ≤ cs.length) :
  ∃ us : List Value, (loadCells ⟨b, off, none⟩ n).run P w = .ok us.toArray w ∧ Vs g ((cs.drop off).take n) us ∧ us.length = n ∧ ∀ j x, us[j]? = some x → w.cell? ((⟨b, off, none⟩ : Addr).add j) = some x := by
 obtain ⟨us, h1, h2, h3⟩ := row_part k2 k3 hn
 have := run_loadCells_list (P := P) w ⟨b, off, none⟩ us h3
 rw [h2] at this
 exact ⟨us, this, h1, h2, h3⟩
theorem opV_load {T : TypeId} {d : TypeDesc} {x : Operand} {p off : Nat} {cs : List A} {q : A} (ho : o.op = .load T x) (hT : P.underlying T = some d) (hd : aggT d = false) (hx : Pl (ρ x) = some (p, off))
  (hp : S.ob p = some (.cells cs)) (hq : cs[off]? = some q) : OpV P o ρ S q :=
 fun g w a hI hv => by
  obtain ⟨b', s, h, hu⟩ := (hv x (by simp [ho, Op.operands])).pl hx
  rcases hI.cells p cs hp with ⟨k1, _⟩ | ⟨b, t, k1, cur, ty, k2, k2', k3⟩
  ·rw [k1] at h; cases h
  rw [k1] at h; simp at h
  obtain ⟨rfl, _⟩ := h
  have hlt : off < cs.length := (List.getElem?_eq_some_iff.1 hq).1
  have hl := k3.1
  simp only [List.length_take, Array.length_toList] at hl
  have hc : w.cell? ⟨b, off, none⟩ = some cur[off] := by rw [cell_of_row w b off cur ty _ k2]; simp [show off < cur.size by omega]
  have := k3.2 off q cur[off] hq (by rw [List.getElem?_take, if_pos hlt]; simp [show off < cur.size by omega])
  exact ⟨cur[off], by simp [execOp, ho, hu, Instr.loadAt, Instr.sureAddr, loadVar, run_isAgg hT, hd, hc], this.1⟩
theorem Vs.agg {g : G} {cs : List A} {us : List Value} (h : Vs g cs us) : V g (.agg cs) (.agg us.toArray) :=
 .agg _ _ (by simpa using h.1) (by simpa using h.one) (fun i c x e1 e2 => (h.2 i c x e1 (by simpa using e2)).1)
theorem opV_load_agg {T : TypeId} {d : TypeDesc} {x : Operand} {p off n : Nat} {cs : List A} (ho : o.op = .load T x) (hT : P.underlying T = some d) (hd : aggT d = true) (hs : SizeIs P T n) (hx : Pl (ρ x) = some (p, off))
  (hp : S.ob p = some (.cells cs)) (hn : off + n ≤ cs.length) : OpV P o ρ S (.agg ((cs.drop off).take n)) :=
 fun g w a hI hv => by
  obtain ⟨b', s, h, hu⟩ := (hv x (by simp [ho, Op.operands])).pl hx
  rcases hI.cells p cs hp with ⟨k1, _⟩ | ⟨b, t, k1, cur, ty, k2, k2', k3⟩
  ·rw [k1] at h; cases h
  rw [k1] at h; simp at h
  obtain ⟨rfl, _⟩ := h
  obtain ⟨us, h1, h2, _⟩ := load_cells (P := P) k2 k3 hn
  exact ⟨.agg us.toArray, by simp [execOp, ho, hu, Instr.loadAt, Instr.sureAddr, loadVar, run_isAgg hT, hd, hs.run w, h1], h2.agg⟩
theorem V.dp_at {g : G} {S : Hp} {w : World} (hI : Inv g S w) {t : Ty} {x : t.T} {v : Value} (hd : t.data = true) (h : V g (.dp t x) v) : ∃ b off us, v = .pointer (some ⟨b, off, none⟩) ∧ Vs g (encA t x) us ∧ us.length = t.size ∧ ∀ j y, us[j]? = some y → w.cell? ((⟨b, off, none⟩ : Addr).add j) = some y := by
 cases h with
 | dp _ _ b off f hm =>
  have hl := encD_len t x
  refine ⟨b, off, (List.range t.size).map f, rfl, VDs.cells t x _ hd ⟨by simp [hl], fun j c y e1 e2 => ?_⟩, by simp, fun j y e => ?_⟩
  ·have := (hm j c e1).2
   simp only [List.getElem?_map, Option.map_eq_some_iff] at e2
   obtain ⟨k, hk, rfl⟩ := e2
   have hj : j < t.size := by rw [← hl]; exact (List.getElem?_eq_some_iff.1 e1).1
   rw [List.getElem?_range hj] at hk
   obtain rfl := Option.some.inj hk
   exact this
  ·simp only [List.getElem?_map, Option.map_eq_some_iff] at e
   obtain ⟨k, hk, rfl⟩ := e
   have hj : j < t.size := by
    rcases Nat.lt_or_ge j t.size with h | h
    ·exact h
    ·rw [List.getElem?_eq_none (by simpa using h)] at hk; cases hk
   rw [List.getElem?_range hj] at hk
   obtain rfl := Option.some.inj hk
   have hc : (encD t x)[j]? = some ((encD t x)[j]'(by rw [hl]; exact hj)) := List.getElem?_eq_getElem _
   obtain ⟨cur, ty, fz, q1, q2⟩ := hI.mem _ _ _ (hm j _ hc).1
   rw [Addr.add_lit, cell_of_row w b _ cur ty _ q1]; exact q2
theorem opV_load_dp {T : TypeId} {d : TypeDesc} {x : Operand} {t : Ty} {y : t.T} {r : A} (ho : o.op = .load T x) (hT : P.underlying T = some d) (hs : SizeIs P T t.size) (hx : ρ x = .dp t y) (hd : t.data = true) (hr : if aggT d = true then r = .agg (encA t y) else encA t y = [r]) : OpV P o ρ S r :=
 fun g w a hI hv => by
  obtain ⟨b, off, us, hu, h1, h2, h3⟩ := V.dp_at hI hd (hx ▸ hv x (by simp [ho, Op.operands]))
  cases ha : aggT d with
  | true =>
   rw [ha, if_pos rfl] at hr; subst hr
   have := run_loadCells_list (P := P) w ⟨b, off, none⟩ us h3
   rw [h2] at this
   exact ⟨.agg us.toArray, by simp [execOp, ho, hu, Instr.loadAt, Instr.sureAddr, loadVar, run_isAgg hT, ha, hs.run w, this], h1.agg⟩
  | false =>
   rw [ha, if_neg (by simp)] at hr
   rw [hr] at h1
   match us, h1 with
   | [u], h1 =>
    have := h3 0 u rfl
    rw [Addr.add_lit, Nat.add_zero] at this
    exact ⟨u, by simp [execOp, ho, hu, Instr.loadAt, Instr.sureAddr, loadVar, run_isAgg hT, ha, this], (h1.2 0 r u rfl rfl).1⟩
   | [], h1 => exact absurd h1.1 (by simp)
   | _ :: _ :: _, h1 => exact absurd h1.1 (by simp)
def put (cs : List A) (off : Nat) (ps : List A) : List A := cs.take off ++ (ps ++ cs.drop (off + ps.length))
theorem put_len {cs ps : List A} {off : Nat} (h : off + ps.length ≤ cs.length) : (put cs off ps).length = cs.length := by simp [put]; omega
theorem Vs.put {g : G} {cs ps : List A} {vs us : List Value} (h : Vs g cs vs) (k : Vs g ps us) {off : Nat} (ho : off + ps.length ≤ cs.length) : Vs g (put cs off ps) (vs.take off ++ (us ++ vs.drop (off + us.length))) := by
 unfold Bm.put
 have h1 := h.part 0 off
 have h2 := h.part (off + ps.length) (cs.length - (off + ps.length))
 simp only [List.drop_zero] at h1
 refine h1.append (k.append ?_)
 have e1 : (cs.drop (off + ps.length)).take (cs.length - (off + ps.length)) = cs.drop (off + ps.length) := List.take_of_length_le (by simp)
 have e2 : (vs.drop (off + ps.length)).take (cs.length - (off + ps.length)) = vs.drop (off + us.length) := by rw [k.1]; exact List.take_of_length_le (by rw [List.length_drop, h.1]; omega)
 rwa [e1, e2] at h2
theorem Inv.store {g : G} {S : Hp} {w : World} (h : Inv g S w) {p b off : Nat} {s : Nat × Nat} {cs ps : List A} {us : List Value} (hp : S.ob p = some (.cells cs)) (hg : g.at' p = some (some b, s)) (hv : Vs g ps us) (hn : off + ps.length ≤ cs.length) :
  ∃ cur ty, w.heap[b]? = some (.cells cur ty (0, 0)) ∧ off + us.length ≤ cur.size ∧ Inv g (S.set p (.cells (put cs off ps))) (w.setRow b (cur.toList.take off ++ us ++ cur.toList.drop (off + us.length)).toArray) ∧
   Ext S g w (S.set p (.cells (put cs off ps))) g (w.setRow b (cur.toList.take off ++ us ++ cur.toList.drop (off + us.length)).toArray) := by
 rcases h.cells p cs hp with ⟨k1, _⟩ | ⟨b', t, k1, cur, ty, k2, k2', k3⟩
 ·rw [k1] at hg; cases hg
 have hg0 := hg
 rw [k1] at hg; simp at hg
 obtain ⟨rfl, rfl⟩ := hg
 have hl := k3.1
 simp only [List.length_take, Array.length_toList] at hl
 have hul := hv.1
 obtain ⟨h1, h2⟩ := h.write (w' := w.setRow b' (cur.toList.take off ++ us ++ cur.toList.drop (off + us.length)).toArray) (y := .cells (put cs off ps)) hp k1 (size_setRow ..) (fun k hk => setRow_other w b' k _ hk) rfl rfl rfl
  ⟨(put_len hn).symm, _, ty, setRow_heap w b' cur _ ty _ k2, by simp; omega, by
   rw [put_len hn]
   have := k3.put hv hn
   have e : ((cur.toList.take off ++ us ++ cur.toList.drop (off + us.length)).toArray.toList).take cs.length = (cur.toList.take cs.length).take off ++ (us ++ (cur.toList.take cs.length).drop (off + us.length)) := by
    apply List.ext_getElem?
    intro j
    have hl2 : cur.toList.length = cur.size := Array.length_toList
    simp only [List.append_assoc, List.getElem?_take, List.getElem?_append, List.length_take, List.getElem?_drop]
    have m1 : min off cur.toList.length = off := by omega
    have m2 : min off (min cs.length cur.toList.length) = off := by omega
    rw [m1, m2]
    by_cases c1 : j < off
    ·simp [c1, show j < cs.length by omega]
    ·by_cases c2 : j - off < us.length
     ·simp [c1, c2, show j < cs.length by omega]
     ·simp only [c1, c2, if_false, show off + us.length + (j - off - us.length) = j by omega]
   rw [e]; exact this⟩
 exact ⟨cur, ty, k2, by omega, h1, h2⟩
theorem opS_store {T : TypeId} {x y : Operand} {p off n : Nat} {cs ps : List A} (ho : o.op = .store T x y) (hs : SizeIs P T n) (hx : Pl (ρ x) = some (p, off)) (hy : (ρ y).cells = some ps) (hl : ps.length = n)
  (hp : S.ob p = some (.cells cs)) (hn : off + n ≤ cs.length) : OpS P o ρ S (S.set p (.cells (put cs off ps))) .junk := by
 intro g w a next Q hI hv K
 obtain ⟨b, s, h, hu⟩ := (hv x (by simp [ho, Op.operands])).pl hx
 have e2 := (hv y (by simp [ho, Op.operands])).cells hy
 obtain ⟨cur, ty, k2, k2', h3, h4⟩ := hI.store (off := off) hp h e2 (by omega)
 unfold Oper.wp
 have hsz : (a.eval y).cells.size = n := by have := e2.1; simp at this; omega
 have hst := run_storeCells_at P b off ty (a.eval y).cells.toList 0 cur w k2 (by simpa using k2') e2.one
 simp only [execOp, ho, hu, Instr.storeAt, Instr.sureAddr, pure_bind, storeVar, Sem.run_bind, hs.run w, Result.andThen_ok, hsz, ne_eq, not_true_eq_false, if_false]
 simp only [Nat.add_zero] at hst
 simp only [hst, Result.andThen_ok, Sem.run_pure]
 exact K _ g _ (.junk _) h3 h4
theorem Vs.all {g : G} {cs : List A} {vs : Array Value} (h : Vs g cs vs.toList) : Vs g cs (vs.toList.take cs.length) := by
 rw [List.take_of_length_le (by rw [h.1]; exact Nat.le_refl _)]; exact h
theorem Inv.allocs {g : G} {S : Hp} {w : World} (h : Inv g S w) {q : Nat} (hf : S.fr q) {cs : List A} {vs : Array Value} (ty : TypeId) (hl : cs.length ≤ vs.size) (hv : Vs g cs (vs.toList.take cs.length)) :
  Inv (gput g q (some w.heap.size, (cs.length, vs.size))) (S.new q (.cells cs)) (w.alloc (.cells vs ty)) ∧ Ext S g w (S.new q (.cells cs)) (gput g q (some w.heap.size, (cs.length, vs.size))) (w.alloc (.cells vs ty)) :=
 h.alloc hf ⟨rfl, vs, ty, heap_alloc_new w _, rfl, hv.mono (gput_le (h.fresh q hf))⟩
end
end
end Go.Bm
set_option linter.unusedVariables false
set_option linter.unusedSimpArgs false
namespace Go.Bm
noncomputable section
open Go.RowKit
section
variable {P : Program} {o : Oper} {ρ : Operand → A} {S : Hp}
def Zs (zs : List A) (z : Value) : Prop := ∀ g, Vs g zs z.cells.toList
theorem zeros_zs {z : Value} (h : (z.cells.toList.all (·.oneCell')) = true) : Zs (zeros z) z := fun g => zeros_ok h g
def fillA (ρ : Operand → A) (place : Nat → Option (Nat × Nat)) : List A → List (Nat × Operand) → Option (List A)
 | cs, [] => some cs
 | cs, (i, x) :: r => match place i, (ρ x).cells with
  | some (off, size), some ps => bif Nat.beq ps.length size && Nat.ble (off + size) cs.length then fillA ρ place (put cs off ps) r else none
  | _, _ => none
theorem fillA_ok {g : G} {a : Act} {place : Nat → Option (Nat × Nat)} : ∀ (l : List (Nat × Operand)) (cs cs' : List A) (cells : Array Value), (∀ x ∈ l, V g (ρ x.2) (a.eval x.2)) → Vs g cs cells.toList → fillA ρ place cs l = some cs' →
  ∃ cells', Instr.fill place cells (l.map fun (i, x) => (i, a.eval x)) = some cells' ∧ Vs g cs' cells'.toList
 | [], cs, cs', cells, _, hc, h => by cases h; exact ⟨cells, rfl, hc⟩
 | (i, x) :: r, cs, cs', cells, hv, hc, h => by
  unfold fillA at h
  split at h
  ·rename_i off size ps h1 h2
   cases h3 : (Nat.beq ps.length size && Nat.ble (off + size) cs.length) with
   | false => rw [h3] at h; cases h
   | true =>
    rw [h3] at h; simp only [cond_true] at h
    simp only [Bool.and_eq_true] at h3
    have h31 := Nat.eq_of_beq_eq_true h3.1
    have h32 := Nat.le_of_ble_eq_true h3.2
    have hx := (hv (i, x) (List.mem_cons_self ..)).cells h2
    have hsz : (a.eval x).cells.size = size := by have := hx.1; rw [h31] at this; simpa using this.symm
    have hle : off + (a.eval x).cells.size ≤ cells.size := by have := hc.1; simp at this; omega
    have hsp := hc.put hx (off := off) (by omega)
    rw [← List.append_assoc] at hsp
    have hf := fold_take off (a.eval x).cells.toList cells (by simpa using hle)
    have harr : (a.eval x).cells.zipIdx.foldl (fun cs (y : Value × Nat) => cs.setIfInBounds (off + y.2) y.1) cells = (cells.toList.take off ++ (a.eval x).cells.toList ++ cells.toList.drop (off + (a.eval x).cells.toList.length)).toArray := by
     apply Array.ext'
     rw [← Array.foldl_toList, Array.toList_zipIdx, hf]
    obtain ⟨cells', h4, h5⟩ := fillA_ok r (Bm.put cs off ps) cs' (cells.toList.take off ++ (a.eval x).cells.toList ++ cells.toList.drop (off + (a.eval x).cells.toList.length)).toArray (fun y hy => hv y (List.mem_cons_of_mem _ hy)) (by simpa using hsp) h
    refine ⟨cells', ?_, h5⟩
    simp only [List.map_cons, Instr.fill, h1, hsz, ne_eq, not_true_eq_false, decide_false, Bool.false_or, decide_eq_true_eq]
    rw [if_neg (by omega)]
    rw [← h4]
    congr 1
  ·cases h
theorem opS_build {T : TypeId} {fs : Array Field} {it : TypeInfo} {z : Value} {cs : List A} {pl : Array (Nat × Nat)} {parts : Array (Nat × Operand)} (ho : o.op = .build T parts) (hT : P.underlying T = some (.struct fs))
  (hi : P.info? T = some it) (hz : it.zero = some z) (hz1 : (z.cells.toList.all (·.oneCell')) = true) (hpl : ∀ w : World, (fs.mapM fun f => (do pure (f.offset, ← sizeOf f.type) : Sem (Nat × Nat))).run P w = .ok pl w)
  (hf : fillA ρ (pl[·]?) (zeros z) parts.toList = some cs) : OpS P o ρ S S (.agg cs) :=
 .value fun g w a _ hv => by
  obtain ⟨cells', h1, h2⟩ := fillA_ok (g := g) (a := a) parts.toList (zeros z) cs z.cells (fun x hx => hv x.2 (by
   simp only [ho, Op.operands]
   rw [List.mem_toArray]
   exact List.mem_map.2 ⟨x, hx, rfl⟩)) (zeros_ok hz1 g) hf
  have hparts : (parts.map fun (i, x) => (i, a.eval x)).toList = parts.toList.map fun (i, x) => (i, a.eval x) := by simp
  refine ⟨.agg cells', ?_, .agg _ _ (by have := h2.1; simpa using this) h2.one (fun i c x e1 e2 => (h2.2 i c x e1 (by simpa using e2)).1)⟩
  simp only [execOp, ho, Instr.build, Sem.run_bind, zeroValue, typeInfo, run_program, Result.andThen_ok, hi, hz, Sem.run_pure, run_underlying hT, hpl, hparts, h1]
theorem opS_build_arr {T El : TypeId} {n es sz b : Nat} {z : Value} {cs : List A} {parts : Array (Nat × Operand)} (ho : o.op = .build T parts) (hT : P.underlying T = some (.array n El)) (hti : TI P T sz b z) (hE : SizeIs P El es)
  (hf : fillA ρ (fun i => some (i * es, es)) (zeros z) parts.toList = some cs) : OpS P o ρ S S (.agg cs) :=
 .value fun g w a _ hv => by
  obtain ⟨it, hi, hz, _, _, _, h6⟩ := hti
  obtain ⟨cells', h1, h2⟩ := fillA_ok (g := g) (a := a) parts.toList (zeros z) cs z.cells (fun x hx => hv x.2 (by
   simp only [ho, Op.operands]
   rw [List.mem_toArray]
   exact List.mem_map.2 ⟨x, hx, rfl⟩)) (zeros_ok h6 g) hf
  have hparts : (parts.map fun (i, x) => (i, a.eval x)).toList = parts.toList.map fun (i, x) => (i, a.eval x) := by simp
  refine ⟨.agg cells', ?_, .agg _ _ (by have := h2.1; simpa using this) h2.one (fun i c x e1 e2 => (h2.2 i c x e1 (by simpa using e2)).1)⟩
  simp only [execOp, ho, Instr.build, Sem.run_bind, zeroValue, typeInfo, run_program, Result.andThen_ok, hi, hz, Sem.run_pure, run_underlying hT, hE.run w, hparts, h1]
def elsA (ρ : Operand → A) (z : Nat) : List (Nat × Operand) → Nat → Option (List A)
 | [], _ => some []
 | (i, x) :: r, k => bif Nat.beq i k then match (ρ x).cells, elsA ρ z r (k + 1) with
   | some e, some es => bif Nat.beq e.length z then some (e ++ es) else none
   | _, _ => none
  else none
theorem elsA_ok {g : G} {a : Act} {z : Nat} : ∀ (l : List (Nat × Operand)) (k : Nat) (es : List A), (∀ x ∈ l, V g (ρ x.2) (a.eval x.2)) → elsA ρ z l k = some es →
  (l.map fun (i, x) => (i, a.eval x)) = ((l.map fun x => a.eval x.2).zipIdx k).map (fun x => (x.2, x.1)) ∧ es.length = l.length * z ∧
   (∀ v ∈ l.map fun x => a.eval x.2, v.cells.size = z) ∧ Vs g es ((l.map fun x => a.eval x.2).flatMap fun v => v.cells.toList)
 | [], k, es, _, h => by cases h; exact ⟨rfl, by simp, by simp, ⟨rfl, fun j c x h => by simp at h⟩⟩
 | (i, x) :: r, k, es, hv, h => by
  unfold elsA at h
  cases hik : Nat.beq i k with
  | false => rw [hik] at h; cases h
  | true =>
   rw [hik] at h; simp only [cond_true] at h
   split at h
   ·rename_i e es' h1 h2
    cases hl : Nat.beq e.length z with
    | false => rw [hl] at h; cases h
    | true =>
     rw [hl] at h; simp only [cond_true, Option.some.injEq] at h; subst h
     have hik := Nat.eq_of_beq_eq_true hik
     have hl := Nat.eq_of_beq_eq_true hl
     have hx := (hv (i, x) (List.mem_cons_self ..)).cells h1
     obtain ⟨e2, e1, e3, e4⟩ := elsA_ok r (k + 1) es' (fun y hy => hv y (List.mem_cons_of_mem _ hy)) h2
     have hsz : (a.eval x).cells.size = z := by have := hx.1; rw [hl] at this; simpa using this.symm
     refine ⟨?_, by rw [List.length_append, e1, hl, List.length_cons, Nat.add_mul]; omega, ?_, ?_⟩
     ·simp only [List.map_cons, List.zipIdx_cons, hik, e2]
     ·intro v hm
      simp only [List.map_cons, List.mem_cons] at hm
      rcases hm with rfl | hm
      ·exact hsz
      ·exact e3 v hm
     ·simp only [List.map_cons, List.flatMap_cons]
      exact hx.append e4
   ·cases h
theorem zs_reps {zs : List A} {z : Value} {sz n : Nat} (hz : Zs zs z) (hl : z.cells.size = sz) (h0 : 0 < sz) (g : G) : Vs g (reps n zs) (madeCells z.cells (n * sz)).toList := by
 have hzl : zs.length = sz := by have := (hz g).1; simp at this; omega
 subst hl
 refine ⟨by rw [reps_len, hzl]; simp [size_madeCells], fun j c x q1 q2 => ?_⟩
 have hj : j < n * zs.length := by have := (List.getElem?_eq_some_iff.1 q1).1; rwa [reps_len] at this
 rw [reps_get hj] at q1
 rw [Array.getElem?_toList, madeCells_get h0 (by rw [← hzl]; exact hj), ← hzl] at q2
 exact (hz g).2 _ c x q1 (by simpa using q2)
theorem opS_makeSlice {T E : TypeId} {z b n q : Nat} {zv : Value} {zs : List A} {x y : Operand} {k k' : IntKind} (ho : o.op = .makeSlice T x y) (hT : P.underlying T = some (.slice E)) (hE : TI P E z b zv) (h0 : 0 < z)
  (hx : ρ x = .v (.int k ((n : Nat) : Int))) (hy : ρ y = .v (.int k' ((n : Nat) : Int))) (hb : n * b ≤ 281474976710656) (hm : n ≤ 9223372036854775807) (hf : S.fr q) (hz : Zs zs zv) :
  OpS P o ρ S (S.new q (.cells (reps n zs))) (.tw (.loc q) z) := by
 intro g w a next Q hI hv K
 obtain ⟨i, t1, t2, t3, t4, t5, t6⟩ := hE
 subst t3 t4
 have e1 := (hx ▸ hv x (by simp [ho, Op.operands])).v_eq
 have e2 := (hy ▸ hv y (by simp [ho, Op.operands])).v_eq
 have hr := run_make (P := P) w T E i zv hT t1 t2 k k' ((n : Nat) : Int) ((n : Nat) : Int) (by omega) (by omega) (by rw [← Int.natCast_mul, Nat.mul_comm]; omega) (by omega)
 simp only [Int.toNat_natCast] at hr
 have hzl : zs.length = i.size := by have := (hz g).1; simp at this; omega
 have hsz : (madeCells zv.cells (n * i.size)).size = n * i.size := size_madeCells _ _
 obtain ⟨h1, h2⟩ := hI.allocs hf (cs := reps n zs) (vs := madeCells zv.cells (n * i.size)) E (by rw [reps_len, hzl, hsz]; exact Nat.le_refl _) (Vs.all (zs_reps hz t5 h0 g))
 unfold Oper.wp
 simp only [execOp, ho, e1, e2, Sem.run_bind, hr, Result.andThen_ok, Sem.run_pure]
 refine K _ _ _ (.tw (.loc q) i.size n w.heap.size n _ (by rw [show (Ref.loc q).id = q from rfl, gput_at, reps_len, hzl]) (Nat.le_refl _) (by simp only [maxLen]; omega) (by omega) 0 (fun _ => rfl)) h1 h2
def Bd (ρ : Operand → A) (d : Nat) : Option Operand → Nat → Prop
 | none, n => n = d
 | some x, n => ∃ k, ρ x = .v (.int k ((n : Nat) : Int))
theorem Bd.run {g : G} {a : Act} {x : Operand} {d n : Nat} (hv : V g (ρ x) (a.eval x)) (h : Bd ρ d (some x) n) {y : Nat} (c : BoundsCode) (hn : n ≤ y) (w : World) : (Instr.sliceBound (a.eval x) y c).run P w = .ok n w := by
 obtain ⟨k, h⟩ := h
 have := run_bound (P := P) (h ▸ hv).v_eq c ⟨by omega, by omega⟩ w (y := y)
 simpa using this
theorem opS_slice {T E : TypeId} {x : Operand} {lo hi : Option Operand} {z l h : Nat} {r : A} (ho : o.op = .slice T x lo hi none) (hT : P.underlying T = some (.slice E)) (hE : SizeIs P E z) (hlo : Bd ρ 0 lo l) (h1 : l ≤ h)
  (hr : ∀ g w v, Inv g S w → V g (ρ x) v → ∃ ad n cap, v = .slice ad n cap ∧ Bd ρ n hi h ∧ h ≤ cap ∧ V g r (.slice (if cap = l then ad else ad.map (·.add (l * z))) (h - l) (cap - l))) : OpS P o ρ S S r :=
 .value fun g w a hI hv => by
  obtain ⟨ad, n, cap, hu, hhi, h2, hV⟩ := hr g w _ hI (hv x (by simp [ho, Op.operands]))
  refine ⟨_, ?_, hV⟩
  have hbs : (Instr.sliceBounds true n cap (lo.map a.eval) (hi.map a.eval) none).run P w = .ok (l, h, cap) w := by
   have hh : ∀ y, hi = some y → (Instr.sliceBound (a.eval y) cap .sliceAcap).run P w = .ok h w := fun y hy => by
    subst hy; exact Bd.run (hv y (by simp [ho, Op.operands])) hhi _ (by omega) w
   have hl : ∀ y, lo = some y → (Instr.sliceBound (a.eval y) h .sliceB).run P w = .ok l w := fun y hy => by
    subst hy; exact Bd.run (hv y (by simp [ho, Op.operands])) hlo _ h1 w
   cases hi with
   | none =>
    have hhn : h = n := hhi
    subst hhn
    cases lo with
    | none =>
     have : l = 0 := hlo
     subst this
     simp [Instr.sliceBounds]
    | some y => simp [Instr.sliceBounds, hl y rfl]
   | some y =>
    cases lo with
    | none =>
     have : l = 0 := hlo
     subst this
     simp [Instr.sliceBounds, hh y rfl]
    | some y' => simp [Instr.sliceBounds, hh y rfl, hl y' rfl]
  simp only [execOp, ho, hu, Option.map_none, Sem.run_bind, Instr.sliceAt, run_underlying hT, Result.andThen_ok, Instr.slice, hbs, hE.run w, Sem.run_pure]
theorem opS_slice3 {T E : TypeId} {x hi mx : Operand} {lo : Option Operand} {z l h m : Nat} {r : A} (ho : o.op = .slice T x lo (some hi) (some mx)) (hT : P.underlying T = some (.slice E)) (hE : SizeIs P E z)
  (hlo : Bd ρ 0 lo l) (hhi : Bd ρ 0 (some hi) h) (hmx : Bd ρ 0 (some mx) m) (h1 : l ≤ h) (h2 : h ≤ m)
  (hr : ∀ g w v, Inv g S w → V g (ρ x) v → ∃ ad n cap, v = .slice ad n cap ∧ m ≤ cap ∧ V g r (.slice (if m = l then ad else ad.map (·.add (l * z))) (h - l) (m - l))) : OpS P o ρ S S r :=
 .value fun g w a hI hv => by
  obtain ⟨ad, n, cap, hu, h3, hV⟩ := hr g w _ hI (hv x (by simp [ho, Op.operands]))
  refine ⟨_, ?_, hV⟩
  have q1 := Bd.run (P := P) (hv mx (by simp [ho, Op.operands])) hmx (y := cap) BoundsCode.slice3Acap (by omega) w
  have q2 := Bd.run (P := P) (hv hi (by simp [ho, Op.operands])) hhi (y := m) BoundsCode.slice3B h2 w
  have hbs : (Instr.sliceBounds true n cap (lo.map a.eval) (some (a.eval hi)) (some (a.eval mx))).run P w = .ok (l, h, m) w := by
   cases lo with
   | none =>
    have : l = 0 := hlo
    subst this
    simp [Instr.sliceBounds, q1, q2]
   | some y =>
    have q3 := Bd.run (P := P) (hv y (by simp [ho, Op.operands])) hlo (y := h) BoundsCode.slice3C h1 w
    simp [Instr.sliceBounds, q1, q2, q3]
  simp only [execOp, ho, hu, Option.map_some, Sem.run_bind, Instr.sliceAt, run_underlying hT, Result.andThen_ok, Instr.slice, hbs, hE.run w, Sem.run_pure]
theorem opS_slice_arr {T E : TypeId} {x : Operand} {n : Nat} {r : A} (ho : o.op = .slice T x none none none) (hT : P.underlying T = some (.array n E)) (hE : ∃ z, SizeIs P E z)
  (hr : ∀ g w v, Inv g S w → V g (ρ x) v → ∃ b off, v = .pointer (some ⟨b, off, none⟩) ∧ V g r (.slice (some ⟨b, off, none⟩) n n)) : OpS P o ρ S S r :=
 .value fun g w a hI hv => by
  obtain ⟨b, off, hu, hV⟩ := hr g w _ hI (hv x (by simp [ho, Op.operands]))
  obtain ⟨z, hE⟩ := hE
  have hp' := run_sliceAt_array_all (P := P) w T ⟨b, off, none⟩ (by simp [Program.arrayLen, Program.elem, hT])
  have hel : P.elem T = E := by simp [Program.elem, hT]
  have hal : P.arrayLen T = n := by simp [Program.arrayLen, hT]
  rw [hel, hE.run w, hal] at hp'
  refine ⟨.slice (some ⟨b, off, none⟩) n n, ?_, hV⟩
  simp only [execOp, ho, hu, Sem.run_bind, Option.map_none, hp', Result.andThen_ok, slicedAt, Sem.run_pure]
  simp [Addr.add_lit]
def Given (g : G) (w : World) (v : Value) (sz m : Nat) (ps : List A) : Prop := ∃ (A2 : Option Addr) (cap2 : Nat) (us : List Value), v = .slice A2 m cap2 ∧ Vs g ps us ∧ us.length = m * sz ∧ (0 < m → ∃ q, A2 = some q ∧ ∀ j x, us[j]? = some x → w.cell? (q.add j) = some x)
theorem Given.zero {g : G} {w : World} {v : Value} {sz : Nat} (h : ∃ ad c, v = .slice ad 0 c) : Given g w v sz 0 [] := let ⟨ad, c, h⟩ := h; ⟨ad, c, [], h, .nil, by simp, fun h => absurd h (Nat.lt_irrefl _)⟩
theorem Inv.given {g : G} {S : Hp} {w : World} (h : Inv g S w) {i b off sz m cap : Nat} {s : Nat × Nat} {cs : List A} (hp : S.ob i = some (.cells cs)) (hg : g.at' i = some (some b, s)) (hn : off + m * sz ≤ cs.length) :
  Given g w (.slice (some ⟨b, off, none⟩) m cap) sz m ((cs.drop off).take (m * sz)) := by
 rcases h.cells i cs hp with ⟨k1, _⟩ | ⟨b', t, k1, cur, ty, k2, k2', k3⟩
 ·rw [k1] at hg; cases hg
 rw [k1] at hg; simp at hg
 obtain ⟨rfl, _⟩ := hg
 obtain ⟨us, h2, h3, h4⟩ := row_part k2 k3 hn
 exact ⟨_, cap, us, rfl, h2, h3, fun _ => ⟨_, rfl, h4⟩⟩
theorem OpS.app {T : TypeId} {x y : Operand} {S' : Hp} {pv : A} (ho : o.op = .call { callee := .builtin .append, args := #[x, y], argTypes := #[T, T] })
  (h : ∀ (g : G) (w : World) (a : Act), Inv g S w → V g (ρ x) (a.eval x) → V g (ρ y) (a.eval y) → ∃ v g' w', (Builtin.append_ #[T, T] o.type #[a.eval x, a.eval y]).run P w = .ok v w' ∧ V g' pv v ∧ Inv g' S' w' ∧ Ext S g w S' g' w') : OpS P o ρ S S' pv := by
 intro g w a next Q hI hv K
 obtain ⟨v, g', w', h1, h2, h3, h4⟩ := h g w a hI (hv x (by simp [ho, Op.operands, Call.operands])) (hv y (by simp [ho, Op.operands, Call.operands]))
 unfold Oper.wp
 simp only [execOp, ho, resolve, invoke, builtin, Sem.run_bind, Sem.run_pure, Result.andThen_ok, List.map_toArray, List.map_cons, List.map_nil, h1]
 exact K v g' w' h2 h3 h4
theorem Inv.undrew {g : G} {S S' : Hp} {g' : G} {w w' : World} (h : Ext S g w.drew S' g' w') : Ext S g w S' g' w' := ⟨h.le, h.os, h.tape, h.output, h.size, h.frame, h.own, h.dom, h.fr, h.memo, h.lpo⟩
theorem grown_row {g : G} {ps olds : List A} {us os : List Value} {ex : List Value} (h : Vs g olds os) (k : Vs g ps us) : Vs g (olds ++ ps) ((os ++ us ++ ex).take (olds ++ ps).length) := by
 have := h.append k
 rw [List.take_append_of_le_length (by rw [this.1]; exact Nat.le_refl _), List.take_of_length_le (by rw [this.1]; exact Nat.le_refl _)]
 exact this
theorem append_nil_at {S : Hp} {T E ty : TypeId} {z b m q : Nat} {zv : Value} {ps : List A} {g : G} {w : World} {vy : Value} (ad : Option Addr) (hT : P.underlying T = some (.slice E)) (hE : TI P E z b zv) (hI : Inv g S w)
  (hy : Given g w vy z m ps) (hf : S.fr q) (hb : m * b ≤ 140737488355328) (hmax : m ≤ maxLen) : ∃ v g' w', (Builtin.append_ #[T, T] ty #[.slice ad 0 0, vy]).run P w = .ok v w' ∧ V g' (.tw (.loc q) z) v ∧ Inv g' (S.new q (.cells ps)) w' ∧ Ext S g w (S.new q (.cells ps)) g' w' := by
  obtain ⟨i, t1, t2, t3, t4, t5, t6⟩ := hE
  subst t3 t4
  obtain ⟨A2, cap2, us, hu2, hpv, hul, hA2⟩ := hy
  rw [hu2]
  rcases Nat.eq_zero_or_pos m with rfl | hm
  ·have hps : ps = [] := List.eq_nil_of_length_eq_zero (by rw [hpv.1, hul]; simp)
   subst hps
   obtain ⟨q1, q2⟩ := hI.emp hf
   exact ⟨_, _, w, run_append_zeroA w T E ty hT ⟨i, t1, rfl⟩ ad A2 0 0 cap2 (Nat.le_refl _), .tw0 (.loc q) i.size ad gput_at, q1, q2⟩
  ·obtain ⟨ad2, rfl, hnews⟩ := hA2 hm
   have hge := grownCap_ge w m 0 E
   have hcm := grownCap_le_maxLen w m 0 E hmax
   have hcells : (us.toArray ++ Builtin.zeroCells zv.cells (grownCap w m 0 E - m)).size = grownCap w m 0 E * i.size := by
    simp only [Array.size_append, List.size_toArray, size_zeroCells, t5, hul, ← Nat.add_mul]
    congr 1; omega
   have hle : m * i.size ≤ grownCap w m 0 E * i.size := Nat.mul_le_mul_right _ hge
   have hr : ∃ w', (Builtin.append_ #[T, T] ty #[.slice ad 0 0, .slice (some ad2) m cap2]).run P w = .ok (.slice (some ⟨w.heap.size, 0, none⟩) m (grownCap w m 0 E)) w' ∧ w' = w.drew.alloc (.cells (us.toArray ++ Builtin.zeroCells zv.cells (grownCap w m 0 E - m)) E) := by
    cases ad with
    | none => exact ⟨_, run_append_nil (P := P) w T ty E i zv hT t1 t2 ad2 m cap2 us hul hnews hm (by simp only [maxLen] at hmax; omega) (by omega), rfl⟩
    | some ad =>
     have := run_append_grow (P := P) w T ty E i zv hT t1 t2 ad 0 0 [] (by simp) (fun j v hj => by simp at hj) ad2 m cap2 us hul hnews (by omega) (by simp only [maxLen] at hmax; omega) (growslice_fits (by omega) (by simpa using hb))
     simp only [Nat.zero_add] at this
     exact ⟨_, this, by simp⟩
   obtain ⟨w', hr, rfl⟩ := hr
   obtain ⟨q1, q2⟩ := hI.drew.allocs hf (cs := ps) (vs := us.toArray ++ Builtin.zeroCells zv.cells (grownCap w m 0 E - m)) E (by rw [hcells, hpv.1, hul]; exact hle)
    (by have := grown_row (g := g) (olds := []) (os := []) (ex := (Builtin.zeroCells zv.cells (grownCap w m 0 E - m)).toList) .nil hpv; simpa using this)
   refine ⟨_, _, _, hr, ?_, q1, Inv.undrew q2⟩
   refine .tw (.loc q) i.size m _ _ _ ?_ hge hcm (Nat.le_of_eq hcells.symm) 0 (fun _ => rfl)
   rw [show (Ref.loc q).id = q from rfl, gput_at, hpv.1, hul]; rfl
theorem opS_append_nil {T E : TypeId} {z b m q : Nat} {zv : Value} {ps : List A} {x y : Operand} (ho : o.op = .call { callee := .builtin .append, args := #[x, y], argTypes := #[T, T] }) (hT : P.underlying T = some (.slice E)) (hE : TI P E z b zv)
  (hx : ∀ g v, V g (ρ x) v → ∃ ad, v = .slice ad 0 0) (hy : ∀ g w v, Inv g S w → V g (ρ y) v → Given g w v z m ps) (hf : S.fr q) (hb : m * b ≤ 140737488355328) (hmax : m ≤ maxLen) : OpS P o ρ S (S.new q (.cells ps)) (.tw (.loc q) z) :=
 .app ho fun g w a hI e1 e2 => by
  obtain ⟨ad, hu⟩ := hx g _ e1
  rw [hu]
  exact append_nil_at ad hT hE hI (hy g w _ hI e2) hf hb hmax
theorem opS_append {T E : TypeId} {z b m n p q : Nat} {zv : Value} {cs ps : List A} {x y : Operand} (ho : o.op = .call { callee := .builtin .append, args := #[x, y], argTypes := #[T, T] }) (hT : P.underlying T = some (.slice E)) (hE : TI P E z b zv) (h0 : 0 < z)
  (hp : S.ob p = some (.cells cs)) (hx : ∀ g w v, Inv g S w → V g (ρ x) v → (∃ ad, v = .slice ad 0 0 ∧ n = 0) ∨ ∃ bk s cap d, g.at' p = some (some bk, s) ∧ v = .slice (some ⟨bk, d, none⟩) n cap ∧ (cap ≠ 0 → d = 0) ∧ n ≤ cap ∧ cap ≤ maxLen ∧ cap * z ≤ s.2) (hcl : n * z ≤ cs.length)
  (hy : ∀ g w v, Inv g S w → V g (ρ y) v → Given g w v z m ps) (hf : S.fr q) (hb : (n + m) * b ≤ 140737488355328) (hmax : n + m ≤ maxLen) : OpS P o ρ S ((S.del p).new q (.cells (cs.take (n * z) ++ ps))) (.tw (.loc q) z) :=
 .app ho fun g w a hI e1 e2 => by
  obtain ⟨i, t1, t2, t3, t4, t5, t6⟩ := hE
  subst t3 t4
  have hE' : SizeIs P E i.size := ⟨i, t1, rfl⟩
  obtain ⟨A2, cap2, us, hu2, hpv, hul, hA2⟩ := hy g w _ hI e2
  rw [hu2]
  have hless1 : ∀ k, ((S.del p).new q (.cells (cs.take (n * i.size) ++ ps))).fr k → (S.new q (.cells (cs.take (n * i.size) ++ ps))).fr k := fun k hk => hk
  have hless2 : ∀ k y, ((S.del p).new q (.cells (cs.take (n * i.size) ++ ps))).ob k = some y → (S.new q (.cells (cs.take (n * i.size) ++ ps))).ob k = some y := fun k y hk => by
   have hk : (if k = q then some (.cells (cs.take (n * i.size) ++ ps)) else if k = p then none else S.ob k) = some y := hk
   show (if k = q then some (.cells (cs.take (n * i.size) ++ ps)) else S.ob k) = some y
   by_cases h1 : k = q
   ·rwa [if_pos h1] at hk ⊢
   ·rw [if_neg h1] at hk ⊢
    split at hk
    ·cases hk
    ·exact hk
  have less : ∀ (w' : World) (g' : G) (v : Value), V g' (.tw (.loc q) i.size) v → Inv g' (S.new q (.cells (cs.take (n * i.size) ++ ps))) w' → Ext S g w (S.new q (.cells (cs.take (n * i.size) ++ ps))) g' w' → V g' (.tw (.loc q) i.size) v ∧ Inv g' ((S.del p).new q (.cells (cs.take (n * i.size) ++ ps))) w' ∧ Ext S g w ((S.del p).new q (.cells (cs.take (n * i.size) ++ ps))) g' w' :=
   fun w' g' v k1 k2 k3 => ⟨k1, k2.less hless2 hless1, k3.trans (Ext.less hless2 hless1)⟩
  rcases hx g w _ hI e1 with ⟨ad, hu, rfl⟩ | ⟨bk, s, cap, d, hg, hu, hd, hnc, hcm, hph⟩
  ·rw [hu, ← hu2]
   simp only [Nat.zero_mul, List.take_zero, List.nil_append, Nat.zero_add] at less hb hmax ⊢
   obtain ⟨v, g', w', k1, k2, k3, k4⟩ := append_nil_at (P := P) (ty := o.type) ad hT ⟨i, t1, t2, rfl, rfl, t5, t6⟩ hI (hy g w _ hI e2) hf hb hmax
   obtain ⟨r1, r2, r3⟩ := less w' g' v k2 k3 k4
   exact ⟨v, g', w', k1, r1, r2, r3⟩
  ·rw [hu]
   rcases Nat.eq_zero_or_pos m with rfl | hm
   ·have hps : ps = [] := List.eq_nil_of_length_eq_zero (by rw [hpv.1, hul]; simp)
    subst hps
    simp only [List.append_nil]
    obtain ⟨q1, q2⟩ := hI.ren (m := n * i.size) hp hf hg hcl
    exact ⟨_, _, w, run_append_zeroA w T E o.type hT hE' _ A2 n cap cap2 hnc, .tw (.loc q) i.size n bk cap s.2 gput_at hnc hcm hph d hd, q1, q2⟩
   ·obtain ⟨ad2, rfl, hnews⟩ := hA2 hm
    rcases hI.cells p cs hp with ⟨k1, _⟩ | ⟨b', t, k1, cur, ty, k2, k2', k3⟩
    ·rw [k1] at hg; cases hg
    rw [k1] at hg; simp at hg
    obtain ⟨rfl, rfl⟩ := hg
    have hl := k3.1
    simp only [List.length_take, Array.length_toList] at hl
    by_cases hroom : n + m ≤ cap
    ·obtain rfl := hd (by omega)
     have hnm : (n + m) * i.size ≤ cap * i.size := Nat.mul_le_mul_right _ hroom
     rw [Nat.add_mul] at hnm
     have hrun := run_append_room' (P := P) w T o.type E ty i hT t1 b' n cap cur k2 ad2 m cap2 us hul hnews hpv.one hroom (by rw [hul]; omega)
     have hcut : cur.toList.take (n * i.size) = (cur.toList.take cs.length).take (n * i.size) := by rw [List.take_take, Nat.min_eq_left hcl]
     have hold : Vs g (cs.take (n * i.size)) (cur.toList.take (n * i.size)) := by
      have := k3.part 0 (n * i.size)
      simp only [List.drop_zero] at this
      rw [hcut]; exact this
     have hnew := grown_row (ex := cur.toList.drop (n * i.size + us.length)) hold hpv
     obtain ⟨q1, q2⟩ := hI.grow (w' := w.setRow b' (cur.toList.take (n * i.size) ++ us ++ cur.toList.drop (n * i.size + us.length)).toArray) (cs' := cs.take (n * i.size) ++ ps) hp hf k1 (size_setRow ..) (fun k hk => setRow_other w b' k _ hk) rfl rfl rfl
      ⟨_, ty, setRow_heap w b' cur _ ty _ k2, by simp; omega, hnew⟩
     refine ⟨_, _, _, hrun, .tw (.loc q) i.size (n + m) b' cap t ?_ hroom hcm hph 0 (fun _ => rfl), q1, q2⟩
     rw [show (Ref.loc q).id = q from rfl, gput_at, List.length_append, List.length_take, Nat.min_eq_left hcl, hpv.1, hul, Nat.add_mul]
    ·have hge := grownCap_ge w (n + m) cap E
     have hcm2 := grownCap_le_maxLen w (n + m) cap E hmax
     obtain ⟨os, h1, h2, h3⟩ := row_part (off := 0) (n := n * i.size) k2 k3 (by omega)
     rw [List.drop_zero] at h1
     have hos : ∀ j v, os[j]? = some v → w.cell? ((⟨b', d, none⟩ : Addr).add j) = some v := fun j v hj => by
      by_cases hc0 : cap = 0
      ·have : n = 0 := by omega
       subst this
       have hos0 : os = [] := List.eq_nil_of_length_eq_zero (by rw [h2]; simp)
       rw [hos0] at hj
       simp at hj
      ·obtain rfl := hd hc0; exact h3 j v hj
     have hr := run_append_grow (P := P) w T o.type E i zv hT t1 t2 ⟨b', d, none⟩ n cap os h2 hos ad2 m cap2 us hul hnews (by omega) (by simp only [maxLen] at hmax; omega) (growslice_fits (by omega) hb)
     have hcells : (os.toArray ++ us.toArray ++ Builtin.zeroCells zv.cells (grownCap w (n + m) cap E - (n + m))).size = grownCap w (n + m) cap E * i.size := by
      simp only [Array.size_append, List.size_toArray, size_zeroCells, t5, h2, hul, ← Nat.add_mul]
      congr 1; omega
     have hle : (n + m) * i.size ≤ grownCap w (n + m) cap E * i.size := Nat.mul_le_mul_right _ hge
     have hlen : (cs.take (n * i.size) ++ ps).length = (n + m) * i.size := by rw [List.length_append, List.length_take, Nat.min_eq_left hcl, hpv.1, hul, Nat.add_mul]
     obtain ⟨q1, q2⟩ := hI.drew.allocs hf (cs := cs.take (n * i.size) ++ ps) (vs := os.toArray ++ us.toArray ++ Builtin.zeroCells zv.cells (grownCap w (n + m) cap E - (n + m))) E (by rw [hcells, hlen]; exact hle)
      (by have := grown_row (ex := (Builtin.zeroCells zv.cells (grownCap w (n + m) cap E - (n + m))).toList) h1 hpv; simpa using this)
     obtain ⟨r1, r2, r3⟩ := less _ _ (.slice (some ⟨w.heap.size, 0, none⟩) (n + m) (grownCap w (n + m) cap E)) (.tw (.loc q) i.size (n + m) _ _ _ (by rw [show (Ref.loc q).id = q from rfl, gput_at, hlen]; rfl) hge hcm2 (Nat.le_of_eq hcells.symm) 0 (fun _ => rfl)) q1 (Inv.undrew q2)
     exact ⟨_, _, _, hr, r1, r2, r3⟩
end
end
end Go.Bm
set_option linter.unusedVariables false
set_option linter.unusedSimpArgs false
namespace Go.Bm
noncomputable section
open Go.RowKit
structure TyE where
 d : TypeDesc
 size : Nat
 bytes : Nat
 zero : Value
 pl : List (Nat × Nat)
 t : Option Ty
 lt : Bool
inductive Tab where
 | nil
 | node (l : Tab) (v : Option TyE) (r : Tab)
def tget (t : Tab) : Nat → Option TyE :=
 Tab.rec (motive := fun _ => Nat → Option TyE) (fun _ => none) (fun _ v _ gl gr n => Nat.rec (motive := fun _ => Option TyE) v (fun n _ => Nat.rec (motive := fun _ => Option TyE) (gl (n / 2)) (fun _ _ => gr (n / 2)) (n % 2)) n) t
theorem tget_succ (l : Tab) (v : Option TyE) (r : Tab) (n : Nat) : tget (.node l v r) (n + 1) = bif Nat.beq (n % 2) 0 then tget l (n / 2) else tget r (n / 2) := by
 show Nat.rec (motive := fun _ => Option TyE) (tget l (n / 2)) (fun _ _ => tget r (n / 2)) (n % 2) = _
 cases n % 2 <;> rfl
structure TyOk (P : Program) (t : Nat) (e : TyE) : Prop where
 u : P.underlying t = some e.d
 ti : TI P t e.size e.bytes e.zero
 pl : ∀ fs, e.d = .struct fs → ∀ w : World, (fs.mapM fun f => (do pure (f.offset, ← sizeOf f.type) : Sem (Nat × Nat))).run P w = .ok e.pl.toArray w
 ts : ∀ t, e.t = some t → t.size = e.size
 tz : ∀ t, e.t = some t → Zs (encA t t.dflt) e.zero
structure EqTy (P : Program) (t : Nat) : Prop where
 held : P.stoodInHeld t = false
 guard : P.eqGuardType P.depth t = false
 names : ∀ fs, P.underlying t = some (.struct fs) → ∀ f ∈ fs.toList, f.name ≠ "_"
structure Env where
 tab : Tab
 eqs : List Nat
structure EnvOk (P : Program) (E : Env) : Prop where
 tab : ∀ t e, tget E.tab t = some e → TyOk P t e
 eqs : ∀ t, E.eqs.any (Nat.beq t) = true → EqTy P t
 mixed : P.follows .mixedOrders = true
def eqF (E : Env) (rec : Nat → List A → List A → Option Bool) : List Field → List A → List A → Option Bool
 | [], _, _ => some true
 | fd :: fs, cs, ds => match tget E.tab fd.type with
  | some ef => match rec fd.type ((cs.drop fd.offset).take ef.size) ((ds.drop fd.offset).take ef.size), eqF E rec fs cs ds with
   | some a, some b => some (band a b)
   | _, _ => none
  | none => none
def eqC (E : Env) : Nat → Nat → List A → List A → Option Bool
 | 0, _, _, _ => none
 | f + 1, T, cs, ds => match tget E.tab T with
  | some e => match e.d with
   | .int _ => match cs, ds with
    | [.v (.int k m)], [.v (.int k' n)] => if k = k' then some (ieql m n) else none
    | _, _ => none
   | .bool => match cs, ds with
    | [.v (.bool m)], [.v (.bool n)] => some (beql m n)
    | _, _ => none
   | .struct fs => bif E.eqs.any (Nat.beq T) then eqF E (eqC E f) fs.toList cs ds else none
   | _ => none
  | none => none
section
variable {P : Program} {E : Env}
def valOf (d : TypeDesc) (xs : List Value) (v : Value) : Prop := if aggT d = true then v = .agg xs.toArray else xs = [v]
theorem Vs.single {g : G} {c : A} {xs : List Value} (h : Vs g [c] xs) : ∃ x, xs = [x] ∧ V g c x := by
 have := h.1
 match xs, this with
 | [x], _ => exact ⟨x, rfl, (h.2 0 c x rfl rfl).1⟩
theorem run_part {t : TypeId} {e : TyE} (hk : TyOk P t e) {xs : Array Value} {off : Nat} {v : Value} (hv : valOf e.d ((xs.toList.drop off).take e.size) v) (w : World) : (part t xs off).run P w = .ok v w := by
 unfold valOf at hv
 unfold part
 simp only [Sem.run_bind, run_isAgg hk.u, Result.andThen_ok]
 split at hv
 ·rename_i ha
  rw [if_pos ha]
  simp only [Sem.run_bind, hk.ti.size.run w, Result.andThen_ok, Sem.run_pure, hv]
  congr 2
  apply Array.ext'
  simp [List.extract_eq_take_drop]
 ·rename_i ha
  rw [if_neg ha]
  have h0 : ((xs.toList.drop off).take e.size)[0]? = some v := by rw [hv]; rfl
  rw [List.getElem?_take] at h0
  split at h0
  ·rw [List.getElem?_drop] at h0
   have h1 : xs[off]? = some v := by simpa using h0
   rw [h1]; simp
  ·cases h0
theorem eqC_ok (hE : EnvOk P E) : ∀ (f T : Nat) (cs ds : List A) (b : Bool), eqC E f T cs ds = some b → ∀ (g : G) (xs ys : List Value) (k : Nat) (w : World) (e : TyE) (v v' : Value), tget E.tab T = some e → Vs g cs xs → Vs g ds ys → valOf e.d xs v → valOf e.d ys v' →
  (Op.equalIn (f + k) T v v').run P w = .ok b w
 | 0, _, _, _, _, h => by cases h
 | f + 1, T, cs, ds, b, h => by
  intro g xs ys k w e v v' he hc hd hv hv'
  have hk := hE.tab T e he
  have hu := hk.u
  unfold eqC at h
  rw [he] at h
  simp only at h
  rw [show f + 1 + k = (f + k) + 1 by omega]
  split at h
  ·rename_i kk hd'
   rw [hd'] at hv hv' hu
   split at h
   ·split at h
    ·rename_i hkk; subst hkk
     cases h
     obtain ⟨x, rfl, hx⟩ := hc.single
     obtain ⟨y, rfl, hy⟩ := hd.single
     obtain rfl : x = v := by simpa [valOf, aggT] using hv
     obtain rfl : y = v' := by simpa [valOf, aggT] using hv'
     rw [hx.v_eq, hy.v_eq, run_equalIn_int w (f + k) T _ _ _ _ hu]
     congr 1
    ·cases h
   ·cases h
  ·rename_i hd'
   rw [hd'] at hv hv' hu
   split at h
   ·cases h
    obtain ⟨x, rfl, hx⟩ := hc.single
    obtain ⟨y, rfl, hy⟩ := hd.single
    obtain rfl : x = v := by simpa [valOf, aggT] using hv
    obtain rfl : y = v' := by simpa [valOf, aggT] using hv'
    rw [hx.v_eq, hy.v_eq, run_equalIn_bool' w (f + k) T _ _ hu]; rfl
   ·cases h
  ·rename_i fs hd'
   rw [hd'] at hv hv' hu
   cases hq : E.eqs.any (Nat.beq T) with
   | false => rw [hq] at h; cases h
   | true =>
    rw [hq] at h; simp only [cond_true] at h
    have hT := hE.eqs T hq
    obtain rfl : v = .agg xs.toArray := by simpa [valOf, aggT] using hv
    obtain rfl : v' = .agg ys.toArray := by simpa [valOf, aggT] using hv'
    have hfo : P.fieldsOf T = fs := by simp [Program.fieldsOf, hu]
    rw [run_equalIn_agg w (f + k) T xs.toArray ys.toArray (by rw [hfo]; exact hu) hT.held, hfo]
    have hn := hT.names fs hu
    generalize fs.toList = l at h hn
    clear hu hd' hv hv' hfo
    induction l generalizing b with
    | nil => simp only [eqF, Option.some.injEq] at h; subst h; simp [Op.eqFields]
    | cons fd l ih =>
     unfold eqF at h
     split at h
     ·rename_i ef hef
      split at h
      ·rename_i a b' h1 h2
       cases h
       have hkf := hE.tab _ _ hef
       have pc := hc.part fd.offset ef.size
       have pd := hd.part fd.offset ef.size
       have ex : ∀ zs : List Value, ∀ ps : List A, Vs g ps zs → (∃ b ps', eqC E f fd.type ps ps' = some b) ∨ (∃ b ps', eqC E f fd.type ps' ps = some b) → ∃ v, valOf ef.d zs v := by
        intro zs ps hz hex
        unfold valOf
        by_cases ha : aggT ef.d = true
        ·exact ⟨.agg zs.toArray, by rw [if_pos ha]⟩
        ·have : ∃ c, ps = [c] := by
          rcases hex with ⟨b, ps', hb⟩ | ⟨b, ps', hb⟩
          ·cases f with
           | zero => cases hb
           | succ f =>
            unfold eqC at hb
            rw [hef] at hb
            simp only at hb
            split at hb <;> (try (split at hb)) <;> first
             | exact ⟨_, rfl⟩
             | (cases hb; done)
             | (rename_i hx _; rw [hx] at ha; exact absurd rfl ha)
             | (rename_i hx; rw [hx] at ha; exact absurd rfl ha)
          ·cases f with
           | zero => cases hb
           | succ f =>
            unfold eqC at hb
            rw [hef] at hb
            simp only at hb
            split at hb <;> (try (split at hb)) <;> first
             | exact ⟨_, rfl⟩
             | (cases hb; done)
             | (rename_i hx _; rw [hx] at ha; exact absurd rfl ha)
             | (rename_i hx; rw [hx] at ha; exact absurd rfl ha)
         obtain ⟨c, rfl⟩ := this
         obtain ⟨x, rfl, _⟩ := hz.single
         exact ⟨x, by rw [if_neg ha]⟩
       obtain ⟨u, hu1⟩ := ex _ _ pc (.inl ⟨_, _, h1⟩)
       obtain ⟨u', hu2⟩ := ex _ _ pd (.inr ⟨_, _, h1⟩)
       have hrec := eqC_ok hE f fd.type _ _ a h1 g _ _ k w ef u u' hef pc pd hu1 hu2
       have hp1 := run_part hkf (xs := xs.toArray) (off := fd.offset) (v := u) (by simpa using hu1) w
       have hp2 := run_part hkf (xs := ys.toArray) (off := fd.offset) (v := u') (by simpa using hu2) w
       simp only [Op.eqFields]
       rw [if_pos (hn fd (List.mem_cons_self ..))]
       simp only [Sem.run_bind, hp1, hp2, hrec, Result.andThen_ok]
       cases a with
       | true =>
        simp only [Bool.not_true, Bool.false_eq_true, if_false, Bool.true_and, band]
        exact ih b' h2 (fun f hf => hn f (List.mem_cons_of_mem _ hf))
       | false => simp [band]
      ·cases h
     ·cases h
  ·cases h
def isAggP : A → Bool
 | .agg _ => true
 | _ => false
theorem V.aggP {g : G} {p : A} {v : Value} (h : V g p v) (hp : isAggP p = true) : ∃ vs, v = .agg vs := by
 unfold isAggP at hp
 split at hp
 ·cases h; exact ⟨_, rfl⟩
 ·cases hp
theorem opS_eqagg (hE : EnvOk P E) {o : Oper} {ρ : Operand → A} {S : Hp} {op : BinOp} {T T' : TypeId} {x y : Operand} {cs ds : List A} {e : TyE} {f : Nat} {b : Bool} (ho : o.op = .binOp op T x y T') (he : tget E.tab T = some e) (ha : aggT e.d = true)
  (hq : EqTy P T) (hax : isAggP (ρ x) = true) (hay : isAggP (ρ y) = true) (hx : (ρ x).cells = some cs) (hy : (ρ y).cells = some ds) (hb : eqC E f T cs ds = some b) (hf : f ≤ 10000) (hop : op = .eql ∨ op = .neq) :
  OpS P o ρ S S (.v (.bool (if op = .eql then b else !b))) :=
 .value fun g w a _ hv => by
  have e1 := hv x (by simp [ho, Op.operands])
  have e2 := hv y (by simp [ho, Op.operands])
  obtain ⟨vs, h1⟩ := e1.aggP hax
  obtain ⟨us, h2⟩ := e2.aggP hay
  have c1 := e1.cells hx
  have c2 := e2.cells hy
  rw [h1] at c1
  rw [h2] at c2
  have hrun := eqC_ok hE f T cs ds b hb g _ _ (10000 - f) w e (.agg vs) (.agg us) he c1 c2 (by simp [valOf, ha, Value.cells]) (by simp [valOf, ha, Value.cells])
  rw [show f + (10000 - f) = 10000 from Nat.add_sub_cancel' hf] at hrun
  refine ⟨.bool (if op = .eql then b else !b), ?_, .v _⟩
  have hguard := run_eqGuard_agg (P := P) w op T x y vs us hq.guard
  rcases hop with rfl | rfl
  ·simp only [execOp, ho, h1, h2, Sem.run_bind, hguard, Result.andThen_ok, if_true, run_eql_struct, hrun, Sem.run_pure]
  ·simp only [execOp, ho, h1, h2, Sem.run_bind, hguard, Result.andThen_ok, run_neq_struct, hrun, Sem.run_pure]
   rfl
theorem equal_nil_l (d : Nat) {t el : TypeId} (b : Option Addr) (w : World) (hu : P.underlying t = some (.pointer el)) : (Op.equalIn (d + 1) t (.pointer none) (.pointer b)).run P w = .ok b.isNone w := by
 simp [Op.equalIn, run_underlying hu]
theorem equal_nil_r (d : Nat) {t el : TypeId} (a : Addr) (w : World) (hu : P.underlying t = some (.pointer el)) : (Op.equalIn (d + 1) t (.pointer (some a)) (.pointer none)).run P w = .ok false w := by
 simp [Op.equalIn, run_underlying hu]
theorem run_eqlp (t : TypeId) (a b : Option Addr) (w : World) : (binOp .eql t (.pointer a) (.pointer b)).run P w = ((Op.equalIn 10000 t (.pointer a) (.pointer b)).run P w).andThen fun b w' => .ok (.bool b) w' := by
 simp only [binOp]
 simp [Op.equal, Op.maxDepth]
theorem run_neqp (t : TypeId) (a b : Option Addr) (w : World) : (binOp .neq t (.pointer a) (.pointer b)).run P w = ((Op.equalIn 10000 t (.pointer a) (.pointer b)).run P w).andThen fun b w' => .ok (.bool (!b)) w' := by
 simp only [binOp]
 simp [Op.equal, Op.maxDepth]
def isNilP : A → Bool
 | .v (.pointer none) => true
 | _ => false
def nilEq (p q : A) : Option Bool := bif isNilP p && isNilP q then some true else bif (isNilP p && isP q) || (isP p && isNilP q) then some false else none
theorem V.nilP {g : G} {p : A} {v : Value} (h : V g p v) (hp : isNilP p = true) : v = .pointer none := by
 unfold isNilP at hp
 split at hp
 ·exact h.v_eq
 ·cases hp
theorem opS_eqptr {o : Oper} {ρ : Operand → A} {S : Hp} {op : BinOp} {T T' : TypeId} {x y : Operand} {el : Nat} {b : Bool} (ho : o.op = .binOp op T x y T') (hu : P.underlying T = some (.pointer el))
  (hb : nilEq (ρ x) (ρ y) = some b) (hop : op = .eql ∨ op = .neq) : OpS P o ρ S S (.v (.bool (if op = .eql then b else !b))) :=
 .value fun g w a _ hv => by
  have e1 := hv x (by simp [ho, Op.operands])
  have e2 := hv y (by simp [ho, Op.operands])
  have key : ∃ p q, a.eval x = .pointer p ∧ a.eval y = .pointer q ∧ (Op.equalIn 10000 T (.pointer p) (.pointer q)).run P w = .ok b w := by
   unfold nilEq at hb
   cases h1 : (isNilP (ρ x) && isNilP (ρ y)) with
   | true =>
    rw [h1] at hb; simp only [cond_true, Option.some.injEq] at hb; subst hb
    simp only [Bool.and_eq_true] at h1
    exact ⟨none, none, e1.nilP h1.1, e2.nilP h1.2, equal_nil_l 9999 _ w hu⟩
   | false =>
    rw [h1] at hb; simp only [cond_false] at hb
    cases h2 : ((isNilP (ρ x) && isP (ρ y)) || (isP (ρ x) && isNilP (ρ y))) with
    | false => rw [h2] at hb; cases hb
    | true =>
     rw [h2] at hb; simp only [cond_true, Option.some.injEq] at hb; subst hb
     simp only [Bool.or_eq_true, Bool.and_eq_true] at h2
     rcases h2 with ⟨h3, h4⟩ | ⟨h3, h4⟩
     ·obtain ⟨ad, h5⟩ := e2.isP h4
      exact ⟨none, some ad, e1.nilP h3, h5, equal_nil_l 9999 _ w hu⟩
     ·obtain ⟨ad, h5⟩ := e1.isP h3
      exact ⟨some ad, none, h5, e2.nilP h4, equal_nil_r 9999 _ w hu⟩
  obtain ⟨p, q, h1, h2, hrun⟩ := key
  refine ⟨.bool (if op = .eql then b else !b), ?_, .v _⟩
  have hguard : (eqGuard op T x y (.pointer p) (.pointer q)).run P w = .ok () w := by
   rcases hop with rfl | rfl <;> rfl
  rcases hop with rfl | rfl
  ·simp only [execOp, ho, h1, h2, Sem.run_bind, hguard, Result.andThen_ok, if_true, run_eqlp, hrun, Sem.run_pure]
  ·simp only [execOp, ho, h1, h2, Sem.run_bind, hguard, Result.andThen_ok, run_neqp, hrun, Sem.run_pure]
   rfl
theorem opS_len {o : Oper} {ρ : Operand → A} {S : Hp} {T : TypeId} {x : Operand} {n : Nat} (ho : o.op = .call { callee := .builtin .len, args := #[x], argTypes := #[T] }) (hT : ∃ El, P.underlying T = some (.slice El)) (hx : ∀ g w v, Inv g S w → V g (ρ x) v → ∃ ad c, v = .slice ad n c) : OpS P o ρ S S (.v (.int .i64 ((n : Nat) : Int))) :=
 .value fun g w a hI hv => by
  obtain ⟨El, hT⟩ := hT
  obtain ⟨A1, c, hu⟩ := hx g w _ hI (hv x (by simp [ho, Op.operands, Call.operands]))
  exact ⟨_, by simp [execOp, ho, resolve, invoke, builtin, hu, Builtin.len_, run_underlying hT, goInt], .v _⟩
theorem opS_copy {o : Oper} {ρ : Operand → A} {S : Hp} {T T' E : TypeId} {x y : Operand} {z p off n m : Nat} {cs ps : List A} (ho : o.op = .call { callee := .builtin .copy, args := #[x, y], argTypes := #[T, T'] }) (hT : P.underlying T = some (.slice E)) (hE : SizeIs P E z)
  (hx : ∀ g w v, Inv g S w → V g (ρ x) v → ∃ b s cap d, g.at' p = some (some b, s) ∧ v = .slice (some ⟨b, d, none⟩) n cap ∧ (n ≠ 0 → d = off)) (hp : S.ob p = some (.cells cs)) (hcl : off + n * z ≤ cs.length) (hy : ∀ g w v, Inv g S w → V g (ρ y) v → Given g w v z m ps) (hm : m ≤ n) : OpS P o ρ S (S.set p (.cells (put cs off ps))) (.v (.int .i64 ((m : Nat) : Int))) := by
 intro g w a next Q hI hv K
 obtain ⟨b, s, cap, d, hg, hu, hd⟩ := hx g w _ hI (hv x (by simp [ho, Op.operands, Call.operands]))
 obtain ⟨A2, c2, us, hu2, hpv, hul, hq⟩ := hy g w _ hI (hv y (by simp [ho, Op.operands, Call.operands]))
 have hpl : ps.length = m * z := by rw [hpv.1, hul]
 have hmz : m * z ≤ n * z := Nat.mul_le_mul_right _ hm
 obtain ⟨cur, ty, k1, k2, k3, k4⟩ := hI.store (off := off) hp hg hpv (by omega)
 unfold Oper.wp
 rcases Nat.eq_zero_or_pos m with rfl | hm0
 ·have hps : ps = [] := List.eq_nil_of_length_eq_zero (by rw [hpl]; simp)
  have hus : us = [] := List.eq_nil_of_length_eq_zero (by rw [hul]; simp)
  subst hps hus
  have hrun := run_copy_zero (P := P) w (T := T) (T' := T') (ty := o.type) (n := n) (cap := cap) (c2 := c2) (A := some ⟨b, d, none⟩) (B := A2) hT hE
  have hput : put cs off [] = cs := by simp [put]
  have hS : S.set p (.cells (put cs off [])) = S := by
   rw [hput]
   show (⟨fun i => if i = p then some (.cells cs) else S.ob i, S.fr⟩ : Hp) = S
   have : (fun i => if i = p then some (.cells cs) else S.ob i) = S.ob := by
    funext i
    by_cases hi : i = p
    ·subst hi; rw [if_pos rfl, hp]
    ·rw [if_neg hi]
   rw [this]
  rw [hS] at K
  simp only [execOp, ho, resolve, invoke, builtin, Sem.run_bind, Sem.run_pure, Result.andThen_ok, List.map_toArray, List.map_cons, List.map_nil, hu, hu2, hrun]
  exact K _ g w (.v _) hI (.refl S g w)
 ·obtain rfl := hd (by omega)
  obtain ⟨q, rfl, hq2⟩ := hq hm0
  have hrun := run_copyG (P := P) w (T := T) (T' := T') (ty := o.type) (n := n) (cap := cap) (c2 := c2) (off := d) hT hE k1 hul hq2 hpv.one hm (by omega)
  simp only [execOp, ho, resolve, invoke, builtin, Sem.run_bind, Sem.run_pure, Result.andThen_ok, List.map_toArray, List.map_cons, List.map_nil, hu, hu2, hrun]
  exact K _ g _ (.v _) k3 k4
end
end
end Go.Bm
set_option linter.unusedVariables false
set_option linter.unusedSimpArgs false
namespace Go.Bm
noncomputable section
open Go.RowKit
def keyE (E : Env) (T : Nat) (d : TypeDesc) (p q : A) : Option Bool :=
 match d with
 | .int _ => match p, q with
  | .v (.int k m), .v (.int k' n) => if k = k' then some (ieql m n) else none
  | _, _ => none
 | .struct _ => bif isAggP p && isAggP q then (match p.cells, q.cells with
  | some a, some b => eqC E 2 T a b
  | _, _ => none) else none
 | _ => none
def keyTy (E : Env) (d : TypeDesc) : Bool :=
 match d with
 | .int _ => true
 | .struct fs => fs.toList.all fun f => (match tget E.tab f.type with
  | some ef => match ef.d with
   | .int _ => true
   | _ => false
  | none => false)
 | _ => false
section
variable {P : Program} {E : Env}
def KEq (P : Program) (w : World) (T : Nat) (v v' : Value) (b : Bool) : Prop :=
 (∃ kd, P.underlying T = some (.int kd) ∧ ∃ k m n, v = .int k m ∧ v' = .int k n ∧ b = decide (m = n)) ∨ ((∃ fs, P.underlying T = some (.struct fs)) ∧ (∃ vs, v = .agg vs) ∧ (Op.equal T v v').run P w = .ok b w)
theorem keyE_ok (hE : EnvOk P E) {g : G} {T : Nat} {e : TyE} {p q : A} {v v' : Value} {b : Bool} (w : World) (he : tget E.tab T = some e) (h : keyE E T e.d p q = some b) (hp : V g p v) (hq : V g q v') : KEq P w T v v' b := by
 have hk := hE.tab T e he
 have hu := hk.u
 unfold keyE at h
 split at h
 ·rename_i kd hd
  split at h
  ·rename_i k m k' n
   split at h
   ·rename_i hkk; subst hkk; cases h
    exact .inl ⟨kd, by rw [hu, hd], k, m, n, hp.v_eq, hq.v_eq, rfl⟩
   ·cases h
  ·cases h
 ·rename_i fs hd
  cases hag : (isAggP p && isAggP q) with
  | false => rw [hag] at h; cases h
  | true =>
   rw [hag] at h; simp only [cond_true] at h
   simp only [Bool.and_eq_true] at hag
   split at h
   ·rename_i a c ha hc
    obtain ⟨vs, h1⟩ := hp.aggP hag.1
    obtain ⟨us, h2⟩ := hq.aggP hag.2
    have c1 := hp.cells ha
    have c2 := hq.cells hc
    rw [h1] at c1
    rw [h2] at c2
    have haa : aggT e.d = true := by rw [hd]; rfl
    have hrun := eqC_ok hE 2 T a c b h g _ _ 9998 w e (.agg vs) (.agg us) he c1 c2 (by simp [valOf, haa, Value.cells]) (by simp [valOf, haa, Value.cells])
    refine .inr ⟨⟨fs, by rw [hu, hd]⟩, ⟨vs, h1⟩, ?_⟩
    rw [h1, h2]
    exact hrun
   ·cases h
 ·cases h
theorem find_miss {T : Nat} {v : Value} {w : World} : ∀ (es : List MapEntry), (∀ e ∈ es, KEq P w T v e.key false) → (es = [] → ∃ d, P.underlying T = some d) → (Instr.findKey T v es).run P w = .ok none w
 | [], _, hd => by
  obtain ⟨d, hd⟩ := hd rfl
  simp [Instr.findKey, run_underlying hd, Instr.findNow]
 | e :: es, hall, _ => by
  rcases hall e (List.mem_cons_self ..) with ⟨kd, hu, k, m, n, hv, hv', hb⟩ | ⟨⟨fs, hu⟩, ⟨vs, hv⟩, hr⟩
  ·have hf : ∀ (l : List MapEntry) (i : Nat), (∀ e ∈ l, KEq P w T v e.key false) → Instr.findNow (.int kd) v l i = some none := by
    intro l
    induction l with
    | nil => intro i _; rfl
    | cons e l ih =>
     intro i hl
     rcases hl e (List.mem_cons_self ..) with ⟨kd', hu', k', m', n', hv1, hv1', hb'⟩ | ⟨⟨fs, hu'⟩, _⟩
     ·unfold Instr.findNow
      have hne : (m' == n') = false := by
       have : ¬ m' = n' := of_decide_eq_false hb'.symm
       simpa using this
      simp only [hv1, hv1', Instr.sameNow, if_true, hne]
      rw [← hv1]
      exact ih (i + 1) (fun e he => hl e (List.mem_cons_of_mem _ he))
     ·rw [hu] at hu'; cases hu'
   simp [Instr.findKey, run_underlying hu, hf (e :: es) 0 hall]
  ·have hn : Instr.findNow (.struct fs) v (e :: es) 0 = none := by
    unfold Instr.findNow
    rw [hv]
    cases e.key <;> rfl
   have hf : ∀ (l : List MapEntry) (i : Nat), (∀ e ∈ l, KEq P w T v e.key false) → (Instr.findAsking T v l i).run P w = .ok none w := by
    intro l
    induction l with
    | nil => intro i _; simp [Instr.findAsking]
    | cons e l ih =>
     intro i hl
     rcases hl e (List.mem_cons_self ..) with ⟨kd', hu', _⟩ | ⟨_, _, hr'⟩
     ·rw [hu] at hu'; cases hu'
     ·simp only [Instr.findAsking, Sem.run_bind, hr', Result.andThen_ok]
      exact ih (i + 1) (fun e he => hl e (List.mem_cons_of_mem _ he))
   simp [Instr.findKey, run_underlying hu, hn, hf (e :: es) 0 hall]
theorem find_hit {T : Nat} {v : Value} {w : World} {es : List MapEntry} {j : Nat} {e : MapEntry} (hj : es[j]? = some e) (hb : ∀ (i : Nat) (e' : MapEntry), i < j → es[i]? = some e' → KEq P w T v e'.key false) (ht : KEq P w T v e.key true) :
  (Instr.findKey T v es).run P w = .ok (some (j, e.val)) w := by
 rcases ht with ⟨kd, hu, k, m, n, hv, hv', hbb⟩ | ⟨⟨fs, hu⟩, ⟨vs, hv⟩, hr⟩
 ·have hf : ∀ (l : List MapEntry) (i j : Nat), l[j]? = some e → (∀ (i : Nat) (e' : MapEntry), i < j → l[i]? = some e' → KEq P w T v e'.key false) → Instr.findNow (.int kd) v l i = some (some (i + j, e.val)) := by
   intro l
   induction l with
   | nil => intro i j h; simp at h
   | cons a l ih =>
    intro i j h hl
    unfold Instr.findNow
    cases j with
    | zero =>
     obtain rfl : a = e := by simpa using h
     have : (m == n) = true := by simpa using (of_decide_eq_true hbb.symm)
     simp only [hv, hv', Instr.sameNow, if_true, this]
     simp
    | succ j =>
     rcases hl 0 a (by omega) rfl with ⟨kd', hu', k', m', n', hv1, hv1', hb'⟩ | ⟨⟨fs, hu'⟩, _⟩
     ·have hne : (m' == n') = false := by
       have : ¬ m' = n' := of_decide_eq_false hb'.symm
       simpa using this
      simp only [hv1, hv1', Instr.sameNow, if_true, hne]
      rw [← hv1, ih (i + 1) j (by simpa using h) (fun i' e' hi he => hl (i' + 1) e' (by omega) (by simpa using he))]
      congr 3; omega
     ·rw [hu] at hu'; cases hu'
  have := hf es 0 j hj hb
  simp [Instr.findKey, run_underlying hu, this]
 ·have hn : Instr.findNow (.struct fs) v es 0 = none := by
   cases es with
   | nil => simp at hj
   | cons a l =>
    unfold Instr.findNow
    rw [hv]
    cases a.key <;> rfl
  have hf : ∀ (l : List MapEntry) (i j : Nat), l[j]? = some e → (∀ (i : Nat) (e' : MapEntry), i < j → l[i]? = some e' → KEq P w T v e'.key false) → (Instr.findAsking T v l i).run P w = .ok (some (i + j, e.val)) w := by
   intro l
   induction l with
   | nil => intro i j h; simp at h
   | cons a l ih =>
    intro i j h hl
    cases j with
    | zero =>
     obtain rfl : a = e := by simpa using h
     simp [Instr.findAsking, hr]
    | succ j =>
     rcases hl 0 a (by omega) rfl with ⟨kd', hu', _⟩ | ⟨_, _, hr'⟩
     ·rw [hu] at hu'; cases hu'
     ·simp only [Instr.findAsking, Sem.run_bind, hr', Result.andThen_ok, Bool.false_eq_true, if_false]
      rw [ih (i + 1) j (by simpa using h) (fun i' e' hi he => hl (i' + 1) e' (by omega) (by simpa using he))]
      congr 3; omega
  have := hf es 0 j hj hb
  simp [Instr.findKey, run_underlying hu, hn, this]
theorem check_key (hE : EnvOk P E) {g : G} {T : Nat} {e : TyE} {p : A} {v : Value} {b : Bool} (w : World) (em : Bool) (he : tget E.tab T = some e) (ht : keyTy E e.d = true) (h : keyE E T e.d p p = some b) (hp : V g p v) : (Instr.checkKey em 10000 T v).run P w = .ok () w := by
 have hk := hE.tab T e he
 have hu := hk.u
 unfold keyTy at ht
 split at ht
 ·rename_i kd hd
  rcases keyE_ok hE w he h hp hp with ⟨kd', hu', k, m, n, hv, _⟩ | ⟨⟨fs, hu'⟩, _⟩
  ·rw [show 10000 = 9999 + 1 from rfl, Instr.checkKey]
   simp only [Sem.run_bind, run_underlying hu, Result.andThen_ok, hd, hv]
   rfl
  ·rw [hu, hd] at hu'; cases hu'
 ·rename_i fs hd
  have hu' : P.underlying T = some (.struct fs) := by rw [hu, hd]
  have hcells : ∃ a, p.cells = some a ∧ isAggP p = true ∧ eqC E 2 T a a = some b := by
   unfold keyE at h
   rw [hd] at h
   simp only at h
   cases hag : (isAggP p && isAggP p) with
   | false => rw [hag] at h; cases h
   | true =>
    rw [hag] at h; simp only [cond_true] at h
    simp only [Bool.and_self] at hag
    split at h
    ·rename_i a c ha hc; rw [ha] at hc; cases hc; exact ⟨a, ha, hag, h⟩
    ·cases h
  obtain ⟨a, ha, hag, heq⟩ := hcells
  obtain ⟨vs, rfl⟩ := hp.aggP hag
  have c1 : Vs g a vs.toList := hp.cells ha
  unfold eqC at heq
  rw [he] at heq
  simp only [hd] at heq
  cases hq : E.eqs.any (Nat.beq T) with
  | false => rw [hq] at heq; cases heq
  | true =>
   rw [hq] at heq; simp only [cond_true] at heq
   have hnames := (hE.eqs T hq).names fs hu'
   rw [show 10000 = 9999 + 1 from rfl, Instr.checkKey]
   simp only [Sem.run_bind, run_underlying hu', Result.andThen_ok]
   rw [← Array.forIn_toList]
   have hall := List.all_eq_true.1 ht
   generalize fs.toList = L at heq hall hnames
   clear hu' hd ht h
   induction L generalizing b with
   | nil => simp
   | cons f L ih =>
    have hf := hall f (List.mem_cons_self ..)
    have hn := hnames f (List.mem_cons_self ..)
    unfold eqF at heq
    split at heq
    ·rename_i ef hef
     split at heq
     ·rename_i x y hx hy
      rw [hef] at hf
      simp only at hf
      split at hf
      ·rename_i kd hkd
       have hkf := hE.tab _ _ hef
       have huf := hkf.u
       have hpart : ∃ k m, (part f.type vs f.offset).run P w = .ok (.int k m) w := by
        unfold eqC at hx
        rw [hef] at hx
        simp only [hkd] at hx
        split at hx
        ·rename_i k m k' n hc1 hc2
         have c2 := c1.part f.offset ef.size
         rw [hc1] at c2
         obtain ⟨z, e1, e2⟩ := c2.single
         have e2 := e2.v_eq
         subst e2
         exact ⟨k, m, run_part hkf (by simp [valOf, hkd, aggT, e1]) w⟩
        ·cases hx
       obtain ⟨k, m, hpr⟩ := hpart
       have hck : (Instr.checkKey em 9999 f.type (.int k m)).run P w = .ok () w := by
        rw [show 9999 = 9998 + 1 from rfl, Instr.checkKey]
        simp only [Sem.run_bind, run_underlying huf, Result.andThen_ok, hkd]
        rfl
       simp only [List.forIn_cons, Sem.run_bind, hn, ne_eq, not_false_eq_true, if_true, Result.andThen_ok, hpr, hck, Sem.run_pure]
       exact ih hy (fun y hy => hall y (List.mem_cons_of_mem _ hy)) (fun y hy => hnames y (List.mem_cons_of_mem _ hy))
      ·cases hf
     ·cases heq
    ·cases heq
 ·cases ht
end
section
variable {P : Program} {E : Env} {o : Oper} {ρ : Operand → A} {S : Hp}
def findA (f : A → Option Bool) : List (A × A) → Nat → Option (Option (Nat × A))
 | [], _ => some none
 | (k, v) :: r, i => match f k with
  | some true => some (some (i, v))
  | some false => findA f r (i + 1)
  | none => none
theorem findA_spec {f : A → Option Bool} : ∀ (es : List (A × A)) (i : Nat) (r : Option (Nat × A)), findA f es i = some r →
  (r = none ∧ ∀ (j : Nat) (q : A × A), es[j]? = some q → f q.1 = some false) ∨ ∃ n v k, r = some (i + n, v) ∧ es[n]? = some (k, v) ∧ f k = some true ∧ ∀ (j : Nat) (q : A × A), j < n → es[j]? = some q → f q.1 = some false
 | [], i, r, h => by cases h; exact .inl ⟨rfl, fun j q h => by simp at h⟩
 | (k, v) :: es, i, r, h => by
  unfold findA at h
  split at h
  ·rename_i hk; cases h
   exact .inr ⟨0, v, k, rfl, rfl, hk, fun j q hj => by omega⟩
  ·rename_i hk
   rcases findA_spec es (i + 1) r h with ⟨rfl, h2⟩ | ⟨n, v', k', rfl, h2, h3, h4⟩
   ·refine .inl ⟨rfl, fun j q hj => ?_⟩
    cases j with
    | zero => simp at hj; subst hj; exact hk
    | succ j => exact h2 j q (by simpa using hj)
   ·refine .inr ⟨n + 1, v', k', by rw [show i + (n + 1) = i + 1 + n by omega], by simpa using h2, h3, fun j q hj hq => ?_⟩
    cases j with
    | zero => simp at hq; subst hq; exact hk
    | succ j => exact h4 j q (by omega) (by simpa using hq)
  ·cases h
theorem Ents.find {g : G} {w : World} {mes : Array MapEntry} {es : List (A × A)} (hE : EnvOk P E) {K : Nat} {e : TyE} {p : A} {v : Value} {r : Option (Nat × A)} (he : tget E.tab K = some e) (h : Ents g mes es) (hp : V g p v) (hr : findA (keyE E K e.d p) es 0 = some r) :
  (r = none ∧ (Instr.findKey K v mes.toList).run P w = .ok none w) ∨ ∃ n q x, r = some (n, q) ∧ mes[n]? = some x ∧ V g q x.val ∧ n < es.length ∧ (Instr.findKey K v mes.toList).run P w = .ok (some (n, x.val)) w := by
 have key : ∀ (j : Nat) (x : MapEntry) (q : A × A) (b : Bool), mes[j]? = some x → es[j]? = some q → keyE E K e.d p q.1 = some b → KEq P w K v x.key b := fun j x q b h1 h2 h3 =>
  keyE_ok hE w he h3 hp (h.2 j x q h1 h2).1
 have at' : ∀ (j : Nat) (x : MapEntry), mes[j]? = some x → ∃ q, es[j]? = some q := fun j x hx => ⟨_, List.getElem?_eq_getElem (by have := (Array.getElem?_eq_some_iff.1 hx).1; have := h.1; omega)⟩
 rcases findA_spec es 0 r hr with ⟨rfl, h2⟩ | ⟨n, q, k, rfl, h2, h3, h4⟩
 ·refine .inl ⟨rfl, find_miss _ (fun x hx => ?_) (fun _ => ⟨_, (hE.tab _ _ he).u⟩)⟩
  obtain ⟨j, hj, rfl⟩ := List.getElem_of_mem hx
  have hx' : mes[j]? = some mes.toList[j] := by simp at hj ⊢
  obtain ⟨q, hq⟩ := at' j _ hx'
  exact key j _ q false hx' hq (h2 j q hq)
 ·have hn := (List.getElem?_eq_some_iff.1 h2).1
  have hx : mes[n]? = some (mes[n]'(by have := h.1; omega)) := by simp
  refine .inr ⟨n, q, _, by rw [Nat.zero_add], hx, (h.2 n _ _ hx h2).2, hn, ?_⟩
  refine find_hit (by simp) (fun j x hj hjx => ?_) (key n _ (k, q) true hx h2 h3)
  have hjx' : mes[j]? = some x := by simpa using hjx
  obtain ⟨q', hq'⟩ := at' j _ hjx'
  exact key j x q' false hjx' hq' (h4 j q' hj hq')
theorem V.map_at {g : G} {w : World} {x : Ref} {es : List (A × A)} {v : Value} (hI : Inv g S w) (hv : V g (.mp x) v) (ho : S.ob x.id = some (.oth (.map es))) : ∃ b s mes clock, v = .map (some b) ∧ g.at' x.id = some (some b, s) ∧ w.heap[b]? = some (.map mes clock) ∧ Ents g mes es := by
 obtain ⟨b, s, ob, k1, k2, mes, clock, rfl, k3⟩ := hI.oth x.id _ ho
 cases hv with
 | mp _ b' s' h =>
  rw [k1] at h
  obtain ⟨rfl, _⟩ : b = b' ∧ s = s' := by simpa using h
  exact ⟨b, s, mes, clock, rfl, k1, k2, k3⟩
theorem opS_makeMap {T q : Nat} (ho : o.op = .makeMap T none) (hf : S.fr q) : OpS P o ρ S (S.new q (.oth (.map []))) (.mp (.loc q)) := by
 intro g w a next Q hI hv K
 obtain ⟨k1, k2⟩ := hI.alloc (s := (0, 0)) hf (x := .oth (.map [])) (ob := .map #[] 0) ⟨.map #[] 0, heap_alloc_new w _, #[], 0, rfl, rfl, fun j e q h => by simp at h⟩
 unfold Oper.wp
 simp only [execOp, ho, Instr.makeMap, Option.map_none, Sem.run_bind, Result.andThen_ok, Sem.run_pure, run_newObj, pure_bind]
 exact K _ _ _ (.mp (.loc q) w.heap.size _ gput_at) k1 k2
def zeroA (z : Value) : Option A := match z with
 | .agg vs => some (.agg (vs.toList.map .v))
 | .tuple _ => none
 | z => some (.v z)
theorem zeroA_ok {z : Value} {p : A} (h : zeroA z = some p) (h1 : (z.cells.toList.all (·.oneCell')) = true) (g : G) : V g p z := by
 unfold zeroA at h
 split at h
 ·rename_i vs
  cases h
  refine .agg _ vs (by simp) (fun v hv => List.all_eq_true.1 h1 v (by simpa [Value.cells] using hv)) (fun i c x e1 e2 => ?_)
  simp only [List.getElem?_map, Option.map_eq_some_iff, Array.getElem?_toList] at e1
  obtain ⟨y, hy, rfl⟩ := e1
  rw [e2] at hy
  obtain rfl := Option.some.inj hy
  exact .v _
 ·cases h
 ·cases h; exact .v _
def valR (z : A) : Option (Nat × A) → A
 | some (_, v) => v
 | none => z
def eraR (es : List (A × A)) : Option (Nat × A) → List (A × A)
 | some (n, _) => es.eraseIdx n
 | none => es
theorem opS_lookup (hE : EnvOk P E) {T K T2 : Nat} {X : Ref} {x y : Operand} {ok : Bool} {e e2 : TyE} {es : List (A × A)} {r : Option (Nat × A)} (ho : o.op = .lookup T x y ok) (hT : P.underlying T = some (.map K T2)) (he : tget E.tab K = some e) (he2 : tget E.tab T2 = some e2) (ht : keyTy E e.d = true) {b : Bool} (hs : keyE E K e.d (ρ y) (ρ y) = some b)
  (hx : ρ x = .mp X) (hm : S.ob X.id = some (.oth (.map es))) (hr : findA (keyE E K e.d (ρ y)) es 0 = some r) {z : A} (hz : ∀ g, V g z e2.zero) : OpS P o ρ S S (bif ok then .tup [valR z r, .v (.bool r.isSome)] else valR z r) :=
 .value fun g w a hI hv => by
  have e1 := hx ▸ hv x (by simp [ho, Op.operands])
  have e2' := hv y (by simp [ho, Op.operands])
  obtain ⟨blk, s, mes, clock, h1, h2, h3, h4⟩ := e1.map_at hI hm
  have hc := check_key hE w mes.isEmpty he ht hs e2'
  obtain ⟨ti, t1, t2, t3, t4, t5, t6⟩ := (hE.tab _ _ he2).ti
  have hzv : (zeroValue T2).run P w = .ok e2.zero w := by simp [zeroValue, typeInfo, t1, t2]
  have pair : ∀ (p : A) (u : Value) (b : Bool), V g p u → V g (bif ok then .tup [p, .v (.bool b)] else p) (if ok then .tuple #[u, .bool b] else u) := by
   intro p u b hp
   cases ok with
   | true =>
    refine .tup _ _ rfl (fun k c x e3 e4 => ?_)
    match k with
    | 0 => simp at e3 e4; subst e3 e4; exact hp
    | 1 => simp at e3 e4; subst e3 e4; exact .v _
    | k + 2 => simp at e3
   | false => exact hp
  rcases h4.find (w := w) hE he e2' hr with ⟨rfl, hf⟩ | ⟨n, p, x', rfl, hx', hpv, _, hf⟩
  ·refine ⟨if ok then .tuple #[e2.zero, .bool false] else e2.zero, ?_, pair z e2.zero false (hz g)⟩
   simp only [execOp, ho, h1, Instr.lookup, Sem.run_bind, run_underlying hT, Result.andThen_ok, MapKept.run_getObj_map h3, hc, hf, hzv, Sem.run_pure]
  ·refine ⟨if ok then .tuple #[x'.val, .bool true] else x'.val, ?_, pair p x'.val true hpv⟩
   simp only [execOp, ho, h1, Instr.lookup, Sem.run_bind, run_underlying hT, Result.andThen_ok, MapKept.run_getObj_map h3, hc, hf, Sem.run_pure]
theorem Inv.setmap {g : G} {w : World} (h : Inv g S w) {q b clock clock' : Nat} {s : Nat × Nat} {es es' : List (A × A)} {mes mes' : Array MapEntry} (ho : S.ob q = some (.oth (.map es))) (hg : g.at' q = some (some b, s)) (hh : w.heap[b]? = some (.map mes clock)) (hE : Ents g mes' es') :
  Inv g (S.set q (.oth (.map es'))) { w with heap := w.heap.setIfInBounds b (.map mes' clock') } ∧ Ext S g w (S.set q (.oth (.map es'))) g { w with heap := w.heap.setIfInBounds b (.map mes' clock') } := by
 have hb : b < w.heap.size := (Array.getElem?_eq_some_iff.1 hh).1
 exact h.write ho hg (by simp) (fun k hk => by simp [Array.getElem?_setIfInBounds, hk.symm]) rfl rfl rfl ⟨.map mes' clock', by simp [hb], mes', clock', rfl, hE⟩
theorem opS_put (hE : EnvOk P E) {T K T2 : Nat} {X : Ref} {x y z : Operand} {e : TyE} {es : List (A × A)} {ky vz : A} (ho : o.op = .mapUpdate T x y z ∨ o.op = .insert T x y z) (hT : P.underlying T = some (.map K T2)) (he : tget E.tab K = some e) (ht : keyTy E e.d = true) {b : Bool} (hs : keyE E K e.d (ρ y) (ρ y) = some b)
  (hx : ρ x = .mp X) (hm : S.ob X.id = some (.oth (.map es))) (hky : ∀ g v, V g (ρ y) v → V g ky v) (hvz : ∀ g v, V g (ρ z) v → V g vz v) (hr : findA (keyE E K e.d (ρ y)) es 0 = some none) : OpS P o ρ S (S.set X.id (.oth (.map (es ++ [(ky, vz)])))) .junk := by
 intro g w a next Q hI hv K'
 have hops : x ∈ o.op.operands ∧ y ∈ o.op.operands ∧ z ∈ o.op.operands := by rcases ho with ho | ho <;> simp [ho, Op.operands]
 have e1 := hx ▸ hv x hops.1
 have e2 := hv y hops.2.1
 have e3 := hv z hops.2.2
 obtain ⟨blk, s, mes, clock, h1, h2, h3, h4⟩ := e1.map_at hI hm
 have hc := check_key hE w false he ht hs e2
 have hfn : (Instr.findKey K (a.eval y) mes.toList).run P w = .ok none w := by
  rcases h4.find (w := w) hE he e2 hr with ⟨_, hf⟩ | ⟨n, p, x', hh, _⟩
  ·exact hf
  ·cases hh
 have hents : Ents g (mes.push { key := a.eval y, val := a.eval z, born := clock }) (es ++ [(ky, vz)]) := by
  refine ⟨by simp [h4.1], fun m x q hy hq => ?_⟩
  rw [Array.getElem?_push] at hy
  split at hy
  ·rename_i hm
   cases hy
   rw [List.getElem?_append_right (by have := h4.1; omega)] at hq
   rw [show m - es.length = 0 by have := h4.1; omega] at hq
   simp at hq; subst hq
   exact ⟨hky _ _ e2, hvz _ _ e3⟩
  ·rw [List.getElem?_append_left (by have := (Array.getElem?_eq_some_iff.1 hy).1; have := h4.1; omega)] at hq
   exact h4.2 m x q hy hq
 obtain ⟨k1, k2⟩ := hI.setmap (clock' := clock + 1) hm h2 h3 hents
 have hrun : (Instr.mapUpdate T (.map (some blk)) (a.eval y) (a.eval z)).run P w = .ok () { w with heap := w.heap.setIfInBounds blk (.map (mes.push { key := a.eval y, val := a.eval z, born := clock }) (clock + 1)) } := by
  simp only [Instr.mapUpdate, Sem.run_bind, run_underlying hT, Result.andThen_ok, MapKept.run_getObj_map h3, hc, hfn, MapKept.run_setObj_map _ h3]
 unfold Oper.wp
 rcases ho with ho | ho
 ·simp only [execOp, ho, h1, Sem.run_bind, hrun, Result.andThen_ok, Sem.run_pure]
  exact K' _ g _ (.junk _) k1 k2
 ·simp only [execOp, ho, h1, Sem.run_bind, hrun, Result.andThen_ok, Sem.run_pure]
  exact K' _ g _ (.junk _) k1 k2
theorem opS_delete (hE : EnvOk P E) {T K T2 : Nat} {X : Ref} {x y : Operand} {Ts : Array TypeId} {e : TyE} {es : List (A × A)} {r : Option (Nat × A)} (ho : o.op = .call { callee := .builtin .delete, args := #[x, y], argTypes := Ts }) (h0 : Ts[0]? = some T) (hT : P.underlying T = some (.map K T2)) (he : tget E.tab K = some e) (ht : keyTy E e.d = true) {b : Bool} (hs : keyE E K e.d (ρ y) (ρ y) = some b)
  (hx : ρ x = .mp X) (hm : S.ob X.id = some (.oth (.map es))) (hr : findA (keyE E K e.d (ρ y)) es 0 = some r) : OpS P o ρ S (S.set X.id (.oth (.map (eraR es r)))) .junk := by
 intro g w a next Q hI hv K'
 have e1 := hx ▸ hv x (by simp [ho, Op.operands, Call.operands])
 have e2 := hv y (by simp [ho, Op.operands, Call.operands])
 obtain ⟨blk, s, mes, clock, h1, h2, h3, h4⟩ := e1.map_at hI hm
 have hc := check_key hE w mes.isEmpty he ht hs e2
 unfold Oper.wp
 rcases h4.find (w := w) hE he e2 hr with ⟨rfl, hf⟩ | ⟨n, p, x', rfl, hx', _, hn, hf⟩
 ·obtain ⟨k1, k2⟩ := hI.setmap (clock' := clock) hm h2 h3 h4
  simp only [execOp, ho, resolve, invoke, builtin, Sem.run_bind, Sem.run_pure, Result.andThen_ok, List.map_toArray, List.map_cons, List.map_nil, Builtin.delete_, h0, h1, run_underlying hT, MapKept.run_getObj_map h3, hc, hf, MapKept.run_setObj_map _ h3, List.getElem?_toArray, List.getElem?_cons_zero, List.getElem?_cons_succ]
  exact K' _ g _ (.junk _) k1 k2
 ·have hen : Ents g (mes.eraseIdxIfInBounds n) (es.eraseIdx n) := by
   have hel : (mes.eraseIdxIfInBounds n).toList = mes.toList.eraseIdx n := by simp
   have hl := h4.1
   refine ⟨by rw [← Array.length_toList, hel, List.length_eraseIdx, List.length_eraseIdx]; simp [hl], fun m y z hy hz => ?_⟩
   rw [← Array.getElem?_toList, hel, List.getElem?_eraseIdx] at hy
   rw [List.getElem?_eraseIdx] at hz
   split at hy
   ·rename_i hm
    rw [if_pos hm] at hz
    exact h4.2 m y z (by simpa using hy) hz
   ·rename_i hm
    rw [if_neg hm] at hz
    exact h4.2 (m + 1) y z (by simpa using hy) hz
  obtain ⟨k1, k2⟩ := hI.setmap (clock' := clock) hm h2 h3 hen
  simp only [execOp, ho, resolve, invoke, builtin, Sem.run_bind, Sem.run_pure, Result.andThen_ok, List.map_toArray, List.map_cons, List.map_nil, Builtin.delete_, h0, h1, run_underlying hT, MapKept.run_getObj_map h3, hc, hf, MapKept.run_setObj_map _ h3, List.getElem?_toArray, List.getElem?_cons_zero, List.getElem?_cons_succ]
  exact K' _ g _ (.junk _) k1 k2
def PC (P : Program) (f : FuncId) (as : List A) (S S' : Hp) (r : A) : Prop :=
 ∀ g w (vs : List Value), Inv g S w → as.length = vs.length → (∀ (i : Nat) (p : A) (v : Value), as[i]? = some p → vs[i]? = some v → V g p v) →
  Calls P f vs.toArray w (fun e w' => ∃ v g', e = .returned v ∧ V g' r v ∧ Inv g' S' w' ∧ Ext S g w S' g' w')
theorem opS_callv {x : Operand} {f : FuncId} {fi ca : List A} {xs : Array Operand} {ts : Array TypeId} {S' : Hp} {r : A} (ho : o.op = .call { callee := .value x, args := xs, argTypes := ts }) (hf : FnOk P f) (hx : ρ x = .fn f fi ca)
  (h : PC P f (fi ++ xs.toList.map ρ ++ ca) S S' r) : OpS P o ρ S S' r := by
 intro g w a next Q hI hv K
 unfold Oper.wp
 have e1 := hx ▸ hv x (by simp [ho, Op.operands, Call.operands])
 generalize hu : a.eval x = u at e1
 cases e1 with
 | fn _ _ _ fv cv hf1 hc1 h1 h2 =>
 have e : (execOp a.eval o).run P w = .ok (.enter f (fv.toList ++ xs.toList.map a.eval ++ cv.toList).toArray) w := by
  have h2 := hf.run ((fv.toList ++ xs.toList.map a.eval ++ cv.toList).toArray) w
  simp only [execOp, ho, resolve, hu, Deferred.ofValue, pure_bind, invoke]
  rw [show fv ++ Array.map a.eval xs ++ cv = (fv.toList ++ xs.toList.map a.eval ++ cv.toList).toArray by apply Array.ext'; simp]
  exact h2
 rw [e]
 simp only [Oper.upon]
 refine (h g w (fv.toList ++ xs.toList.map a.eval ++ cv.toList) hI (by simp; omega) (fun i p v k1 k2 => ?_)).mono ?_
 ·by_cases c1 : i < fi.length
  ·rw [List.append_assoc, List.getElem?_append_left c1] at k1
   rw [List.append_assoc, List.getElem?_append_left (by simp; omega)] at k2
   exact h1 i p v k1 (by simpa using k2)
  ·by_cases c2 : i < fi.length + xs.size
   ·rw [List.append_assoc, List.getElem?_append_right (by omega), List.getElem?_append_left (by simp; omega)] at k1
    rw [List.append_assoc, List.getElem?_append_right (by simp; omega), List.getElem?_append_left (by simp; omega)] at k2
    simp only [Array.length_toList, ← hf1, List.getElem?_map, Option.map_eq_some_iff] at k1 k2
    obtain ⟨y, hy, rfl⟩ := k1
    obtain ⟨y', hy', rfl⟩ := k2
    rw [hy] at hy'
    obtain rfl := Option.some.inj hy'
    exact hv y (by simp only [ho, Op.operands, Call.operands]; exact Array.mem_append.2 (.inr (Array.mem_of_getElem? (by simpa using hy))))
   ·rw [List.getElem?_append_right (by simp; omega)] at k1 k2
    simp only [List.length_append, Array.length_toList, List.length_map, ← hf1] at k1 k2
    exact h2 _ p v k1 (by simpa using k2)
 ·rintro e w' ⟨v, g', rfl, h1, h2, h3⟩
  exact K v g' w' h1 h2 h3
theorem opS_makeFunc {f : FuncId} {fi ca : Array Operand} (ho : o.op = .makeFunc (.func f) fi ca) : OpS P o ρ S S (.fn f (fi.toList.map ρ) (ca.toList.map ρ)) :=
 .value fun g w a _ hv => by
  refine ⟨.func (.func f) (fi.map a.eval) (ca.map a.eval), by simp [execOp, ho, Instr.makeFunc], .fn _ _ _ _ _ (by simp) (by simp) (fun i c x h1 h2 => ?_) (fun i c x h1 h2 => ?_)⟩
  ·simp only [List.getElem?_map, Array.getElem?_map, Option.map_eq_some_iff, Array.getElem?_toList] at h1 h2
   obtain ⟨y, hy, rfl⟩ := h1
   obtain ⟨y', hy', rfl⟩ := h2
   rw [hy] at hy'
   obtain rfl := Option.some.inj hy'
   exact hv y (by simp only [ho, Op.operands]; exact Array.mem_append.2 (.inl (Array.mem_of_getElem? hy)))
  ·simp only [List.getElem?_map, Array.getElem?_map, Option.map_eq_some_iff, Array.getElem?_toList] at h1 h2
   obtain ⟨y, hy, rfl⟩ := h1
   obtain ⟨y', hy', rfl⟩ := h2
   rw [hy] at hy'
   obtain rfl := Option.some.inj hy'
   exact hv y (by simp only [ho, Op.operands]; exact Array.mem_append.2 (.inr (Array.mem_of_getElem? hy)))
theorem opS_min {Ts : Array TypeId} {x y : Operand} {k : IntKind} {m n : Int} (ho : o.op = .call { callee := .builtin .min, args := #[x, y], argTypes := Ts }) (hx : ρ x = .v (.int k m)) (hy : ρ y = .v (.int k n)) : OpS P o ρ S S (.v (.int k (imin m n))) :=
 .value fun g w a hI hv => by
  have e1 := (hx ▸ hv x (by simp [ho, Op.operands, Call.operands])).v_eq
  have e2 := (hy ▸ hv y (by simp [ho, Op.operands, Call.operands])).v_eq
  exact ⟨_, by simp [execOp, ho, resolve, invoke, builtin, Builtin.min_, e1, e2, Builtin.min2]; rfl, .v _⟩
theorem opS_max {Ts : Array TypeId} {x y : Operand} {k : IntKind} {m n : Int} (ho : o.op = .call { callee := .builtin .max, args := #[x, y], argTypes := Ts }) (hx : ρ x = .v (.int k m)) (hy : ρ y = .v (.int k n)) : OpS P o ρ S S (.v (.int k (imax m n))) :=
 .value fun g w a hI hv => by
  have e1 := (hx ▸ hv x (by simp [ho, Op.operands, Call.operands])).v_eq
  have e2 := (hy ▸ hv y (by simp [ho, Op.operands, Call.operands])).v_eq
  exact ⟨_, by simp [execOp, ho, resolve, invoke, builtin, Builtin.max_, e1, e2, Builtin.max2]; rfl, .v _⟩
theorem opS_append_full {T E' : TypeId} {z b m n p q off : Nat} {zv : Value} {cs ps : List A} {x y : Operand} (ho : o.op = .call { callee := .builtin .append, args := #[x, y], argTypes := #[T, T] }) (hT : P.underlying T = some (.slice E')) (hE : TI P E' z b zv) (h0 : 0 < z)
  (hx : ∀ g w v, Inv g S w → V g (ρ x) v → (∃ ad, v = .slice ad 0 0 ∧ n = 0) ∨ ∃ bk s d, g.at' p = some (some bk, s) ∧ v = .slice (some ⟨bk, d, none⟩) n n ∧ (n ≠ 0 → d = off)) (hp : S.ob p = some (.cells cs)) (hcl : off + n * z ≤ cs.length)
  (hy : ∀ g w v, Inv g S w → V g (ρ y) v → Given g w v z m ps) (hm : 0 < m) (hf : S.fr q) (hb : (n + m) * b ≤ 140737488355328) (hmax : n + m ≤ maxLen) : OpS P o ρ S (S.new q (.cells ((cs.drop off).take (n * z) ++ ps))) (.tw (.loc q) z) :=
 .app ho fun g w a hI e1 e2 => by
  rcases hx g w _ hI e1 with ⟨ad, hu, rfl⟩ | ⟨bk, s, d, hg, hu, hd⟩
  ·rw [hu, Nat.zero_mul, List.take_zero, List.nil_append]
   exact append_nil_at ad hT hE hI (hy g w _ hI e2) hf (by simpa using hb) (by simpa using hmax)
  obtain ⟨i, t1, t2, t3, t4, t5, t6⟩ := hE
  subst t3 t4
  obtain ⟨A2, cap2, us, hu2, hpv, hul, hA2⟩ := hy g w _ hI e2
  rw [hu, hu2]
  obtain ⟨ad2, rfl, hnews⟩ := hA2 hm
  rcases hI.cells p cs hp with ⟨k1, _⟩ | ⟨b', t, k1, cur, ty, k2, k2', k3⟩
  ·rw [k1] at hg; cases hg
  rw [k1] at hg; simp at hg
  obtain ⟨rfl, rfl⟩ := hg
  have hge := grownCap_ge w (n + m) n E'
  have hcm2 := grownCap_le_maxLen w (n + m) n E' hmax
  obtain ⟨os, h1, h2, h3⟩ := row_part (off := off) (n := n * i.size) k2 k3 hcl
  have hos : ∀ j v, os[j]? = some v → w.cell? ((⟨b', d, none⟩ : Addr).add j) = some v := fun j v hj => by
   by_cases hc0 : n = 0
   ·subst hc0
    have hos0 : os = [] := List.eq_nil_of_length_eq_zero (by rw [h2]; simp)
    rw [hos0] at hj
    simp at hj
   ·obtain rfl := hd hc0; exact h3 j v hj
  have hr := run_append_grow (P := P) w T o.type E' i zv hT t1 t2 ⟨b', d, none⟩ n n os h2 hos ad2 m cap2 us hul hnews (by omega) (by simp only [maxLen] at hmax; omega) (growslice_fits (by omega) hb)
  have hcells : (os.toArray ++ us.toArray ++ Builtin.zeroCells zv.cells (grownCap w (n + m) n E' - (n + m))).size = grownCap w (n + m) n E' * i.size := by
   simp only [Array.size_append, List.size_toArray, size_zeroCells, t5, h2, hul, ← Nat.add_mul]
   congr 1; omega
  have hle : (n + m) * i.size ≤ grownCap w (n + m) n E' * i.size := Nat.mul_le_mul_right _ hge
  have hlen : ((cs.drop off).take (n * i.size) ++ ps).length = (n + m) * i.size := by rw [List.length_append, List.length_take, List.length_drop, Nat.min_eq_left (by omega), hpv.1, hul, Nat.add_mul]
  obtain ⟨q1, q2⟩ := hI.drew.allocs hf (cs := (cs.drop off).take (n * i.size) ++ ps) (vs := os.toArray ++ us.toArray ++ Builtin.zeroCells zv.cells (grownCap w (n + m) n E' - (n + m))) E' (by rw [hcells, hlen]; exact hle)
   (by have := grown_row (ex := (Builtin.zeroCells zv.cells (grownCap w (n + m) n E' - (n + m))).toList) h1 hpv; simpa using this)
  exact ⟨_, _, _, hr, .tw (.loc q) i.size (n + m) _ _ _ (by rw [show (Ref.loc q).id = q from rfl, gput_at, hlen]; rfl) hge hcm2 (Nat.le_of_eq hcells.symm) 0 (fun _ => rfl), q1, Inv.undrew q2⟩
theorem opS_clear {T El : TypeId} {x : Operand} {z b p off n : Nat} {zv : Value} {zs cs : List A} (ho : o.op = .call { callee := .builtin .clear, args := #[x], argTypes := #[T] }) (hT : P.underlying T = some (.slice El)) (hE : TI P El z b zv) (h0 : 0 < z) (hz : Zs zs zv)
  (hx : ∀ g w v, Inv g S w → V g (ρ x) v → ∃ bk s cap d, g.at' p = some (some bk, s) ∧ v = .slice (some ⟨bk, d, none⟩) n cap ∧ (n ≠ 0 → d = off)) (hn : 0 < n) (hp : S.ob p = some (.cells cs)) (hcl : off + n * z ≤ cs.length) : OpS P o ρ S (S.set p (.cells (put cs off (reps n zs)))) .junk := by
 intro g w a next Q hI hv K
 obtain ⟨bk, s, cap, d, hg, hu, hd⟩ := hx g w _ hI (hv x (by simp [ho, Op.operands, Call.operands]))
 obtain rfl := hd (by omega)
 obtain ⟨i, t1, t2, t3, t4, t5, t6⟩ := hE
 subst t3 t4
 have hzl : zs.length = i.size := by have := (hz g).1; simp at this; omega
 have hvs : Vs g (reps n zs) (Builtin.zeroCells zv.cells n).toList := by
  refine ⟨by rw [reps_len, hzl]; simp [size_zeroCells, t5], fun j c x q1 q2 => ?_⟩
  have hj : j < n * zs.length := by have := (List.getElem?_eq_some_iff.1 q1).1; rwa [reps_len] at this
  rw [reps_get hj] at q1
  have hm : j % zv.cells.size < zv.cells.size := Nat.mod_lt _ (by omega)
  simp only [Builtin.zeroCells, Array.toList_map, Array.toList_range, List.getElem?_map, Option.map_eq_some_iff] at q2
  obtain ⟨k, hk, rfl⟩ := q2
  rw [List.getElem?_range (by rw [hzl, ← t5] at hj; exact hj)] at hk
  obtain rfl := Option.some.inj hk
  rw [getElem!_pos zv.cells _ hm]
  exact (hz g).2 _ c _ (by rw [hzl, ← t5] at q1; exact q1) (by simp [hm])
 have hlen : (Builtin.zeroCells zv.cells n).toList.length = n * i.size := by simp [size_zeroCells, t5]
 obtain ⟨cur, ty, k1, k2, k3, k4⟩ := hI.store (off := d) hp hg hvs (by rw [hvs.1, hlen]; exact hcl)
 have hst := run_storeCells_at P bk d ty (Builtin.zeroCells zv.cells n).toList 0 cur w k1 (by simpa using k2) hvs.one
 simp only [Nat.add_zero] at hst
 unfold Oper.wp
 obtain ⟨n0, rfl⟩ : ∃ n0, n = n0 + 1 := ⟨n - 1, by omega⟩
 simp only [execOp, ho, resolve, invoke, builtin, Sem.run_bind, Sem.run_pure, Result.andThen_ok, List.map_toArray, List.map_cons, List.map_nil, hu, Builtin.clear_, List.getElem?_toArray, List.getElem?_cons_zero, run_underlying hT, zeroValue, typeInfo, run_program, t1, t2, hst]
 exact K _ g _ (.junk _) k3 k4
end
end
end Go.Bm
set_option linter.unusedVariables false
set_option linter.unusedSimpArgs false
namespace Go.Bm
noncomputable section
open Go.RowKit
def dep (ops : Array Oper) (i j : Nat) : Bool :=
 match ops[i]? with
 | some o => o.after.any fun e => Region.binds .any e && e.on == j
 | none => false
def dstOf (ops : Array Oper) (j : Nat) : Option Tmp := (ops[j]?).bind (·.dst)
def chk (ops : Array Oper) : Bool :=
 (List.range ops.size).all fun i => match ops[i]? with
  | none => true
  | some o => (o.after.all fun e => !Region.binds .any e || decide (e.on < i)) &&
   (List.range ops.size).all fun j => j == i || match dstOf ops j with
    | none => true
    | some d => (o.dst != some d) && (!(o.looksAt ops).contains d || dep ops i j || dep ops j i)
def ins (L : Nat → Bool) (i : Nat) : Nat → Bool := fun j => j == i || L j
theorem Ext.drew (S : Hp) (g : G) (w : World) : Ext S g w S g w.drew := ⟨.refl g, rfl, rfl, rfl, Nat.le_refl _, fun _ _ _ => rfl, fun _ h => .inl h, fun _ _ h => .inl h, fun _ h => h, fun _ _ _ h => .inl h, fun _ _ h => .inl h⟩
structure St where
 t : Nat → A
 n : Nat
 ds : List Nat
 S : Hp
def FR (r : Option Nat) : Fence := { Fence.wide with round := r }
theorem callsIn_FR {r : Option Nat} {P : Program} {f : FuncId} {args : Array Value} {w : World} {Q : Ending → World → Prop} (h : Calls P f args w Q) : CallsIn (FR r) 0 P f args w Q := (callsIn_wide (n := 0)).2 h
def OpR (P : Program) (o : Oper) (ρ : Operand → A) (S S' : Hp) (pv : A) : Prop :=
  ∀ (r : Option Nat) (g : G) (w : World) (a : Act) (next : Act → World → Prop) (Q : Exit → Act → World → Prop), Inv g S w → (∀ x ∈ o.op.operands, V g (ρ x) (a.eval x)) →
   (∀ v g' w', V g' pv v → Inv g' S' w' → Ext S g w S' g' w' → next (a.put o.dst v) w') → o.wpIn (FR r) 0 P a w next Q
theorem OpS.opR {P : Program} {o : Oper} {ρ : Operand → A} {S S' : Hp} {pv : A} (h : OpS P o ρ S S' pv) (hd : ∀ c, o.op ≠ .defer c) : OpR P o ρ S S' pv := by
 intro r g w a next Q hI hv K
 have h1 := h g w a next Q hI hv K
 refine ⟨fun f _ => trivial, ?_⟩
 rw [Oper.semAt_eq _ _ _ hd]
 unfold Oper.wp at h1
 generalize (execOp a.eval o).run P w = res at h1 ⊢
 cases res with
 | ok x w' =>
  cases x <;> simp only [Oper.upon, Oper.uponIn] at h1 ⊢ <;> first
   | exact h1
   | exact ⟨fun h => by simp [FR, Fence.wide] at h, callsIn_FR h1⟩
   | exact ⟨fun h => by simp [FR, Fence.wide] at h, fun c cs _ => let ⟨v, w1, k1, k2⟩ := h1 c cs; ⟨v, w1, k1, stepsIn_wide.2 k2⟩⟩
   | exact h1.elim
 | halt x w' => cases x <;> simp only [Oper.upon, Oper.uponIn] at h1 ⊢ <;> first | exact h1 | exact h1.elim
def DefOk (g : G) (ds : List Nat) (l : List Deferred) : Prop := ds.length = l.length ∧ ∀ (i d : Nat) (e : Deferred), ds[i]? = some d → l[i]? = some e → ∃ b s, g.at' d = some (some b, s) ∧ e = { target := .collected b, args := #[] }
theorem DefOk.mono {g g' : G} (h : Le g g') {ds : List Nat} {l : List Deferred} (k : DefOk g ds l) : DefOk g' ds l := ⟨k.1, fun i d e e1 e2 => let ⟨b, s, q1, q2⟩ := k.2 i d e e1 e2; ⟨b, s, h.at' _ _ q1, q2⟩⟩
def St.put (st : St) (d : Option Tmp) (p : A) : St :=
 match d with
 | some d => { st with t := fun i => if i = d then p else st.t i }
 | none => st
def St.to (st : St) (S : Hp) : St := { st with S := S }
def St.opz (st : St) (z : Nat) : Operand → A
 | .tmp t => if t < st.n then st.t t else .junk
 | .const v => .v v
 | .global _ => .junk
 | .func f => .fn f [] []
def R (S0 : Hp) (g0 : G) (w0 : World) (st : St) (a : Act) (w : World) : Prop :=
 ∃ g, Inv g st.S w ∧ Ext S0 g0 w0 st.S g w ∧ DefOk g st.ds a.defers ∧ a.tmps.size = st.n ∧ ∀ i, i < st.n → V g (st.t i) (a.tmps.getD i undef)
def lift (S0 : Hp) (g0 : G) (w0 : World) (Q : Exit → St → Prop) (e : Exit) (a : Act) (w : World) : Prop := ∃ st, R S0 g0 w0 st a w ∧ Q e st
def pw (P : Program) (ro : Option Nat) (S0 : Hp) (g0 : G) (w0 : World) (c : Code) (Q : Exit → St → Prop) (st : St) : Prop := ∀ a w, R S0 g0 w0 st a w → c.wpIn (FR ro) 0 P (lift S0 g0 w0 Q) a w
def pwl (P : Program) (ro : Option Nat) (S0 : Hp) (g0 : G) (w0 : World) (ops : Array Oper) (Q : Exit → St → Prop) (l : List Oper) (st : St) : Prop := ∀ a w, R S0 g0 w0 st a w → wpListIn (FR ro) 0 P ops (lift S0 g0 w0 Q) l a w
section
variable {P : Program} {ro : Option Nat} {S0 : Hp} {g0 : G} {w0 : World} {Q : Exit → St → Prop} {st : St} {ops : Array Oper}
theorem V_opz {g : G} {a : Act} (_hs : a.tmps.size = st.n) (hv : ∀ i, i < st.n → V g (st.t i) (a.tmps.getD i undef)) (z : Nat) (x : Operand) : V g (st.opz z x) (a.eval x) := by
 cases x with
 | tmp t =>
  simp only [St.opz, Act.eval]
  split
  ·exact hv t (by assumption)
  ·exact .junk _
 | const v => exact .v v
 | global _ => exact .junk _
 | func f => exact .fn f [] [] #[] #[] rfl rfl (by simp) (by simp)
theorem put_vals {g : G} {a : Act} {d : Option Tmp} {p : A} {v : Value} (hv : ∀ i, i < st.n → V g (st.t i) (a.tmps.getD i undef)) (h : V g p v) (hs : a.tmps.size = st.n) :
  ∀ i, i < (st.put d p).n → V g ((st.put d p).t i) ((a.put d v).tmps.getD i undef) := by
 cases d with
 | none => exact hv
 | some d =>
  intro i hi
  simp only [St.put, Act.put]
  by_cases hid : i = d
  ·subst hid
   have hlt : i < a.tmps.size := by rw [hs]; exact hi
   simp only [if_true]
   rw [show (a.tmps.setIfInBounds i v).getD i undef = v by simp [Array.getD, hlt]]
   exact h
  ·simp only [if_neg hid]
   rw [show (a.tmps.setIfInBounds d v).getD i undef = a.tmps.getD i undef by
    simp only [Array.getD_eq_getD_getElem?]
    rw [Array.getElem?_setIfInBounds_ne (fun h => hid h.symm)]]
   exact hv i hi
theorem size_put (a : Act) (d : Option Tmp) (v : Value) : (a.put d v).tmps.size = a.tmps.size := by cases d <;> simp [Act.put]
theorem defers_put (a : Act) (d : Option Tmp) (v : Value) : (a.put d v).defers = a.defers := by cases d <;> rfl
theorem R.put {a : Act} {w w' : World} {g g' : G} {S' : Hp} {d : Option Tmp} {p : A} {v : Value} (h1 : Ext S0 g0 w0 st.S g w) (h2 : DefOk g st.ds a.defers) (h3 : a.tmps.size = st.n) (h4 : ∀ i, i < st.n → V g (st.t i) (a.tmps.getD i undef))
  (hv : V g' p v) (hI : Inv g' S' w') (hE : Ext st.S g w S' g' w') : R S0 g0 w0 ((st.put d p).to S') (a.put d v) w' := by
 refine ⟨g', hI, h1.trans hE, by rw [defers_put]; cases d <;> exact h2.mono hE.le, by rw [size_put, h3]; cases d <;> rfl, ?_⟩
 exact put_vals (fun i hi => (h4 i hi).mono hE.le) hv h3
theorem pwl_nil (h : Q .normal st) : pwl P ro S0 g0 w0 ops Q [] st := fun _ _ hr => ⟨st, hr, h⟩
theorem pwl_step {o : Oper} {rest : List Oper} {pv : A} {S' : Hp} (z : Nat) (hg : o.guard = none) (h : OpR P o (st.opz z) st.S S' pv) (k : pwl P ro S0 g0 w0 ops Q rest ((st.put o.dst pv).to S')) : pwl P ro S0 g0 w0 ops Q (o :: rest) st := by
 intro a w hr
 obtain ⟨g, h0, h1, h2, h3, h4⟩ := hr
 refine wpListIn_plain hg (fun K hK => ?_)
 exact h ro g w a K _ h0 (fun x _ => V_opz h3 h4 z x) (fun v g' w' hv hI hE => hK _ _ (k _ _ (R.put h1 h2 h3 h4 hv hI hE)))
def gval (ops : Array Oper) (st : St) (j : Nat) (want : Bool) : Option Bool :=
 match (ops[j]?).bind (·.dst) with
 | some d => match st.opz 0 (.tmp d) with
  | .v (.bool b) => some (b == want)
  | .un => some false
  | _ => none
 | none => none
theorem wanted_of {g : G} {a : Act} {o : Oper} {j : Nat} {want b : Bool} (hs : a.tmps.size = st.n) (hv : ∀ i, i < st.n → V g (st.t i) (a.tmps.getD i undef)) (hg : o.guard = some (j, want)) (h : gval ops st j want = some b) :
  Region.wanted o (yielded ops a.tmps) = b := by
 unfold gval at h
 split at h
 ·rename_i d hd
  have hvd := V_opz (st := st) hs hv 0 (.tmp d)
  simp only [Act.eval] at hvd
  split at h
  ·rename_i b' hb
   cases h
   rw [hb] at hvd
   have := hvd.v_eq
   rw [Array.getD_eq_getD_getElem?] at this
   cases ht : a.tmps[d]? with
   | none => rw [ht] at this; cases this
   | some u =>
    rw [ht] at this
    simp only [Option.getD_some] at this
    subst this
    simp only [Region.wanted, hg, yielded, hd, Option.bind_some, ht]
    cases b' <;> cases want <;> rfl
  ·rename_i hb
   cases h
   rw [hb] at hvd
   generalize hu : a.tmps.getD d undef = u at hvd
   cases hvd
   rw [Array.getD_eq_getD_getElem?] at hu
   simp only [Region.wanted, hg, yielded, hd, Option.bind_some]
   cases ht : a.tmps[d]? with
   | none => simp
   | some u =>
    rw [ht] at hu
    simp only [Option.getD_some] at hu
    subst hu
    rfl
  ·cases h
 ·cases h
theorem put_to (d : Option Tmp) (p : A) : (st.put d p).to st.S = st.put d p := by cases d <;> rfl
theorem pwl_step_yes {o : Oper} {rest : List Oper} {pv : A} {S' : Hp} {j : Nat} {want : Bool} (z : Nat) (hg : o.guard = some (j, want)) (hb : gval ops st j want = some true) (h : OpR P o (st.opz z) st.S S' pv)
  (k : pwl P ro S0 g0 w0 ops Q rest ((st.put o.dst pv).to S')) : pwl P ro S0 g0 w0 ops Q (o :: rest) st := by
 intro a w hr
 obtain ⟨g, h0, h1, h2, h3, h4⟩ := hr
 refine wpListIn_step (fun K hK => ?_)
 rw [wanted_of h3 h4 hg hb, if_pos rfl]
 exact h ro g w a K _ h0 (fun x _ => V_opz h3 h4 z x) (fun v g' w' hv hI hE => hK _ _ (k _ _ (R.put h1 h2 h3 h4 hv hI hE)))
theorem pwl_step_no {o : Oper} {rest : List Oper} {j : Nat} {want : Bool} (hg : o.guard = some (j, want)) (hb : gval ops st j want = some false) (k : pwl P ro S0 g0 w0 ops Q rest (st.put o.dst .un)) : pwl P ro S0 g0 w0 ops Q (o :: rest) st := by
 intro a w hr
 obtain ⟨g, h0, h1, h2, h3, h4⟩ := hr
 refine wpListIn_step (fun K hK => ?_)
 rw [wanted_of h3 h4 hg hb, if_neg (by simp)]
 exact ⟨fun _ _ => trivial, hK _ _ (k _ _ (by have := R.put (S' := st.S) (d := o.dst) h1 h2 h3 h4 .un h0 (.refl _ g w); rwa [put_to] at this))⟩
theorem pw_region {id : Nat} {l : List Oper} (h : pwl P ro S0 g0 w0 l.toArray Q l st) : pw P ro S0 g0 w0 (.region id l.toArray false) Q st := fun a w hr => wpIn_region_lit (h a w hr)
def andThen (K : St → Prop) (Q : Exit → St → Prop) : Exit → St → Prop
 | .normal, st => K st
 | e, st => Q e st
theorem pw_seq {x y : Code} (h : pw P ro S0 g0 w0 x (andThen (fun st => pw P ro S0 g0 w0 y Q st) Q) st) : pw P ro S0 g0 w0 (.seq x y) Q st := fun a w hr => wpIn_seq (wpIn_mono (h a w hr) (fun e a w hl => by
 obtain ⟨st, h1, h2⟩ := hl
 cases e with
 | normal => exact h2 a w h1
 | _ => exact ⟨st, h1, h2⟩))
theorem pw_skip (h : Q .normal st) : pw P ro S0 g0 w0 .skip Q st := fun _ _ hr => wpIn_skip ⟨st, hr, h⟩
theorem pw_ret (h : Q .ret st) : pw P ro S0 g0 w0 .ret Q st := fun _ _ hr => wpIn_ret ⟨st, hr, h⟩
theorem pw_exit {id : Nat} (h : Q (.exit id) st) : pw P ro S0 g0 w0 (.exit id) Q st := fun _ _ hr => wpIn_exit ⟨st, hr, h⟩
theorem pw_cond {c : Operand} {x y : Code} {b : Bool} (hc : st.opz 0 c = .v (.bool b)) (h1 : b = true → pw P ro S0 g0 w0 x Q st) (h2 : b = false → pw P ro S0 g0 w0 y Q st) : pw P ro S0 g0 w0 (.cond c x y) Q st := by
 intro a w hr
 have hr' := hr
 obtain ⟨g, _, _, _, h5, h6⟩ := hr'
 have := V_opz h5 h6 0 c
 rw [hc] at this
 exact wpIn_cond_split this.v_eq (fun h => h1 h a w hr) (fun h => h2 h a w hr)
def inBlock (id : Nat) (Q : Exit → St → Prop) : Exit → St → Prop
 | .exit id', st => if id' = id then Q .normal st else Q (.exit id') st
 | e, st => Q e st
theorem pw_block {id : Nat} {c : Code} (h : pw P ro S0 g0 w0 c (inBlock id Q) st) : pw P ro S0 g0 w0 (.block id c) Q st := fun a w hr => wpIn_block (wpIn_mono (h a w hr) (fun e a w hl => by
 obtain ⟨st, h1, h2⟩ := hl
 cases e with
 | exit id' =>
  simp only [inBlock] at h2
  simp only [Exit.inBlock]
  split at h2
  ·rename_i hid; rw [if_pos hid]; exact ⟨st, h1, h2⟩
  ·rename_i hid; rw [if_neg hid]; exact ⟨st, h1, h2⟩
 | _ => exact ⟨st, h1, h2⟩))
end
structure Adm (ops : Array Oper) (i : Nat) (L : Nat → Bool) : Prop where
 new : L i = false
 lt : ∀ j, L j = true → j < ops.size
 deps : ∀ j, dep ops i j = true → L j = true
 down : ∀ k j, L k = true → dep ops k j = true → L j = true
theorem Adm.later {ops : Array Oper} {i : Nat} {L : Nat → Bool} (h : Adm ops i L) {j : Nat} (hd : dep ops j i = true) : L j = false := by
 cases hj : L j with
 | false => rfl
 | true => have := h.down j i hj hd; rw [h.new] at this; cases this
def stepD (P : Program) (ops : Array Oper) (Sf : (Nat → Bool) → Hp) (i : Nat) (o : Oper) (st : St) (pv : A) : Prop :=
 match o.guard with
 | none => ∃ z, ∀ L, Adm ops i L → OpR P o (st.opz z) (Sf L) (Sf (ins L i)) pv
 | some (j, want) => (gval ops st j want = some true ∧ ∃ z, ∀ L, Adm ops i L → OpR P o (st.opz z) (Sf L) (Sf (ins L i)) pv) ∨
   (gval ops st j want = some false ∧ (∀ g, V g pv undef) ∧ ∀ L, Adm ops i L → Sf (ins L i) = Sf L)
def drawOk (P : Program) (ops : Array Oper) (Sf : (Nat → Bool) → Hp) : List Oper → Nat → St → (St → Prop) → Prop
 | [], _, st, K => K st
 | o :: l, i, st, K => ∃ pv, stepD P ops Sf i o st pv ∧ drawOk P ops Sf l (i + 1) (st.put o.dst pv) K
def tst (ops : Array Oper) (pv : Nat → A) (st : St) : Nat → St
 | 0 => st
 | i + 1 => (tst ops pv st i).put (dstOf ops i) (pv i)
theorem drawOk_pv {P : Program} {ops : Array Oper} {Sf : (Nat → Bool) → Hp} : ∀ (l : List Oper) (k : Nat) (st0 : St) (pv0 : Nat → A) (K : St → Prop), (∀ j, l[j]? = ops[k + j]?) → drawOk P ops Sf l k (tst ops pv0 st0 k) K →
  ∃ pv : Nat → A, (∀ j, j < k → pv j = pv0 j) ∧ (∀ i o, k ≤ i → ops[i]? = some o → stepD P ops Sf i o (tst ops pv st0 i) (pv i)) ∧ K (tst ops pv st0 (k + l.length))
 | [], k, st0, pv0, K, hl, h => ⟨pv0, fun _ _ => rfl, fun i o hk ho => by
   have := hl (i - k)
   rw [show k + (i - k) = i by omega, ho] at this
   simp at this, h⟩
 | o :: l, k, st0, pv0, K, hl, h => by
  obtain ⟨p, h1, h2⟩ := h
  have ho : ops[k]? = some o := by simpa using (hl 0).symm
  have hcong : ∀ (pv1 pv2 : Nat → A) i, (∀ j, j < i → pv1 j = pv2 j) → tst ops pv1 st0 i = tst ops pv2 st0 i := by
   intro pv1 pv2 i
   induction i with
   | zero => intro _; rfl
   | succ i ih => intro hh; simp only [tst]; rw [ih (fun j hj => hh j (by omega)), hh i (by omega)]
  have e1 : tst ops (fun j => if j = k then p else pv0 j) st0 k = tst ops pv0 st0 k := hcong _ _ k (fun j hj => if_neg (by omega))
  have hst : tst ops (fun j => if j = k then p else pv0 j) st0 (k + 1) = (tst ops pv0 st0 k).put o.dst p := by
   simp only [tst, e1, dstOf, ho, Option.bind_some, if_true]
  obtain ⟨pv, k1, k2, k3⟩ := drawOk_pv l (k + 1) st0 (fun j => if j = k then p else pv0 j) K (fun j => by have := hl (j + 1); simpa [Nat.add_assoc, Nat.add_comm 1 j] using this) (by rw [hst]; exact h2)
  refine ⟨pv, fun j hj => by rw [k1 j (by omega), if_neg (by omega)], fun i o' hi ho' => ?_, by rw [List.length_cons, show k + (l.length + 1) = k + 1 + l.length by omega]; exact k3⟩
  by_cases hik : i = k
  ·subst hik
   rw [ho] at ho'
   cases ho'
   rw [show tst ops pv st0 i = tst ops pv0 st0 i from hcong _ _ i (fun j hj => by rw [k1 j (by omega), if_neg (by omega)]), show pv i = p by rw [k1 i (by omega), if_pos rfl]]
   exact h1
  ·exact k2 i o' (by omega) ho'
theorem tst_n {ops : Array Oper} {pv : Nat → A} {st : St} : ∀ i, (tst ops pv st i).n = st.n
 | 0 => rfl
 | i + 1 => by
  have ih := tst_n (ops := ops) (pv := pv) (st := st) i
  simp only [tst]
  cases dstOf ops i <;> exact ih
theorem tst_ds {ops : Array Oper} {pv : Nat → A} {st : St} : ∀ i, (tst ops pv st i).ds = st.ds
 | 0 => rfl
 | i + 1 => by
  have ih := tst_ds (ops := ops) (pv := pv) (st := st) i
  simp only [tst]
  cases dstOf ops i <;> exact ih
theorem tst_slot {ops : Array Oper} {pv : Nat → A} {st : St} {d : Nat} : ∀ i, (∀ j, dstOf ops j ≠ some d) → (tst ops pv st i).t d = st.t d
 | 0, _ => rfl
 | i + 1, h => by
  simp only [tst]
  cases hd : dstOf ops i with
  | none => exact tst_slot i h
  | some e =>
   simp only [St.put]
   rw [if_neg (fun he => h i (by rw [hd, he]))]
   exact tst_slot i h
theorem tst_writer {ops : Array Oper} {pv : Nat → A} {st : St} {d w : Nat} (hw : dstOf ops w = some d) (hu : ∀ j, dstOf ops j = some d → j = w) : ∀ i, (tst ops pv st i).t d = if w < i then pv w else st.t d
  | 0 => by simp [tst]
  | i + 1 => by
    simp only [tst]
    have ih := tst_writer (pv := pv) (st := st) hw hu i
    cases hd : dstOf ops i with
    | none =>
      simp only [St.put]
      rw [ih]
      by_cases h : w < i
      · rw [if_pos h, if_pos (by omega)]
      · rw [if_neg h, if_neg (by intro h2; have : w = i := by omega
                                 subst this; rw [hw] at hd; cases hd)]
    | some e =>
      simp only [St.put]
      by_cases he : d = e
      · subst he
        have : i = w := hu i hd
        subst this
        rw [if_pos rfl, if_pos (by omega)]
      · rw [if_neg he, ih]
        by_cases h : w < i
        · rw [if_pos h, if_pos (by omega)]
        · rw [if_neg h, if_neg (by intro h2; have : w = i := by omega
                                   subst this; rw [hw] at hd; cases hd; exact he rfl)]
section
variable {P : Program} {ro : Option Nat} {S0 : Hp} {g0 : G} {w0 : World} {Q : Exit → St → Prop} {st : St}
theorem chk_spec {ops : Array Oper} (h : chk ops = true) {i : Nat} {o : Oper} (ho : ops[i]? = some o) :
  (∀ e ∈ o.after, Region.binds .any e = true → e.on < i) ∧ (∀ j d, j ≠ i → dstOf ops j = some d → o.dst ≠ some d ∧ (d ∈ o.looksAt ops → dep ops i j = true ∨ dep ops j i = true)) := by
 have hi : i < ops.size := (Array.getElem?_eq_some_iff.1 ho).1
 simp only [chk, List.all_eq_true, List.mem_range] at h
 have h1 := h i hi
 simp only [ho, Bool.and_eq_true] at h1
 refine ⟨fun e he hb => ?_, fun j d hj hd => ?_⟩
 ·have := Array.all_eq_true_iff_forall_mem.1 h1.1 e he
  simpa [hb] using this
 ·have hjs : j < ops.size := by
   rcases Nat.lt_or_ge j ops.size with h | h
   ·exact h
   ·simp [dstOf, Array.getElem?_eq_none h] at hd
  have h2 := h1.2
  rw [List.all_eq_true] at h2
  have h3 := h2 j (List.mem_range.2 hjs)
  simp only [hd, Bool.or_eq_true, beq_iff_eq, hj, false_or, Bool.and_eq_true, bne_iff_ne, ne_eq] at h3
  refine ⟨h3.1, fun hm => ?_⟩
  rcases h3.2 with (h4 | h4) | h4
  ·simp [hm] at h4
  ·exact .inl h4
  ·exact .inr h4
structure Fr (ops : Array Oper) (pv : Nat → A) (st : St) (L : Nat → Bool) (g : G) (a : Act) : Prop where
 size : a.tmps.size = st.n
 none : ∀ d, d < st.n → (∀ j, dstOf ops j ≠ some d) → V g (st.t d) (a.tmps.getD d undef)
 some : ∀ d w, d < st.n → dstOf ops w = some d → V g (if L w = true then pv w else st.t d) (a.tmps.getD d undef)
theorem gval_congr {ops : Array Oper} {s1 s2 : St} {j : Nat} {want : Bool} (h : ∀ d, dstOf ops j = some d → s1.opz 0 (.tmp d) = s2.opz 0 (.tmp d)) : gval ops s1 j want = gval ops s2 j want := by
 unfold gval
 cases hd : (ops[j]?).bind (·.dst) with
 | none => rfl
 | some d => simp only [h d hd]
theorem draw_any {ops : Array Oper} {Sf : (Nat → Bool) → Hp} {pv : Nat → A} (hc : chk ops = true) (hstep : ∀ i o, ops[i]? = some o → stepD P ops Sf i o (tst ops pv st i) (pv i))
    (hQ : Q .normal ((tst ops pv st ops.size).to (Sf fun j => decide (j < ops.size)))) :
    ∀ (fuel : Nat) (listed : Array Bool) (a : Act) (w : World) (g : G), listed.size = ops.size → (ops.size ≤ fuel + (List.range ops.size).countP fun j => listed.getD j false) →
      (∀ k j, listed.getD k false = true → dep ops k j = true → listed.getD j false = true) → Inv g (Sf fun j => listed.getD j false) w → Ext S0 g0 w0 (Sf fun j => listed.getD j false) g w → DefOk g st.ds a.defers → Fr ops pv st (fun j => listed.getD j false) g a →
      wpAnyIn (FR ro) 0 P .any ops (lift S0 g0 w0 Q) fuel listed a w := by
  have fin : ∀ (listed : Array Bool) (a : Act) (w : World) (g : G), listed.size = ops.size → (∀ k, k < ops.size → listed.getD k false = true) → Inv g (Sf fun j => listed.getD j false) w → Ext S0 g0 w0 (Sf fun j => listed.getD j false) g w → DefOk g st.ds a.defers →
      Fr ops pv st (fun j => listed.getD j false) g a → lift S0 g0 w0 Q .normal a w := by
    intro listed a w g hls hall hI hE hd hF
    have hL : (fun j => listed.getD j false) = fun j => decide (j < ops.size) := by
      funext j
      by_cases hj : j < ops.size
      · rw [hall j hj]; simp [hj]
      · rw [show listed.getD j false = false by simp [Array.getD, show ¬ j < listed.size by omega]]; simp [hj]
    rw [hL] at hI hE
    refine ⟨(tst ops pv st ops.size).to (Sf fun j => decide (j < ops.size)), ⟨g, hI, hE, by show DefOk g (tst ops pv st ops.size).ds a.defers; rw [tst_ds]; exact hd, by rw [hF.size]; exact (tst_n _).symm, fun d hdn => ?_⟩, hQ⟩
    have hdn' : d < st.n := by have h := hdn; simp only [St.to, tst_n] at h; exact h
    show V g ((tst ops pv st ops.size).t d) _
    by_cases hw : ∃ w, dstOf ops w = some d
    · obtain ⟨u, hu⟩ := hw
      have hus : u < ops.size := by
        rcases Nat.lt_or_ge u ops.size with h | h
        · exact h
        · simp [dstOf, Array.getElem?_eq_none h] at hu
      have huniq : ∀ j, dstOf ops j = some d → j = u := fun j hj => by
        rcases Nat.lt_or_ge j ops.size with h | h
        · by_cases hju : j = u
          · exact hju
          · have := (chk_spec hc (i := j) (o := ops[j]) (by simp [h])).2 u d (fun e => hju e.symm) hu
            exact absurd (by simpa [dstOf, h] using hj) this.1
        · simp [dstOf, Array.getElem?_eq_none h] at hj
      rw [tst_writer hu huniq, if_pos hus]
      have := hF.some d u hdn' hu
      rwa [if_pos (hall u hus)] at this
    · have hno : ∀ j, dstOf ops j ≠ some d := fun j hj => hw ⟨j, hj⟩
      rw [tst_slot _ hno]
      exact hF.none d hdn' hno
  have ready_nil : ∀ (listed : Array Bool), listed.size = ops.size → Region.ready .any ops listed = [] → ∀ k, k < ops.size → listed.getD k false = true := by
    intro listed hls hr k
    induction k using Nat.strongRecOn with
    | _ k ih =>
      intro hk
      cases hx : listed.getD k false with
      | true => rfl
      | false =>
        have : k ∈ Region.ready .any ops listed := mem_ready.2 ⟨by
          have hlt : k < listed.size := by omega
          simpa [Array.getD, hlt] using hx, ops[k], by simp [hk], fun e he hb => ?_⟩
        · rw [hr] at this; cases this
        · have := (chk_spec hc (i := k) (o := ops[k]) (by simp [hk])).1 e he hb
          exact ih e.on this (by omega)
  intro fuel
  induction fuel with
  | zero =>
    intro listed a w g hls hcnt hdown hI hE hd hF
    have hall : ∀ k, k < ops.size → listed.getD k false = true := by
      have h1 : (List.range ops.size).countP (fun j => listed.getD j false) = (List.range ops.size).length := by
        have := List.countP_le_length (p := fun j => listed.getD j false) (l := List.range ops.size)
        simp only [List.length_range] at this ⊢
        omega
      have := List.countP_eq_length.1 h1
      exact fun k hk => this k (List.mem_range.2 hk)
    refine ⟨?_, fin listed a w g hls hall hI hE hd hF⟩
    cases hr : Region.ready .any ops listed with
    | nil => rfl
    | cons k r =>
      have hk : k ∈ Region.ready .any ops listed := by rw [hr]; exact List.mem_cons_self ..
      obtain ⟨h1, o, ho, _⟩ := mem_ready.1 hk
      have hks := (Array.getElem?_eq_some_iff.1 ho).1
      have := hall k hks
      have hlt : k < listed.size := by omega
      simp [Array.getD, hlt] at h1 this
      rw [h1] at this; cases this
  | succ fuel ih =>
    intro listed a w g hls hcnt hdown hI hE hd hF
    refine ⟨fun hr => fin listed a w g hls (ready_nil listed hls hr) hI hE hd hF, fun i hi => ?_⟩
    obtain ⟨h1, o, ho, h2⟩ := mem_ready.1 hi
    have his : i < ops.size := (Array.getElem?_eq_some_iff.1 ho).1
    have hlt : i < listed.size := by omega
    have hnew : listed.getD i false = false := by simpa [Array.getD, hlt] using h1
    have hadm : Adm ops i (fun j => listed.getD j false) := ⟨hnew, fun j hj => by
      rcases Nat.lt_or_ge j listed.size with h | h
      · omega
      · simp [Array.getD, Nat.not_lt.2 h] at hj, fun j hj => by
      simp only [dep, ho] at hj
      obtain ⟨e, he, hb⟩ := Array.any_eq_true'.1 hj
      simp only [Bool.and_eq_true, beq_iff_eq] at hb
      rw [← hb.2]
      exact h2 e he hb.1, hdown⟩
    have hLins : (fun j => (listed.setIfInBounds i true).getD j false) = ins (fun j => listed.getD j false) i := by
      funext j
      by_cases hji : j = i
      · subst hji; simp [ins, hlt]
      · simp only [ins]
        rw [getD_set_ne false (fun h => hji h.symm)]
        simp [hji]
    have hslot : ∀ d, d ∈ o.looksAt ops → d < st.n → V g ((tst ops pv st i).t d) (a.tmps.getD d undef) := by
      intro d hdl hdn
      by_cases hw : ∃ w, dstOf ops w = some d
      · obtain ⟨u, hu⟩ := hw
        have huniq : ∀ j, dstOf ops j = some d → j = u := fun j hj => by
          rcases Nat.lt_or_ge j ops.size with h | h
          · by_cases hju : j = u
            · exact hju
            · have := (chk_spec hc (i := j) (o := ops[j]) (by simp [h])).2 u d (fun e => hju e.symm) hu
              exact absurd (by simpa [dstOf, h] using hj) this.1
          · simp [dstOf, Array.getElem?_eq_none h] at hj
        have hv := hF.some d u hdn hu
        rw [tst_writer hu huniq]
        by_cases hui : u = i
        · subst hui
          rw [if_neg (Nat.lt_irrefl _)]
          rwa [if_neg (by simp only [hnew]; simp)] at hv
        · rcases ((chk_spec hc ho).2 u d hui hu).2 hdl with h | h
          · have hLu := hadm.deps u h
            have hlt' : u < i := by
              simp only [dep, ho] at h
              obtain ⟨e, he, hb⟩ := Array.any_eq_true'.1 h
              simp only [Bool.and_eq_true, beq_iff_eq] at hb
              rw [← hb.2]; exact (chk_spec hc ho).1 e he hb.1
            rw [if_pos hlt']
            rwa [if_pos hLu] at hv
          · have hLu := hadm.later h
            have hus : u < ops.size := by
              rcases Nat.lt_or_ge u ops.size with h | h
              · exact h
              · simp [dstOf, Array.getElem?_eq_none h] at hu
            have hlt' : i < u := by
              simp only [dep, show ops[u]? = some ops[u] by simp [hus]] at h
              obtain ⟨e, he, hb⟩ := Array.any_eq_true'.1 h
              simp only [Bool.and_eq_true, beq_iff_eq] at hb
              rw [← hb.2]; exact (chk_spec hc (i := u) (o := ops[u]) (by simp [hus])).1 e he hb.1
            rw [if_neg (by omega)]
            rwa [if_neg (by rw [hLu]; simp)] at hv
      · have hno : ∀ j, dstOf ops j ≠ some d := fun j hj => hw ⟨j, hj⟩
        rw [tst_slot _ hno]
        exact hF.none d hdn hno
    have hops : ∀ z, ∀ x ∈ o.op.operands, V g ((tst ops pv st i).opz z x) (a.eval x) := by
      intro z x hx
      cases x with
      | tmp t =>
        simp only [St.opz, Act.eval, tst_n]
        split
        · refine hslot t ?_ (by assumption)
          exact List.mem_append_left _ (List.mem_filterMap.2 ⟨.tmp t, by simpa using hx, rfl⟩)
        · exact .junk _
      | const v => exact .v v
      | global _ => exact .junk _
      | func f => exact .fn f [] [] #[] #[] rfl rfl (by simp) (by simp)
    have next : ∀ v g' w', V g' (pv i) v → Inv g' (Sf (ins (fun j => listed.getD j false) i)) w' → Ext (Sf fun j => listed.getD j false) g w (Sf (ins (fun j => listed.getD j false) i)) g' w' → wpAnyIn (FR ro) 0 P .any ops (lift S0 g0 w0 Q) fuel (listed.setIfInBounds i true) (a.put o.dst v) w' := by
      intro v g' w' hv hI' hE'
      refine ih (listed.setIfInBounds i true) (a.put o.dst v) w' g' (by simp [hls]) ?_ ?_ (by rw [hLins]; exact hI') (by rw [hLins]; exact hE.trans hE') (by rw [defers_put]; exact hd.mono hE'.le) ?_
      · rw [show (fun j => (listed.setIfInBounds i true).getD j false) = ins (fun j => listed.getD j false) i from hLins]
        have hcount : (List.range ops.size).countP (fun j => listed.getD j false) < (List.range ops.size).countP (ins (fun j => listed.getD j false) i) := by
          have hle : ∀ (l : List Nat), l.countP (fun j => listed.getD j false) ≤ l.countP (ins (fun j => listed.getD j false) i) := fun l => List.countP_mono_left (fun j _ hj => by simp only [ins]; rw [Bool.or_eq_true]; exact .inr hj)
          have hstrict : ∀ (l : List Nat), i ∈ l → l.countP (fun j => listed.getD j false) < l.countP (ins (fun j => listed.getD j false) i) := by
            intro l
            induction l with
            | nil => intro h; cases h
            | cons x l ihl =>
              intro hm
              simp only [List.countP_cons]
              by_cases hxi : x = i
              · subst hxi
                have := hle l
                have e1 : (if (fun j => listed.getD j false) x = true then 1 else 0) = 0 := if_neg (by simp only [hnew]; simp)
                have e2 : (if ins (fun j => listed.getD j false) x x = true then 1 else 0) = 1 := if_pos (by simp [ins])
                have h3 := Nat.lt_succ_of_le this
                simp only at e1
                rw [e2, e1]
                exact h3
              · have := ihl (by rcases List.mem_cons.1 hm with h | h
                                · exact absurd h.symm hxi
                                · exact h)
                have e : ins (fun j => listed.getD j false) i x = listed.getD x false := by simp [ins, hxi]
                rw [e]
                exact Nat.add_lt_add_right this _
          exact hstrict _ (List.mem_range.2 his)
        omega
      · intro k j hk hkj
        have hk' : ins (fun j => listed.getD j false) i k = true := by rw [← hLins]; exact hk
        have : ins (fun j => listed.getD j false) i j = true := by
          simp only [ins, Bool.or_eq_true, beq_iff_eq] at hk' ⊢
          rcases hk' with rfl | hk'
          · exact .inr (hadm.deps j hkj)
          · exact .inr (hdown k j hk' hkj)
        rw [← hLins] at this; exact this
      · rw [hLins]
        refine ⟨by rw [size_put]; exact hF.size, fun d hdn hno => ?_, fun d u hdn hu => ?_⟩
        · have hne : o.dst ≠ some d := fun h => hno i (by simp [dstOf, ho, h])
          have : (a.put o.dst v).tmps.getD d undef = a.tmps.getD d undef := by
            cases hdst : o.dst with
            | none => rfl
            | some e =>
              simp only [Act.put, Array.getD_eq_getD_getElem?]
              rw [Array.getElem?_setIfInBounds_ne (fun h => hne (by rw [hdst, h]))]
          rw [this]; exact (hF.none d hdn hno).mono hE'.le
        · by_cases hui : u = i
          · subst hui
            have hdst : o.dst = some d := by simpa [dstOf, ho] using hu
            have hlt' : d < a.tmps.size := by rw [hF.size]; exact hdn
            rw [show (a.put o.dst v).tmps.getD d undef = v by simp [hdst, Act.put, Array.getD, hlt']]
            simp only [ins, beq_self_eq_true, Bool.true_or, if_true]
            exact hv
          · have hne : o.dst ≠ some d := ((chk_spec hc ho).2 u d hui hu).1
            have : (a.put o.dst v).tmps.getD d undef = a.tmps.getD d undef := by
              cases hdst : o.dst with
              | none => rfl
              | some e =>
                simp only [Act.put, Array.getD_eq_getD_getElem?]
                rw [Array.getElem?_setIfInBounds_ne (fun h => hne (by rw [hdst, h]))]
            rw [this]
            have := (hF.some d u hdn hu).mono hE'.le
            simpa [ins, hui] using this
    have hgv : ∀ j want b, o.guard = some (j, want) → gval ops (tst ops pv st i) j want = some b → Region.wanted o (yielded ops a.tmps) = b := by
      intro j want b hg hb
      refine wanted_of (st := { t := fun d => if dstOf ops j = some d then (tst ops pv st i).t d else .junk, n := st.n, ds := st.ds, S := st.S }) (g := g) hF.size (fun d hdn => ?_) hg ?_
      · show V g (if dstOf ops j = some d then _ else _) _
        split
        · rename_i hj
          refine hslot d ?_ hdn
          unfold Oper.looksAt
          refine List.mem_append_right _ ?_
          simp only [hg]
          simp only [dstOf] at hj
          rw [hj]; simp
        · exact .junk _
      · rw [← hb]
        refine gval_congr (fun d hj => ?_)
        simp only [St.opz, tst_n]
        split
        · first | rfl | simp [hj]
        · rfl
    have hs := hstep i o ho
    unfold wpOpIn
    simp only [ho]
    unfold stepD at hs
    cases hg : o.guard with
    | none =>
      rw [hg] at hs
      obtain ⟨z, hs⟩ := hs
      rw [if_pos (by simp [Region.wanted, hg])]
      exact hs _ hadm ro g w a _ _ hI (hops z) next
    | some jw =>
      obtain ⟨j, want⟩ := jw
      rw [hg] at hs
      rcases hs with ⟨hb, z, hs⟩ | ⟨hb, hp, hs⟩
      · rw [if_pos (hgv j want true hg hb)]
        exact hs _ hadm ro g w a _ _ hI (hops z) next
      · rw [if_neg (by rw [hgv j want false hg hb]; simp)]
        exact ⟨fun _ _ => trivial, next undef g w (hp g) (by rw [hs _ hadm]; exact hI) (by rw [hs _ hadm]; exact .refl _ g w)⟩
theorem pw_draw {id : Nat} {l : List Oper} (Sf : (Nat → Bool) → Hp) (hm : P.follows .mixedOrders = true) (hc : chk l.toArray = true) (h0 : Sf (fun _ => false) = st.S)
  (h : drawOk P l.toArray Sf l 0 st (fun st' => Q .normal (st'.to (Sf fun j => decide (j < l.length))))) : pw P ro S0 g0 w0 (.region id l.toArray true) Q st := by
 intro a w hr
 obtain ⟨g, hI, hE, hd, hs, hv⟩ := hr
 obtain ⟨pv, _, h2, h3⟩ := drawOk_pv (ops := l.toArray) l 0 st (fun _ => .junk) _ (fun j => by simp) h
 refine wpIn_region_any hm ?_
 have hLf : (fun j => (Array.replicate l.toArray.size false).getD j false) = fun _ => false := by
  funext j
  by_cases hj : j < l.length <;> simp [Array.getD, hj]
 refine draw_any (pv := pv) hc (fun i o ho => h2 i o (Nat.zero_le _) ho) (by simpa using h3) _ _ a w.drew g (by simp) (by omega) (fun k j hk _ => ?_) (by rw [hLf, h0]; exact hI.drew) (by rw [hLf, h0]; exact hE.trans (.drew _ g w)) hd ⟨hs, fun d hdn _ => hv d hdn, fun d u hdn _ => ?_⟩
 ·have := congrFun hLf k
  rw [this] at hk; cases hk
 ·have := congrFun hLf u
  simp only [this]
  exact hv d hdn
end
end
end Go.Bm
set_option linter.unusedVariables false
set_option linter.unusedSimpArgs false
namespace Go.Bm
noncomputable section
open Go.RowKit
structure Sg where
 t : Ty
 x : t.T
def getP : List Sp → (t : Ty) → t.T → Option Sg
 | [], t, x => some ⟨t, x⟩
 | .fst :: π, .pair a b, x => getP π a x.1
 | .snd c :: π, .pair a b, x => bif Nat.beq c a.size then getP π b x.2 else none
 | .ai i n z :: π, .arr n' t, l => bif Nat.beq n n' && Nat.beq z t.size then getP π t (nth t.dflt l i) else none
 | _, _, _ => none
def castT (a b : Ty) (x : a.T) : Option b.T := if h : a = b then some (h ▸ x) else none
theorem castT_eq {a b : Ty} {x : a.T} {y : b.T} (h : castT a b x = some y) : ∃ e : a = b, e ▸ x = y := by
 unfold castT at h
 split at h
 ·rename_i e; exact ⟨e, Option.some.inj h⟩
 ·cases h
def setP (u : Ty) (y : u.T) : List Sp → (t : Ty) → t.T → Option t.T
 | [], t, _ => castT u t y
 | .fst :: π, .pair a b, x => match setP u y π a x.1 with
  | some z => some (z, x.2)
  | none => none
 | .snd c :: π, .pair a b, x => bif Nat.beq c a.size then (match setP u y π b x.2 with
  | some z => some (x.1, z)
  | none => none) else none
 | .ai i n z :: π, .arr n' t, l => bif Nat.beq n n' && Nat.beq z t.size then (match setP u y π t (nth t.dflt l i) with
  | some v => some (aset t.dflt l i v)
  | none => none) else none
 | _, _, _ => none
theorem beq_eq {a b : Nat} (h : Nat.beq a b = true) : a = b := Nat.eq_of_beq_eq_true h
theorem cond_some {α : Type} {c : Bool} {x : Option α} {r : α} (h : (bif c then x else none) = some r) : c = true ∧ x = some r := by
 cases c with
 | true => exact ⟨rfl, h⟩
 | false => cases h
theorem arr_split (t : Ty) (n : Nat) (l : List t.T) {i : Nat} (hi : i < n) : ∃ a c, encA (.arr n t) l = a ++ (encA t (nth t.dflt l i) ++ c) ∧ a.length = i * t.size ∧ a = (List.range i).flatMap (fun k => encA t (nth t.dflt l k)) ∧ c = ((List.range n).drop (i + 1)).flatMap (fun k => encA t (nth t.dflt l k)) := by
 have hr : List.range n = List.range i ++ (i :: (List.range n).drop (i + 1)) := by
  have h1 := (List.take_append_drop i (List.range n)).symm
  rw [List.take_range, Nat.min_eq_left (Nat.le_of_lt hi), List.drop_eq_getElem_cons (by simpa using hi)] at h1
  simpa using h1
 refine ⟨_, _, ?_, ?_, rfl, rfl⟩
 ·show (List.range n).flatMap _ = _
  conv => lhs; rw [hr]
  rw [List.flatMap_append, List.flatMap_cons]
 ·have := arrF_len (f := encA t) (d := t.dflt) (encA_len t) i l
  exact this
theorem getP_ok : ∀ (π : List Sp) (t : Ty) (x : t.T) (s : Nat) (r : Sg), getP π t x = some r → Pok s π → ∃ a c, encA t x = a ++ (encA r.t r.x ++ c) ∧ a.length = offS π
 | [], t, x, s, r, h, _ => by cases h; exact ⟨[], [], by simp, rfl⟩
 | .fst :: π, .pair a b, x, s, r, h, hk => by
  obtain ⟨p, c, e1, e2⟩ := getP_ok π a x.1 s r h hk
  exact ⟨p, c ++ encA b x.2, by show encA a x.1 ++ encA b x.2 = _; rw [e1]; simp, e2⟩
 | .snd k :: π, .pair a b, x, s, r, h, hk => by
  obtain ⟨hc, h2⟩ := cond_some (show (bif Nat.beq k a.size then getP π b x.2 else none) = some r from h)
  obtain ⟨p, c, e1, e2⟩ := getP_ok π b x.2 s r h2 hk
  refine ⟨encA a x.1 ++ p, c, by show encA a x.1 ++ encA b x.2 = _; rw [e1]; simp, ?_⟩
  rw [List.length_append, encA_len, e2, beq_eq hc]; rfl
 | .ai i n z :: π, .arr n' t, l, s, r, h, hk => by
  obtain ⟨hc, h2⟩ := cond_some (show (bif Nat.beq n n' && Nat.beq z t.size then getP π t (nth t.dflt l i) else none) = some r from h)
  simp only [Bool.and_eq_true] at hc
  obtain rfl := beq_eq hc.1
  obtain rfl := beq_eq hc.2
  obtain ⟨p, c, e1, e2⟩ := getP_ok π t _ s r h2 hk.2
  obtain ⟨a, d, k1, k2, _⟩ := arr_split t n l hk.1
  refine ⟨a ++ p, c ++ d, by rw [k1, e1]; simp, ?_⟩
  rw [List.length_append, k2, e2]; rfl
 | .fst :: _, .int _, _, _, _, h, _ => by cases h
 | .fst :: _, .bool, _, _, _, h, _ => by cases h
 | .fst :: _, .unit, _, _, _, h, _ => by cases h
 | .fst :: _, .arr _ _, _, _, _, h, _ => by cases h
 | .fst :: _, .slc _, _, _, _, h, _ => by cases h
 | .fst :: _, .ptr _, _, _, _, h, _ => by cases h
 | .fst :: _, .nptr _, _, _, _, h, _ => by cases h
 | .fst :: _, .rsl _ _, _, _, _, h, _ => by cases h
 | .fst :: _, .wrg _ _, _, _, _, h, _ => by cases h
 | .fst :: _, .mp _, _, _, _, h, _ => by cases h
 | .snd _ :: _, .int _, _, _, _, h, _ => by cases h
 | .snd _ :: _, .bool, _, _, _, h, _ => by cases h
 | .snd _ :: _, .unit, _, _, _, h, _ => by cases h
 | .snd _ :: _, .arr _ _, _, _, _, h, _ => by cases h
 | .snd _ :: _, .slc _, _, _, _, h, _ => by cases h
 | .snd _ :: _, .ptr _, _, _, _, h, _ => by cases h
 | .snd _ :: _, .nptr _, _, _, _, h, _ => by cases h
 | .snd _ :: _, .rsl _ _, _, _, _, h, _ => by cases h
 | .snd _ :: _, .wrg _ _, _, _, _, h, _ => by cases h
 | .snd _ :: _, .mp _, _, _, _, h, _ => by cases h
 | .ai _ _ _ :: _, .int _, _, _, _, h, _ => by cases h
 | .ai _ _ _ :: _, .bool, _, _, _, h, _ => by cases h
 | .ai _ _ _ :: _, .unit, _, _, _, h, _ => by cases h
 | .ai _ _ _ :: _, .pair _ _, _, _, _, h, _ => by cases h
 | .ai _ _ _ :: _, .slc _, _, _, _, h, _ => by cases h
 | .ai _ _ _ :: _, .ptr _, _, _, _, h, _ => by cases h
 | .ai _ _ _ :: _, .nptr _, _, _, _, h, _ => by cases h
 | .ai _ _ _ :: _, .rsl _ _, _, _, _, h, _ => by cases h
 | .ai _ _ _ :: _, .wrg _ _, _, _, _, h, _ => by cases h
 | .ai _ _ _ :: _, .mp _, _, _, _, h, _ => by cases h
 | .ix _ _ :: _, _, _, _, _, h, _ => by simp [getP] at h
theorem arr_splitD (t : Ty) (n : Nat) (l : List t.T) {i : Nat} (hi : i < n) : ∃ a c, encD (.arr n t) l = a ++ (encD t (nth t.dflt l i) ++ c) ∧ a.length = i * t.size ∧ a = (List.range i).flatMap (fun k => encD t (nth t.dflt l k)) ∧ c = ((List.range n).drop (i + 1)).flatMap (fun k => encD t (nth t.dflt l k)) := by
 have hr : List.range n = List.range i ++ (i :: (List.range n).drop (i + 1)) := by
  have h1 := (List.take_append_drop i (List.range n)).symm
  rw [List.take_range, Nat.min_eq_left (Nat.le_of_lt hi), List.drop_eq_getElem_cons (by simpa using hi)] at h1
  simpa using h1
 refine ⟨_, _, ?_, ?_, rfl, rfl⟩
 ·show (List.range n).flatMap _ = _
  conv => lhs; rw [hr]
  rw [List.flatMap_append, List.flatMap_cons]
 ·have := arrF_len (f := encD t) (d := t.dflt) (encD_len t) i l
  exact this
theorem getPD_ok : ∀ (π : List Sp) (t : Ty) (x : t.T) (s : Nat) (r : Sg), getP π t x = some r → Pok s π → ∃ a c, encD t x = a ++ (encD r.t r.x ++ c) ∧ a.length = offS π
 | [], t, x, s, r, h, _ => by cases h; exact ⟨[], [], by simp, rfl⟩
 | .fst :: π, .pair a b, x, s, r, h, hk => by
  obtain ⟨p, c, e1, e2⟩ := getPD_ok π a x.1 s r h hk
  exact ⟨p, c ++ encD b x.2, by show encD a x.1 ++ encD b x.2 = _; rw [e1]; simp, e2⟩
 | .snd k :: π, .pair a b, x, s, r, h, hk => by
  obtain ⟨hc, h2⟩ := cond_some (show (bif Nat.beq k a.size then getP π b x.2 else none) = some r from h)
  obtain ⟨p, c, e1, e2⟩ := getPD_ok π b x.2 s r h2 hk
  refine ⟨encD a x.1 ++ p, c, by show encD a x.1 ++ encD b x.2 = _; rw [e1]; simp, ?_⟩
  rw [List.length_append, encD_len, e2, beq_eq hc]; rfl
 | .ai i n z :: π, .arr n' t, l, s, r, h, hk => by
  obtain ⟨hc, h2⟩ := cond_some (show (bif Nat.beq n n' && Nat.beq z t.size then getP π t (nth t.dflt l i) else none) = some r from h)
  simp only [Bool.and_eq_true] at hc
  obtain rfl := beq_eq hc.1
  obtain rfl := beq_eq hc.2
  obtain ⟨p, c, e1, e2⟩ := getPD_ok π t _ s r h2 hk.2
  obtain ⟨a, d, k1, k2, _⟩ := arr_splitD t n l hk.1
  refine ⟨a ++ p, c ++ d, by rw [k1, e1]; simp, ?_⟩
  rw [List.length_append, k2, e2]; rfl
 | .fst :: _, .int _, _, _, _, h, _ => by cases h
 | .fst :: _, .bool, _, _, _, h, _ => by cases h
 | .fst :: _, .unit, _, _, _, h, _ => by cases h
 | .fst :: _, .arr _ _, _, _, _, h, _ => by cases h
 | .fst :: _, .slc _, _, _, _, h, _ => by cases h
 | .fst :: _, .ptr _, _, _, _, h, _ => by cases h
 | .fst :: _, .nptr _, _, _, _, h, _ => by cases h
 | .fst :: _, .rsl _ _, _, _, _, h, _ => by cases h
 | .fst :: _, .wrg _ _, _, _, _, h, _ => by cases h
 | .fst :: _, .mp _, _, _, _, h, _ => by cases h
 | .snd _ :: _, .int _, _, _, _, h, _ => by cases h
 | .snd _ :: _, .bool, _, _, _, h, _ => by cases h
 | .snd _ :: _, .unit, _, _, _, h, _ => by cases h
 | .snd _ :: _, .arr _ _, _, _, _, h, _ => by cases h
 | .snd _ :: _, .slc _, _, _, _, h, _ => by cases h
 | .snd _ :: _, .ptr _, _, _, _, h, _ => by cases h
 | .snd _ :: _, .nptr _, _, _, _, h, _ => by cases h
 | .snd _ :: _, .rsl _ _, _, _, _, h, _ => by cases h
 | .snd _ :: _, .wrg _ _, _, _, _, h, _ => by cases h
 | .snd _ :: _, .mp _, _, _, _, h, _ => by cases h
 | .ai _ _ _ :: _, .int _, _, _, _, h, _ => by cases h
 | .ai _ _ _ :: _, .bool, _, _, _, h, _ => by cases h
 | .ai _ _ _ :: _, .unit, _, _, _, h, _ => by cases h
 | .ai _ _ _ :: _, .pair _ _, _, _, _, h, _ => by cases h
 | .ai _ _ _ :: _, .slc _, _, _, _, h, _ => by cases h
 | .ai _ _ _ :: _, .ptr _, _, _, _, h, _ => by cases h
 | .ai _ _ _ :: _, .nptr _, _, _, _, h, _ => by cases h
 | .ai _ _ _ :: _, .rsl _ _, _, _, _, h, _ => by cases h
 | .ai _ _ _ :: _, .wrg _ _, _, _, _, h, _ => by cases h
 | .ai _ _ _ :: _, .mp _, _, _, _, h, _ => by cases h
 | .ix _ _ :: _, _, _, _, _, h, _ => by simp [getP] at h
theorem put_in {a b c ps : List A} {k : Nat} (h : k + ps.length ≤ b.length) : put (a ++ (b ++ c)) (a.length + k) ps = a ++ (put b k ps ++ c) := by
 unfold put
 rw [List.take_append, List.take_of_length_le (by omega), Nat.add_sub_cancel_left, List.take_append_of_le_length (by omega)]
 rw [List.drop_append, List.drop_eq_nil_of_le (by omega), List.nil_append, show a.length + k + ps.length - a.length = k + ps.length by omega, List.drop_append_of_le_length h]
 simp
theorem setP_ok (u : Ty) (y : u.T) : ∀ (π : List Sp) (t : Ty) (x x' : t.T) (s : Nat), setP u y π t x = some x' → Pok s π → encA t x' = put (encA t x) (offS π) (encA u y) ∧ offS π + u.size ≤ t.size
 | [], t, x, x', s, h, _ => by
  obtain ⟨rfl, rfl⟩ := castT_eq (show castT u t y = some x' from h)
  refine ⟨?_, by simp [offS]⟩
  unfold put
  rw [show offS [] = 0 from rfl, List.take_zero, List.nil_append, Nat.zero_add, encA_len, List.drop_eq_nil_of_le (by rw [encA_len]; exact Nat.le_refl _), List.append_nil]
 | .fst :: π, .pair a b, x, x', s, h, hk => by
  have h : (match setP u y π a x.1 with | some z => some (z, x.2) | none => none) = some x' := h
  split at h
  ·rename_i z hz
   cases h
   obtain ⟨e1, e2⟩ := setP_ok u y π a x.1 z s hz hk
   refine ⟨?_, by show _ ≤ a.size + b.size; have : offS (.fst :: π) = offS π := rfl; omega⟩
   show encA a z ++ encA b x.2 = put (encA a x.1 ++ encA b x.2) (offS π) (encA u y)
   rw [e1]
   have := put_in (a := []) (b := encA a x.1) (c := encA b x.2) (ps := encA u y) (k := offS π) (by rw [encA_len, encA_len]; exact e2)
   simpa using this.symm
  ·cases h
 | .snd k :: π, .pair a b, x, x', s, h, hk => by
  obtain ⟨hc, h2⟩ := cond_some (show (bif Nat.beq k a.size then (match setP u y π b x.2 with | some z => some (x.1, z) | none => none) else none) = some x' from h)
  obtain rfl := beq_eq hc
  cases hz : setP u y π b x.2 with
  | none => rw [hz] at h2; cases h2
  | some z =>
   rw [hz] at h2; cases h2
   obtain ⟨e1, e2⟩ := setP_ok u y π b x.2 z s hz hk
   refine ⟨?_, by show a.size + offS π + u.size ≤ a.size + b.size; omega⟩
   show encA a x.1 ++ encA b z = put (encA a x.1 ++ encA b x.2) (a.size + offS π) (encA u y)
   have := put_in (a := encA a x.1) (b := encA b x.2) (c := []) (ps := encA u y) (k := offS π) (by rw [encA_len, encA_len]; exact e2)
   rw [encA_len] at this
   simp only [List.append_nil] at this
   rw [this, e1]
 | .ai i n z :: π, .arr n' t, l, x', s, h, hk => by
  obtain ⟨hc, h2⟩ := cond_some (show (bif Nat.beq n n' && Nat.beq z t.size then (match setP u y π t (nth t.dflt l i) with | some v => some (aset t.dflt l i v) | none => none) else none) = some x' from h)
  simp only [Bool.and_eq_true] at hc
  obtain rfl := beq_eq hc.1
  obtain rfl := beq_eq hc.2
  cases hv : setP u y π t (nth t.dflt l i) with
  | none => rw [hv] at h2; cases h2
  | some v =>
   rw [hv] at h2; cases h2
   obtain ⟨e1, e2⟩ := setP_ok u y π t _ v s hv hk.2
   obtain ⟨a, d, k1, k2, k3, k4⟩ := arr_split t n l hk.1
   obtain ⟨a', d', q1, q2, q3, q4⟩ := arr_split t n (aset t.dflt l i v) hk.1
   have hn : ∀ k, nth t.dflt (aset t.dflt l i v) k = if k = i then v else nth t.dflt l k := fun k => aset_get
   have ha : a' = a := by
    rw [q3, k3]
    have : ∀ m : List Nat, (∀ k ∈ m, k ≠ i) → m.flatMap (fun k => encA t (nth t.dflt (aset t.dflt l i v) k)) = m.flatMap (fun k => encA t (nth t.dflt l k)) := fun m => by
     induction m with
     | nil => intro _; rfl
     | cons j m ih => intro hm; simp only [List.flatMap_cons]; rw [ih (fun k hk => hm k (List.mem_cons_of_mem _ hk)), hn, if_neg (hm j (List.mem_cons_self ..))]
    exact this _ (fun k hk => by have := List.mem_range.1 hk; omega)
   have hd : d' = d := by
    rw [q4, k4]
    have : ∀ m : List Nat, (∀ k ∈ m, k ≠ i) → m.flatMap (fun k => encA t (nth t.dflt (aset t.dflt l i v) k)) = m.flatMap (fun k => encA t (nth t.dflt l k)) := fun m => by
     induction m with
     | nil => intro _; rfl
     | cons j m ih => intro hm; simp only [List.flatMap_cons]; rw [ih (fun k hk => hm k (List.mem_cons_of_mem _ hk)), hn, if_neg (hm j (List.mem_cons_self ..))]
    refine this _ (fun k hk => ?_)
    obtain ⟨j, hj, rfl⟩ := List.getElem_of_mem hk
    simp at hj ⊢; omega
   have hsz : i * t.size + t.size ≤ n * t.size := by
    have := Nat.mul_le_mul_right t.size (show i + 1 ≤ n from hk.1)
    rwa [Nat.add_mul, Nat.one_mul] at this
   refine ⟨?_, by show i * t.size + offS π + u.size ≤ n * t.size; omega⟩
   show encA (.arr n t) (aset t.dflt l i v) = put (encA (.arr n t) l) (i * t.size + offS π) (encA u y)
   rw [q1, k1, ha, hd, hn, if_pos rfl, ← k2, put_in (by rw [encA_len, encA_len]; exact e2), e1]
 | .fst :: _, .int _, _, _, _, h, _ => by cases h
 | .fst :: _, .bool, _, _, _, h, _ => by cases h
 | .fst :: _, .unit, _, _, _, h, _ => by cases h
 | .fst :: _, .arr _ _, _, _, _, h, _ => by cases h
 | .fst :: _, .slc _, _, _, _, h, _ => by cases h
 | .fst :: _, .ptr _, _, _, _, h, _ => by cases h
 | .fst :: _, .nptr _, _, _, _, h, _ => by cases h
 | .fst :: _, .rsl _ _, _, _, _, h, _ => by cases h
 | .fst :: _, .wrg _ _, _, _, _, h, _ => by cases h
 | .fst :: _, .mp _, _, _, _, h, _ => by cases h
 | .snd _ :: _, .int _, _, _, _, h, _ => by cases h
 | .snd _ :: _, .bool, _, _, _, h, _ => by cases h
 | .snd _ :: _, .unit, _, _, _, h, _ => by cases h
 | .snd _ :: _, .arr _ _, _, _, _, h, _ => by cases h
 | .snd _ :: _, .slc _, _, _, _, h, _ => by cases h
 | .snd _ :: _, .ptr _, _, _, _, h, _ => by cases h
 | .snd _ :: _, .nptr _, _, _, _, h, _ => by cases h
 | .snd _ :: _, .rsl _ _, _, _, _, h, _ => by cases h
 | .snd _ :: _, .wrg _ _, _, _, _, h, _ => by cases h
 | .snd _ :: _, .mp _, _, _, _, h, _ => by cases h
 | .ai _ _ _ :: _, .int _, _, _, _, h, _ => by cases h
 | .ai _ _ _ :: _, .bool, _, _, _, h, _ => by cases h
 | .ai _ _ _ :: _, .unit, _, _, _, h, _ => by cases h
 | .ai _ _ _ :: _, .pair _ _, _, _, _, h, _ => by cases h
 | .ai _ _ _ :: _, .slc _, _, _, _, h, _ => by cases h
 | .ai _ _ _ :: _, .ptr _, _, _, _, h, _ => by cases h
 | .ai _ _ _ :: _, .nptr _, _, _, _, h, _ => by cases h
 | .ai _ _ _ :: _, .rsl _ _, _, _, _, h, _ => by cases h
 | .ai _ _ _ :: _, .wrg _ _, _, _, _, h, _ => by cases h
 | .ai _ _ _ :: _, .mp _, _, _, _, h, _ => by cases h
 | .ix _ _ :: _, _, _, _, _, h, _ => by simp [setP] at h
end
end Go.Bm
set_option linter.unusedVariables false
set_option linter.unusedSimpArgs false
namespace Go.Bm
noncomputable section
open Go.RowKit
def toArr {α : Type} (f : List A → Option α) (z : Nat) : Nat → List A → Option (List α)
 | 0, [] => some []
 | 0, _ :: _ => none
 | n + 1, cs => match f (cs.take z), toArr f z n (cs.drop z) with
  | some x, some l => some (x :: l)
  | _, _ => none
def toC : (t : Ty) → List A → Option t.T
 | .int k, cs => match cs with
  | [.v (.int k' n)] => if k' = k then some n else none
  | _ => none
 | .bool, cs => match cs with
  | [.v (.bool b)] => some b
  | _ => none
 | .unit, cs => match cs with
  | [] => some ()
  | _ => none
 | .pair a b, cs => match toC a (cs.take a.size), toC b (cs.drop a.size) with
  | some x, some y => some (x, y)
  | _, _ => none
 | .arr n t, cs => toArr (toC t) t.size n cs
 | .slc t, cs => match cs with
  | [.tl t' _ l] => castT (.slc t') (.slc t) l
  | [.v (.slice none 0 0)] => some []
  | [.e0] => some []
  | _ => none
 | .ptr r, cs => match cs with
  | [.v (.pointer none)] => some none
  | [.tp (.reg r' j) []] => bif Nat.beq r r' then some (some j) else none
  | [.op r' o] => bif Nat.beq r r' then some o else none
  | _ => none
 | .nptr r, cs => match cs with
  | [.tp (.reg r' j) []] => bif Nat.beq r r' then some j else none
  | _ => none
 | .rsl r z, cs => match cs with
  | [.v (.slice none 0 0)] => some none
  | [.e0] => some none
  | [.tw (.reg r' j) z'] => bif Nat.beq r r' && Nat.beq z z' then some (some j) else none
  | [.os r' z' o] => bif Nat.beq r r' && Nat.beq z z' then some o else none
  | _ => none
 | .wrg r z, cs => match cs with
  | [.tw (.reg r' j) z'] => bif Nat.beq r r' && Nat.beq z z' then some j else none
  | _ => none
 | .mp r, cs => match cs with
  | [.v (.map none)] => some none
  | [.mp (.reg r' j)] => bif Nat.beq r r' then some (some j) else none
  | [.om r' o] => bif Nat.beq r r' then some o else none
  | _ => none
theorem VD.unfull {M : Mem} {sz : Nat} {full : Bool} {es : List (List D)} {v : Value} (h : VD M (.sl sz full es) v) : VD M (.sl sz false es) v := by
 cases h with
 | sl _ _ _ a cap vs hz hc hf hn hx hl hm hv => exact .sl sz false es a cap vs hz hc (fun h => by cases h) hn hx hl hm hv
 | sl0 _ _ A => exact .sl0 sz false A
theorem one_w {g : G} {c d : A} {vs : List Value} (h : ∀ v, V g c v → V g d v) (k : Vs g [c] vs) : Vs g [d] vs := by
 refine ⟨k.1, fun j c' x e1 e2 => ?_⟩
 cases j with
 | zero => simp at e1; subst e1; exact ⟨h x (k.2 0 c x rfl e2).1, (k.2 0 c x rfl e2).2⟩
 | succ j => simp at e1
theorem toArr_ok {α : Type} {g : G} {f : List A → Option α} {e : α → List A} {z : Nat} (hf : ∀ cs x, f cs = some x → cs.length = z ∧ ∀ vs, Vs g cs vs → Vs g (e x) vs) : ∀ (n : Nat) (cs : List A) (l : List α), toArr f z n cs = some l → cs.length = n * z ∧ l.length = n ∧ ∀ vs, Vs g cs vs → Vs g (l.flatMap e) vs
 | 0, [], l, h => by cases h; exact ⟨by simp, rfl, fun vs hv => hv⟩
 | 0, _ :: _, l, h => by cases h
 | n + 1, cs, l, h => by
  have h : (match f (cs.take z), toArr f z n (cs.drop z) with | some x, some l => some (x :: l) | _, _ => none) = some l := by
   cases cs <;> exact h
  split at h
  ·rename_i x l' h1 h2
   cases h
   obtain ⟨k1, k2⟩ := hf _ _ h1
   obtain ⟨q1, q2, q3⟩ := toArr_ok hf n _ _ h2
   have hl : cs.length = z + n * z := by
    have := congrArg List.length (List.take_append_drop z cs)
    rw [List.length_append, k1, q1] at this
    exact this.symm
   refine ⟨by rw [hl, Nat.add_mul]; omega, by simp [q2], fun vs hv => ?_⟩
   rw [List.flatMap_cons]
   rw [← List.take_append_drop z cs] at hv
   obtain ⟨r1, r2⟩ := hv.split
   have := (k2 _ r1).append (q3 _ r2)
   rwa [List.take_append_drop] at this
  ·cases h
theorem range_nth {α β : Type} (f : α → List β) (d : α) (l : List α) : (List.range l.length).flatMap (fun i => f (nth d l i)) = l.flatMap f := by
 have h : (List.range l.length).map (fun i => nth d l i) = l := by
  apply List.ext_getElem?
  intro i
  simp only [List.getElem?_map]
  by_cases hi : i < l.length
  ·rw [List.getElem?_range hi]
   simp [nth, List.getD_eq_getElem?_getD, List.getElem?_eq_getElem hi]
  ·rw [List.getElem?_eq_none (by simpa using hi), List.getElem?_eq_none (by simpa using hi)]; rfl
 conv => rhs; rw [← h]
 rw [List.flatMap_map]
theorem toC_ok {g : G} : ∀ (t : Ty) (cs : List A) (x : t.T), toC t cs = some x → cs.length = t.size ∧ ∀ vs, Vs g cs vs → Vs g (encA t x) vs
 | .int k, cs, x, h => by
  unfold toC at h
  split at h
  ·split at h
   ·rename_i hk; subst hk; cases h; exact ⟨rfl, fun vs hv => hv⟩
   ·cases h
  ·cases h
 | .bool, cs, x, h => by
  unfold toC at h
  split at h
  ·cases h; exact ⟨rfl, fun vs hv => hv⟩
  ·cases h
 | .unit, cs, x, h => by
  unfold toC at h
  split at h
  ·cases h; exact ⟨rfl, fun vs hv => hv⟩
  ·cases h
 | .pair a b, cs, x, h => by
  unfold toC at h
  split at h
  ·rename_i y z h1 h2
   cases h
   obtain ⟨k1, k2⟩ := toC_ok a _ _ h1
   obtain ⟨q1, q2⟩ := toC_ok b _ _ h2
   refine ⟨?_, fun vs hv => ?_⟩
   ·have := congrArg List.length (List.take_append_drop a.size cs)
    rw [List.length_append, k1, q1] at this
    exact this.symm
   ·rw [← List.take_append_drop a.size cs] at hv
    obtain ⟨r1, r2⟩ := hv.split
    have := (k2 _ r1).append (q2 _ r2)
    rwa [List.take_append_drop] at this
  ·cases h
 | .arr n t, cs, x, h => by
  obtain ⟨h1, h2, h3⟩ := toArr_ok (g := g) (fun cs x h => toC_ok t cs x h) n cs x h
  refine ⟨h1, fun vs hv => ?_⟩
  have := h3 vs hv
  have e : ∀ (m : Nat) (y : List t.T), y.length = m → encA (.arr m t) y = y.flatMap (encA t) := fun m y hy => by
   subst hy
   exact range_nth (encA t) t.dflt y
  rw [e n x h2]; exact this
 | .slc t, cs, x, h => by
  unfold toC at h
  split at h
  ·rename_i t' f l
   obtain ⟨e, rfl⟩ := castT_eq h
   cases e
   exact ⟨rfl, fun vs hv => one_w (fun v hv => by cases hv with | tl _ _ _ _ h => exact .tl _ _ _ _ h.unfull) hv⟩
  ·cases h; exact ⟨rfl, fun vs hv => one_w (fun v hv => by rw [hv.v_eq]; exact .tl t false [] _ (.sl0 _ _ _)) hv⟩
  ·cases h; exact ⟨rfl, fun vs hv => one_w (fun v hv => by cases hv; exact .tl t false [] _ (.sl0 _ _ _)) hv⟩
  ·cases h
 | .ptr r, cs, x, h => by
  unfold toC at h
  split at h
  ·cases h; exact ⟨rfl, fun vs hv => one_w (fun v hv => .op r none v (fun _ => hv.v_eq) (fun j h => by cases h)) hv⟩
  ·obtain ⟨h1, h2⟩ := cond_some h
   obtain rfl := beq_eq h1
   cases h2; exact ⟨rfl, fun vs hv => one_w (fun v hv => .op r _ v (fun h => by cases h) (fun j h => by cases h; exact hv)) hv⟩
  ·obtain ⟨h1, h2⟩ := cond_some h
   obtain rfl := beq_eq h1
   cases h2; exact ⟨rfl, fun vs hv => hv⟩
  ·cases h
 | .nptr r, cs, x, h => by
  unfold toC at h
  split at h
  ·obtain ⟨h1, h2⟩ := cond_some h
   obtain rfl := beq_eq h1
   cases h2; exact ⟨rfl, fun vs hv => hv⟩
  ·cases h
 | .rsl r z, cs, x, h => by
  unfold toC at h
  split at h
  ·cases h; exact ⟨rfl, fun vs hv => one_w (fun v hv => .os r z none v (fun _ => by rw [hv.v_eq]; exact .e0 _) (fun j h => by cases h)) hv⟩
  ·cases h; exact ⟨rfl, fun vs hv => one_w (fun v hv => .os r z none v (fun _ => hv) (fun j h => by cases h)) hv⟩
  ·obtain ⟨h1, h2⟩ := cond_some h
   simp only [Bool.and_eq_true] at h1
   obtain rfl := beq_eq h1.1
   obtain rfl := beq_eq h1.2
   cases h2; exact ⟨rfl, fun vs hv => one_w (fun v hv => .os r z _ v (fun h => by cases h) (fun j h => by cases h; exact hv)) hv⟩
  ·obtain ⟨h1, h2⟩ := cond_some h
   simp only [Bool.and_eq_true] at h1
   obtain rfl := beq_eq h1.1
   obtain rfl := beq_eq h1.2
   cases h2; exact ⟨rfl, fun vs hv => hv⟩
  ·cases h
 | .wrg r z, cs, x, h => by
  unfold toC at h
  split at h
  ·obtain ⟨h1, h2⟩ := cond_some h
   simp only [Bool.and_eq_true] at h1
   obtain rfl := beq_eq h1.1
   obtain rfl := beq_eq h1.2
   cases h2; exact ⟨rfl, fun vs hv => hv⟩
  ·cases h
 | .mp r, cs, x, h => by
  unfold toC at h
  split at h
  ·cases h; exact ⟨rfl, fun vs hv => one_w (fun v hv => .om r none v (fun _ => hv.v_eq) (fun j h => by cases h)) hv⟩
  ·obtain ⟨h1, h2⟩ := cond_some h
   obtain rfl := beq_eq h1
   cases h2; exact ⟨rfl, fun vs hv => one_w (fun v hv => .om r _ v (fun h => by cases h) (fun j h => by cases h; exact hv)) hv⟩
  ·obtain ⟨h1, h2⟩ := cond_some h
   obtain rfl := beq_eq h1
   cases h2; exact ⟨rfl, fun vs hv => hv⟩
  ·cases h
def RK.T : RK → Type
 | .box t => List t.T
 | .row t => List (Option (List t.T))
 | .map _ tk _ tv => List (List (tk.T × tv.T))
def packA (a : Bool) (t : Ty) (x : t.T) : A := bif a then .agg (encA t x) else match encA t x with
 | [c] => c
 | _ => .junk
structure Rg where
 r : Nat
 k : RK
 c : k.T
inductive MOb where
 | cells (cs : List A)
 | one (t : Ty) (x : t.T)
 | row (t : Ty) (l : List t.T)
 | oth (x : Oth)
def MOb.low : MOb → Ob
 | .cells cs => .cells cs
 | .one t x => .cells (encA t x)
 | .row t l => .cells (l.flatMap (encA t))
 | .oth x => .oth x
structure H where
 t : Tr MOb
 nid : Nat
 rg : List Rg
 lk : List Nat
def rfind : List Rg → Nat → Option Rg
 | [], _ => none
 | x :: l, r => bif Nat.beq x.r r then some x else rfind l r
def gtA {α : Type} (l : List α) (j : Nat) : Option α := l[j]?
def regOb : (k : RK) → k.T → Nat → Option Ob
 | .box t, c, j => match gtA (α := t.T) c j with
  | some x => some (.cells (encA t x))
  | none => none
 | .row t, c, j => match gtA (α := Option (List t.T)) c j with
  | some (some l) => some (.cells (l.flatMap (encA t)))
  | _ => none
 | .map ka tk va tv, c, j => match gtA (α := List (tk.T × tv.T)) c j with
  | some es => some (.oth (.map (es.map fun e => (packA ka tk e.1, packA va tv e.2))))
  | none => none
def regLen : (k : RK) → k.T → Nat
 | .box t, c => List.length (α := t.T) c
 | .row t, c => List.length (α := Option (List t.T)) c
 | .map _ tk _ tv, c => List.length (α := List (tk.T × tv.T)) c
def regAt (rg : List Rg) (i : Nat) : Option Ob := match rfind rg (rOf i) with
 | some x => regOb x.k x.c (jOf i)
 | none => none
def regFr (rg : List Rg) (i : Nat) : Prop := match rfind rg (rOf i) with
 | some x => regLen x.k x.c ≤ jOf i
 | none => False
def tOb (t : Tr MOb) (i : Nat) : Option Ob := match t.get i with
 | some x => some x.low
 | none => none
def hp (h : H) : Hp := ⟨fun i => if i < lim then tOb h.t i else regAt h.rg i, fun i => if i < lim then h.nid ≤ i else regFr h.rg i⟩
end
end Go.Bm
set_option linter.unusedVariables false
set_option linter.unusedSimpArgs false
namespace Go.Bm
noncomputable section
open Go.RowKit
def Tr.setK {α β : Type} (f : Nat) : Tr α → Nat → Option α → (Tr α → β) → β :=
 Nat.rec (motive := fun _ => Tr α → Nat → Option α → (Tr α → β) → β) (fun t _ _ k => k t)
  (fun _ rec t n x k => Tr.rec (motive := fun _ => β)
   (Nat.rec (motive := fun _ => β) (k (.node .nil x .nil)) (fun n _ => Nat.rec (motive := fun _ => β) (rec .nil (n / 2) x (fun l => k (.node l none .nil))) (fun _ _ => rec .nil (n / 2) x (fun r => k (.node .nil none r))) (n % 2)) n)
   (fun l v r _ _ => Nat.rec (motive := fun _ => β) (k (.node l x r)) (fun n _ => Nat.rec (motive := fun _ => β) (rec l (n / 2) x (fun l => k (.node l v r))) (fun _ _ => rec r (n / 2) x (fun r => k (.node l v r))) (n % 2)) n) t) f
theorem Tr.setK_get {α β : Type} : ∀ (f : Nat) (t : Tr α) (n : Nat) (x : Option α) (k : Tr α → β), n + 1 < 2 ^ f → ∃ t' : Tr α, Tr.setK f t n x k = k t' ∧ ∀ m, t'.get m = if m = n then x else t.get m
 | 0, t, n, x, k, h => by simp at h
 | f + 1, .nil, 0, x, k, h => ⟨.node .nil x .nil, rfl, fun m => by cases m <;> simp [Tr.get_zero, Tr.get_succ, Tr.get_nil]⟩
 | f + 1, .node l v r, 0, x, k, h => ⟨.node l x r, rfl, fun m => by cases m <;> simp [Tr.get_zero, Tr.get_succ]⟩
 | f + 1, .nil, n + 1, x, k, h => by
  have hp : 2 ^ (f + 1) = 2 * 2 ^ f := by rw [Nat.pow_succ]; omega
  have e : Tr.setK (f + 1) .nil (n + 1) x k = Nat.rec (motive := fun _ => β) (Tr.setK f .nil (n / 2) x (fun l => k (.node l none .nil))) (fun _ _ => Tr.setK f .nil (n / 2) x (fun r => k (.node .nil none r))) (n % 2) := rfl
  rw [e]
  cases hm : n % 2 with
  | zero =>
   obtain ⟨t', h1, h2⟩ := Tr.setK_get f .nil (n / 2) x (fun l => k (.node l none .nil)) (by omega)
   refine ⟨_, h1, fun m => ?_⟩
   cases m with
   | zero => simp [Tr.get_zero, Tr.get_nil]
   | succ m =>
    rw [Tr.get_succ, h2, Tr.get_nil]
    by_cases hm2 : m % 2 = 0
    ·rw [hm2, show Nat.beq 0 0 = true from rfl, cond_true]
     by_cases c : m = n
     ·subst c; simp
     ·rw [if_neg (by omega), if_neg (by omega)]; rfl
    ·rw [show Nat.beq (m % 2) 0 = false from by cases hx : m % 2 with | zero => exact absurd hx hm2 | succ _ => rfl, cond_false, if_neg (by omega)]; rfl
  | succ j =>
   obtain ⟨t', h1, h2⟩ := Tr.setK_get f .nil (n / 2) x (fun r => k (.node .nil none r)) (by omega)
   refine ⟨_, h1, fun m => ?_⟩
   cases m with
   | zero => simp [Tr.get_zero, Tr.get_nil]
   | succ m =>
    rw [Tr.get_succ, h2, Tr.get_nil]
    by_cases hm2 : m % 2 = 0
    ·rw [hm2, show Nat.beq 0 0 = true from rfl, cond_true, if_neg (by omega)]; rfl
    ·rw [show Nat.beq (m % 2) 0 = false from by cases hx : m % 2 with | zero => exact absurd hx hm2 | succ _ => rfl, cond_false]
     by_cases c : m = n
     ·subst c; simp
     ·rw [if_neg (by omega), if_neg (by omega)]; rfl
 | f + 1, .node l v r, n + 1, x, k, h => by
  have hp : 2 ^ (f + 1) = 2 * 2 ^ f := by rw [Nat.pow_succ]; omega
  have e : Tr.setK (f + 1) (.node l v r) (n + 1) x k = Nat.rec (motive := fun _ => β) (Tr.setK f l (n / 2) x (fun l => k (.node l v r))) (fun _ _ => Tr.setK f r (n / 2) x (fun r => k (.node l v r))) (n % 2) := rfl
  rw [e]
  cases hm : n % 2 with
  | zero =>
   obtain ⟨t', h1, h2⟩ := Tr.setK_get f l (n / 2) x (fun l => k (.node l v r)) (by omega)
   refine ⟨_, h1, fun m => ?_⟩
   cases m with
   | zero => simp [Tr.get_zero]
   | succ m =>
    rw [Tr.get_succ, h2, Tr.get_succ]
    by_cases hm2 : m % 2 = 0
    ·rw [hm2, show Nat.beq 0 0 = true from rfl, cond_true]
     by_cases c : m = n
     ·subst c; simp
     ·rw [if_neg (by omega), if_neg (by omega)]; rfl
    ·rw [show Nat.beq (m % 2) 0 = false from by cases hx : m % 2 with | zero => exact absurd hx hm2 | succ _ => rfl, cond_false, if_neg (by omega)]; rfl
  | succ j =>
   obtain ⟨t', h1, h2⟩ := Tr.setK_get f r (n / 2) x (fun r => k (.node l v r)) (by omega)
   refine ⟨_, h1, fun m => ?_⟩
   cases m with
   | zero => simp [Tr.get_zero]
   | succ m =>
    rw [Tr.get_succ, h2, Tr.get_succ]
    by_cases hm2 : m % 2 = 0
    ·rw [hm2, show Nat.beq 0 0 = true from rfl, cond_true, if_neg (by omega)]; rfl
    ·rw [show Nat.beq (m % 2) 0 = false from by cases hx : m % 2 with | zero => exact absurd hx hm2 | succ _ => rfl, cond_false]
     by_cases c : m = n
     ·subst c; simp
     ·rw [if_neg (by omega), if_neg (by omega)]; rfl
def setT {α β : Type} (t : Tr α) (q : Nat) (x : Option α) (k : Tr α → Option β) : Option β := bif Nat.blt q 16777215 then Tr.setK 24 t q x k else none
theorem setT_inv {α β : Type} {t : Tr α} {q : Nat} {x : Option α} {k : Tr α → Option β} {r : β} (h : setT t q x k = some r) : q < 16777215 ∧ ∃ t' : Tr α, k t' = some r ∧ t'.get = fun m => if m = q then x else t.get m := by
 obtain ⟨h1, h2⟩ := cond_some h
 have hq : q < 16777215 := by simpa using h1
 obtain ⟨t', e1, e2⟩ := Tr.setK_get 24 t q x k (by omega)
 exact ⟨hq, t', by rw [← e1]; exact h2, funext e2⟩
structure Fp where
 all : Bool
 rs : List Nat
 w : Bool
 ws : List Nat
def Fp.no : Fp := ⟨false, [], false, []⟩
def Fp.rd (l : List Nat) : Fp := ⟨false, l, false, []⟩
def Fp.wr (l : List Nat) : Fp := ⟨false, l, true, l⟩
def Fp.pt (x : Nat) (l : List Nat) : Fp := ⟨false, x :: l, true, [x]⟩
def rgn (r : Nat) : Nat := 2 * r + 1
def rlo (o : Nat) : Nat := 2 * o
def res (i : Nat) : Nat := bif Nat.blt i 16777216 then rlo i else rgn (rOf i)
def touch (T : Fp) (i : Nat) : Bool := T.all || T.rs.any (Nat.beq (res i))
def wt (T : Fp) (i : Nat) : Bool := T.w && T.ws.any (Nat.beq (res i))
theorem res_loc {o : Nat} (h : o < 16777216) : res o = rlo o := by
 unfold res
 rw [show Nat.blt o 16777216 = true by simpa using h]; rfl
theorem res_reg {r j : Nat} (h : r < 64) : res (rid r j) = rgn r := by
  have h1 := rid_ge r j
  have h2 := rOf_rid (j := j) h
  generalize rid r j = i at h1 h2
  unfold res
  cases hx : Nat.blt i 16777216 with
  | false => rw [cond_false, h2]
  | true => have : i < 16777216 := by simpa using hx
            unfold lim at h1; omega
def Agree (T : Fp) (S S2 : Hp) : Prop := ∀ i, touch T i = true → S2.ob i = S.ob i ∧ (S2.fr i ↔ S.fr i)
def ovr (T : Fp) (S' S2 : Hp) : Hp := ⟨fun i => if touch T i = true then S'.ob i else S2.ob i, fun i => if touch T i = true then S'.fr i else S2.fr i⟩
theorem Hp.ext' {S S' : Hp} (h1 : ∀ i, S.ob i = S'.ob i) (h2 : ∀ i, S.fr i ↔ S'.fr i) : S = S' := by
 cases S; cases S'
 congr
 ·exact funext h1
 ·exact funext fun i => propext (h2 i)
theorem ovr_self {T : Fp} {S S2 : Hp} (h : Agree T S S2) : ovr T S S2 = S2 := Hp.ext' (fun i => by
 show (if touch T i = true then S.ob i else S2.ob i) = S2.ob i
 split
 ·exact (h i (by assumption)).1.symm
 ·rfl) (fun i => by
 show (if touch T i = true then S.fr i else S2.fr i) ↔ S2.fr i
 split
 ·exact (h i (by assumption)).2.symm
 ·exact Iff.rfl)
theorem wt_wr {l : List Nat} {i : Nat} (h : wt (.wr l) i = false) : touch (.wr l) i = false := by simpa [wt, touch, Fp.wr] using h
theorem wt_w {T : Fp} {i : Nat} (h : T.w = false) : wt T i = false := by unfold wt; rw [h]; rfl
structure Step (P : Program) (o : Oper) (ρ : Operand → A) (h h' : H) (T : Fp) (pv : A) : Prop where
 out : ∀ i, touch T i = false → (hp h').ob i = (hp h).ob i ∧ ((hp h').fr i ↔ (hp h).fr i)
 rd : ∀ i, wt T i = false → (hp h').ob i = (hp h).ob i ∧ ((hp h').fr i ↔ (hp h).fr i)
 ok : ∀ S2, Agree T (hp h) S2 → OpR P o ρ S2 (ovr T (hp h') S2) pv
theorem Step.read {P : Program} {o : Oper} {ρ : Operand → A} {h : H} {pv : A} (T : Fp) (k : ∀ S2, Agree T (hp h) S2 → OpS P o ρ S2 S2 pv) (hd : ∀ c, o.op ≠ .defer c) : Step P o ρ h h T pv where
 out := fun _ _ => ⟨rfl, Iff.rfl⟩
 rd := fun _ _ => ⟨rfl, Iff.rfl⟩
 ok := fun S2 hS => by rw [ovr_self hS]; exact (k S2 hS).opR hd
theorem Step.pure {P : Program} {o : Oper} {ρ : Operand → A} {h : H} {pv : A} (k : ∀ S2, OpS P o ρ S2 S2 pv) (hd : ∀ c, o.op ≠ .defer c) : Step P o ρ h h .no pv := .read .no (fun S2 _ => k S2) hd
theorem OpS.at' {P : Program} {o : Oper} {ρ : Operand → A} {S S' : Hp} {pv : A} (h : ∀ (g : G) (w : World) (a : Act), Inv g S w → (∀ x ∈ o.op.operands, V g (ρ x) (a.eval x)) → OpS P o ρ S S' pv) : OpS P o ρ S S' pv :=
 fun g w a next Q hI hv K => h g w a hI hv g w a next Q hI hv K
theorem touch_loc {o : Nat} {l : List Nat} {w : Bool} {s : List Nat} (h : o < 16777216) (hm : rlo o ∈ l) : touch ⟨false, l, w, s⟩ o = true := by
 unfold touch
 rw [res_loc h, Bool.false_or, List.any_eq_true]
 exact ⟨_, hm, by simp⟩
theorem touch_reg {r j : Nat} {l : List Nat} {w : Bool} {s : List Nat} (h : r < 64) (hm : rgn r ∈ l) : touch ⟨false, l, w, s⟩ (rid r j) = true := by
 unfold touch
 rw [res_reg h, Bool.false_or, List.any_eq_true]
 exact ⟨_, hm, by simp⟩
end
end Go.Bm
set_option linter.unusedVariables false
set_option linter.unusedSimpArgs false
namespace Go.Bm
noncomputable section
open Go.RowKit
inductive Up where
 | set (i : Nat) (x : Ob)
 | new (i : Nat) (x : Ob)
 | del (i : Nat)
def Up.id : Up → Nat
 | .set i _ => i
 | .new i _ => i
 | .del i => i
def Up.app : Up → Hp → Hp
 | .set i x, S => S.set i x
 | .new i x, S => S.new i x
 | .del i, S => S.del i
def app : List Up → Hp → Hp
 | [], S => S
 | u :: us, S => app us (u.app S)
theorem Up.out (u : Up) (S : Hp) (i : Nat) (h : i ≠ u.id) : (u.app S).ob i = S.ob i ∧ ((u.app S).fr i ↔ S.fr i) := by
 cases u with
 | set j x => exact ⟨if_neg h, Iff.rfl⟩
 | new j x => exact ⟨if_neg h, ⟨fun k => k.1, fun k => ⟨k, h⟩⟩⟩
 | del j => exact ⟨if_neg h, Iff.rfl⟩
theorem Up.congr (u : Up) (S S2 : Hp) (i : Nat) (h1 : S2.ob i = S.ob i) (h2 : S2.fr i ↔ S.fr i) : (u.app S2).ob i = (u.app S).ob i ∧ ((u.app S2).fr i ↔ (u.app S).fr i) := by
 cases u with
 | set j x => exact ⟨by show (if i = j then _ else _) = (if i = j then _ else _); rw [h1], h2⟩
 | new j x => exact ⟨by show (if i = j then _ else _) = (if i = j then _ else _); rw [h1], by show (S2.fr i ∧ i ≠ j) ↔ (S.fr i ∧ i ≠ j); rw [h2]⟩
 | del j => exact ⟨by show (if i = j then _ else _) = (if i = j then _ else _); rw [h1], h2⟩
theorem app_out : ∀ (us : List Up) (S : Hp) (i : Nat), (∀ u ∈ us, i ≠ u.id) → (app us S).ob i = S.ob i ∧ ((app us S).fr i ↔ S.fr i)
 | [], _, _, _ => ⟨rfl, Iff.rfl⟩
 | u :: us, S, i, h => by
  have h1 := app_out us (u.app S) i (fun v hv => h v (List.mem_cons_of_mem _ hv))
  have h2 := u.out S i (h u (List.mem_cons_self ..))
  exact ⟨h1.1.trans h2.1, h1.2.trans h2.2⟩
theorem app_congr : ∀ (us : List Up) (S S2 : Hp) (i : Nat), S2.ob i = S.ob i → (S2.fr i ↔ S.fr i) → (app us S2).ob i = (app us S).ob i ∧ ((app us S2).fr i ↔ (app us S).fr i)
 | [], _, _, _, h1, h2 => ⟨h1, h2⟩
 | u :: us, S, S2, i, h1, h2 => let ⟨k1, k2⟩ := u.congr S S2 i h1 h2; app_congr us (u.app S) (u.app S2) i k1 k2
theorem ovr_app {T : Fp} {us : List Up} {S S2 : Hp} (hT : ∀ u ∈ us, touch T u.id = true) (h : Agree T S S2) : ovr T (app us S) S2 = app us S2 := by
 refine Hp.ext' (fun i => ?_) (fun i => ?_)
 ·show (if touch T i = true then (app us S).ob i else S2.ob i) = _
  split
  ·rename_i hi; exact ((app_congr us S S2 i (h i hi).1 (h i hi).2).1).symm
  ·rename_i hi; exact ((app_out us S2 i (fun u hu e => hi (e ▸ hT u hu))).1).symm
 ·show (if touch T i = true then (app us S).fr i else S2.fr i) ↔ _
  split
  ·rename_i hi; exact ((app_congr us S S2 i (h i hi).1 (h i hi).2).2).symm
  ·rename_i hi; exact ((app_out us S2 i (fun u hu e => hi (e ▸ hT u hu))).2).symm
theorem Step.of {P : Program} {o : Oper} {ρ : Operand → A} {h h' : H} {T : Fp} {pv : A} (us : List Up) (hh : hp h' = app us (hp h)) (hw : T.w = true) (hT : ∀ u ∈ us, touch T u.id = true) (k : ∀ S2, Agree T (hp h) S2 → OpS P o ρ S2 (app us S2) pv) (hd : ∀ c, o.op ≠ .defer c) (hs : T.ws = T.rs := by rfl) (ha : T.all = false := by rfl) : Step P o ρ h h' T pv where
 out := fun i hi => by rw [hh]; exact app_out us _ i (fun u hu e => by rw [e, hT u hu] at hi; cases hi)
 rd := fun i hi => by
  have hi : (T.w && T.ws.any (Nat.beq (res i))) = false := hi
  rw [hw, hs, Bool.true_and] at hi
  rw [hh]
  exact app_out us _ i (fun u hu e => by
   have := hT u hu
   unfold touch at this
   rw [← e, ha, hi] at this; cases this)
 ok := fun S2 hS => by rw [hh, ovr_app hT hS]; exact (k S2 hS).opR hd
theorem Step.of2 {P : Program} {o : Oper} {ρ : Operand → A} {h h' : H} {T : Fp} {pv : A} (us : List Up) (hh : hp h' = app us (hp h)) (hT : ∀ u ∈ us, touch T u.id = true) (hW : ∀ u ∈ us, wt T u.id = true) (k : ∀ S2, Agree T (hp h) S2 → OpS P o ρ S2 (app us S2) pv) (hd : ∀ c, o.op ≠ .defer c) : Step P o ρ h h' T pv where
 out := fun i hi => by rw [hh]; exact app_out us _ i (fun u hu e => by rw [e, hT u hu] at hi; cases hi)
 rd := fun i hi => by rw [hh]; exact app_out us _ i (fun u hu e => by rw [e, hW u hu] at hi; cases hi)
 ok := fun S2 hS => by rw [hh, ovr_app hT hS]; exact (k S2 hS).opR hd
def Fp.p2 (x y : Nat) (l : List Nat) : Fp := ⟨false, x :: y :: l, true, [x, y]⟩
theorem hp_set {h : H} {t' : Tr MOb} {q : Nat} {x : MOb} (hq : q < 16777216) (ht : t'.get = fun m => if m = q then some x else h.t.get m) : hp { h with t := t' } = app [.set q x.low] (hp h) := by
 refine Hp.ext' (fun i => ?_) (fun i => Iff.rfl)
 show (if i < lim then tOb t' i else regAt h.rg i) = (if i = q then some x.low else (if i < lim then tOb h.t i else regAt h.rg i))
 unfold tOb
 rw [ht]
 by_cases hi : i = q
 ·subst hi; rw [if_pos (show i < lim from hq), if_pos rfl]; simp
 ·rw [if_neg hi]; simp only [if_neg hi]
theorem hp_new {h : H} {t' : Tr MOb} {x : MOb} (hq : h.nid < 16777216) (ht : t'.get = fun m => if m = h.nid then some x else h.t.get m) : hp { h with t := t', nid := h.nid + 1 } = app [.new h.nid x.low] (hp h) := by
 refine Hp.ext' (fun i => ?_) (fun i => ?_)
 ·show (if i < lim then tOb t' i else regAt h.rg i) = (if i = h.nid then some x.low else (if i < lim then tOb h.t i else regAt h.rg i))
  unfold tOb
  rw [ht]
  by_cases hi : i = h.nid
  ·rw [hi, if_pos (show h.nid < lim from hq), if_pos rfl]; simp
  ·rw [if_neg hi]; simp only [if_neg hi]
 ·show (if i < lim then h.nid + 1 ≤ i else regFr h.rg i) ↔ (if i < lim then h.nid ≤ i else regFr h.rg i) ∧ i ≠ h.nid
  unfold lim
  by_cases hi : i < 16777216
  ·rw [if_pos hi, if_pos hi]; omega
  ·rw [if_neg hi, if_neg hi]; exact ⟨fun k => ⟨k, by omega⟩, fun k => k.1⟩
theorem hp_del {h : H} {t' : Tr MOb} {q : Nat} (hq : q < 16777216) (ht : t'.get = fun m => if m = q then none else h.t.get m) : hp { h with t := t' } = app [.del q] (hp h) := by
 refine Hp.ext' (fun i => ?_) (fun i => Iff.rfl)
 show (if i < lim then tOb t' i else regAt h.rg i) = (if i = q then none else (if i < lim then tOb h.t i else regAt h.rg i))
 unfold tOb
 rw [ht]
 by_cases hi : i = q
 ·subst hi; rw [if_pos (show i < lim from hq), if_pos rfl]; simp
 ·rw [if_neg hi]; simp only [if_neg hi]
theorem hp_loc {h : H} {q : Nat} (hq : q < 16777216) : (hp h).ob q = tOb h.t q := if_pos hq
def rput : List Rg → Nat → (k : RK) → k.T → List Rg
 | [], _, _, _ => []
 | x :: l, r, k, c => bif Nat.beq x.r r then ⟨r, k, c⟩ :: l else x :: rput l r k c
theorem rfind_put : ∀ (l : List Rg) (r : Nat) (k : RK) (c : k.T) (r' : Nat) (x : Rg), rfind l r = some x → rfind (rput l r k c) r' = if r' = r then some ⟨r, k, c⟩ else rfind l r'
 | [], r, k, c, r', x, h => by cases h
 | y :: l, r, k, c, r', x, h => by
  unfold rput
  unfold rfind at h
  cases hy : Nat.beq y.r r with
  | true =>
   simp only [cond_true]
   unfold rfind
   have hyr := beq_eq hy
   by_cases hr : r' = r
   ·subst hr
    rw [if_pos rfl]
    show (bif Nat.beq r' r' then _ else _) = _
    rw [Nat.beq_refl]; rfl
   ·rw [if_neg hr]
    have h1 : Nat.beq r r' = false := by cases hx : Nat.beq r r' with | false => rfl | true => exact absurd (beq_eq hx).symm hr
    rw [show Nat.beq y.r r' = false by rw [hyr]; exact h1]
    show (bif Nat.beq r r' then _ else _) = _
    rw [h1]; rfl
  | false =>
   simp only [cond_false]
   rw [hy] at h
   simp only [cond_false] at h
   unfold rfind
   cases hy' : Nat.beq y.r r' with
   | true =>
    have := beq_eq hy'
    rw [if_neg (fun e => by subst e; rw [this, Nat.beq_refl] at hy; cases hy)]; rfl
   | false => exact rfind_put l r k c r' x h
theorem regAt_eq {rg : List Rg} {r j : Nat} {x : Rg} (hr : r < 64) (h : rfind rg r = some x) : regAt rg (rid r j) = regOb x.k x.c j := by
 unfold regAt
 rw [rOf_rid hr, h, jOf_rid hr]
theorem regFr_eq {rg : List Rg} {r j : Nat} {x : Rg} (hr : r < 64) (h : rfind rg r = some x) : regFr rg (rid r j) ↔ regLen x.k x.c ≤ j := by
 unfold regFr
 rw [rOf_rid hr, h, jOf_rid hr]
theorem hp_reg {h : H} {r j : Nat} : (hp h).ob (rid r j) = regAt h.rg (rid r j) ∧ ((hp h).fr (rid r j) ↔ regFr h.rg (rid r j)) := by
 have hn : ¬ rid r j < lim := Nat.not_lt.2 (rid_ge r j)
 generalize rid r j = i at hn
 exact ⟨if_neg hn, by show (if i < lim then _ else _) ↔ _; rw [if_neg hn]⟩
theorem hp_rput {h : H} {r : Nat} {x : Rg} {k : RK} {c : k.T} (h0 : rfind h.rg r = some x) (i : Nat) : (hp { h with rg := rput h.rg r k c }).ob i = (if ¬ i < lim ∧ rOf i = r then regOb k c (jOf i) else (hp h).ob i) ∧ ((hp { h with rg := rput h.rg r k c }).fr i ↔ if ¬ i < lim ∧ rOf i = r then regLen k c ≤ jOf i else (hp h).fr i) := by
 by_cases hi : i < lim
 ·rw [if_neg (fun k => k.1 hi), if_neg (fun k => k.1 hi)]
  exact ⟨by show (if i < lim then _ else _) = (if i < lim then _ else _); rw [if_pos hi, if_pos hi], by show (if i < lim then _ else _) ↔ (if i < lim then _ else _); rw [if_pos hi, if_pos hi]⟩
 ·have e1 : (hp { h with rg := rput h.rg r k c }).ob i = regAt (rput h.rg r k c) i := if_neg hi
  have e2 : (hp { h with rg := rput h.rg r k c }).fr i ↔ regFr (rput h.rg r k c) i := by show (if i < lim then _ else _) ↔ _; rw [if_neg hi]
  have e3 : (hp h).ob i = regAt h.rg i := if_neg hi
  have e4 : (hp h).fr i ↔ regFr h.rg i := by show (if i < lim then _ else _) ↔ _; rw [if_neg hi]
  rw [e1, e2, e3, e4]
  unfold regAt regFr
  rw [rfind_put h.rg r k c (rOf i) x h0]
  by_cases hr : rOf i = r
  ·rw [if_pos hr, if_pos ⟨hi, hr⟩, if_pos ⟨hi, hr⟩]; exact ⟨rfl, Iff.rfl⟩
  ·rw [if_neg hr, if_neg (fun k => hr k.2), if_neg (fun k => hr k.2)]; exact ⟨rfl, Iff.rfl⟩
theorem gtA_cat {α : Type} (l : List α) (x : α) (j : Nat) : gtA (cat l [x]) j = if j = l.length then some x else gtA l j := by
 unfold gtA cat
 by_cases h : j = l.length
 ·subst h; simp
 ·rw [if_neg h]
  by_cases h1 : j < l.length
  ·rw [List.getElem?_append_left h1]
  ·rw [List.getElem?_append_right (by omega), List.getElem?_eq_none (by simp; omega), List.getElem?_eq_none (by omega)]
theorem gtA_upd {α : Type} (l : List α) (i j : Nat) (x : α) : gtA (upd l i x) j = if j = i ∧ i < l.length then some x else gtA l j := by
 unfold gtA upd
 rw [List.getElem?_set]
 by_cases h : i = j
 ·subst h
  rw [if_pos rfl]
  by_cases h1 : i < l.length
  ·rw [if_pos h1, if_pos ⟨rfl, h1⟩]
  ·rw [if_neg h1, if_neg (fun k => h1 k.2), List.getElem?_eq_none (by omega)]
 ·rw [if_neg h, if_neg (fun k => h k.1.symm)]
theorem hp_push {h : H} {r : Nat} {x : Rg} {k : RK} {c : k.T} {n : Nat} {ob : Ob} (hr : r < 64) (h0 : rfind h.rg r = some x) (hn : regLen x.k x.c = n) (h1 : regLen k c = n + 1) (h2 : ∀ j, regOb k c j = if j = n then some ob else regOb x.k x.c j) : hp { h with rg := rput h.rg r k c } = app [.new (rid r n) ob] (hp h) := by
 refine Hp.ext' (fun i => ?_) (fun i => ?_)
 ·rw [(hp_rput (k := k) (c := c) h0 i).1]
  show _ = (if i = rid r n then some ob else (hp h).ob i)
  by_cases hi : ¬ i < lim ∧ rOf i = r
  ·rw [if_pos hi, h2]
   have e := rid_of hi.1
   rw [hi.2] at e
   by_cases hj : jOf i = n
   ·rw [if_pos hj, if_pos (by rw [e, hj])]
   ·rw [if_neg hj, if_neg (fun e2 => hj (by rw [e2, jOf_rid hr])), e, hp_reg.1, regAt_eq hr h0, jOf_rid hr]
  ·rw [if_neg hi, if_neg (fun e => hi (by rw [e]; exact ⟨Nat.not_lt.2 (rid_ge r n), rOf_rid hr⟩))]
 ·rw [(hp_rput (k := k) (c := c) h0 i).2]
  show _ ↔ (hp h).fr i ∧ i ≠ rid r n
  by_cases hi : ¬ i < lim ∧ rOf i = r
  ·rw [if_pos hi, h1]
   have e := rid_of hi.1
   rw [hi.2] at e
   rw [show (hp h).fr i ↔ n ≤ jOf i by rw [e, hp_reg.2, regFr_eq hr h0, hn, jOf_rid hr]]
   refine ⟨fun k => ⟨by omega, fun e2 => ?_⟩, fun k => ?_⟩
   ·rw [e2, jOf_rid hr] at k; omega
   ·have : jOf i ≠ n := fun hj => k.2 (by rw [e, hj])
    omega
  ·rw [if_neg hi]
   exact ⟨fun k => ⟨k, fun e => hi (by rw [e]; exact ⟨Nat.not_lt.2 (rid_ge r n), rOf_rid hr⟩)⟩, fun k => k.1⟩
theorem hp_mem {h : H} {r j : Nat} {x : Rg} {k : RK} {c : k.T} {u : Up} (hr : r < 64) (h0 : rfind h.rg r = some x) (h1 : regLen k c = regLen x.k x.c) (h2 : ∀ i, i ≠ j → regOb k c i = regOb x.k x.c i) (h3 : u.id = rid r j) (h4 : (u.app (hp h)).ob (rid r j) = regOb k c j) (h5 : (u.app (hp h)).fr = (hp h).fr) : hp { h with rg := rput h.rg r k c } = app [u] (hp h) := by
 refine Hp.ext' (fun i => ?_) (fun i => ?_)
 ·rw [(hp_rput (k := k) (c := c) h0 i).1]
  show _ = (u.app (hp h)).ob i
  by_cases hi : ¬ i < lim ∧ rOf i = r
  ·rw [if_pos hi]
   have e := rid_of hi.1
   rw [hi.2] at e
   by_cases hj : jOf i = j
   ·rw [hj] at e ⊢; rw [e, h4]
   ·rw [h2 _ hj, (u.out (hp h) i (fun e2 => hj (by rw [e2, h3, jOf_rid hr]))).1, e, hp_reg.1, regAt_eq hr h0, jOf_rid hr]
  ·rw [if_neg hi, (u.out (hp h) i (fun e => hi (by rw [e, h3]; exact ⟨Nat.not_lt.2 (rid_ge r j), rOf_rid hr⟩))).1]
 ·rw [(hp_rput (k := k) (c := c) h0 i).2]
  show _ ↔ (u.app (hp h)).fr i
  rw [h5]
  by_cases hi : ¬ i < lim ∧ rOf i = r
  ·rw [if_pos hi, h1]
   have e := rid_of hi.1
   rw [hi.2] at e
   rw [e, hp_reg.2, regFr_eq hr h0, jOf_rid hr]
  ·rw [if_neg hi]
end
end Go.Bm
set_option linter.unusedVariables false
set_option linter.unusedSimpArgs false
namespace Go.Bm
noncomputable section
open Go.RowKit
theorem flat_map {α : Type} (f : α → List D) (l : List α) : (l.map f).flatten = l.flatMap f := by rw [List.flatMap_def]
theorem flatA_len (t : Ty) (l : List t.T) : (l.flatMap (encA t)).length = l.length * t.size := by
 induction l with
 | nil => simp
 | cons a l ih => rw [List.flatMap_cons, List.length_append, ih, encA_len, List.length_cons, Nat.succ_mul, Nat.add_comm]
theorem flatA_part (t : Ty) (l : List t.T) (off n : Nat) : ((l.flatMap (encA t)).drop (off * t.size)).take (n * t.size) = ((l.drop off).take n).flatMap (encA t) := by
 have h1 : l.flatMap (encA t) = (l.take off).flatMap (encA t) ++ (l.drop off).flatMap (encA t) := by rw [← List.flatMap_append, List.take_append_drop]
 by_cases hl : off ≤ l.length
 ·have h2 : ((l.take off).flatMap (encA t)).length = off * t.size := by rw [flatA_len, List.length_take, Nat.min_eq_left hl]
  rw [h1, List.drop_append, List.drop_eq_nil_of_le (by omega), List.nil_append, h2, Nat.sub_self, List.drop_zero]
  generalize l.drop off = k
  have h3 : k.flatMap (encA t) = (k.take n).flatMap (encA t) ++ (k.drop n).flatMap (encA t) := by rw [← List.flatMap_append, List.take_append_drop]
  by_cases hk : n ≤ k.length
  ·have h4 : ((k.take n).flatMap (encA t)).length = n * t.size := by rw [flatA_len, List.length_take, Nat.min_eq_left hk]
   rw [h3, List.take_append_of_le_length (by omega), List.take_of_length_le (by omega)]
  ·rw [List.take_of_length_le (by rw [flatA_len]; exact Nat.mul_le_mul_right _ (by omega)), List.take_of_length_le (l := k) (by omega)]
 ·rw [List.drop_eq_nil_of_le (as := l) (by omega), List.drop_eq_nil_of_le (by rw [flatA_len]; exact Nat.mul_le_mul_right _ (by omega))]
  simp
theorem VD.of_mem {g : G} {t : Ty} (hd : t.data = true) {l : List t.T} {us : List Value} {b off cap : Nat} (hv : Vs g (l.flatMap (encA t)) us) (hm : ∀ (j : Nat) (x : Value), us[j]? = some x → g.mem b (off + j) = some x) (hc : l.length ≤ cap) (hx : cap ≤ maxLen) :
  VD g.mem (.sl t.size false (l.map (encD t))) (.slice (some ⟨b, off, none⟩) l.length cap) := by
 have h1 := flatV (fun x vs h => Vs.data t x vs hd h) (fun x => by rw [encA_len, encD_len]) l us hv
 have := VD.sl (M := g.mem) t.size false (l.map (encD t)) (some (b, off)) cap us (fun e he => by obtain ⟨x, _, rfl⟩ := List.mem_map.1 he; exact encD_len t x) (by simpa using hc) (fun h => by cases h) (fun h => by cases h) hx (by rw [flat_map]; exact h1.1) (fun p j x hp hj => by cases hp; exact hm j x hj) (fun j c x e1 e2 => by rw [flat_map] at e1; exact h1.2 j c x e1 e2)
 rw [List.length_map] at this
 exact this
theorem Inv.freeze {g : G} {S : Hp} {w : World} (h : Inv g S w) {o : Nat} {t : Ty} {l : List t.T} (hd : t.data = true) (h0 : 0 < t.size) (ho : S.ob o = some (.cells (l.flatMap (encA t)))) :
  ∃ g', Inv g' (S.del o) w ∧ Ext S g w (S.del o) g' w ∧ (∀ v, V g (.tw (.loc o) t.size) v → V g' (.tl t false l) v) ∧ ∀ off n v, off + n ≤ l.length → V g (.ts (.loc o) t.size off n) v → V g' (.tl t false (tk n (dr off l))) v := by
 have hlen := flatA_len t l
 have hdel : ∀ i x, (S.del o).ob i = some x → S.ob i = some x := fun i x e => by
  have e : (if i = o then none else S.ob i) = some x := e
  split at e
  ·cases e
  ·exact e
 rcases h.cells o _ ho with ⟨k1, k2⟩ | ⟨b, tt, k1, _⟩
 ·have hl : l = [] := List.eq_nil_of_length_eq_zero (by
   rw [k2] at hlen
   rcases Nat.eq_zero_or_pos l.length with h | h
   ·exact h
   ·have : 0 < l.length * t.size := Nat.mul_pos h h0
    simp at hlen; omega)
  subst hl
  refine ⟨g, h.less hdel (fun _ e => e), Ext.less hdel (fun _ e => e), fun v hv => ?_, fun off n v hle hv => ?_⟩
  ·cases hv with
   | tw0 _ _ ad _ => exact .tl t false [] _ (.sl0 _ _ ad)
   | tw _ _ n b cap tt h1 => rw [show (Ref.loc o).id = o from rfl, k1] at h1; cases h1
  ·cases hv with
   | ts0 _ _ _ _ ad _ hn =>
    rw [show tk n (dr off ([] : List t.T)) = [] by simp [tk, dr]]
    exact .tl t false [] _ (.sl0 _ _ ad)
   | ts _ _ _ _ b cap s h1 => rw [show (Ref.loc o).id = o from rfl, k1] at h1; cases h1
 ·obtain ⟨cur, ty, q1, q2, q3, q4, q5, q6⟩ := h.frz ho k1
  refine ⟨_, q5, q6, fun v hv => ?_, fun off n v hle hv => ?_⟩
  ·cases hv with
   | tw0 _ _ ad h1 => rw [show (Ref.loc o).id = o from rfl, k1] at h1; cases h1
   | tw _ _ n b' cap tt' h1 hn hx hp d hd' =>
    rw [show (Ref.loc o).id = o from rfl, k1] at h1
    simp only [Option.some.injEq, Prod.mk.injEq] at h1
    obtain ⟨rfl, h2, rfl⟩ := h1
    have hnl : n = l.length := Nat.eq_of_mul_eq_mul_right h0 (by rw [← h2, hlen])
    subst hnl
    by_cases hc : cap = 0
    ·have : l = [] := List.eq_nil_of_length_eq_zero (by omega)
     subst this; subst hc
     exact .tl t false [] _ (.sl0 _ _ _)
    ·rw [hd' hc]
     refine .tl t false l _ (VD.of_mem hd (q3.mono q4) (fun j x hj => ?_) hn hx)
     show (if b = b then (if 0 + j < (l.flatMap (encA t)).length then cur[0 + j]? else none) else g.mem b (0 + j)) = some x
     rw [if_pos rfl, Nat.zero_add]
     rw [List.getElem?_take] at hj
     split at hj
     ·rename_i hlt; rw [if_pos hlt]; simpa using hj
     ·cases hj
  ·cases hv with
   | ts0 _ _ _ _ ad h1 => rw [show (Ref.loc o).id = o from rfl, k1] at h1; cases h1
   | ts _ _ _ _ b' cap s h1 hn hx hs hp d hd' =>
    rw [show (Ref.loc o).id = o from rfl, k1] at h1
    simp only [Option.some.injEq, Prod.mk.injEq] at h1
    obtain ⟨rfl, rfl⟩ := h1
    have hl2 : ((l.drop off).take n).length = n := by simp; omega
    by_cases hc : cap = 0
    ·have : n = 0 := by omega
     subst this; subst hc
     exact .tl t false _ _ (.sl0 _ _ _)
    ·rw [hd' hc]
     have hv2 := (q3.part (off * t.size) (n * t.size)).mono q4
     rw [flatA_part] at hv2
     have := VD.of_mem (b := b) (off := off * t.size) (cap := cap) hd hv2 (fun j x hj => by
      show (if b = b then (if off * t.size + j < (l.flatMap (encA t)).length then cur[off * t.size + j]? else none) else g.mem b (off * t.size + j)) = some x
      rw [if_pos rfl]
      rw [List.getElem?_take] at hj
      split at hj
      ·rw [List.getElem?_drop, List.getElem?_take] at hj
       split at hj
       ·rename_i hlt; rw [if_pos hlt]; simpa using hj
       ·cases hj
      ·cases hj) (by rw [hl2]; exact hn) hx
     rw [hl2] at this
     exact .tl t false _ _ this
theorem Inv.moveRow {g : G} {S : Hp} {w : World} (h : Inv g S w) {o i : Nat} {X Y : Ref} (hX : X.id = i) (hY : Y.id = o) {t : Ty} {l : List t.T} (h0 : 0 < t.size) (ho : S.ob o = some (.cells (l.flatMap (encA t)))) (hf : S.fr i) {m : Nat} (hm : m ≤ l.length) :
  ∃ g', Inv g' ((S.del o).new i (.cells ((tk m l).flatMap (encA t)))) w ∧ Ext S g w ((S.del o).new i (.cells ((tk m l).flatMap (encA t)))) g' w ∧ (∀ v, m = l.length → V g (.tw Y t.size) v → V g' (.tw X t.size) v) ∧ ∀ v, V g (.ts Y t.size 0 m) v → V g' (.tw X t.size) v := by
 have hlen := flatA_len t l
 have htk : (l.flatMap (encA t)).take (m * t.size) = (tk m l).flatMap (encA t) := by
  have := flatA_part t l 0 m
  simpa [tk] using this
 rcases h.cells o _ ho with ⟨k1, k2⟩ | ⟨b, tt, k1, _⟩
 ·have hl : l = [] := List.eq_nil_of_length_eq_zero (by
   rw [k2] at hlen
   rcases Nat.eq_zero_or_pos l.length with h | h
   ·exact h
   ·have : 0 < l.length * t.size := Nat.mul_pos h h0
    simp at hlen; omega)
  subst hl
  have hdel : ∀ i x, (S.del o).ob i = some x → S.ob i = some x := fun i x e => by
   have e : (if i = o then none else S.ob i) = some x := e
   split at e
   ·cases e
   ·exact e
  have h1 := h.less (S' := S.del o) hdel (fun _ e => e)
  have h2 := Ext.less (S := S) (S' := S.del o) (g := g) (w := w) hdel (fun _ e => e)
  obtain ⟨q1, q2⟩ := h1.emp (o := i) hf
  have e : (tk m ([] : List t.T)).flatMap (encA t) = [] := by simp [tk]
  rw [e]
  refine ⟨_, q1, h2.trans q2, fun v _ hv => ?_, fun v hv => ?_⟩
  ·cases hv with
   | tw0 _ _ ad _ => exact .tw0 X t.size ad (by rw [hX]; exact gput_at)
   | tw _ _ n b cap tt h1 => rw [hY, k1] at h1; cases h1
  ·cases hv with
   | ts0 _ _ _ _ ad _ _ => exact .tw0 X t.size ad (by rw [hX]; exact gput_at)
   | ts _ _ _ _ b cap s h1 => rw [hY, k1] at h1; cases h1
 ·obtain ⟨q1, q2⟩ := h.ren (m := m * t.size) ho hf k1 (by rw [hlen]; exact Nat.mul_le_mul_right _ hm)
  rw [htk] at q1 q2
  refine ⟨_, q1, q2, fun v hm' hv => ?_, fun v hv => ?_⟩
  ·subst hm'
   cases hv with
   | tw0 _ _ ad h1 => rw [hY, k1] at h1; cases h1
   | tw _ _ n b' cap tt' h1 hn hx hp d hd' =>
    rw [hY, k1] at h1
    simp only [Option.some.injEq, Prod.mk.injEq] at h1
    obtain ⟨rfl, h2, rfl⟩ := h1
    have hnl : n = l.length := Nat.eq_of_mul_eq_mul_right h0 (by rw [← h2, hlen])
    subst hnl
    exact .tw X t.size _ b cap tt (by rw [hX]; exact gput_at) hn hx hp d hd'
  ·cases hv with
   | ts0 _ _ _ _ ad h1 => rw [hY, k1] at h1; cases h1
   | ts _ _ _ _ b' cap s h1 hn hx hs hp d hd' =>
    rw [hY, k1] at h1
    simp only [Option.some.injEq, Prod.mk.injEq] at h1
    obtain ⟨rfl, rfl⟩ := h1
    simp only [Nat.zero_add, Nat.zero_mul] at hp hd'
    exact .tw X t.size m b cap tt (by rw [hX]; exact gput_at) hn hx hp d hd'
end
end Go.Bm
