/- Known things: types, values, memory, what these stand for. Nothing of a program stands here. -/
import Derived.Test.YtihiooaimdoapaaGreatBmP
set_option linter.unusedVariables false
set_option linter.unusedSimpArgs false
namespace Go.Bm
noncomputable section
open Go.RowKit

inductive Ty where
  | int (k : IntKind)
  | bool
  | unit
  | pair (a b : Ty)
  | arr (n : Nat) (t : Ty)
  | slc (t : Ty)
  | ptr (r : Nat)
  | nptr (r : Nat)
  | rsl (r : Nat) (z : Nat)
  | wrg (r : Nat) (z : Nat)
  | mp (r : Nat)
  deriving DecidableEq
def Ty.T : Ty → Type
  | .int _ => Int
  | .bool => Bool
  | .unit => Unit
  | .pair a b => a.T × b.T
  | .arr _ t => List t.T
  | .slc t => List t.T
  | .ptr _ => Option Nat
  | .nptr _ => Nat
  | .rsl _ _ => Option Nat
  | .wrg _ _ => Nat
  | .mp _ => Option Nat
def Ty.dflt : (t : Ty) → t.T
  | .int _ => (0 : Int)
  | .bool => false
  | .unit => ()
  | .pair a b => (a.dflt, b.dflt)
  | .arr n t => List.replicate n t.dflt
  | .slc _ => []
  | .ptr _ => none
  | .nptr _ => (0 : Nat)
  | .rsl _ _ => none
  | .wrg _ _ => (0 : Nat)
  | .mp _ => none
def Ty.size : Ty → Nat
  | .int _ => 1
  | .bool => 1
  | .unit => 0
  | .pair a b => a.size + b.size
  | .arr n t => n * t.size
  | _ => 1
/-- It speaks of no place that may be written. -/
def Ty.data : Ty → Bool
  | .int _ => true
  | .bool => true
  | .unit => true
  | .pair a b => a.data && b.data
  | .arr _ t => t.data
  | .slc t => t.data
  | _ => false

/-! ### code with hints -/
/-- What a region is of: boxes, rows, maps. -/
inductive RK where
  | box (t : Ty)
  | row (t : Ty)
  | map (ka : Bool) (tk : Ty) (va : Bool) (tv : Ty)
/-- What changes up to a place in the code where states meet: slots; slots that are rows that grow; boxes that slots point to (or slots of a loop's round); boxes of cells some of which are rows that grow; loops over functions that go on; and regions. -/
structure LH where
  vary : List (Nat × Bool × Ty)
  grow : List (Nat × Ty)
  boxes : List ((Nat × Option Nat) × Ty)
  cbox : List ((Nat × Option Nat) × List (Bool × Ty))
  loops : List Nat
  regs : List (Nat × RK)
inductive XCode where
  | skip
  | ret
  | exit (id : Nat)
  | bad (c : Code)
  | region (id : Nat) (ops : List Oper) (draw : Bool)
  | seq (x y : XCode)
  | cut (h : LH) (x y : XCode)
  | cond (c : Operand) (x y : XCode)
  | block (id : Nat) (x : XCode)
  | loop (h : LH) (x : XCode)
  | range (g : Operand) (ps : List Tmp) (h : LH) (as bd : XCode)
def XCode.code : XCode → Code
  | .skip => .skip
  | .ret => .ret
  | .exit id => .exit id
  | .bad c => c
  | .region id ops dr => .region id ops.toArray dr
  | .seq x y => .seq x.code y.code
  | .cut _ x y => .seq x.code y.code
  | .cond c x y => .cond c x.code y.code
  | .block id x => .block id x.code
  | .loop _ x => .loop x.code
  | .range g ps _ as bd => .rangeFunc g ps.toArray as.code bd.code

def Tr.get {α : Type} (t : Tr α) : Nat → Option α :=
  Tr.rec (motive := fun _ => Nat → Option α) (fun _ => none) (fun _ v _ gl gr n => Nat.rec (motive := fun _ => Option α) v (fun n _ => Nat.rec (motive := fun _ => Option α) (gl (n / 2)) (fun _ _ => gr (n / 2)) (n % 2)) n) t
theorem Tr.get_nil {α : Type} (n : Nat) : (Tr.nil : Tr α).get n = none := rfl
theorem Tr.get_zero {α : Type} (l : Tr α) (v : Option α) (r : Tr α) : (Tr.node l v r).get 0 = v := rfl
theorem Tr.get_succ {α : Type} (l : Tr α) (v : Option α) (r : Tr α) (n : Nat) : (Tr.node l v r).get (n + 1) = bif Nat.beq (n % 2) 0 then l.get (n / 2) else r.get (n / 2) := by
  show Nat.rec (motive := fun _ => Option α) (l.get (n / 2)) (fun _ _ => r.get (n / 2)) (n % 2) = _
  cases n % 2 <;> rfl

/-! ### data -/
/-- Memory that nobody writes again: block, place in it. -/
abbrev Mem := Nat → Nat → Option Value
def adr (p : Nat × Nat) : Addr := ⟨p.1, p.2, none⟩
inductive D where
  | v (x : Value)
  | sl (sz : Nat) (full : Bool) (es : List (List D))
inductive VD (M : Mem) : D → Value → Prop
  | v (x : Value) (h : x.oneCell' = true) : VD M (.v x) x
  | sl (sz : Nat) (full : Bool) (es : List (List D)) (a : Option (Nat × Nat)) (cap : Nat) (vs : List Value)
      (hz : ∀ e, e ∈ es → e.length = sz) (hc : es.length ≤ cap) (hf : full = true → cap = es.length) (hn : a = none → cap = 0) (hx : cap ≤ maxLen)
      (hl : es.flatten.length = vs.length)
      (hm : ∀ (p : Nat × Nat) (j : Nat) (x : Value), a = some p → vs[j]? = some x → M p.1 (p.2 + j) = some x)
      (hv : ∀ (j : Nat) (c : D) (x : Value), es.flatten[j]? = some c → vs[j]? = some x → VD M c x) :
      VD M (.sl sz full es) (.slice (a.map adr) es.length cap)
  | sl0 (sz : Nat) (full : Bool) (A : Option Addr) : VD M (.sl sz full []) (.slice A 0 0)
theorem VD.mono {M M' : Mem} (h : ∀ b o x, M b o = some x → M' b o = some x) {d : D} {v : Value} (hv : VD M d v) : VD M' d v := by
  induction hv with
  | v x h1 => exact .v x h1
  | sl sz full es a cap vs hz hc hf hn hx hl hm _ ih => exact .sl sz full es a cap vs hz hc hf hn hx hl (fun p j x h1 h2 => h _ _ _ (hm p j x h1 h2)) ih
  | sl0 sz f A => exact .sl0 sz f A
/-- The parts of a row of so many. -/
def arrF {α β : Type} (f : α → List β) (d : α) (n : Nat) (l : List α) : List β := (List.range n).flatMap fun i => f (nth d l i)
def encD : (t : Ty) → t.T → List D
  | .int k, x => [.v (.int k x)]
  | .bool, x => [.v (.bool x)]
  | .unit, _ => []
  | .pair a b, x => encD a x.1 ++ encD b x.2
  | .arr n t, l => arrF (encD t) t.dflt n l
  | .slc t, l => [.sl t.size false (List.map (encD t) l)]
  | _, _ => [.v undef]

/-! ### values -/
inductive Ref where
  | loc (o : Nat)
  | reg (r j : Nat)
def lim : Nat := 16777216
/-- The region, and the member, that a name is of. -/
def rOf (i : Nat) : Nat := (i - lim) % 64
def jOf (i : Nat) : Nat := (i - lim) / 64
theorem aux_mod (m L : Nat) : m + L = 64 * (m / 64) + (m % 64 + L) := by have := Nat.div_add_mod m 64; omega
theorem rid_ex : ∃ f : Nat → Nat → Nat, (∀ r j, lim ≤ f r j) ∧ (∀ r j, r < 64 → rOf (f r j) = r ∧ jOf (f r j) = j) ∧ ∀ i, ¬ i < lim → i = f (rOf i) (jOf i) := by
  unfold rOf jOf
  generalize lim = L
  refine ⟨fun r j => 64 * j + (r + L), fun r j => by show L ≤ 64 * j + (r + L); omega, fun r j h => by show (64 * j + (r + L) - L) % 64 = r ∧ (64 * j + (r + L) - L) / 64 = j; omega, fun i h => ?_⟩
  have h2 := aux_mod (i - L) L
  rw [Nat.sub_add_cancel (Nat.le_of_not_lt h)] at h2
  exact h2
/-- A region's member's name. -/
def rid : Nat → Nat → Nat := Classical.choose rid_ex
theorem rid_ge (r j : Nat) : lim ≤ rid r j := (Classical.choose_spec rid_ex).1 r j
theorem rOf_rid {r j : Nat} (h : r < 64) : rOf (rid r j) = r := ((Classical.choose_spec rid_ex).2.1 r j h).1
theorem jOf_rid {r j : Nat} (h : r < 64) : jOf (rid r j) = j := ((Classical.choose_spec rid_ex).2.1 r j h).2
theorem rid_of {i : Nat} (h : ¬ i < lim) : i = rid (rOf i) (jOf i) := (Classical.choose_spec rid_ex).2.2 i h
def Ref.id : Ref → Nat
  | .loc o => o
  | .reg r j => rid r j
/-- The way to a part: of a pair the first or the second one; an element of a row; one of so many. -/
inductive Sp where
  | fst
  | snd (c : Nat)
  | ix (i z : Nat)
  | ai (i n z : Nat)
def offS : List Sp → Nat
  | [] => 0
  | .fst :: π => offS π
  | .snd c :: π => c + offS π
  | .ix i z :: π => i * z + offS π
  | .ai i _ z :: π => i * z + offS π
def Pok (s : Nat) : List Sp → Prop
  | [] => True
  | .ix i z :: π => (i + 1) * z ≤ s ∧ Pok s π
  | .ai i n _ :: π => i < n ∧ Pok s π
  | _ :: π => Pok s π
/-- What a slot holds. -/
inductive A where
  | v (x : Value)
  | agg (cs : List A)
  | tup (cs : List A)
  | ptr (o off : Nat)
  | tp (x : Ref) (π : List Sp)
  | sl (o off z n : Nat)
  | ts (x : Ref) (z off n : Nat)
  | tf (x : Ref) (z off n : Nat)
  | tw (x : Ref) (z : Nat)
  | as (x : Ref) (π : List Sp) (n z : Nat)
  | e0
  | tl (t : Ty) (full : Bool) (l : List t.T)
  | nn (t : Ty) (l : List t.T)
  | dp (t : Ty) (x : t.T)
  | mp (x : Ref)
  | op (r : Nat) (o : Option Nat)
  | os (r z : Nat) (o : Option Nat)
  | om (r : Nat) (o : Option Nat)
  | fn (f : FuncId) (fi ca : List A)
  | yld (q n : Nat) (F : Tr A) (ps : List Tmp) (h : LH) (as bd : XCode)
  | un
  | junk
instance : Inhabited A := ⟨.junk⟩
def slotA (F : Nat → Option A) (i : Nat) : A := match F i with
  | some p => p
  | none => .un
/-- What stays of a loop over a function. -/
structure Lp where
  tmps : Array Value
  params : List Tmp
  assign : Code
  body : Code
def lpOf (r : Loop) : Lp := ⟨r.tmps, r.params.toList, r.assign, r.body⟩
def encA : (t : Ty) → t.T → List A
  | .int k, x => [.v (.int k x)]
  | .bool, x => [.v (.bool x)]
  | .unit, _ => []
  | .pair a b, x => encA a x.1 ++ encA b x.2
  | .arr n t, l => arrF (encA t) t.dflt n l
  | .slc t, l => [.tl t false l]
  | .ptr r, x => [.op r x]
  | .nptr r, j => [.tp (.reg r j) []]
  | .rsl r z, x => [.os r z x]
  | .wrg r z, j => [.tw (.reg r j) z]
  | .mp r, x => [.om r x]
theorem arrF_len {α β : Type} {f : α → List β} {d : α} {s : Nat} (h : ∀ x, (f x).length = s) (n : Nat) (l : List α) : (arrF f d n l).length = n * s := by
  have : ∀ m : List Nat, (m.flatMap fun i => f (nth d l i)).length = m.length * s := fun m => by
    induction m with
    | nil => simp
    | cons a m ih => rw [List.flatMap_cons, List.length_append, ih, h, List.length_cons, Nat.succ_mul, Nat.add_comm]
  have := this (List.range n)
  rwa [List.length_range] at this
theorem encD_len : ∀ (t : Ty) (x : t.T), (encD t x).length = t.size
  | .int _, _ => rfl
  | .bool, _ => rfl
  | .unit, _ => rfl
  | .pair a b, x => by simp [encD, Ty.size, encD_len a, encD_len b]
  | .arr n t, l => arrF_len (encD_len t) n l
  | .slc _, _ => rfl
  | .ptr _, _ => rfl
  | .nptr _, _ => rfl
  | .rsl _ _, _ => rfl
  | .wrg _ _, _ => rfl
  | .mp _, _ => rfl
theorem encA_len : ∀ (t : Ty) (x : t.T), (encA t x).length = t.size
  | .int _, _ => rfl
  | .bool, _ => rfl
  | .unit, _ => rfl
  | .pair a b, x => by simp [encA, Ty.size, encA_len a, encA_len b]
  | .arr n t, l => arrF_len (encA_len t) n l
  | .slc _, _ => rfl
  | .ptr _, _ => rfl
  | .nptr _, _ => rfl
  | .rsl _ _, _ => rfl
  | .wrg _ _, _ => rfl
  | .mp _, _ => rfl
/-- Where things lie: block (or none, of an empty row), how many cells it has, and the block; and memory that nobody writes again. -/
structure G where
  at' : Nat → Option (Option Nat × (Nat × Nat))
  mem : Mem
  lp : Nat → Option Lp
inductive V (g : G) : A → Value → Prop
  | v (x : Value) : V g (.v x) x
  | agg (cs : List A) (vs : Array Value) (hl : cs.length = vs.size) (h1 : ∀ v ∈ vs.toList, v.oneCell' = true) (h : ∀ (i : Nat) (c : A) (x : Value), cs[i]? = some c → vs[i]? = some x → V g c x) : V g (.agg cs) (.agg vs)
  | tup (cs : List A) (vs : Array Value) (hl : cs.length = vs.size) (h : ∀ (i : Nat) (c : A) (x : Value), cs[i]? = some c → vs[i]? = some x → V g c x) : V g (.tup cs) (.tuple vs)
  | ptr (o off b : Nat) (s : Nat × Nat) (h : g.at' o = some (some b, s)) : V g (.ptr o off) (.pointer (some ⟨b, off, none⟩))
  | tp (x : Ref) (π : List Sp) (b : Nat) (s : Nat × Nat) (h : g.at' x.id = some (some b, s)) (hk : Pok s.1 π) : V g (.tp x π) (.pointer (some ⟨b, offS π, none⟩))
  | sl (o off z n b cap : Nat) (s : Nat × Nat) (h : g.at' o = some (some b, s)) (hn : n ≤ cap) (hx : cap ≤ maxLen) (hs : off + n * z ≤ s.1) : V g (.sl o off z n) (.slice (some ⟨b, off, none⟩) n cap)
  | ts (x : Ref) (z off n b cap : Nat) (s : Nat × Nat) (h : g.at' x.id = some (some b, s)) (hn : n ≤ cap) (hx : cap ≤ maxLen) (hs : (off + n) * z ≤ s.1) (hp : (off + cap) * z ≤ s.2) (d : Nat) (hd : cap ≠ 0 → d = off * z) (hq : s.1 ≤ (off + cap) * z) : V g (.ts x z off n) (.slice (some ⟨b, d, none⟩) n cap)
  | ts0 (x : Ref) (z off n : Nat) (ad : Option Addr) (h : g.at' x.id = some (none, (0, 0))) (hn : off + n = 0) : V g (.ts x z off n) (.slice ad 0 0)
  | tf (x : Ref) (z off n b : Nat) (s : Nat × Nat) (h : g.at' x.id = some (some b, s)) (hx : n ≤ maxLen) (hs : (off + n) * z ≤ s.1) (d : Nat) (hd : n ≠ 0 → d = off * z) : V g (.tf x z off n) (.slice (some ⟨b, d, none⟩) n n)
  | tf0 (x : Ref) (z off n : Nat) (ad : Option Addr) (h : g.at' x.id = some (none, (0, 0))) (hn : off + n = 0) : V g (.tf x z off n) (.slice ad 0 0)
  | tw0 (x : Ref) (z : Nat) (ad : Option Addr) (h : g.at' x.id = some (none, (0, 0))) : V g (.tw x z) (.slice ad 0 0)
  | tw (x : Ref) (z n b cap t : Nat) (h : g.at' x.id = some (some b, (n * z, t))) (hn : n ≤ cap) (hx : cap ≤ maxLen) (hp : cap * z ≤ t) (d : Nat) (hd : cap ≠ 0 → d = 0) : V g (.tw x z) (.slice (some ⟨b, d, none⟩) n cap)
  | as (x : Ref) (π : List Sp) (n z b cap : Nat) (s : Nat × Nat) (h : g.at' x.id = some (some b, s)) (hk : Pok s.1 π) (hn : n ≤ cap) (hx : cap ≤ maxLen) : V g (.as x π n z) (.slice (some ⟨b, offS π, none⟩) n cap)
  | e0 (ad : Option Addr) : V g .e0 (.slice ad 0 0)
  | tl (t : Ty) (full : Bool) (l : List t.T) (v : Value) (h : VD g.mem (.sl t.size full (l.map (encD t))) v) : V g (.tl t full l) v
  | nn (t : Ty) (l : List t.T) (a : Addr) (n c : Nat) (h : VD g.mem (.sl t.size false (l.map (encD t))) (.slice (some a) n c)) : V g (.nn t l) (.slice (some a) n c)
  | dp (t : Ty) (x : t.T) (b off : Nat) (f : Nat → Value) (hm : ∀ (j : Nat) (c : D), (encD t x)[j]? = some c → g.mem b (off + j) = some (f j) ∧ VD g.mem c (f j)) : V g (.dp t x) (.pointer (some ⟨b, off, none⟩))
  | mp (x : Ref) (b : Nat) (s : Nat × Nat) (h : g.at' x.id = some (some b, s)) : V g (.mp x) (.map (some b))
  | op (r : Nat) (o : Option Nat) (v : Value) (h0 : o = none → v = .pointer none) (h1 : ∀ j, o = some j → V g (.tp (.reg r j) []) v) : V g (.op r o) v
  | os (r z : Nat) (o : Option Nat) (v : Value) (h0 : o = none → V g .e0 v) (h1 : ∀ j, o = some j → V g (.tw (.reg r j) z) v) : V g (.os r z o) v
  | om (r : Nat) (o : Option Nat) (v : Value) (h0 : o = none → v = .map none) (h1 : ∀ j, o = some j → V g (.mp (.reg r j)) v) : V g (.om r o) v
  | fn (f : FuncId) (fi ca : List A) (fv cv : Array Value) (hf : fi.length = fv.size) (hc : ca.length = cv.size) (h1 : ∀ (i : Nat) (c : A) (x : Value), fi[i]? = some c → fv[i]? = some x → V g c x) (h2 : ∀ (i : Nat) (c : A) (x : Value), ca[i]? = some c → cv[i]? = some x → V g c x) :
      V g (.fn f fi ca) (.func (.func f) fv cv)
  | yld (q n : Nat) (F : Tr A) (ps : List Tmp) (j : LH) (as bd : XCode) (b : Nat) (s : Nat × Nat) (l : Lp) (h : g.at' q = some (some b, s)) (hl : g.lp b = some l) (h1 : l.params = ps) (h2 : l.assign = as.code) (h3 : l.body = bd.code) (h4 : l.tmps.size = n) (h5 : ∀ i, i < n → V g (slotA F.get i) (l.tmps.getD i undef)) : V g (.yld q n F ps j as bd) (.func (.yield b) #[] #[])
  | un : V g .un undef
  | junk (v : Value) : V g .junk v
structure Le (g g' : G) : Prop where
  at' : ∀ o p, g.at' o = some p → g'.at' o = some p
  mem : ∀ b o x, g.mem b o = some x → g'.mem b o = some x
  lp : ∀ b l, g.lp b = some l → g'.lp b = some l
theorem Le.refl (g : G) : Le g g := ⟨fun _ _ h => h, fun _ _ _ h => h, fun _ _ h => h⟩
theorem Le.trans {a b c : G} (h : Le a b) (k : Le b c) : Le a c := ⟨fun _ _ e => k.at' _ _ (h.at' _ _ e), fun _ _ _ e => k.mem _ _ _ (h.mem _ _ _ e), fun _ _ e => k.lp _ _ (h.lp _ _ e)⟩
theorem V.mono {g g' : G} (h : Le g g') {p : A} {v : Value} (hv : V g p v) : V g' p v := by
  induction hv with
  | v x => exact .v x
  | agg cs vs hl h1 _ ih => exact .agg cs vs hl h1 ih
  | tup cs vs hl _ ih => exact .tup cs vs hl ih
  | ptr o off b s h1 => exact .ptr o off b s (h.at' _ _ h1)
  | tp x π b s h1 hk => exact .tp x π b s (h.at' _ _ h1) hk
  | sl o off z n b cap s h1 hn hx hs => exact .sl o off z n b cap s (h.at' _ _ h1) hn hx hs
  | ts x z off n b cap s h1 hn hx hs hp d hd hq => exact .ts x z off n b cap s (h.at' _ _ h1) hn hx hs hp d hd hq
  | ts0 x z off n ad h1 hn => exact .ts0 x z off n ad (h.at' _ _ h1) hn
  | tf0 x z off n ad h1 hn => exact .tf0 x z off n ad (h.at' _ _ h1) hn
  | tf x z off n b s h1 hx hs d hd => exact .tf x z off n b s (h.at' _ _ h1) hx hs d hd
  | tw0 x z ad h1 => exact .tw0 x z ad (h.at' _ _ h1)
  | tw x z n b cap t h1 hn hx hp d hd => exact .tw x z n b cap t (h.at' _ _ h1) hn hx hp d hd
  | as x π n z b cap s h1 hk hn hx => exact .as x π n z b cap s (h.at' _ _ h1) hk hn hx
  | e0 ad => exact .e0 ad
  | tl t f l v h1 => exact .tl t f l v (h1.mono h.mem)
  | nn t l a n c h1 => exact .nn t l a n c (h1.mono h.mem)
  | dp t x b off f hm => exact .dp t x b off f (fun j c e => ⟨h.mem _ _ _ (hm j c e).1, (hm j c e).2.mono h.mem⟩)
  | mp x b s h1 => exact .mp x b s (h.at' _ _ h1)
  | op r o v h0 _ ih => exact .op r o v h0 ih
  | os r z o v _ _ ih0 ih1 => exact .os r z o v ih0 ih1
  | om r o v h0 _ ih => exact .om r o v h0 ih
  | fn f fi ca fv cv hf hc _ _ ih1 ih2 => exact .fn f fi ca fv cv hf hc ih1 ih2
  | yld q n F ps j as bd b s l h0 hl h1 h2 h3 h4 _ ih => exact .yld q n F ps j as bd b s l (h.at' _ _ h0) (h.lp _ _ hl) h1 h2 h3 h4 ih
  | un => exact .un
  | junk v => exact .junk v

/-! ### cells -/
def Vs (g : G) (ps : List A) (vs : List Value) : Prop := ps.length = vs.length ∧ ∀ (j : Nat) (c : A) (x : Value), ps[j]? = some c → vs[j]? = some x → V g c x ∧ x.oneCell' = true
def VDs (M : Mem) (ds : List D) (vs : List Value) : Prop := ds.length = vs.length ∧ ∀ (j : Nat) (c : D) (x : Value), ds[j]? = some c → vs[j]? = some x → VD M c x
theorem VD.one {M : Mem} {c : D} {x : Value} (h : VD M c x) : x.oneCell' = true := by cases h <;> first | assumption | rfl
theorem Vs.mono {g g' : G} (h : Le g g') {ps : List A} {vs : List Value} (k : Vs g ps vs) : Vs g' ps vs := ⟨k.1, fun j c x e1 e2 => ⟨(k.2 j c x e1 e2).1.mono h, (k.2 j c x e1 e2).2⟩⟩
theorem Vs.one {g : G} {ps : List A} {vs : List Value} (h : Vs g ps vs) : ∀ u ∈ vs, u.oneCell' = true := fun u hu => by
  obtain ⟨j, hj, rfl⟩ := List.getElem_of_mem hu
  exact (h.2 j _ _ (List.getElem?_eq_getElem (by rw [h.1]; exact hj)) (List.getElem?_eq_getElem hj)).2
theorem Vs.nil {g : G} : Vs g [] [] := ⟨rfl, fun j c x h => by simp at h⟩
theorem Vs.append {g : G} {ds es : List A} {vs us : List Value} (h : Vs g ds vs) (k : Vs g es us) : Vs g (ds ++ es) (vs ++ us) := by
  refine ⟨by simp [h.1, k.1], fun j c x e1 e2 => ?_⟩
  by_cases hj : j < ds.length
  · rw [List.getElem?_append_left hj] at e1
    rw [List.getElem?_append_left (by rw [← h.1]; exact hj)] at e2
    exact h.2 j c x e1 e2
  · rw [List.getElem?_append_right (by omega)] at e1
    rw [List.getElem?_append_right (by rw [← h.1]; omega), ← h.1] at e2
    exact k.2 _ c x e1 e2
theorem Vs.part {g : G} {cs : List A} {xs : List Value} (h : Vs g cs xs) (off n : Nat) : Vs g ((cs.drop off).take n) ((xs.drop off).take n) := by
  refine ⟨by simp [h.1], fun j c x h1 h2 => ?_⟩
  rw [List.getElem?_take] at h1 h2
  split at h1
  · rename_i hj
    rw [if_pos hj] at h2
    rw [List.getElem?_drop] at h1 h2
    exact h.2 _ c x h1 h2
  · cases h1
theorem Vs.cons {g : G} {c : A} {x : Value} {cs : List A} {xs : List Value} (h : V g c x) (h1 : x.oneCell' = true) (k : Vs g cs xs) : Vs g (c :: cs) (x :: xs) :=
  Vs.append (ds := [c]) (vs := [x]) ⟨rfl, fun j c' x' e1 e2 => by
    cases j with
    | zero => simp at e1 e2; subst e1 e2; exact ⟨h, h1⟩
    | succ j => simp at e1⟩ k
theorem VDs.append {M : Mem} {ds es : List D} {vs us : List Value} (h : VDs M ds vs) (k : VDs M es us) : VDs M (ds ++ es) (vs ++ us) := by
  refine ⟨by simp [h.1, k.1], fun j c x e1 e2 => ?_⟩
  by_cases hj : j < ds.length
  · rw [List.getElem?_append_left hj] at e1
    rw [List.getElem?_append_left (by rw [← h.1]; exact hj)] at e2
    exact h.2 j c x e1 e2
  · rw [List.getElem?_append_right (by omega)] at e1
    rw [List.getElem?_append_right (by rw [← h.1]; omega), ← h.1] at e2
    exact k.2 _ c x e1 e2
theorem Vs.split {g : G} {ds es : List A} {vs : List Value} (h : Vs g (ds ++ es) vs) : Vs g ds (vs.take ds.length) ∧ Vs g es (vs.drop ds.length) := by
  have hl := h.1
  rw [List.length_append] at hl
  refine ⟨⟨by simp; omega, fun j c x e1 e2 => ?_⟩, ⟨by simp; omega, fun j c x e1 e2 => ?_⟩⟩
  · have hj := (List.getElem?_eq_some_iff.1 e1).1
    rw [List.getElem?_take, if_pos hj] at e2
    exact h.2 j c x (by rw [List.getElem?_append_left hj]; exact e1) e2
  · rw [List.getElem?_drop] at e2
    exact h.2 (ds.length + j) c x (by rw [List.getElem?_append_right (by omega), Nat.add_sub_cancel_left]; exact e1) e2
theorem VDs.split {M : Mem} {ds es : List D} {vs : List Value} (h : VDs M (ds ++ es) vs) : VDs M ds (vs.take ds.length) ∧ VDs M es (vs.drop ds.length) := by
  have hl := h.1
  rw [List.length_append] at hl
  refine ⟨⟨by simp; omega, fun j c x e1 e2 => ?_⟩, ⟨by simp; omega, fun j c x e1 e2 => ?_⟩⟩
  · have hj := (List.getElem?_eq_some_iff.1 e1).1
    rw [List.getElem?_take, if_pos hj] at e2
    exact h.2 j c x (by rw [List.getElem?_append_left hj]; exact e1) e2
  · rw [List.getElem?_drop] at e2
    exact h.2 (ds.length + j) c x (by rw [List.getElem?_append_right (by omega), Nat.add_sub_cancel_left]; exact e1) e2
theorem one_v {g : G} {c : A} {d : D} (h1 : ∀ x, V g c x → x.oneCell' = true → VD g.mem d x) {vs : List Value} (h : Vs g [c] vs) : VDs g.mem [d] vs := by
  obtain ⟨x, rfl⟩ : ∃ x, vs = [x] := by
    match vs, h.1 with
    | [x], _ => exact ⟨x, rfl⟩
  refine ⟨rfl, fun j c' x' e1 e2 => ?_⟩
  cases j with
  | zero => simp at e1 e2; subst e1 e2; have := h.2 0 c x rfl rfl; exact h1 x this.1 this.2
  | succ j => simp at e1
theorem one_d {g : G} {c : A} {d : D} (h1 : ∀ x, VD g.mem d x → V g c x) {vs : List Value} (h : VDs g.mem [d] vs) : Vs g [c] vs := by
  obtain ⟨x, rfl⟩ : ∃ x, vs = [x] := by
    match vs, h.1 with
    | [x], _ => exact ⟨x, rfl⟩
  exact .cons (h1 x (h.2 0 d x rfl rfl)) (h.2 0 d x rfl rfl).one .nil
theorem flatV {α : Type} {g : G} {f : α → List A} {f' : α → List D} (h : ∀ x vs, Vs g (f x) vs → VDs g.mem (f' x) vs) (hl : ∀ x, (f x).length = (f' x).length) : ∀ (l : List α) (vs : List Value), Vs g (l.flatMap f) vs → VDs g.mem (l.flatMap f') vs
  | [], vs, hv => ⟨by simpa using hv.1, fun j c x e => by simp at e⟩
  | a :: l, vs, hv => by
    rw [List.flatMap_cons] at hv ⊢
    obtain ⟨h1, h2⟩ := hv.split
    have := (h a _ h1).append (flatV h hl l _ h2)
    rwa [List.take_append_drop] at this
theorem flatD {α : Type} {g : G} {f : α → List A} {f' : α → List D} (h : ∀ x vs, VDs g.mem (f' x) vs → Vs g (f x) vs) (hl : ∀ x, (f x).length = (f' x).length) : ∀ (l : List α) (vs : List Value), VDs g.mem (l.flatMap f') vs → Vs g (l.flatMap f) vs
  | [], vs, hv => ⟨by simpa using hv.1, fun j c x e => by simp at e⟩
  | a :: l, vs, hv => by
    rw [List.flatMap_cons] at hv ⊢
    obtain ⟨h1, h2⟩ := hv.split
    have := (h a _ h1).append (flatD h hl l _ h2)
    rwa [List.take_append_drop] at this
/-- What is told of cells is data. -/
theorem Vs.data {g : G} : ∀ (t : Ty) (x : t.T) (vs : List Value), t.data = true → Vs g (encA t x) vs → VDs g.mem (encD t x) vs
  | .int k, x, vs, _, h => one_v (fun y hy h1 => by cases hy; exact .v _ rfl) h
  | .bool, x, vs, _, h => one_v (fun y hy h1 => by cases hy; exact .v _ rfl) h
  | .unit, _, vs, _, h => ⟨h.1, fun j c x e => by simp [encD] at e⟩
  | .pair a b, x, vs, hd, h => by
    simp only [Ty.data, Bool.and_eq_true] at hd
    obtain ⟨h1, h2⟩ := Vs.split (show Vs g (encA a x.1 ++ encA b x.2) vs from h)
    have := (Vs.data a x.1 _ hd.1 h1).append (Vs.data b x.2 _ hd.2 h2)
    rwa [List.take_append_drop] at this
  | .arr n t, l, vs, hd, h => flatV (fun i us hu => Vs.data t _ us hd hu) (fun i => by rw [encA_len, encD_len]) _ vs h
  | .slc t, l, vs, _, h => one_v (fun y hy h1 => by cases hy; assumption) h
  | .ptr _, _, _, hd, _ => by cases hd
  | .nptr _, _, _, hd, _ => by cases hd
  | .rsl _ _, _, _, hd, _ => by cases hd
  | .wrg _ _, _, _, hd, _ => by cases hd
  | .mp _, _, _, hd, _ => by cases hd
theorem VDs.cells {g : G} : ∀ (t : Ty) (x : t.T) (vs : List Value), t.data = true → VDs g.mem (encD t x) vs → Vs g (encA t x) vs
  | .int k, x, vs, _, h => one_d (fun y hy => by cases hy; exact .v _) h
  | .bool, x, vs, _, h => one_d (fun y hy => by cases hy; exact .v _) h
  | .unit, _, vs, _, h => ⟨h.1, fun j c x e => by simp [encA] at e⟩
  | .pair a b, x, vs, hd, h => by
    simp only [Ty.data, Bool.and_eq_true] at hd
    obtain ⟨h1, h2⟩ := VDs.split (show VDs g.mem (encD a x.1 ++ encD b x.2) vs from h)
    have := (VDs.cells a x.1 _ hd.1 h1).append (VDs.cells b x.2 _ hd.2 h2)
    rwa [List.take_append_drop] at this
  | .arr n t, l, vs, hd, h => flatD (fun i us hu => VDs.cells t _ us hd hu) (fun i => by rw [encA_len, encD_len]) _ vs h
  | .slc t, l, vs, _, h => one_d (fun y hy => .tl t false l y hy) h
  | .ptr _, _, _, hd, _ => by cases hd
  | .nptr _, _, _, hd, _ => by cases hd
  | .rsl _ _, _, _, hd, _ => by cases hd
  | .wrg _ _, _, _, hd, _ => by cases hd
  | .mp _, _, _, hd, _ => by cases hd
end
end Go.Bm
