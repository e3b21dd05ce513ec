/- Cells told as typed things; the machine's memory. -/
import Derived.Test.YtihiooaimdoapaaGreatBmI
set_option linter.unusedVariables false
set_option linter.unusedSimpArgs false
namespace Go.Bm
noncomputable section
open Go.RowKit

def toArr {α : Type} (f : List A → Option α) (z : Nat) : Nat → List A → Option (List α)
  | 0, [] => some []
  | 0, _ :: _ => none
  | n + 1, cs => match f (cs.take z), toArr f z n (cs.drop z) with
    | some x, some l => some (x :: l)
    | _, _ => none
/-- Cells, told as a typed thing. -/
def toC : (t : Ty) → List A → Option t.T
  | .int k, cs => match cs with
    | [.v (.int k' n)] => if k' = k then some n else none
    | _ => none
  | .bool, cs => match cs with
    | [.v (.bool b)] => some b
    | _ => none
  | .unit, cs => match cs with
    | [] => some ()
    | _ => none
  | .pair a b, cs => match toC a (cs.take a.size), toC b (cs.drop a.size) with
    | some x, some y => some (x, y)
    | _, _ => none
  | .arr n t, cs => toArr (toC t) t.size n cs
  | .slc t, cs => match cs with
    | [.tl t' _ l] => castT (.slc t') (.slc t) l
    | [.v (.slice none 0 0)] => some []
    | [.e0] => some []
    | _ => none
  | .ptr r, cs => match cs with
    | [.v (.pointer none)] => some none
    | [.tp (.reg r' j) []] => bif Nat.beq r r' then some (some j) else none
    | [.op r' o] => bif Nat.beq r r' then some o else none
    | _ => none
  | .nptr r, cs => match cs with
    | [.tp (.reg r' j) []] => bif Nat.beq r r' then some j else none
    | _ => none
  | .rsl r z, cs => match cs with
    | [.v (.slice none 0 0)] => some none
    | [.e0] => some none
    | [.tw (.reg r' j) z'] => bif Nat.beq r r' && Nat.beq z z' then some (some j) else none
    | [.os r' z' o] => bif Nat.beq r r' && Nat.beq z z' then some o else none
    | _ => none
  | .wrg r z, cs => match cs with
    | [.tw (.reg r' j) z'] => bif Nat.beq r r' && Nat.beq z z' then some j else none
    | _ => none
  | .mp r, cs => match cs with
    | [.v (.map none)] => some none
    | [.mp (.reg r' j)] => bif Nat.beq r r' then some (some j) else none
    | [.om r' o] => bif Nat.beq r r' then some o else none
    | _ => none
theorem VD.unfull {M : Mem} {sz : Nat} {full : Bool} {es : List (List D)} {v : Value} (h : VD M (.sl sz full es) v) : VD M (.sl sz false es) v := by
  cases h with
  | sl _ _ _ a cap vs hz hc hf hn hx hl hm hv => exact .sl sz false es a cap vs hz hc (fun h => by cases h) hn hx hl hm hv
  | sl0 _ _ A => exact .sl0 sz false A
theorem one_w {g : G} {c d : A} {vs : List Value} (h : ∀ v, V g c v → V g d v) (k : Vs g [c] vs) : Vs g [d] vs := by
  refine ⟨k.1, fun j c' x e1 e2 => ?_⟩
  cases j with
  | zero => simp at e1; subst e1; exact ⟨h x (k.2 0 c x rfl e2).1, (k.2 0 c x rfl e2).2⟩
  | succ j => simp at e1
theorem toArr_ok {α : Type} {g : G} {f : List A → Option α} {e : α → List A} {z : Nat} (hf : ∀ cs x, f cs = some x → cs.length = z ∧ ∀ vs, Vs g cs vs → Vs g (e x) vs) : ∀ (n : Nat) (cs : List A) (l : List α), toArr f z n cs = some l → cs.length = n * z ∧ l.length = n ∧ ∀ vs, Vs g cs vs → Vs g (l.flatMap e) vs
  | 0, [], l, h => by cases h; exact ⟨by simp, rfl, fun vs hv => hv⟩
  | 0, _ :: _, l, h => by cases h
  | n + 1, cs, l, h => by
    have h : (match f (cs.take z), toArr f z n (cs.drop z) with | some x, some l => some (x :: l) | _, _ => none) = some l := by
      cases cs <;> exact h
    split at h
    · rename_i x l' h1 h2
      cases h
      obtain ⟨k1, k2⟩ := hf _ _ h1
      obtain ⟨q1, q2, q3⟩ := toArr_ok hf n _ _ h2
      have hl : cs.length = z + n * z := by
        have := congrArg List.length (List.take_append_drop z cs)
        rw [List.length_append, k1, q1] at this
        exact this.symm
      refine ⟨by rw [hl, Nat.add_mul]; omega, by simp [q2], fun vs hv => ?_⟩
      rw [List.flatMap_cons]
      rw [← List.take_append_drop z cs] at hv
      obtain ⟨r1, r2⟩ := hv.split
      have := (k2 _ r1).append (q3 _ r2)
      rwa [List.take_append_drop] at this
    · cases h
theorem range_nth {α β : Type} (f : α → List β) (d : α) (l : List α) : (List.range l.length).flatMap (fun i => f (nth d l i)) = l.flatMap f := by
  have h : (List.range l.length).map (fun i => nth d l i) = l := by
    apply List.ext_getElem?
    intro i
    simp only [List.getElem?_map]
    by_cases hi : i < l.length
    · rw [List.getElem?_range hi]
      simp [nth, List.getD_eq_getElem?_getD, List.getElem?_eq_getElem hi]
    · rw [List.getElem?_eq_none (by simpa using hi), List.getElem?_eq_none (by simpa using hi)]; rfl
  conv => rhs; rw [← h]
  rw [List.flatMap_map]
theorem toC_ok {g : G} : ∀ (t : Ty) (cs : List A) (x : t.T), toC t cs = some x → cs.length = t.size ∧ ∀ vs, Vs g cs vs → Vs g (encA t x) vs
  | .int k, cs, x, h => by
    unfold toC at h
    split at h
    · split at h
      · rename_i hk; subst hk; cases h; exact ⟨rfl, fun vs hv => hv⟩
      · cases h
    · cases h
  | .bool, cs, x, h => by
    unfold toC at h
    split at h
    · cases h; exact ⟨rfl, fun vs hv => hv⟩
    · cases h
  | .unit, cs, x, h => by
    unfold toC at h
    split at h
    · cases h; exact ⟨rfl, fun vs hv => hv⟩
    · cases h
  | .pair a b, cs, x, h => by
    unfold toC at h
    split at h
    · rename_i y z h1 h2
      cases h
      obtain ⟨k1, k2⟩ := toC_ok a _ _ h1
      obtain ⟨q1, q2⟩ := toC_ok b _ _ h2
      refine ⟨?_, fun vs hv => ?_⟩
      · have := congrArg List.length (List.take_append_drop a.size cs)
        rw [List.length_append, k1, q1] at this
        exact this.symm
      · rw [← List.take_append_drop a.size cs] at hv
        obtain ⟨r1, r2⟩ := hv.split
        have := (k2 _ r1).append (q2 _ r2)
        rwa [List.take_append_drop] at this
    · cases h
  | .arr n t, cs, x, h => by
    obtain ⟨h1, h2, h3⟩ := toArr_ok (g := g) (fun cs x h => toC_ok t cs x h) n cs x h
    refine ⟨h1, fun vs hv => ?_⟩
    have := h3 vs hv
    have e : ∀ (m : Nat) (y : List t.T), y.length = m → encA (.arr m t) y = y.flatMap (encA t) := fun m y hy => by
      subst hy
      exact range_nth (encA t) t.dflt y
    rw [e n x h2]; exact this
  | .slc t, cs, x, h => by
    unfold toC at h
    split at h
    · rename_i t' f l
      obtain ⟨e, rfl⟩ := castT_eq h
      cases e
      exact ⟨rfl, fun vs hv => one_w (fun v hv => by cases hv with | tl _ _ _ _ h => exact .tl _ _ _ _ h.unfull) hv⟩
    · cases h; exact ⟨rfl, fun vs hv => one_w (fun v hv => by rw [hv.v_eq]; exact .tl t false [] _ (.sl0 _ _ _)) hv⟩
    · cases h; exact ⟨rfl, fun vs hv => one_w (fun v hv => by cases hv; exact .tl t false [] _ (.sl0 _ _ _)) hv⟩
    · cases h
  | .ptr r, cs, x, h => by
    unfold toC at h
    split at h
    · cases h; exact ⟨rfl, fun vs hv => one_w (fun v hv => .op r none v (fun _ => hv.v_eq) (fun j h => by cases h)) hv⟩
    · obtain ⟨h1, h2⟩ := cond_some h
      obtain rfl := beq_eq h1
      cases h2; exact ⟨rfl, fun vs hv => one_w (fun v hv => .op r _ v (fun h => by cases h) (fun j h => by cases h; exact hv)) hv⟩
    · obtain ⟨h1, h2⟩ := cond_some h
      obtain rfl := beq_eq h1
      cases h2; exact ⟨rfl, fun vs hv => hv⟩
    · cases h
  | .nptr r, cs, x, h => by
    unfold toC at h
    split at h
    · obtain ⟨h1, h2⟩ := cond_some h
      obtain rfl := beq_eq h1
      cases h2; exact ⟨rfl, fun vs hv => hv⟩
    · cases h
  | .rsl r z, cs, x, h => by
    unfold toC at h
    split at h
    · cases h; exact ⟨rfl, fun vs hv => one_w (fun v hv => .os r z none v (fun _ => by rw [hv.v_eq]; exact .e0 _) (fun j h => by cases h)) hv⟩
    · cases h; exact ⟨rfl, fun vs hv => one_w (fun v hv => .os r z none v (fun _ => hv) (fun j h => by cases h)) hv⟩
    · obtain ⟨h1, h2⟩ := cond_some h
      simp only [Bool.and_eq_true] at h1
      obtain rfl := beq_eq h1.1
      obtain rfl := beq_eq h1.2
      cases h2; exact ⟨rfl, fun vs hv => one_w (fun v hv => .os r z _ v (fun h => by cases h) (fun j h => by cases h; exact hv)) hv⟩
    · obtain ⟨h1, h2⟩ := cond_some h
      simp only [Bool.and_eq_true] at h1
      obtain rfl := beq_eq h1.1
      obtain rfl := beq_eq h1.2
      cases h2; exact ⟨rfl, fun vs hv => hv⟩
    · cases h
  | .wrg r z, cs, x, h => by
    unfold toC at h
    split at h
    · obtain ⟨h1, h2⟩ := cond_some h
      simp only [Bool.and_eq_true] at h1
      obtain rfl := beq_eq h1.1
      obtain rfl := beq_eq h1.2
      cases h2; exact ⟨rfl, fun vs hv => hv⟩
    · cases h
  | .mp r, cs, x, h => by
    unfold toC at h
    split at h
    · cases h; exact ⟨rfl, fun vs hv => one_w (fun v hv => .om r none v (fun _ => hv.v_eq) (fun j h => by cases h)) hv⟩
    · obtain ⟨h1, h2⟩ := cond_some h
      obtain rfl := beq_eq h1
      cases h2; exact ⟨rfl, fun vs hv => one_w (fun v hv => .om r _ v (fun h => by cases h) (fun j h => by cases h; exact hv)) hv⟩
    · obtain ⟨h1, h2⟩ := cond_some h
      obtain rfl := beq_eq h1
      cases h2; exact ⟨rfl, fun vs hv => hv⟩
    · cases h

/-! ### memory -/
def RK.T : RK → Type
  | .box t => List t.T
  | .row t => List (Option (List t.T))
  | .map _ tk _ tv => List (List (tk.T × tv.T))
/-- A typed thing, as a value. -/
def packA (a : Bool) (t : Ty) (x : t.T) : A := bif a then .agg (encA t x) else match encA t x with
  | [c] => c
  | _ => .junk
structure Rg where
  r : Nat
  k : RK
  c : k.T
/-- What lies in a machine's own memory. -/
inductive MOb where
  | cells (cs : List A)
  | one (t : Ty) (x : t.T)
  | row (t : Ty) (l : List t.T)
  | oth (x : Oth)
def MOb.low : MOb → Ob
  | .cells cs => .cells cs
  | .one t x => .cells (encA t x)
  | .row t l => .cells (l.flatMap (encA t))
  | .oth x => .oth x
structure H where
  t : Tr MOb
  nid : Nat
  rg : List Rg
  lk : List Nat
def rfind : List Rg → Nat → Option Rg
  | [], _ => none
  | x :: l, r => bif Nat.beq x.r r then some x else rfind l r
def gtA {α : Type} (l : List α) (j : Nat) : Option α := l[j]?
def regOb : (k : RK) → k.T → Nat → Option Ob
  | .box t, c, j => match gtA (α := t.T) c j with
    | some x => some (.cells (encA t x))
    | none => none
  | .row t, c, j => match gtA (α := Option (List t.T)) c j with
    | some (some l) => some (.cells (l.flatMap (encA t)))
    | _ => none
  | .map ka tk va tv, c, j => match gtA (α := List (tk.T × tv.T)) c j with
    | some es => some (.oth (.map (es.map fun e => (packA ka tk e.1, packA va tv e.2))))
    | none => none
def regLen : (k : RK) → k.T → Nat
  | .box t, c => List.length (α := t.T) c
  | .row t, c => List.length (α := Option (List t.T)) c
  | .map _ tk _ tv, c => List.length (α := List (tk.T × tv.T)) c
def regAt (rg : List Rg) (i : Nat) : Option Ob := match rfind rg (rOf i) with
  | some x => regOb x.k x.c (jOf i)
  | none => none
def regFr (rg : List Rg) (i : Nat) : Prop := match rfind rg (rOf i) with
  | some x => regLen x.k x.c ≤ jOf i
  | none => False
def tOb (t : Tr MOb) (i : Nat) : Option Ob := match t.get i with
  | some x => some x.low
  | none => none
def hp (h : H) : Hp := ⟨fun i => if i < lim then tOb h.t i else regAt h.rg i, fun i => if i < lim then h.nid ≤ i else regFr h.rg i⟩
end
end Go.Bm
