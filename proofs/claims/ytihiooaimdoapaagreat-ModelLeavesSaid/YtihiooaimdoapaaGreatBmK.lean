/- The machine's steps: which part of memory they look at, or change. -/
import Derived.Test.YtihiooaimdoapaaGreatBmJ
set_option linter.unusedVariables false
set_option linter.unusedSimpArgs false
namespace Go.Bm
noncomputable section
open Go.RowKit

/-- A tree with something put in, told to who asks, whole. -/
def Tr.setK {α β : Type} (f : Nat) : Tr α → Nat → Option α → (Tr α → β) → β :=
  Nat.rec (motive := fun _ => Tr α → Nat → Option α → (Tr α → β) → β) (fun t _ _ k => k t)
    (fun _ rec t n x k => Tr.rec (motive := fun _ => β)
      (Nat.rec (motive := fun _ => β) (k (.node .nil x .nil)) (fun n _ => Nat.rec (motive := fun _ => β) (rec .nil (n / 2) x (fun l => k (.node l none .nil))) (fun _ _ => rec .nil (n / 2) x (fun r => k (.node .nil none r))) (n % 2)) n)
      (fun l v r _ _ => Nat.rec (motive := fun _ => β) (k (.node l x r)) (fun n _ => Nat.rec (motive := fun _ => β) (rec l (n / 2) x (fun l => k (.node l v r))) (fun _ _ => rec r (n / 2) x (fun r => k (.node l v r))) (n % 2)) n) t) f
theorem Tr.setK_get {α β : Type} : ∀ (f : Nat) (t : Tr α) (n : Nat) (x : Option α) (k : Tr α → β), n + 1 < 2 ^ f → ∃ t' : Tr α, Tr.setK f t n x k = k t' ∧ ∀ m, t'.get m = if m = n then x else t.get m
  | 0, t, n, x, k, h => by simp at h
  | f + 1, .nil, 0, x, k, h => ⟨.node .nil x .nil, rfl, fun m => by cases m <;> simp [Tr.get_zero, Tr.get_succ, Tr.get_nil]⟩
  | f + 1, .node l v r, 0, x, k, h => ⟨.node l x r, rfl, fun m => by cases m <;> simp [Tr.get_zero, Tr.get_succ]⟩
  | f + 1, .nil, n + 1, x, k, h => by
    have hp : 2 ^ (f + 1) = 2 * 2 ^ f := by rw [Nat.pow_succ]; omega
    have e : Tr.setK (f + 1) .nil (n + 1) x k = Nat.rec (motive := fun _ => β) (Tr.setK f .nil (n / 2) x (fun l => k (.node l none .nil))) (fun _ _ => Tr.setK f .nil (n / 2) x (fun r => k (.node .nil none r))) (n % 2) := rfl
    rw [e]
    cases hm : n % 2 with
    | zero =>
      obtain ⟨t', h1, h2⟩ := Tr.setK_get f .nil (n / 2) x (fun l => k (.node l none .nil)) (by omega)
      refine ⟨_, h1, fun m => ?_⟩
      cases m with
      | zero => simp [Tr.get_zero, Tr.get_nil]
      | succ m =>
        rw [Tr.get_succ, h2, Tr.get_nil]
        by_cases hm2 : m % 2 = 0
        · rw [hm2, show Nat.beq 0 0 = true from rfl, cond_true]
          by_cases c : m = n
          · subst c; simp
          · rw [if_neg (by omega), if_neg (by omega)]; rfl
        · rw [show Nat.beq (m % 2) 0 = false from by cases hx : m % 2 with | zero => exact absurd hx hm2 | succ _ => rfl, cond_false, if_neg (by omega)]; rfl
    | succ j =>
      obtain ⟨t', h1, h2⟩ := Tr.setK_get f .nil (n / 2) x (fun r => k (.node .nil none r)) (by omega)
      refine ⟨_, h1, fun m => ?_⟩
      cases m with
      | zero => simp [Tr.get_zero, Tr.get_nil]
      | succ m =>
        rw [Tr.get_succ, h2, Tr.get_nil]
        by_cases hm2 : m % 2 = 0
        · rw [hm2, show Nat.beq 0 0 = true from rfl, cond_true, if_neg (by omega)]; rfl
        · rw [show Nat.beq (m % 2) 0 = false from by cases hx : m % 2 with | zero => exact absurd hx hm2 | succ _ => rfl, cond_false]
          by_cases c : m = n
          · subst c; simp
          · rw [if_neg (by omega), if_neg (by omega)]; rfl
  | f + 1, .node l v r, n + 1, x, k, h => by
    have hp : 2 ^ (f + 1) = 2 * 2 ^ f := by rw [Nat.pow_succ]; omega
    have e : Tr.setK (f + 1) (.node l v r) (n + 1) x k = Nat.rec (motive := fun _ => β) (Tr.setK f l (n / 2) x (fun l => k (.node l v r))) (fun _ _ => Tr.setK f r (n / 2) x (fun r => k (.node l v r))) (n % 2) := rfl
    rw [e]
    cases hm : n % 2 with
    | zero =>
      obtain ⟨t', h1, h2⟩ := Tr.setK_get f l (n / 2) x (fun l => k (.node l v r)) (by omega)
      refine ⟨_, h1, fun m => ?_⟩
      cases m with
      | zero => simp [Tr.get_zero]
      | succ m =>
        rw [Tr.get_succ, h2, Tr.get_succ]
        by_cases hm2 : m % 2 = 0
        · rw [hm2, show Nat.beq 0 0 = true from rfl, cond_true]
          by_cases c : m = n
          · subst c; simp
          · rw [if_neg (by omega), if_neg (by omega)]; rfl
        · rw [show Nat.beq (m % 2) 0 = false from by cases hx : m % 2 with | zero => exact absurd hx hm2 | succ _ => rfl, cond_false, if_neg (by omega)]; rfl
    | succ j =>
      obtain ⟨t', h1, h2⟩ := Tr.setK_get f r (n / 2) x (fun r => k (.node l v r)) (by omega)
      refine ⟨_, h1, fun m => ?_⟩
      cases m with
      | zero => simp [Tr.get_zero]
      | succ m =>
        rw [Tr.get_succ, h2, Tr.get_succ]
        by_cases hm2 : m % 2 = 0
        · rw [hm2, show Nat.beq 0 0 = true from rfl, cond_true, if_neg (by omega)]; rfl
        · rw [show Nat.beq (m % 2) 0 = false from by cases hx : m % 2 with | zero => exact absurd hx hm2 | succ _ => rfl, cond_false]
          by_cases c : m = n
          · subst c; simp
          · rw [if_neg (by omega), if_neg (by omega)]; rfl
/-- Something put into a tree. -/
def setT {α β : Type} (t : Tr α) (q : Nat) (x : Option α) (k : Tr α → Option β) : Option β := bif Nat.blt q 16777215 then Tr.setK 24 t q x k else none
theorem setT_inv {α β : Type} {t : Tr α} {q : Nat} {x : Option α} {k : Tr α → Option β} {r : β} (h : setT t q x k = some r) : q < 16777215 ∧ ∃ t' : Tr α, k t' = some r ∧ t'.get = fun m => if m = q then x else t.get m := by
  obtain ⟨h1, h2⟩ := cond_some h
  have hq : q < 16777215 := by simpa using h1
  obtain ⟨t', e1, e2⟩ := Tr.setK_get 24 t q x k (by omega)
  exact ⟨hq, t', by rw [← e1]; exact h2, funext e2⟩

/-! ### what a step looks at -/
structure Fp where
  all : Bool
  rs : List Nat
  w : Bool
  ws : List Nat
def Fp.no : Fp := ⟨false, [], false, []⟩
def Fp.rd (l : List Nat) : Fp := ⟨false, l, false, []⟩
def Fp.wr (l : List Nat) : Fp := ⟨false, l, true, l⟩
/-- Some is looked at, and one thing is changed. -/
def Fp.pt (x : Nat) (l : List Nat) : Fp := ⟨false, x :: l, true, [x]⟩
/-- A name's resource: itself, or its region. -/
def rgn (r : Nat) : Nat := 2 * r + 1
def rlo (o : Nat) : Nat := 2 * o
def res (i : Nat) : Nat := bif Nat.blt i 16777216 then rlo i else rgn (rOf i)
def touch (T : Fp) (i : Nat) : Bool := T.all || T.rs.any (Nat.beq (res i))
/-- It may be changed. -/
def wt (T : Fp) (i : Nat) : Bool := T.w && T.ws.any (Nat.beq (res i))
theorem res_loc {o : Nat} (h : o < 16777216) : res o = rlo o := by
  unfold res
  rw [show Nat.blt o 16777216 = true by simpa using h]; rfl
theorem res_reg {r j : Nat} (h : r < 64) : res (rid r j) = rgn r := by
  have h1 := rid_ge r j
  have h2 := rOf_rid (j := j) h
  generalize rid r j = i at h1 h2
  unfold res
  cases hx : Nat.blt i 16777216 with
  | false => rw [cond_false, h2]
  | true => have : i < 16777216 := by simpa using hx
            unfold lim at h1; omega
def Agree (T : Fp) (S S2 : Hp) : Prop := ∀ i, touch T i = true → S2.ob i = S.ob i ∧ (S2.fr i ↔ S.fr i)
/-- What the step changed, on top of something else. -/
def ovr (T : Fp) (S' S2 : Hp) : Hp := ⟨fun i => if touch T i = true then S'.ob i else S2.ob i, fun i => if touch T i = true then S'.fr i else S2.fr i⟩
theorem Hp.ext' {S S' : Hp} (h1 : ∀ i, S.ob i = S'.ob i) (h2 : ∀ i, S.fr i ↔ S'.fr i) : S = S' := by
  cases S; cases S'
  congr
  · exact funext h1
  · exact funext fun i => propext (h2 i)
theorem ovr_self {T : Fp} {S S2 : Hp} (h : Agree T S S2) : ovr T S S2 = S2 := Hp.ext' (fun i => by
  show (if touch T i = true then S.ob i else S2.ob i) = S2.ob i
  split
  · exact (h i (by assumption)).1.symm
  · rfl) (fun i => by
  show (if touch T i = true then S.fr i else S2.fr i) ↔ S2.fr i
  split
  · exact (h i (by assumption)).2.symm
  · exact Iff.rfl)
theorem wt_wr {l : List Nat} {i : Nat} (h : wt (.wr l) i = false) : touch (.wr l) i = false := by simpa [wt, touch, Fp.wr] using h
theorem wt_w {T : Fp} {i : Nat} (h : T.w = false) : wt T i = false := by unfold wt; rw [h]; rfl
structure Step (P : Program) (o : Oper) (ρ : Operand → A) (h h' : H) (T : Fp) (pv : A) : Prop where
  out : ∀ i, touch T i = false → (hp h').ob i = (hp h).ob i ∧ ((hp h').fr i ↔ (hp h).fr i)
  rd : ∀ i, wt T i = false → (hp h').ob i = (hp h).ob i ∧ ((hp h').fr i ↔ (hp h).fr i)
  ok : ∀ S2, Agree T (hp h) S2 → OpR P o ρ S2 (ovr T (hp h') S2) pv
theorem Step.read {P : Program} {o : Oper} {ρ : Operand → A} {h : H} {pv : A} (T : Fp) (k : ∀ S2, Agree T (hp h) S2 → OpS P o ρ S2 S2 pv) (hd : ∀ c, o.op ≠ .defer c) : Step P o ρ h h T pv where
  out := fun _ _ => ⟨rfl, Iff.rfl⟩
  rd := fun _ _ => ⟨rfl, Iff.rfl⟩
  ok := fun S2 hS => by rw [ovr_self hS]; exact (k S2 hS).opR hd
theorem Step.pure {P : Program} {o : Oper} {ρ : Operand → A} {h : H} {pv : A} (k : ∀ S2, OpS P o ρ S2 S2 pv) (hd : ∀ c, o.op ≠ .defer c) : Step P o ρ h h .no pv := .read .no (fun S2 _ => k S2) hd
/-- A rule for what is known there and then. -/
theorem OpS.at' {P : Program} {o : Oper} {ρ : Operand → A} {S S' : Hp} {pv : A} (h : ∀ (g : G) (w : World) (a : Act), Inv g S w → (∀ x ∈ o.op.operands, V g (ρ x) (a.eval x)) → OpS P o ρ S S' pv) : OpS P o ρ S S' pv :=
  fun g w a next Q hI hv K => h g w a hI hv g w a next Q hI hv K
theorem touch_loc {o : Nat} {l : List Nat} {w : Bool} {s : List Nat} (h : o < 16777216) (hm : rlo o ∈ l) : touch ⟨false, l, w, s⟩ o = true := by
  unfold touch
  rw [res_loc h, Bool.false_or, List.any_eq_true]
  exact ⟨_, hm, by simp⟩
theorem touch_reg {r j : Nat} {l : List Nat} {w : Bool} {s : List Nat} (h : r < 64) (hm : rgn r ∈ l) : touch ⟨false, l, w, s⟩ (rid r j) = true := by
  unfold touch
  rw [res_reg h, Bool.false_or, List.any_eq_true]
  exact ⟨_, hm, by simp⟩
end
end Go.Bm
