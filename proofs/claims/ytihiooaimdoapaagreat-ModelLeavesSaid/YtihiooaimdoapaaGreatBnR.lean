/- Tables of contracts, one by one. -/
import Derived.Test.YtihiooaimdoapaaGreatBnM
set_option linter.unusedVariables false
set_option linter.unusedSimpArgs false
namespace Go.Bm
noncomputable section
open Go.RowKit
/-- An element is another one, by what it was. -/
def updF {α : Type} (d : α) (l : List α) (i : Nat) (f : α → α) : List α := upd l i (f (nth d l i))
def ctN : CtT := fun _ => none
def ctC (f : Nat) (sg : Sig) (F : Plain sg) (l : CtT) : CtT := fun g => bif Nat.beq g f then some ⟨sg, F⟩ else l g
theorem ctN_ok {P : Program} : CtsOk P ctN := fun f e h => by cases h
theorem ctC_ok {P : Program} {f : Nat} {sg : Sig} {F : Plain sg} {l : CtT} (h : CtOk P f sg F) (k : CtsOk P l) : CtsOk P (ctC f sg F l) := fun g e hg => by
  have hg : (bif Nat.beq g f then some (⟨sg, F⟩ : CtE) else l g) = some e := hg
  cases hb : Nat.beq g f with
  | true => rw [hb] at hg; cases hg; rw [beq_eq hb]; exact h
  | false => rw [hb] at hg; exact k g e hg
/-- A table of functions, one by one. -/
inductive FtL (P : Program) : Nat → Nat → Tr (Func × XCode) → Prop
  | nil (a b : Nat) : FtL P a b .nil
  | no {a b : Nat} {l r : Tr (Func × XCode)} (h1 : FtL P (2 * a) (a + b) l) (h2 : FtL P (2 * a) (2 * a + b) r) : FtL P a b (.node l none r)
  | yes {a b : Nat} {fn : Func} {x : XCode} {l r : Tr (Func × XCode)} (h : FxOk P b fn x) (h1 : FtL P (2 * a) (a + b) l) (h2 : FtL P (2 * a) (2 * a + b) r) : FtL P a b (.node l (some (fn, x)) r)
theorem ftL_ok {P : Program} {T : Tr (Func × XCode)} {a b : Nat} (h : FtL P a b T) : ∀ t fn x, T.get t = some (fn, x) → FxOk P (a * t + b) fn x := by
  have key : ∀ (a b : Nat) (l r : Tr (Func × XCode)), (∀ t fn x, l.get t = some (fn, x) → FxOk P (2 * a * t + (a + b)) fn x) → (∀ t fn x, r.get t = some (fn, x) → FxOk P (2 * a * t + (2 * a + b)) fn x) →
      ∀ n fn x v, (Tr.node l v r).get (n + 1) = some (fn, x) → FxOk P (a * (n + 1) + b) fn x := by
    intro a b l r hl hr n fn x v ht
    rw [Tr.get_succ] at ht
    cases hn : Nat.beq (n % 2) 0 with
    | true =>
      rw [hn] at ht
      have h0 := Nat.eq_of_beq_eq_true hn
      have := hl _ fn x ht
      have e1 : a * (n + 1) + b = 2 * a * (n / 2) + (a + b) := by
        have : n = 2 * (n / 2) := by omega
        generalize n / 2 = k at this
        subst this
        rw [Nat.mul_add, Nat.mul_one, Nat.mul_comm 2 a, Nat.mul_assoc]; omega
      rw [e1]; exact this
    | false =>
      rw [hn] at ht
      have h0 : n % 2 ≠ 0 := fun h => by rw [h] at hn; cases hn
      have := hr _ fn x ht
      have e1 : a * (n + 1) + b = 2 * a * (n / 2) + (2 * a + b) := by
        have : n = 2 * (n / 2) + 1 := by omega
        generalize n / 2 = k at this
        subst this
        rw [show 2 * k + 1 + 1 = 2 * (k + 1) by omega, ← Nat.mul_assoc, Nat.mul_comm a 2, Nat.mul_add, Nat.mul_one]; omega
      rw [e1]; exact this
  induction h with
  | nil => intro t fn x h; cases h
  | no h1 h2 ih1 ih2 =>
    intro t fn x ht
    cases t with
    | zero => cases ht
    | succ n => exact key _ _ _ _ ih1 ih2 n fn x _ ht
  | yes h h1 h2 ih1 ih2 =>
    intro t fn x ht
    cases t with
    | zero => cases ht; rw [Nat.mul_zero, Nat.zero_add]; exact h
    | succ n => exact key _ _ _ _ ih1 ih2 n fn x _ ht
theorem ftl_ok {P : Program} {T : Tr (Func × XCode)} (h : FtL P 1 0 T) : FTOk P (fun f => T.get f) := fun f fn x hf => by
  have := ftL_ok h f fn x hf
  rwa [Nat.one_mul, Nat.add_zero] at this
/-- A printed function is what the run comes to. -/
theorem ct_of {P : Program} {E : Env} {fns : FT} {hm : List (Nat × Nat)} {cts : CtT} (hE : EnvOk P E) (hm0 : P.follows .mixedOrders = true) (hF : FTOk P fns) (hc : CtsOk P cts) (k : Nat) {f : FuncId} {sg : Sig} {F : Plain sg} (e : ∀ x c d, F x c d = runF (cxF E fns hm cts k) f sg x c d) : CtOk P f sg F :=
  (runF_ok (cxF_ok hE hm0 hF hc k) f sg).of e
/-- A function that asks whether its one slice is nil. -/
theorem _root_.Go.Bm.V.tlNil {g : G} {t : Ty} {f : Bool} {l : List t.T} {v : Value} (hv : V g (.tl t f l) v) : (∃ a n c, v = .slice (some a) n c ∧ VD g.mem (.sl t.size f (l.map (encD t))) v) ∨ (l = [] ∧ v = .slice none 0 0) := by
  cases hv with
  | tl _ _ _ _ hd =>
    generalize hes : List.map (encD t) l = es at hd
    have hesl : es.length = l.length := by rw [← hes, List.length_map]
    have hd' := hd
    cases hd with
    | sl0 sz full A =>
      cases A with
      | none => exact .inr ⟨List.eq_nil_of_length_eq_zero hesl.symm, rfl⟩
      | some a => exact .inl ⟨_, _, _, rfl, hd'⟩
    | sl _ _ _ a cap vs hz hc hf hn hx hl hm hvv =>
      cases a with
      | some p => exact .inl ⟨_, _, _, rfl, hd'⟩
      | none =>
        have h0 : cap = 0 := hn rfl
        have h1 : es.length = 0 := by omega
        refine .inr ⟨List.eq_nil_of_length_eq_zero (by omega), ?_⟩
        rw [h0, h1]; rfl
theorem PC.less {P : Program} {f : FuncId} {as : List A} {S S1 S2 : Hp} {r : A} (h : PC P f as S S1 r) (hs : ∀ o x, S2.ob o = some x → S1.ob o = some x) (hf : ∀ o, S2.fr o → S1.fr o) : PC P f as S S2 r := fun g w vs hI hl hv => by
  refine (h g w vs hI hl hv).mono ?_
  rintro e w' ⟨v, g', rfl, q1, q2, q3⟩
  exact ⟨v, g', rfl, q1, q2.less hs hf, q3.trans (.less hs hf)⟩
theorem hp_lt {h : H} {i : Nat} (hl : i < lim) : (hp h).ob i = tOb h.t i ∧ ((hp h).fr i ↔ h.nid ≤ i) := ⟨if_pos hl, by show (if i < lim then _ else _) ↔ _; rw [if_pos hl]⟩
theorem hp_less {t : Tr MOb} {n m : Nat} {l : List Rg} {k k' : List Nat} (h : n ≤ m) : (∀ o x, (hp ⟨.nil, m, l, k'⟩).ob o = some x → (hp ⟨t, n, l, k⟩).ob o = some x) ∧ ∀ o, (hp ⟨.nil, m, l, k'⟩).fr o → (hp ⟨t, n, l, k⟩).fr o := by
  refine ⟨fun o x e => ?_, fun o e => ?_⟩
  · by_cases ho : o < lim
    · rw [(hp_lt ho).1] at e
      have e0 : tOb .nil o = none := by unfold tOb; rw [Tr.get_nil]
      rw [show (⟨.nil, m, l, k'⟩ : H).t = .nil from rfl, e0] at e
      cases e
    · rw [(hp_ge ho).1] at e ⊢; exact e
  · by_cases ho : o < lim
    · rw [(hp_lt ho).2] at e ⊢; exact Nat.le_trans h e
    · rw [(hp_ge ho).2] at e ⊢; exact e
/-- Slices that are known not to be nil. -/
def nnA : (l : List (Bool × Ty)) → Tup l → List A
  | [], _ => []
  | (b, t) :: l, x => (match t, x with
    | .slc t, x => (.nn t x.1 : A)
    | t, x => packA b t x.1) :: nnA l x.2
def runNn (cx : Cx) (f : FuncId) (sg : Sig) : Plain sg := fun x c d => runA cx f sg (nnA sg.ps x) c d
theorem ct_nil {P : Program} {cx : Cx} (hx : CxOk P cx) {f : FuncId} {t : Ty} {rs : List (Bool × Ty)} {F : List t.T → Option (Tup rs × Unit)}
    (hn : runA cx f ⟨[(false, .slc t)], rs, [], []⟩ [.v (.slice none 0 0)] () () = F []) (h1 : ∀ l, runA cx f ⟨[(false, .slc t)], rs, [], []⟩ [.nn t l] () () = F l) : CtOk P f ⟨[(false, .slc t)], rs, [], []⟩ (fun x _ _ => F x.1) := by
  refine ⟨fun x c d y h => (runA_ok hx f _ _ c d y.1 y.2 ((h1 x.1).trans h)).1, fun x c d y d' h => ?_⟩
  obtain ⟨l, u⟩ := x
  obtain ⟨_, t1, n1, k1, p1⟩ := runA_ok hx f _ _ c d y d' ((h1 l).trans h)
  obtain ⟨a1, a2⟩ := hp_less (t := t1) (n := n1) (m := n1) (l := rgsL [] d' ++ rgsL [] c) (k := k1) (k' := k1) (Nat.le_refl _)
  have full : ∀ m, n1 ≤ m → PC P f [.nn t l] (hp (h0 [] [] c d)) (hp ⟨.nil, m, rgsL [] d' ++ rgsL [] c, k1⟩) (retA rs y) := fun m hm => p1.less (hp_less hm).1 (hp_less hm).2
  cases l with
  | cons a l =>
    refine ⟨.nil, n1, k1, fun g w vs hI hl hv => ?_⟩
    match vs, hl with
    | [v], _ =>
      rcases (hv 0 _ _ rfl rfl : V g (.tl t false (a :: l)) v).tlNil with ⟨b, n, c2, rfl, hd⟩ | ⟨e, _⟩
      · exact full n1 (Nat.le_refl _) g w _ hI rfl fun i p v e1 e2 => by
          cases i with
          | zero => cases e1; cases e2; exact .nn _ _ _ _ _ hd
          | succ i => cases e1
      · cases e
  | nil =>
    obtain ⟨_, t0, n0, k0, p0⟩ := runA_ok hx f _ _ c d y d' (hn.trans h)
    refine ⟨.nil, n1 + n0, k1, fun g w vs hI hl hv => ?_⟩
    match vs, hl with
    | [v], _ =>
      rcases (hv 0 _ _ rfl rfl : V g (.tl t false []) v).tlNil with ⟨b, n, c2, rfl, hd⟩ | ⟨_, rfl⟩
      · exact full _ (Nat.le_add_right _ _) g w _ hI rfl fun i p v e1 e2 => by
          cases i with
          | zero => cases e1; cases e2; exact .nn _ _ _ _ _ hd
          | succ i => cases e1
      · exact (p0.less (S2 := hp ⟨.nil, n1 + n0, rgsL [] d' ++ rgsL [] c, k1⟩) (hp_less (Nat.le_add_left _ _)).1 (hp_less (Nat.le_add_left _ _)).2) g w _ hI rfl fun i p v e1 e2 => by
          cases i with
          | zero => cases e1; cases e2; exact .v _
          | succ i => cases e1
end
end Go.Bm
