/- The machine's memory, changed. -/
import Derived.Test.YtihiooaimdoapaaGreatBmK
set_option linter.unusedVariables false
set_option linter.unusedSimpArgs false
namespace Go.Bm
noncomputable section
open Go.RowKit

inductive Up where
  | set (i : Nat) (x : Ob)
  | new (i : Nat) (x : Ob)
  | del (i : Nat)
def Up.id : Up → Nat
  | .set i _ => i
  | .new i _ => i
  | .del i => i
def Up.app : Up → Hp → Hp
  | .set i x, S => S.set i x
  | .new i x, S => S.new i x
  | .del i, S => S.del i
def app : List Up → Hp → Hp
  | [], S => S
  | u :: us, S => app us (u.app S)
theorem Up.out (u : Up) (S : Hp) (i : Nat) (h : i ≠ u.id) : (u.app S).ob i = S.ob i ∧ ((u.app S).fr i ↔ S.fr i) := by
  cases u with
  | set j x => exact ⟨if_neg h, Iff.rfl⟩
  | new j x => exact ⟨if_neg h, ⟨fun k => k.1, fun k => ⟨k, h⟩⟩⟩
  | del j => exact ⟨if_neg h, Iff.rfl⟩
theorem Up.congr (u : Up) (S S2 : Hp) (i : Nat) (h1 : S2.ob i = S.ob i) (h2 : S2.fr i ↔ S.fr i) : (u.app S2).ob i = (u.app S).ob i ∧ ((u.app S2).fr i ↔ (u.app S).fr i) := by
  cases u with
  | set j x => exact ⟨by show (if i = j then _ else _) = (if i = j then _ else _); rw [h1], h2⟩
  | new j x => exact ⟨by show (if i = j then _ else _) = (if i = j then _ else _); rw [h1], by show (S2.fr i ∧ i ≠ j) ↔ (S.fr i ∧ i ≠ j); rw [h2]⟩
  | del j => exact ⟨by show (if i = j then _ else _) = (if i = j then _ else _); rw [h1], h2⟩
theorem app_out : ∀ (us : List Up) (S : Hp) (i : Nat), (∀ u ∈ us, i ≠ u.id) → (app us S).ob i = S.ob i ∧ ((app us S).fr i ↔ S.fr i)
  | [], _, _, _ => ⟨rfl, Iff.rfl⟩
  | u :: us, S, i, h => by
    have h1 := app_out us (u.app S) i (fun v hv => h v (List.mem_cons_of_mem _ hv))
    have h2 := u.out S i (h u (List.mem_cons_self ..))
    exact ⟨h1.1.trans h2.1, h1.2.trans h2.2⟩
theorem app_congr : ∀ (us : List Up) (S S2 : Hp) (i : Nat), S2.ob i = S.ob i → (S2.fr i ↔ S.fr i) → (app us S2).ob i = (app us S).ob i ∧ ((app us S2).fr i ↔ (app us S).fr i)
  | [], _, _, _, h1, h2 => ⟨h1, h2⟩
  | u :: us, S, S2, i, h1, h2 => let ⟨k1, k2⟩ := u.congr S S2 i h1 h2; app_congr us (u.app S) (u.app S2) i k1 k2
theorem ovr_app {T : Fp} {us : List Up} {S S2 : Hp} (hT : ∀ u ∈ us, touch T u.id = true) (h : Agree T S S2) : ovr T (app us S) S2 = app us S2 := by
  refine Hp.ext' (fun i => ?_) (fun i => ?_)
  · show (if touch T i = true then (app us S).ob i else S2.ob i) = _
    split
    · rename_i hi; exact ((app_congr us S S2 i (h i hi).1 (h i hi).2).1).symm
    · rename_i hi; exact ((app_out us S2 i (fun u hu e => hi (e ▸ hT u hu))).1).symm
  · show (if touch T i = true then (app us S).fr i else S2.fr i) ↔ _
    split
    · rename_i hi; exact ((app_congr us S S2 i (h i hi).1 (h i hi).2).2).symm
    · rename_i hi; exact ((app_out us S2 i (fun u hu e => hi (e ▸ hT u hu))).2).symm
theorem Step.of {P : Program} {o : Oper} {ρ : Operand → A} {h h' : H} {T : Fp} {pv : A} (us : List Up) (hh : hp h' = app us (hp h)) (hw : T.w = true) (hT : ∀ u ∈ us, touch T u.id = true) (k : ∀ S2, Agree T (hp h) S2 → OpS P o ρ S2 (app us S2) pv) (hd : ∀ c, o.op ≠ .defer c) (hs : T.ws = T.rs := by rfl) (ha : T.all = false := by rfl) : Step P o ρ h h' T pv where
  out := fun i hi => by rw [hh]; exact app_out us _ i (fun u hu e => by rw [e, hT u hu] at hi; cases hi)
  rd := fun i hi => by
    have hi : (T.w && T.ws.any (Nat.beq (res i))) = false := hi
    rw [hw, hs, Bool.true_and] at hi
    rw [hh]
    exact app_out us _ i (fun u hu e => by
      have := hT u hu
      unfold touch at this
      rw [← e, ha, hi] at this; cases this)
  ok := fun S2 hS => by rw [hh, ovr_app hT hS]; exact (k S2 hS).opR hd

theorem Step.of2 {P : Program} {o : Oper} {ρ : Operand → A} {h h' : H} {T : Fp} {pv : A} (us : List Up) (hh : hp h' = app us (hp h)) (hT : ∀ u ∈ us, touch T u.id = true) (hW : ∀ u ∈ us, wt T u.id = true) (k : ∀ S2, Agree T (hp h) S2 → OpS P o ρ S2 (app us S2) pv) (hd : ∀ c, o.op ≠ .defer c) : Step P o ρ h h' T pv where
  out := fun i hi => by rw [hh]; exact app_out us _ i (fun u hu e => by rw [e, hT u hu] at hi; cases hi)
  rd := fun i hi => by rw [hh]; exact app_out us _ i (fun u hu e => by rw [e, hW u hu] at hi; cases hi)
  ok := fun S2 hS => by rw [hh, ovr_app hT hS]; exact (k S2 hS).opR hd
/-- Some is looked at, and two things are changed. -/
def Fp.p2 (x y : Nat) (l : List Nat) : Fp := ⟨false, x :: y :: l, true, [x, y]⟩

/-! ### own things -/
theorem hp_set {h : H} {t' : Tr MOb} {q : Nat} {x : MOb} (hq : q < 16777216) (ht : t'.get = fun m => if m = q then some x else h.t.get m) : hp { h with t := t' } = app [.set q x.low] (hp h) := by
  refine Hp.ext' (fun i => ?_) (fun i => Iff.rfl)
  show (if i < lim then tOb t' i else regAt h.rg i) = (if i = q then some x.low else (if i < lim then tOb h.t i else regAt h.rg i))
  unfold tOb
  rw [ht]
  by_cases hi : i = q
  · subst hi; rw [if_pos (show i < lim from hq), if_pos rfl]; simp
  · rw [if_neg hi]; simp only [if_neg hi]
theorem hp_new {h : H} {t' : Tr MOb} {x : MOb} (hq : h.nid < 16777216) (ht : t'.get = fun m => if m = h.nid then some x else h.t.get m) : hp { h with t := t', nid := h.nid + 1 } = app [.new h.nid x.low] (hp h) := by
  refine Hp.ext' (fun i => ?_) (fun i => ?_)
  · show (if i < lim then tOb t' i else regAt h.rg i) = (if i = h.nid then some x.low else (if i < lim then tOb h.t i else regAt h.rg i))
    unfold tOb
    rw [ht]
    by_cases hi : i = h.nid
    · rw [hi, if_pos (show h.nid < lim from hq), if_pos rfl]; simp
    · rw [if_neg hi]; simp only [if_neg hi]
  · show (if i < lim then h.nid + 1 ≤ i else regFr h.rg i) ↔ (if i < lim then h.nid ≤ i else regFr h.rg i) ∧ i ≠ h.nid
    unfold lim
    by_cases hi : i < 16777216
    · rw [if_pos hi, if_pos hi]; omega
    · rw [if_neg hi, if_neg hi]; exact ⟨fun k => ⟨k, by omega⟩, fun k => k.1⟩
theorem hp_del {h : H} {t' : Tr MOb} {q : Nat} (hq : q < 16777216) (ht : t'.get = fun m => if m = q then none else h.t.get m) : hp { h with t := t' } = app [.del q] (hp h) := by
  refine Hp.ext' (fun i => ?_) (fun i => Iff.rfl)
  show (if i < lim then tOb t' i else regAt h.rg i) = (if i = q then none else (if i < lim then tOb h.t i else regAt h.rg i))
  unfold tOb
  rw [ht]
  by_cases hi : i = q
  · subst hi; rw [if_pos (show i < lim from hq), if_pos rfl]; simp
  · rw [if_neg hi]; simp only [if_neg hi]
theorem hp_loc {h : H} {q : Nat} (hq : q < 16777216) : (hp h).ob q = tOb h.t q := if_pos hq

/-! ### regions -/
def rput : List Rg → Nat → (k : RK) → k.T → List Rg
  | [], _, _, _ => []
  | x :: l, r, k, c => bif Nat.beq x.r r then ⟨r, k, c⟩ :: l else x :: rput l r k c
theorem rfind_put : ∀ (l : List Rg) (r : Nat) (k : RK) (c : k.T) (r' : Nat) (x : Rg), rfind l r = some x → rfind (rput l r k c) r' = if r' = r then some ⟨r, k, c⟩ else rfind l r'
  | [], r, k, c, r', x, h => by cases h
  | y :: l, r, k, c, r', x, h => by
    unfold rput
    unfold rfind at h
    cases hy : Nat.beq y.r r with
    | true =>
      simp only [cond_true]
      unfold rfind
      have hyr := beq_eq hy
      by_cases hr : r' = r
      · subst hr
        rw [if_pos rfl]
        show (bif Nat.beq r' r' then _ else _) = _
        rw [Nat.beq_refl]; rfl
      · rw [if_neg hr]
        have h1 : Nat.beq r r' = false := by cases hx : Nat.beq r r' with | false => rfl | true => exact absurd (beq_eq hx).symm hr
        rw [show Nat.beq y.r r' = false by rw [hyr]; exact h1]
        show (bif Nat.beq r r' then _ else _) = _
        rw [h1]; rfl
    | false =>
      simp only [cond_false]
      rw [hy] at h
      simp only [cond_false] at h
      unfold rfind
      cases hy' : Nat.beq y.r r' with
      | true =>
        have := beq_eq hy'
        rw [if_neg (fun e => by subst e; rw [this, Nat.beq_refl] at hy; cases hy)]; rfl
      | false => exact rfind_put l r k c r' x h
theorem regAt_eq {rg : List Rg} {r j : Nat} {x : Rg} (hr : r < 64) (h : rfind rg r = some x) : regAt rg (rid r j) = regOb x.k x.c j := by
  unfold regAt
  rw [rOf_rid hr, h, jOf_rid hr]
theorem regFr_eq {rg : List Rg} {r j : Nat} {x : Rg} (hr : r < 64) (h : rfind rg r = some x) : regFr rg (rid r j) ↔ regLen x.k x.c ≤ j := by
  unfold regFr
  rw [rOf_rid hr, h, jOf_rid hr]
theorem hp_reg {h : H} {r j : Nat} : (hp h).ob (rid r j) = regAt h.rg (rid r j) ∧ ((hp h).fr (rid r j) ↔ regFr h.rg (rid r j)) := by
  have hn : ¬ rid r j < lim := Nat.not_lt.2 (rid_ge r j)
  generalize rid r j = i at hn
  exact ⟨if_neg hn, by show (if i < lim then _ else _) ↔ _; rw [if_neg hn]⟩
/-- A region's members are others. -/
theorem hp_rput {h : H} {r : Nat} {x : Rg} {k : RK} {c : k.T} (h0 : rfind h.rg r = some x) (i : Nat) : (hp { h with rg := rput h.rg r k c }).ob i = (if ¬ i < lim ∧ rOf i = r then regOb k c (jOf i) else (hp h).ob i) ∧ ((hp { h with rg := rput h.rg r k c }).fr i ↔ if ¬ i < lim ∧ rOf i = r then regLen k c ≤ jOf i else (hp h).fr i) := by
  by_cases hi : i < lim
  · rw [if_neg (fun k => k.1 hi), if_neg (fun k => k.1 hi)]
    exact ⟨by show (if i < lim then _ else _) = (if i < lim then _ else _); rw [if_pos hi, if_pos hi], by show (if i < lim then _ else _) ↔ (if i < lim then _ else _); rw [if_pos hi, if_pos hi]⟩
  · have e1 : (hp { h with rg := rput h.rg r k c }).ob i = regAt (rput h.rg r k c) i := if_neg hi
    have e2 : (hp { h with rg := rput h.rg r k c }).fr i ↔ regFr (rput h.rg r k c) i := by show (if i < lim then _ else _) ↔ _; rw [if_neg hi]
    have e3 : (hp h).ob i = regAt h.rg i := if_neg hi
    have e4 : (hp h).fr i ↔ regFr h.rg i := by show (if i < lim then _ else _) ↔ _; rw [if_neg hi]
    rw [e1, e2, e3, e4]
    unfold regAt regFr
    rw [rfind_put h.rg r k c (rOf i) x h0]
    by_cases hr : rOf i = r
    · rw [if_pos hr, if_pos ⟨hi, hr⟩, if_pos ⟨hi, hr⟩]; exact ⟨rfl, Iff.rfl⟩
    · rw [if_neg hr, if_neg (fun k => hr k.2), if_neg (fun k => hr k.2)]; exact ⟨rfl, Iff.rfl⟩
theorem gtA_cat {α : Type} (l : List α) (x : α) (j : Nat) : gtA (cat l [x]) j = if j = l.length then some x else gtA l j := by
  unfold gtA cat
  by_cases h : j = l.length
  · subst h; simp
  · rw [if_neg h]
    by_cases h1 : j < l.length
    · rw [List.getElem?_append_left h1]
    · rw [List.getElem?_append_right (by omega), List.getElem?_eq_none (by simp; omega), List.getElem?_eq_none (by omega)]
theorem gtA_upd {α : Type} (l : List α) (i j : Nat) (x : α) : gtA (upd l i x) j = if j = i ∧ i < l.length then some x else gtA l j := by
  unfold gtA upd
  rw [List.getElem?_set]
  by_cases h : i = j
  · subst h
    rw [if_pos rfl]
    by_cases h1 : i < l.length
    · rw [if_pos h1, if_pos ⟨rfl, h1⟩]
    · rw [if_neg h1, if_neg (fun k => h1 k.2), List.getElem?_eq_none (by omega)]
  · rw [if_neg h, if_neg (fun k => h k.1.symm)]
/-- A new member. -/
theorem hp_push {h : H} {r : Nat} {x : Rg} {k : RK} {c : k.T} {n : Nat} {ob : Ob} (hr : r < 64) (h0 : rfind h.rg r = some x) (hn : regLen x.k x.c = n) (h1 : regLen k c = n + 1) (h2 : ∀ j, regOb k c j = if j = n then some ob else regOb x.k x.c j) : hp { h with rg := rput h.rg r k c } = app [.new (rid r n) ob] (hp h) := by
  refine Hp.ext' (fun i => ?_) (fun i => ?_)
  · rw [(hp_rput (k := k) (c := c) h0 i).1]
    show _ = (if i = rid r n then some ob else (hp h).ob i)
    by_cases hi : ¬ i < lim ∧ rOf i = r
    · rw [if_pos hi, h2]
      have e := rid_of hi.1
      rw [hi.2] at e
      by_cases hj : jOf i = n
      · rw [if_pos hj, if_pos (by rw [e, hj])]
      · rw [if_neg hj, if_neg (fun e2 => hj (by rw [e2, jOf_rid hr])), e, hp_reg.1, regAt_eq hr h0, jOf_rid hr]
    · rw [if_neg hi, if_neg (fun e => hi (by rw [e]; exact ⟨Nat.not_lt.2 (rid_ge r n), rOf_rid hr⟩))]
  · rw [(hp_rput (k := k) (c := c) h0 i).2]
    show _ ↔ (hp h).fr i ∧ i ≠ rid r n
    by_cases hi : ¬ i < lim ∧ rOf i = r
    · rw [if_pos hi, h1]
      have e := rid_of hi.1
      rw [hi.2] at e
      rw [show (hp h).fr i ↔ n ≤ jOf i by rw [e, hp_reg.2, regFr_eq hr h0, hn, jOf_rid hr]]
      refine ⟨fun k => ⟨by omega, fun e2 => ?_⟩, fun k => ?_⟩
      · rw [e2, jOf_rid hr] at k; omega
      · have : jOf i ≠ n := fun hj => k.2 (by rw [e, hj])
        omega
    · rw [if_neg hi]
      exact ⟨fun k => ⟨k, fun e => hi (by rw [e]; exact ⟨Nat.not_lt.2 (rid_ge r n), rOf_rid hr⟩)⟩, fun k => k.1⟩
/-- A member is another one. -/
theorem hp_mem {h : H} {r j : Nat} {x : Rg} {k : RK} {c : k.T} {u : Up} (hr : r < 64) (h0 : rfind h.rg r = some x) (h1 : regLen k c = regLen x.k x.c) (h2 : ∀ i, i ≠ j → regOb k c i = regOb x.k x.c i) (h3 : u.id = rid r j) (h4 : (u.app (hp h)).ob (rid r j) = regOb k c j) (h5 : (u.app (hp h)).fr = (hp h).fr) : hp { h with rg := rput h.rg r k c } = app [u] (hp h) := by
  refine Hp.ext' (fun i => ?_) (fun i => ?_)
  · rw [(hp_rput (k := k) (c := c) h0 i).1]
    show _ = (u.app (hp h)).ob i
    by_cases hi : ¬ i < lim ∧ rOf i = r
    · rw [if_pos hi]
      have e := rid_of hi.1
      rw [hi.2] at e
      by_cases hj : jOf i = j
      · rw [hj] at e ⊢; rw [e, h4]
      · rw [h2 _ hj, (u.out (hp h) i (fun e2 => hj (by rw [e2, h3, jOf_rid hr]))).1, e, hp_reg.1, regAt_eq hr h0, jOf_rid hr]
    · rw [if_neg hi, (u.out (hp h) i (fun e => hi (by rw [e, h3]; exact ⟨Nat.not_lt.2 (rid_ge r j), rOf_rid hr⟩))).1]
  · rw [(hp_rput (k := k) (c := c) h0 i).2]
    show _ ↔ (u.app (hp h)).fr i
    rw [h5]
    by_cases hi : ¬ i < lim ∧ rOf i = r
    · rw [if_pos hi, h1]
      have e := rid_of hi.1
      rw [hi.2] at e
      rw [e, hp_reg.2, regFr_eq hr h0, jOf_rid hr]
    · rw [if_neg hi]
end
end Go.Bm
