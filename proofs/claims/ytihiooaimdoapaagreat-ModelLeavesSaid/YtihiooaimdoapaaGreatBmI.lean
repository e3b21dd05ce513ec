/- Parts of typed things; cells told as typed ones. -/
import Derived.Test.YtihiooaimdoapaaGreatBmH
set_option linter.unusedVariables false
set_option linter.unusedSimpArgs false
namespace Go.Bm
noncomputable section
open Go.RowKit

structure Sg where
  t : Ty
  x : t.T
/-- A part, by its way. -/
def getP : List Sp → (t : Ty) → t.T → Option Sg
  | [], t, x => some ⟨t, x⟩
  | .fst :: π, .pair a b, x => getP π a x.1
  | .snd c :: π, .pair a b, x => bif Nat.beq c a.size then getP π b x.2 else none
  | .ai i n z :: π, .arr n' t, l => bif Nat.beq n n' && Nat.beq z t.size then getP π t (nth t.dflt l i) else none
  | _, _, _ => none
def castT (a b : Ty) (x : a.T) : Option b.T := if h : a = b then some (h ▸ x) else none
theorem castT_eq {a b : Ty} {x : a.T} {y : b.T} (h : castT a b x = some y) : ∃ e : a = b, e ▸ x = y := by
  unfold castT at h
  split at h
  · rename_i e; exact ⟨e, Option.some.inj h⟩
  · cases h
def setP (u : Ty) (y : u.T) : List Sp → (t : Ty) → t.T → Option t.T
  | [], t, _ => castT u t y
  | .fst :: π, .pair a b, x => match setP u y π a x.1 with
    | some z => some (z, x.2)
    | none => none
  | .snd c :: π, .pair a b, x => bif Nat.beq c a.size then (match setP u y π b x.2 with
    | some z => some (x.1, z)
    | none => none) else none
  | .ai i n z :: π, .arr n' t, l => bif Nat.beq n n' && Nat.beq z t.size then (match setP u y π t (nth t.dflt l i) with
    | some v => some (aset t.dflt l i v)
    | none => none) else none
  | _, _, _ => none
theorem beq_eq {a b : Nat} (h : Nat.beq a b = true) : a = b := Nat.eq_of_beq_eq_true h
theorem cond_some {α : Type} {c : Bool} {x : Option α} {r : α} (h : (bif c then x else none) = some r) : c = true ∧ x = some r := by
  cases c with
  | true => exact ⟨rfl, h⟩
  | false => cases h
/-- One of so many parts. -/
theorem arr_split (t : Ty) (n : Nat) (l : List t.T) {i : Nat} (hi : i < n) : ∃ a c, encA (.arr n t) l = a ++ (encA t (nth t.dflt l i) ++ c) ∧ a.length = i * t.size ∧ a = (List.range i).flatMap (fun k => encA t (nth t.dflt l k)) ∧ c = ((List.range n).drop (i + 1)).flatMap (fun k => encA t (nth t.dflt l k)) := by
  have hr : List.range n = List.range i ++ (i :: (List.range n).drop (i + 1)) := by
    have h1 := (List.take_append_drop i (List.range n)).symm
    rw [List.take_range, Nat.min_eq_left (Nat.le_of_lt hi), List.drop_eq_getElem_cons (by simpa using hi)] at h1
    simpa using h1
  refine ⟨_, _, ?_, ?_, rfl, rfl⟩
  · show (List.range n).flatMap _ = _
    conv => lhs; rw [hr]
    rw [List.flatMap_append, List.flatMap_cons]
  · have := arrF_len (f := encA t) (d := t.dflt) (encA_len t) i l
    exact this
theorem getP_ok : ∀ (π : List Sp) (t : Ty) (x : t.T) (s : Nat) (r : Sg), getP π t x = some r → Pok s π → ∃ a c, encA t x = a ++ (encA r.t r.x ++ c) ∧ a.length = offS π
  | [], t, x, s, r, h, _ => by cases h; exact ⟨[], [], by simp, rfl⟩
  | .fst :: π, .pair a b, x, s, r, h, hk => by
    obtain ⟨p, c, e1, e2⟩ := getP_ok π a x.1 s r h hk
    exact ⟨p, c ++ encA b x.2, by show encA a x.1 ++ encA b x.2 = _; rw [e1]; simp, e2⟩
  | .snd k :: π, .pair a b, x, s, r, h, hk => by
    obtain ⟨hc, h2⟩ := cond_some (show (bif Nat.beq k a.size then getP π b x.2 else none) = some r from h)
    obtain ⟨p, c, e1, e2⟩ := getP_ok π b x.2 s r h2 hk
    refine ⟨encA a x.1 ++ p, c, by show encA a x.1 ++ encA b x.2 = _; rw [e1]; simp, ?_⟩
    rw [List.length_append, encA_len, e2, beq_eq hc]; rfl
  | .ai i n z :: π, .arr n' t, l, s, r, h, hk => by
    obtain ⟨hc, h2⟩ := cond_some (show (bif Nat.beq n n' && Nat.beq z t.size then getP π t (nth t.dflt l i) else none) = some r from h)
    simp only [Bool.and_eq_true] at hc
    obtain rfl := beq_eq hc.1
    obtain rfl := beq_eq hc.2
    obtain ⟨p, c, e1, e2⟩ := getP_ok π t _ s r h2 hk.2
    obtain ⟨a, d, k1, k2, _⟩ := arr_split t n l hk.1
    refine ⟨a ++ p, c ++ d, by rw [k1, e1]; simp, ?_⟩
    rw [List.length_append, k2, e2]; rfl
  | .fst :: _, .int _, _, _, _, h, _ => by cases h
  | .fst :: _, .bool, _, _, _, h, _ => by cases h
  | .fst :: _, .unit, _, _, _, h, _ => by cases h
  | .fst :: _, .arr _ _, _, _, _, h, _ => by cases h
  | .fst :: _, .slc _, _, _, _, h, _ => by cases h
  | .fst :: _, .ptr _, _, _, _, h, _ => by cases h
  | .fst :: _, .nptr _, _, _, _, h, _ => by cases h
  | .fst :: _, .rsl _ _, _, _, _, h, _ => by cases h
  | .fst :: _, .wrg _ _, _, _, _, h, _ => by cases h
  | .fst :: _, .mp _, _, _, _, h, _ => by cases h
  | .snd _ :: _, .int _, _, _, _, h, _ => by cases h
  | .snd _ :: _, .bool, _, _, _, h, _ => by cases h
  | .snd _ :: _, .unit, _, _, _, h, _ => by cases h
  | .snd _ :: _, .arr _ _, _, _, _, h, _ => by cases h
  | .snd _ :: _, .slc _, _, _, _, h, _ => by cases h
  | .snd _ :: _, .ptr _, _, _, _, h, _ => by cases h
  | .snd _ :: _, .nptr _, _, _, _, h, _ => by cases h
  | .snd _ :: _, .rsl _ _, _, _, _, h, _ => by cases h
  | .snd _ :: _, .wrg _ _, _, _, _, h, _ => by cases h
  | .snd _ :: _, .mp _, _, _, _, h, _ => by cases h
  | .ai _ _ _ :: _, .int _, _, _, _, h, _ => by cases h
  | .ai _ _ _ :: _, .bool, _, _, _, h, _ => by cases h
  | .ai _ _ _ :: _, .unit, _, _, _, h, _ => by cases h
  | .ai _ _ _ :: _, .pair _ _, _, _, _, h, _ => by cases h
  | .ai _ _ _ :: _, .slc _, _, _, _, h, _ => by cases h
  | .ai _ _ _ :: _, .ptr _, _, _, _, h, _ => by cases h
  | .ai _ _ _ :: _, .nptr _, _, _, _, h, _ => by cases h
  | .ai _ _ _ :: _, .rsl _ _, _, _, _, h, _ => by cases h
  | .ai _ _ _ :: _, .wrg _ _, _, _, _, h, _ => by cases h
  | .ai _ _ _ :: _, .mp _, _, _, _, h, _ => by cases h
  | .ix _ _ :: _, _, _, _, _, h, _ => by simp [getP] at h
/-- One of so many parts. -/
theorem arr_splitD (t : Ty) (n : Nat) (l : List t.T) {i : Nat} (hi : i < n) : ∃ a c, encD (.arr n t) l = a ++ (encD t (nth t.dflt l i) ++ c) ∧ a.length = i * t.size ∧ a = (List.range i).flatMap (fun k => encD t (nth t.dflt l k)) ∧ c = ((List.range n).drop (i + 1)).flatMap (fun k => encD t (nth t.dflt l k)) := by
  have hr : List.range n = List.range i ++ (i :: (List.range n).drop (i + 1)) := by
    have h1 := (List.take_append_drop i (List.range n)).symm
    rw [List.take_range, Nat.min_eq_left (Nat.le_of_lt hi), List.drop_eq_getElem_cons (by simpa using hi)] at h1
    simpa using h1
  refine ⟨_, _, ?_, ?_, rfl, rfl⟩
  · show (List.range n).flatMap _ = _
    conv => lhs; rw [hr]
    rw [List.flatMap_append, List.flatMap_cons]
  · have := arrF_len (f := encD t) (d := t.dflt) (encD_len t) i l
    exact this
theorem getPD_ok : ∀ (π : List Sp) (t : Ty) (x : t.T) (s : Nat) (r : Sg), getP π t x = some r → Pok s π → ∃ a c, encD t x = a ++ (encD r.t r.x ++ c) ∧ a.length = offS π
  | [], t, x, s, r, h, _ => by cases h; exact ⟨[], [], by simp, rfl⟩
  | .fst :: π, .pair a b, x, s, r, h, hk => by
    obtain ⟨p, c, e1, e2⟩ := getPD_ok π a x.1 s r h hk
    exact ⟨p, c ++ encD b x.2, by show encD a x.1 ++ encD b x.2 = _; rw [e1]; simp, e2⟩
  | .snd k :: π, .pair a b, x, s, r, h, hk => by
    obtain ⟨hc, h2⟩ := cond_some (show (bif Nat.beq k a.size then getP π b x.2 else none) = some r from h)
    obtain ⟨p, c, e1, e2⟩ := getPD_ok π b x.2 s r h2 hk
    refine ⟨encD a x.1 ++ p, c, by show encD a x.1 ++ encD b x.2 = _; rw [e1]; simp, ?_⟩
    rw [List.length_append, encD_len, e2, beq_eq hc]; rfl
  | .ai i n z :: π, .arr n' t, l, s, r, h, hk => by
    obtain ⟨hc, h2⟩ := cond_some (show (bif Nat.beq n n' && Nat.beq z t.size then getP π t (nth t.dflt l i) else none) = some r from h)
    simp only [Bool.and_eq_true] at hc
    obtain rfl := beq_eq hc.1
    obtain rfl := beq_eq hc.2
    obtain ⟨p, c, e1, e2⟩ := getPD_ok π t _ s r h2 hk.2
    obtain ⟨a, d, k1, k2, _⟩ := arr_splitD t n l hk.1
    refine ⟨a ++ p, c ++ d, by rw [k1, e1]; simp, ?_⟩
    rw [List.length_append, k2, e2]; rfl
  | .fst :: _, .int _, _, _, _, h, _ => by cases h
  | .fst :: _, .bool, _, _, _, h, _ => by cases h
  | .fst :: _, .unit, _, _, _, h, _ => by cases h
  | .fst :: _, .arr _ _, _, _, _, h, _ => by cases h
  | .fst :: _, .slc _, _, _, _, h, _ => by cases h
  | .fst :: _, .ptr _, _, _, _, h, _ => by cases h
  | .fst :: _, .nptr _, _, _, _, h, _ => by cases h
  | .fst :: _, .rsl _ _, _, _, _, h, _ => by cases h
  | .fst :: _, .wrg _ _, _, _, _, h, _ => by cases h
  | .fst :: _, .mp _, _, _, _, h, _ => by cases h
  | .snd _ :: _, .int _, _, _, _, h, _ => by cases h
  | .snd _ :: _, .bool, _, _, _, h, _ => by cases h
  | .snd _ :: _, .unit, _, _, _, h, _ => by cases h
  | .snd _ :: _, .arr _ _, _, _, _, h, _ => by cases h
  | .snd _ :: _, .slc _, _, _, _, h, _ => by cases h
  | .snd _ :: _, .ptr _, _, _, _, h, _ => by cases h
  | .snd _ :: _, .nptr _, _, _, _, h, _ => by cases h
  | .snd _ :: _, .rsl _ _, _, _, _, h, _ => by cases h
  | .snd _ :: _, .wrg _ _, _, _, _, h, _ => by cases h
  | .snd _ :: _, .mp _, _, _, _, h, _ => by cases h
  | .ai _ _ _ :: _, .int _, _, _, _, h, _ => by cases h
  | .ai _ _ _ :: _, .bool, _, _, _, h, _ => by cases h
  | .ai _ _ _ :: _, .unit, _, _, _, h, _ => by cases h
  | .ai _ _ _ :: _, .pair _ _, _, _, _, h, _ => by cases h
  | .ai _ _ _ :: _, .slc _, _, _, _, h, _ => by cases h
  | .ai _ _ _ :: _, .ptr _, _, _, _, h, _ => by cases h
  | .ai _ _ _ :: _, .nptr _, _, _, _, h, _ => by cases h
  | .ai _ _ _ :: _, .rsl _ _, _, _, _, h, _ => by cases h
  | .ai _ _ _ :: _, .wrg _ _, _, _, _, h, _ => by cases h
  | .ai _ _ _ :: _, .mp _, _, _, _, h, _ => by cases h
  | .ix _ _ :: _, _, _, _, _, h, _ => by simp [getP] at h
theorem put_mid {a b b' c : List A} (h : b'.length = b.length) : put (a ++ (b ++ c)) a.length b' = a ++ (b' ++ c) := by
  unfold put
  rw [List.take_left, h]
  congr 2
  rw [List.drop_append, List.drop_eq_nil_of_le (by omega), List.nil_append, Nat.add_sub_cancel_left, List.drop_left]
theorem put_in {a b c ps : List A} {k : Nat} (h : k + ps.length ≤ b.length) : put (a ++ (b ++ c)) (a.length + k) ps = a ++ (put b k ps ++ c) := by
  unfold put
  rw [List.take_append, List.take_of_length_le (by omega), Nat.add_sub_cancel_left, List.take_append_of_le_length (by omega)]
  rw [List.drop_append, List.drop_eq_nil_of_le (by omega), List.nil_append, show a.length + k + ps.length - a.length = k + ps.length by omega, List.drop_append_of_le_length h]
  simp
theorem setP_ok (u : Ty) (y : u.T) : ∀ (π : List Sp) (t : Ty) (x x' : t.T) (s : Nat), setP u y π t x = some x' → Pok s π → encA t x' = put (encA t x) (offS π) (encA u y) ∧ offS π + u.size ≤ t.size
  | [], t, x, x', s, h, _ => by
    obtain ⟨rfl, rfl⟩ := castT_eq (show castT u t y = some x' from h)
    refine ⟨?_, by simp [offS]⟩
    unfold put
    rw [show offS [] = 0 from rfl, List.take_zero, List.nil_append, Nat.zero_add, encA_len, List.drop_eq_nil_of_le (by rw [encA_len]; exact Nat.le_refl _), List.append_nil]
  | .fst :: π, .pair a b, x, x', s, h, hk => by
    have h : (match setP u y π a x.1 with | some z => some (z, x.2) | none => none) = some x' := h
    split at h
    · rename_i z hz
      cases h
      obtain ⟨e1, e2⟩ := setP_ok u y π a x.1 z s hz hk
      refine ⟨?_, by show _ ≤ a.size + b.size; have : offS (.fst :: π) = offS π := rfl; omega⟩
      show encA a z ++ encA b x.2 = put (encA a x.1 ++ encA b x.2) (offS π) (encA u y)
      rw [e1]
      have := put_in (a := []) (b := encA a x.1) (c := encA b x.2) (ps := encA u y) (k := offS π) (by rw [encA_len, encA_len]; exact e2)
      simpa using this.symm
    · cases h
  | .snd k :: π, .pair a b, x, x', s, h, hk => by
    obtain ⟨hc, h2⟩ := cond_some (show (bif Nat.beq k a.size then (match setP u y π b x.2 with | some z => some (x.1, z) | none => none) else none) = some x' from h)
    obtain rfl := beq_eq hc
    cases hz : setP u y π b x.2 with
    | none => rw [hz] at h2; cases h2
    | some z =>
      rw [hz] at h2; cases h2
      obtain ⟨e1, e2⟩ := setP_ok u y π b x.2 z s hz hk
      refine ⟨?_, by show a.size + offS π + u.size ≤ a.size + b.size; omega⟩
      show encA a x.1 ++ encA b z = put (encA a x.1 ++ encA b x.2) (a.size + offS π) (encA u y)
      have := put_in (a := encA a x.1) (b := encA b x.2) (c := []) (ps := encA u y) (k := offS π) (by rw [encA_len, encA_len]; exact e2)
      rw [encA_len] at this
      simp only [List.append_nil] at this
      rw [this, e1]
  | .ai i n z :: π, .arr n' t, l, x', s, h, hk => by
    obtain ⟨hc, h2⟩ := cond_some (show (bif Nat.beq n n' && Nat.beq z t.size then (match setP u y π t (nth t.dflt l i) with | some v => some (aset t.dflt l i v) | none => none) else none) = some x' from h)
    simp only [Bool.and_eq_true] at hc
    obtain rfl := beq_eq hc.1
    obtain rfl := beq_eq hc.2
    cases hv : setP u y π t (nth t.dflt l i) with
    | none => rw [hv] at h2; cases h2
    | some v =>
      rw [hv] at h2; cases h2
      obtain ⟨e1, e2⟩ := setP_ok u y π t _ v s hv hk.2
      obtain ⟨a, d, k1, k2, k3, k4⟩ := arr_split t n l hk.1
      obtain ⟨a', d', q1, q2, q3, q4⟩ := arr_split t n (aset t.dflt l i v) hk.1
      have hn : ∀ k, nth t.dflt (aset t.dflt l i v) k = if k = i then v else nth t.dflt l k := fun k => aset_get
      have ha : a' = a := by
        rw [q3, k3]
        have : ∀ m : List Nat, (∀ k ∈ m, k ≠ i) → m.flatMap (fun k => encA t (nth t.dflt (aset t.dflt l i v) k)) = m.flatMap (fun k => encA t (nth t.dflt l k)) := fun m => by
          induction m with
          | nil => intro _; rfl
          | cons j m ih => intro hm; simp only [List.flatMap_cons]; rw [ih (fun k hk => hm k (List.mem_cons_of_mem _ hk)), hn, if_neg (hm j (List.mem_cons_self ..))]
        exact this _ (fun k hk => by have := List.mem_range.1 hk; omega)
      have hd : d' = d := by
        rw [q4, k4]
        have : ∀ m : List Nat, (∀ k ∈ m, k ≠ i) → m.flatMap (fun k => encA t (nth t.dflt (aset t.dflt l i v) k)) = m.flatMap (fun k => encA t (nth t.dflt l k)) := fun m => by
          induction m with
          | nil => intro _; rfl
          | cons j m ih => intro hm; simp only [List.flatMap_cons]; rw [ih (fun k hk => hm k (List.mem_cons_of_mem _ hk)), hn, if_neg (hm j (List.mem_cons_self ..))]
        refine this _ (fun k hk => ?_)
        obtain ⟨j, hj, rfl⟩ := List.getElem_of_mem hk
        simp at hj ⊢; omega
      have hsz : i * t.size + t.size ≤ n * t.size := by
        have := Nat.mul_le_mul_right t.size (show i + 1 ≤ n from hk.1)
        rwa [Nat.add_mul, Nat.one_mul] at this
      refine ⟨?_, by show i * t.size + offS π + u.size ≤ n * t.size; omega⟩
      show encA (.arr n t) (aset t.dflt l i v) = put (encA (.arr n t) l) (i * t.size + offS π) (encA u y)
      rw [q1, k1, ha, hd, hn, if_pos rfl, ← k2, put_in (by rw [encA_len, encA_len]; exact e2), e1]
  | .fst :: _, .int _, _, _, _, h, _ => by cases h
  | .fst :: _, .bool, _, _, _, h, _ => by cases h
  | .fst :: _, .unit, _, _, _, h, _ => by cases h
  | .fst :: _, .arr _ _, _, _, _, h, _ => by cases h
  | .fst :: _, .slc _, _, _, _, h, _ => by cases h
  | .fst :: _, .ptr _, _, _, _, h, _ => by cases h
  | .fst :: _, .nptr _, _, _, _, h, _ => by cases h
  | .fst :: _, .rsl _ _, _, _, _, h, _ => by cases h
  | .fst :: _, .wrg _ _, _, _, _, h, _ => by cases h
  | .fst :: _, .mp _, _, _, _, h, _ => by cases h
  | .snd _ :: _, .int _, _, _, _, h, _ => by cases h
  | .snd _ :: _, .bool, _, _, _, h, _ => by cases h
  | .snd _ :: _, .unit, _, _, _, h, _ => by cases h
  | .snd _ :: _, .arr _ _, _, _, _, h, _ => by cases h
  | .snd _ :: _, .slc _, _, _, _, h, _ => by cases h
  | .snd _ :: _, .ptr _, _, _, _, h, _ => by cases h
  | .snd _ :: _, .nptr _, _, _, _, h, _ => by cases h
  | .snd _ :: _, .rsl _ _, _, _, _, h, _ => by cases h
  | .snd _ :: _, .wrg _ _, _, _, _, h, _ => by cases h
  | .snd _ :: _, .mp _, _, _, _, h, _ => by cases h
  | .ai _ _ _ :: _, .int _, _, _, _, h, _ => by cases h
  | .ai _ _ _ :: _, .bool, _, _, _, h, _ => by cases h
  | .ai _ _ _ :: _, .unit, _, _, _, h, _ => by cases h
  | .ai _ _ _ :: _, .pair _ _, _, _, _, h, _ => by cases h
  | .ai _ _ _ :: _, .slc _, _, _, _, h, _ => by cases h
  | .ai _ _ _ :: _, .ptr _, _, _, _, h, _ => by cases h
  | .ai _ _ _ :: _, .nptr _, _, _, _, h, _ => by cases h
  | .ai _ _ _ :: _, .rsl _ _, _, _, _, h, _ => by cases h
  | .ai _ _ _ :: _, .wrg _ _, _, _, _, h, _ => by cases h
  | .ai _ _ _ :: _, .mp _, _, _, _, h, _ => by cases h
  | .ix _ _ :: _, _, _, _, _, h, _ => by simp [setP] at h
end
end Go.Bm
