/- A reckoner: what operations do, computed; what is not computed is asked for. -/
import Derived.Test.YtopmocpjgjbdbaaPvS
namespace Go.Pv
open Go.RowKit

inductive FA where
  | fv (m : Nat) (cs ds ps c' : List PV)
  | mem (i N m : Nat) (cs ps c' : List PV)
  | new (m : Nat) (ps : List PV)
  | zero
/-- What is done with families. -/
inductive FH where
  | go
  | ld (ds ps : List PV)
  | st (cs ds c' : List PV)
  | ix (k : Nat) (ds : List PV)
  | mem (i N : Nat) (cs c' : List PV)
  | mk (i N n : Nat) (cs c' : List PV)
  | app (k : FA)
  | s3 (k : Nat)
  | slm (k : Nat)
  | look (ds : List PV) (h : Option (Nat × PV))
  | put (cs ds c' : List PV)
  | del (n : Nat) (q : PV) (cs ds c' : List PV)
  | put0
  | bsv (i N : Nat) (cs zs c' : List PV)
  | mkat (p n : Nat)
  | cpy (m : Nat) (cs ps c' : List PV)
  | look0
  | mem0 (i : Nat)
inductive Hint where
  | fam (k : FH)
  | raw
  | int (r : Int)
  | bool (b : Bool)
  | cells (l : List D)
  | nat (j : Nat)
  | pv (p : PV)
  | pvs (ps : List PV)
  | stb (c : List PV)
  | rows (r : List (List D))
  | pf (r : PV)
  | pfa (as : List D) (r : PV)
  | pc (as : List PV) (S' : Sx) (r : PV)
  | appP | appT | appF
  | appM (cs : List PV) (n : Nat)
  | pr (as : List PV) (r : PV)
  | at (p : Nat)
  | ints (ns : List Int)
  | mkT (ez n : Nat)
  | cpy (m : Nat) (c : List PV)
  | grow (c : List PV) (n : Nat)
  | known (v : Bool) (h : Hint)
  | wk (q : PV) (h : Hint)
  | no

/-- What an operation looks at, or changes. -/
inductive Rs where
  | b (n : Nat)
  | c (n off len : Nat)
  | t (n : Nat)
  | tl
  | all
inductive Ef where
  | box (b : Nat) (c : List PV)
  | spl (b off : Nat) (ps : List PV)
  | tag (t m : Nat)
  | ntag (m : Nat)
  | all (S : Sx)
def Ef.rs : Ef → Rs
  | .box b _ => .b b
  | .spl b off ps => .c b off ps.length
  | .tag t _ => .t t
  | .ntag _ => .tl
  | .all _ => .all
def Ef.app : Ef → Sx → Sx
  | .box b c, S => ⟨S.bs.set b (some c), S.ts⟩
  | .spl b off ps, S => match S.bs[b]? with
    | some (some cs) => bif Nat.ble (off + ps.length) cs.length then ⟨S.bs.set b (some (splice cs off ps)), S.ts⟩ else S
    | _ => S
  | .tag t m, S => ⟨S.bs, S.ts.set t m⟩
  | .ntag m, S => ⟨S.bs, S.ts ++ [m]⟩
  | .all S', _ => S'
def cellsAt (S : Sx) (n off len : Nat) : Option (Option (Nat × List PV)) := (S.bs[n]?).map (Option.map (fun cs => (cs.length, (cs.drop off).take len)))
def Agree (S S2 : Sx) : Rs → Prop
  | .b n => S2.bs[n]? = S.bs[n]?
  | .c n off len => cellsAt S2 n off len = cellsAt S n off len
  | .t n => S2.ts[n]? = S.ts[n]? ∧ S2.ts.length = S.ts.length
  | .tl => S2.ts = S.ts
  | .all => S2 = S
def overlap : Rs → Rs → Bool
  | .all, _ => true
  | _, .all => true
  | .b m, .b n => Nat.beq m n
  | .b m, .c n _ _ => Nat.beq m n
  | .c m _ _, .b n => Nat.beq m n
  | .c m o l, .c n o' l' => Nat.beq m n && (Nat.blt o (o' + l') && Nat.blt o' (o + l))
  | .t m, .t n => Nat.beq m n
  | .tl, .tl => true
  | .tl, .t _ => true
  | .t _, .tl => true
  | _, _ => false

theorem blt_no {a b : Nat} (h : Nat.blt a b = false) : b ≤ a := by
  cases Nat.lt_or_ge a b with
  | inl h2 => rw [(Nat.blt_eq : (Nat.blt a b = true) = (a < b)).mpr h2] at h; cases h
  | inr h2 => exact h2
theorem splice_len {cs ps : List PV} {off : Nat} (h : off + ps.length ≤ cs.length) : (splice cs off ps).length = cs.length := by
  rw [splice_eq _ _ _ h]; simp; omega
theorem splice_get {cs ps : List PV} {off : Nat} (h : off + ps.length ≤ cs.length) (i : Nat) : (splice cs off ps)[i]? = if off ≤ i ∧ i < off + ps.length then ps[i - off]? else cs[i]? := by
  rw [splice_eq _ _ _ h]
  by_cases h1 : i < off
  · rw [if_neg (by omega), List.append_assoc, List.getElem?_append_left (by simp; omega), List.getElem?_take, if_pos h1]
  · by_cases h2 : i < off + ps.length
    · rw [if_pos ⟨by omega, h2⟩, List.append_assoc, List.getElem?_append_right (by simp; omega), List.getElem?_append_left (by simp; omega)]
      simp only [List.length_take, Nat.min_eq_left (show off ≤ cs.length by omega)]
    · rw [if_neg (by omega), List.getElem?_append_right (by simp; omega), List.getElem?_drop]
      simp only [List.length_append, List.length_take, Nat.min_eq_left (show off ≤ cs.length by omega)]
      congr 1; omega
theorem Agree.refl (S : Sx) (T : Rs) : Agree S S T := by cases T <;> first | rfl | exact ⟨rfl, rfl⟩
theorem Agree.symm {S S2 : Sx} {T : Rs} (h : Agree S S2 T) : Agree S2 S T := by cases T <;> first | exact Eq.symm h | exact ⟨Eq.symm h.1, Eq.symm h.2⟩
theorem Agree.trans {S S2 S3 : Sx} {T : Rs} (h : Agree S S2 T) (k : Agree S2 S3 T) : Agree S S3 T := by cases T <;> first | exact Eq.trans k h | exact ⟨Eq.trans k.1 h.1, Eq.trans k.2 h.2⟩
theorem cellsAt_of_b {S S2 : Sx} {n : Nat} (h : S2.bs[n]? = S.bs[n]?) (off len : Nat) : cellsAt S2 n off len = cellsAt S n off len := by unfold cellsAt; rw [h]
theorem cellsAt_some {S : Sx} {n off len : Nat} {k : Nat} {l : List PV} (h : cellsAt S n off len = some (some (k, l))) : ∃ cs, S.bs[n]? = some (some cs) ∧ cs.length = k ∧ (cs.drop off).take len = l := by
  unfold cellsAt at h
  cases hb : S.bs[n]? with
  | none => rw [hb] at h; cases h
  | some o =>
    rw [hb] at h
    cases o with
    | none => simp at h
    | some cs => simp at h; exact ⟨cs, rfl, h.1, h.2⟩
theorem cellsAt_of {S : Sx} {n off len : Nat} {cs : List PV} (h : S.bs[n]? = some (some cs)) : cellsAt S n off len = some (some (cs.length, (cs.drop off).take len)) := by unfold cellsAt; rw [h]; rfl
theorem Agree.cells {S S2 : Sx} {n off len : Nat} {cs : List PV} (h : Agree S S2 (.c n off len)) (hb : S.bs[n]? = some (some cs)) : ∃ cs2, S2.bs[n]? = some (some cs2) ∧ cs2.length = cs.length ∧ (cs2.drop off).take len = (cs.drop off).take len := by
  have h1 : cellsAt S2 n off len = cellsAt S n off len := h
  rw [cellsAt_of hb] at h1
  exact cellsAt_some h1
/-- What does not touch a thing leaves it. -/
theorem app_keeps {e : Ef} {T : Rs} (S : Sx) (h : overlap e.rs T = false) : Agree S (e.app S) T := by
  cases e with
  | box b c => cases T with
    | b n =>
      simp only [Ef.rs, overlap] at h
      have hn : b ≠ n := fun e => by subst e; simp at h
      show (S.bs.set b (some c))[n]? = _
      rw [List.getElem?_set_ne hn]
    | c n off len =>
      simp only [Ef.rs, overlap] at h
      have hn : b ≠ n := fun e => by subst e; simp at h
      exact cellsAt_of_b (by show (S.bs.set b (some c))[n]? = _; rw [List.getElem?_set_ne hn]) off len
    | t n => exact ⟨rfl, rfl⟩
    | tl => rfl
    | all => cases h
  | spl b off ps =>
    simp only [Ef.app]
    split
    · rename_i cs hb
      cases hl : Nat.ble (off + ps.length) cs.length with
      | false => exact .refl _ _
      | true =>
        simp only [cond_true]
        have hle := Nat.le_of_ble_eq_true hl
        cases T with
        | b n =>
          simp only [Ef.rs, overlap] at h
          have hn : b ≠ n := fun e => by subst e; simp at h
          show (S.bs.set b _)[n]? = _
          rw [List.getElem?_set_ne hn]
        | c n o l =>
          simp only [Ef.rs, overlap] at h
          by_cases hn : b = n
          · subst hn
            have hb' : (⟨S.bs.set b (some (splice cs off ps)), S.ts⟩ : Sx).bs[b]? = some (some (splice cs off ps)) := by
              show (S.bs.set b _)[b]? = _
              rw [List.getElem?_set_self (List.getElem?_eq_some_iff.1 hb).1]
            show cellsAt _ _ _ _ = cellsAt _ _ _ _
            rw [cellsAt_of hb', cellsAt_of hb, splice_len hle]
            congr 3
            apply List.ext_getElem?
            intro i
            rw [List.getElem?_take, List.getElem?_take]
            split
            · rename_i hi
              rw [List.getElem?_drop, List.getElem?_drop, splice_get hle, if_neg]
              intro hc
              simp only [Nat.beq_refl, Bool.true_and, Bool.and_eq_false_iff] at h
              rcases h with h | h
              · have := blt_no h
                omega
              · have := blt_no h
                omega
            · rfl
          · exact cellsAt_of_b (by show (S.bs.set b _)[n]? = _; rw [List.getElem?_set_ne hn]) o l
        | t n => exact ⟨rfl, rfl⟩
        | tl => rfl
        | all => simp [Ef.rs, overlap] at h
    · exact .refl _ _
  | tag t m => cases T with
    | t n =>
      simp only [Ef.rs, overlap] at h
      have hn : t ≠ n := fun e => by subst e; simp at h
      exact ⟨by show (S.ts.set t m)[n]? = _; rw [List.getElem?_set_ne hn], by show (S.ts.set t m).length = _; rw [List.length_set]⟩
    | tl => cases h
    | all => cases h
    | b n => rfl
    | c n o l => rfl
  | ntag m => cases T with
    | t n => cases h
    | tl => cases h
    | all => cases h
    | b n => rfl
    | c n o l => rfl
  | all S' => cases T <;> cases h
/-- What agrees goes on agreeing. -/
theorem app_agree {S S2 : Sx} {T : Rs} (e : Ef) (h : Agree S S2 T) : Agree (e.app S) (e.app S2) T := by
  cases hov : overlap e.rs T with
  | false => exact ((app_keeps S hov).symm.trans h).trans (app_keeps S2 hov)
  | true =>
    cases e with
    | all S' => exact .refl _ _
    | box b c => cases T with
      | b n =>
        have hn : b = n := Nat.eq_of_beq_eq_true hov
        subst hn
        have h' : S2.bs[b]? = S.bs[b]? := h
        show (S2.bs.set b (some c))[b]? = (S.bs.set b (some c))[b]?
        rw [List.getElem?_set, List.getElem?_set]
        simp only [if_true]
        by_cases hl : b < S.bs.length
        · have : b < S2.bs.length := by
            rw [List.getElem?_eq_getElem hl] at h'
            exact (List.getElem?_eq_some_iff.1 h').1
          rw [if_pos hl, if_pos this]
        · have : ¬ b < S2.bs.length := fun hl2 => hl (by
            rw [List.getElem?_eq_getElem hl2] at h'
            exact (List.getElem?_eq_some_iff.1 h'.symm).1)
          rw [if_neg hl, if_neg this]
      | c n off len =>
        have hn : b = n := Nat.eq_of_beq_eq_true hov
        subst hn
        have h' : cellsAt S2 b off len = cellsAt S b off len := h
        have hlt : b < S2.bs.length ↔ b < S.bs.length := by
          have e1 : (cellsAt S2 b off len).isSome = (S2.bs[b]?).isSome := by unfold cellsAt; simp
          have e2 : (cellsAt S b off len).isSome = (S.bs[b]?).isSome := by unfold cellsAt; simp
          rw [h', e2] at e1
          rw [Bool.eq_iff_iff] at e1
          simpa using e1.symm
        show cellsAt _ _ _ _ = cellsAt _ _ _ _
        unfold cellsAt
        show ((S2.bs.set b (some c))[b]?).map _ = ((S.bs.set b (some c))[b]?).map _
        rw [List.getElem?_set, List.getElem?_set]
        simp only [if_true]
        by_cases hl : b < S.bs.length
        · rw [if_pos hl, if_pos (hlt.2 hl)]
        · rw [if_neg hl, if_neg (fun h => hl (hlt.1 h))]
      | t n => cases hov
      | tl => cases hov
      | all => have h' : S2 = S := h; subst h'; exact .refl _ _
    | spl b off ps => cases T with
      | b n =>
        have hn : b = n := Nat.eq_of_beq_eq_true hov
        subst hn
        have h' : S2.bs[b]? = S.bs[b]? := h
        show ((Ef.spl b off ps).app S2).bs[b]? = ((Ef.spl b off ps).app S).bs[b]?
        simp only [Ef.app, h']
        cases hb : S.bs[b]? with
        | none => simp only []; rw [h', hb]
        | some o =>
          cases o with
          | none => simp only []; rw [h', hb]
          | some cs =>
            simp only []
            cases Nat.ble (off + ps.length) cs.length with
            | false => simp only [cond_false]; rw [h', hb]
            | true =>
              simp only [cond_true]
              rw [List.getElem?_set_self (List.getElem?_eq_some_iff.1 hb).1, List.getElem?_set_self (List.getElem?_eq_some_iff.1 (h'.trans hb)).1]
      | c n o l =>
        have hn : b = n := by
          simp only [Ef.rs, overlap, Bool.and_eq_true] at hov
          exact Nat.eq_of_beq_eq_true hov.1
        subst hn
        have h' : cellsAt S2 b o l = cellsAt S b o l := h
        show cellsAt ((Ef.spl b off ps).app S2) b o l = cellsAt ((Ef.spl b off ps).app S) b o l
        cases hb : S.bs[b]? with
        | none =>
          have hb2 : S2.bs[b]? = none := by
            cases hx : S2.bs[b]? with
            | none => rfl
            | some y => unfold cellsAt at h'; rw [hb, hx] at h'; cases h'
          simp only [Ef.app, hb, hb2]; exact h'
        | some oo =>
          cases oo with
          | none =>
            have hb2 : S2.bs[b]? = some none := by
              cases hx : S2.bs[b]? with
              | none => unfold cellsAt at h'; rw [hb, hx] at h'; cases h'
              | some y => cases y with
                | none => rfl
                | some z => unfold cellsAt at h'; rw [hb, hx] at h'; simp at h'
            simp only [Ef.app, hb, hb2]; exact h'
          | some cs =>
            obtain ⟨cs2, hb2, e1, e2⟩ := Agree.cells (S := S) (S2 := S2) h hb
            simp only [Ef.app, hb, hb2, e1]
            cases hl : Nat.ble (off + ps.length) cs.length with
            | false => simp only [cond_false]; exact h'
            | true =>
              simp only [cond_true]
              have hle := Nat.le_of_ble_eq_true hl
              have k1 : (⟨S2.bs.set b (some (splice cs2 off ps)), S2.ts⟩ : Sx).bs[b]? = some (some (splice cs2 off ps)) := by
                show (S2.bs.set b _)[b]? = _
                rw [List.getElem?_set_self (List.getElem?_eq_some_iff.1 hb2).1]
              have k2 : (⟨S.bs.set b (some (splice cs off ps)), S.ts⟩ : Sx).bs[b]? = some (some (splice cs off ps)) := by
                show (S.bs.set b _)[b]? = _
                rw [List.getElem?_set_self (List.getElem?_eq_some_iff.1 hb).1]
              rw [cellsAt_of k1, cellsAt_of k2, splice_len hle, splice_len (by omega), e1]
              congr 3
              apply List.ext_getElem?
              intro i
              have e3 : ((cs2.drop o).take l)[i]? = ((cs.drop o).take l)[i]? := by rw [e2]
              rw [List.getElem?_take, List.getElem?_take] at e3 ⊢
              split
              · rename_i hi
                rw [if_pos hi, if_pos hi] at e3
                rw [List.getElem?_drop, List.getElem?_drop] at e3 ⊢
                rw [splice_get hle, splice_get (by omega), e3]
              · rfl
      | t n => cases hov
      | tl => cases hov
      | all => have h' : S2 = S := h; subst h'; exact .refl _ _
    | tag t m => cases T with
      | t n =>
        have hn : t = n := Nat.eq_of_beq_eq_true hov
        subst hn
        have h' : S2.ts[t]? = S.ts[t]? ∧ S2.ts.length = S.ts.length := h
        refine ⟨?_, by show (S2.ts.set t m).length = (S.ts.set t m).length; rw [List.length_set, List.length_set]; exact h'.2⟩
        show (S2.ts.set t m)[t]? = (S.ts.set t m)[t]?
        rw [List.getElem?_set, List.getElem?_set]
        simp only [if_true, h'.2]
      | tl => have h' : S2.ts = S.ts := h; show S2.ts.set t m = S.ts.set t m; rw [h']
      | all => have h' : S2 = S := h; subst h'; exact .refl _ _
      | b n => cases hov
      | c n o l => cases hov
    | ntag m => cases T with
      | t n =>
        have h' : S2.ts[n]? = S.ts[n]? ∧ S2.ts.length = S.ts.length := h
        refine ⟨?_, by show (S2.ts ++ [m]).length = (S.ts ++ [m]).length; simp [h'.2]⟩
        show (S2.ts ++ [m])[n]? = (S.ts ++ [m])[n]?
        rw [List.getElem?_append, List.getElem?_append, h'.2, h'.1]
      | tl => have h' : S2.ts = S.ts := h; show S2.ts ++ [m] = S.ts ++ [m]; rw [h']
      | all => have h' : S2 = S := h; subst h'; exact .refl _ _
      | b n => cases hov
      | c n o l => cases hov
/-- What does not touch the same may come in either order. -/
theorem app_comm {e f : Ef} (S : Sx) (h : overlap e.rs f.rs = false) : e.app (f.app S) = f.app (e.app S) := by
  cases e with
  | all _ => cases h
  | box b c => cases f with
    | all _ => cases h
    | box b' c' =>
      have hn : b ≠ b' := fun e => by subst e; simp [Ef.rs, overlap] at h
      simp only [Ef.app]
      rw [List.set_comm _ _ (fun e => hn e.symm)]
    | spl b' off ps =>
      have hn : b ≠ b' := fun e => by subst e; simp [Ef.rs, overlap] at h
      simp only [Ef.app]
      rw [List.getElem?_set_ne hn]
      split
      · rename_i cs hb
        cases hl : Nat.ble (off + ps.length) cs.length with
        | false => rfl
        | true => simp only [cond_true]; rw [List.set_comm _ _ (fun e => hn e.symm)]
      · rfl
    | tag t m => rfl
    | ntag m => rfl
  | ntag m => cases f with
    | all _ => cases h
    | tag t m => cases h
    | ntag m => cases h
    | box b c => rfl
    | spl b' off ps =>
      simp only [Ef.app]
      split
      · rename_i cs hb
        cases hl : Nat.ble (off + ps.length) cs.length with
        | false => rfl
        | true => rfl
      · rfl
  | tag t m => cases f with
    | all _ => cases h
    | ntag m => cases h
    | tag t' m' =>
      have hn : t ≠ t' := fun e => by subst e; simp [Ef.rs, overlap] at h
      simp only [Ef.app]
      rw [List.set_comm _ _ (fun e => hn e.symm)]
    | box b c => rfl
    | spl b' off ps =>
      simp only [Ef.app]
      split
      · rename_i cs hb
        cases hl : Nat.ble (off + ps.length) cs.length with
        | false => rfl
        | true => rfl
      · rfl
  | spl b off ps => cases f with
    | all _ => simp [Ef.rs, overlap] at h
    | box b' c =>
      have hn : b' ≠ b := fun e => by subst e; simp [Ef.rs, overlap] at h
      simp only [Ef.app]
      rw [List.getElem?_set_ne hn]
      split
      · rename_i cs hb
        cases hl : Nat.ble (off + ps.length) cs.length with
        | false => rfl
        | true => simp only [cond_true]; rw [List.set_comm _ _ hn]
      · rfl
    | tag t m =>
      simp only [Ef.app]
      split
      · rename_i cs hb
        cases hl : Nat.ble (off + ps.length) cs.length with
        | false => rfl
        | true => rfl
      · rfl
    | ntag m =>
      simp only [Ef.app]
      split
      · rename_i cs hb
        cases hl : Nat.ble (off + ps.length) cs.length with
        | false => rfl
        | true => rfl
      · rfl
    | spl b' off' ps' =>
      by_cases hn : b = b'
      · subst hn
        simp only [Ef.app]
        cases hb : S.bs[b]? with
        | none => simp only [hb]
        | some oo => cases oo with
          | none => simp only [hb]
          | some cs =>
            have hlt := (List.getElem?_eq_some_iff.1 hb).1
            simp only []
            cases hl : Nat.ble (off + ps.length) cs.length with
            | false =>
              cases hl' : Nat.ble (off' + ps'.length) cs.length with
              | false => simp only [cond_false, hb, hl, hl']
              | true =>
                have hle' := Nat.le_of_ble_eq_true hl'
                simp only [cond_false, cond_true, hb, List.getElem?_set_self hlt, splice_len hle', hl, hl']
            | true =>
              have hle := Nat.le_of_ble_eq_true hl
              cases hl' : Nat.ble (off' + ps'.length) cs.length with
              | false => simp only [cond_false, cond_true, hb, List.getElem?_set_self hlt, splice_len hle, hl, hl']
              | true =>
                have hle' := Nat.le_of_ble_eq_true hl'
                simp only [cond_true, List.getElem?_set_self hlt, splice_len hle, splice_len hle', hl, hl', List.set_set]
                congr 3
                apply List.ext_getElem?
                intro i
                rw [splice_get (by rw [splice_len hle']; exact hle), splice_get hle', splice_get (by rw [splice_len hle]; exact hle'), splice_get hle]
                simp only [Ef.rs, overlap, Nat.beq_refl, Bool.true_and, Bool.and_eq_false_iff] at h
                have hd : off' + ps'.length ≤ off ∨ off + ps.length ≤ off' := by
                  rcases h with h | h
                  · first | exact .inl (blt_no h) | exact .inr (blt_no h)
                  · first | exact .inl (blt_no h) | exact .inr (blt_no h)
                by_cases c1 : off ≤ i ∧ i < off + ps.length
                · rw [if_pos c1, if_neg (by omega), if_pos c1]
                · rw [if_neg c1]
                  by_cases c2 : off' ≤ i ∧ i < off' + ps'.length
                  · rw [if_pos c2, if_pos c2]
                  · rw [if_neg c2, if_neg c2, if_neg c1]
      · simp only [Ef.app]
        cases hb : S.bs[b]? with
        | none =>
          cases hb' : S.bs[b']? with
          | none => simp only [hb, hb']
          | some oo' => cases oo' with
            | none => simp only [hb, hb']
            | some cs' =>
              simp only []
              cases hl : Nat.ble (off' + ps'.length) cs'.length with
              | false => simp only [cond_false, hb, hl]
              | true => simp only [cond_true, List.getElem?_set_ne (fun e => hn e.symm), hb, hl]
        | some oo => cases oo with
          | none =>
            cases hb' : S.bs[b']? with
            | none => simp only [hb, hb']
            | some oo' => cases oo' with
              | none => simp only [hb, hb']
              | some cs' =>
                simp only []
                cases hl : Nat.ble (off' + ps'.length) cs'.length with
                | false => simp only [cond_false, hb, hl]
                | true => simp only [cond_true, List.getElem?_set_ne (fun e => hn e.symm), hb, hl]
          | some cs =>
            cases hb' : S.bs[b']? with
            | none =>
              simp only []
              cases hl : Nat.ble (off + ps.length) cs.length with
              | false => simp only [cond_false, hb, hb', hl]
              | true => simp only [cond_true, List.getElem?_set_ne hn, hb, hb', hl]
            | some oo' => cases oo' with
              | none =>
                simp only []
                cases hl : Nat.ble (off + ps.length) cs.length with
                | false => simp only [cond_false, hb, hb', hl]
                | true => simp only [cond_true, List.getElem?_set_ne hn, hb, hb', hl]
              | some cs' =>
                simp only []
                cases hl : Nat.ble (off + ps.length) cs.length with
                | false =>
                  cases hl' : Nat.ble (off' + ps'.length) cs'.length with
                  | false => simp only [cond_false, hb, hb', hl, hl']
                  | true => simp only [cond_false, cond_true, hb, hb', hl, hl', List.getElem?_set_ne (fun e => hn e.symm)]
                | true =>
                  cases hl' : Nat.ble (off' + ps'.length) cs'.length with
                  | false => simp only [cond_false, cond_true, hb, hb', hl, hl', List.getElem?_set_ne hn]
                  | true =>
                    simp only [cond_true, hb, hb', hl, hl', List.getElem?_set_ne hn, List.getElem?_set_ne (fun e => hn e.symm)]
                    rw [List.set_comm _ _ hn]

inductive Ro where
  | v (φ : List Prop) (p : PV)
  | r (φ : List Prop) (p : PV) (T : Rs)
  | e (φ : List Prop) (p : PV) (ef : Ef)
def AllP : List Prop → Prop
  | [] => True
  | φ :: l => φ ∧ AllP l
def RoOk (P : Program) (o : Oper) (ρ : Operand → PV) (S : Sx) : Ro → Prop
  | .v φ p => AllP φ → ∀ S, OpS P o ρ S S p
  | .r φ p T => AllP φ → ∀ S2, Agree S S2 T → OpS P o ρ S2 S2 p
  | .e φ p ef => AllP φ → ∀ S2, Agree S S2 ef.rs → OpS P o ρ S2 (ef.app S2) p

def isShift : BinOp → Bool
  | .shl | .shr => true
  | _ => false
def isCmp : BinOp → Bool
  | .eql | .neq | .lss | .leq | .gtr | .geq => true
  | _ => false
def cmpE : BinOp → Int → Int → Bool
  | .eql, m, n => decide (m = n)
  | .neq, m, n => !decide (m = n)
  | .lss, m, n => decide (m < n)
  | .leq, m, n => decide (m ≤ n)
  | .gtr, m, n => decide (n < m)
  | _, m, n => decide (n ≤ m)
def arE : BinOp → Int → Int → Int
  | .add, m, n => m + n
  | .sub, m, n => m - n
  | _, m, n => m * n
def isAr : BinOp → Bool
  | .add | .sub | .mul => true
  | _ => false
def rawE : BinOp → IntKind → Int → Int → Int
  | .add, k, m, n => k.wrap (m + n)
  | .sub, k, m, n => k.wrap (m - n)
  | _, k, m, n => k.wrap (m * n)

def binI (op : BinOp) (h : Hint) (k k' : IntKind) (m n : Int) : Option Ro :=
  match h with
  | .int r => bif isShift op then some (.v [ishift op k m n = some (.int k r)] (.d (.v (.int k r)))) else
      if k = k' then some (.v [ibin op k m n = some (.int k r)] (.d (.v (.int k r)))) else none
  | .raw => bif isAr op then (if k = k' then some (.v [] (.d (.v (.int k (rawE op k m n))))) else none) else none
  | _ => if k = k' then (bif isCmp op then some (.v [] (.d (.v (.bool (cmpE op m n)))))
      else bif isAr op then some (.v [ibin op k m n = some (.int k (arE op m n))] (.d (.v (.int k (arE op m n))))) else none) else none
def eqOp (op : BinOp) (b : Bool) : Option Ro :=
  match op with
  | .eql => some (.v [] (.d (.v (.bool b))))
  | .neq => some (.v [] (.d (.v (.bool (!b)))))
  | _ => none
def binE (E : Env) (op : BinOp) (T : Nat) (h : Hint) (px py : PV) : Option Ro :=
  match px, py with
  | .d (.v (.int k m)), .d (.v (.int k' n)) => binI op h k k' m n
  | .d (.v (.bool a)), .d (.v (.bool b)) =>
    match tget E.tab T with
    | some ⟨.bool, _, _, _, _, _⟩ => match op with
      | .eql => some (.v [] (.d (.v (.bool (a == b)))))
      | .neq => some (.v [] (.d (.v (.bool (a != b)))))
      | _ => none
    | _ => none
  | .d (.v (.string a)), .d (.v (.string b)) => eqOp op (a.toList == b.toList)
  | px, py => bif isAggP px && isAggP py && E.eqs.any (Nat.beq T) then
      (match tget E.tab T, px.cells, py.cells with
      | some e, some cs, some ds => bif aggT e.d then (match eqC E 6 T cs ds with
        | some b => eqOp op b
        | none => none) else none
      | _, _, _ => none)
    else match tget E.tab T with
      | some ⟨.pointer _, _, _, _, _, _⟩ => match nilEq px py with
        | some b => eqOp op b
        | none => none
      | _ => none

section
variable {P : Program} {E : Env} {o : Oper} {ρ : Operand → PV} {S : Sx}

theorem binI_ok {op : BinOp} {T T' : TypeId} {x y : Operand} {k k' : IntKind} {m n : Int} {h : Hint} {r : Ro} (ho : o.op = .binOp op T x y T') (hx : ρ x = .d (.v (.int k m))) (hy : ρ y = .d (.v (.int k' n)))
    (hr : binI op h k k' m n = some r) : RoOk P o ρ S r := by
  unfold binI at hr
  split at hr
  · rename_i r'
    cases hs : isShift op with
    | true =>
      rw [hs] at hr; simp only [cond_true, Option.some.injEq] at hr; subst hr
      exact fun hφ S => opS_shift ho hx hy hφ.1
    | false =>
      rw [hs] at hr; simp only [cond_false] at hr
      split at hr
      · rename_i hk; subst hk; simp only [Option.some.injEq] at hr; subst hr
        exact fun hφ S => opS_bin ho hx hy hφ.1
      · cases hr
  · cases ha : isAr op with
    | true =>
      rw [ha] at hr; simp only [cond_true] at hr
      split at hr
      · rename_i hk; subst hk; simp only [Option.some.injEq] at hr; subst hr
        exact fun _ S => opS_bin ho hx hy (by cases op <;> first | rfl | cases ha)
      · cases hr
    | false => rw [ha] at hr; cases hr
  · split at hr
    · rename_i hk; subst hk
      cases hc : isCmp op with
      | true =>
        rw [hc] at hr; simp only [cond_true, Option.some.injEq] at hr; subst hr
        exact fun _ S => opS_bin ho hx hy (by cases op <;> first | rfl | cases hc)
      | false =>
        rw [hc] at hr; simp only [cond_false] at hr
        cases ha : isAr op with
        | true =>
          rw [ha] at hr; simp only [cond_true, Option.some.injEq] at hr; subst hr
          exact fun hφ S => opS_bin ho hx hy hφ.1
        | false => rw [ha] at hr; cases hr
    · cases hr

theorem eqOp_ok {op : BinOp} {b : Bool} {r : Ro} (hr : eqOp op b = some r) (h : (op = .eql ∨ op = .neq) → ∀ S, OpS P o ρ S S (.d (.v (.bool (if op = .eql then b else !b))))) : RoOk P o ρ S r := by
  unfold eqOp at hr
  split at hr
  · simp only [Option.some.injEq] at hr; subst hr; exact fun _ S => h (.inl rfl) S
  · simp only [Option.some.injEq] at hr; subst hr; exact fun _ S => h (.inr rfl) S
  · cases hr
theorem binE_ok (hE : EnvOk P E) {op : BinOp} {T T' : TypeId} {x y : Operand} {h : Hint} {r : Ro} (ho : o.op = .binOp op T x y T') (hr : binE E op T h (ρ x) (ρ y) = some r) : RoOk P o ρ S r := by
  unfold binE at hr
  split at hr
  · rename_i hx hy; exact binI_ok ho hx hy hr
  · rename_i hx hy
    split at hr
    · rename_i ht
      have hu := (hE.tab _ _ ht).u
      split at hr
      · simp only [Option.some.injEq] at hr; subst hr
        exact fun _ S => o_eqb_eql ho hu hx hy rfl
      · simp only [Option.some.injEq] at hr; subst hr
        exact fun _ S => o_eqb_neq ho hu hx hy rfl
      · cases hr
    · cases hr
  · rename_i hx hy
    exact eqOp_ok hr (fun hop S => o_streq ho hx hy hop)
  · cases hc : (isAggP (ρ x) && isAggP (ρ y) && E.eqs.any (Nat.beq T)) with
    | true =>
      rw [hc] at hr; simp only [cond_true] at hr
      simp only [Bool.and_eq_true] at hc
      split at hr
      · rename_i e cs ds ht hcx hcy
        cases ha : aggT e.d with
        | false => rw [ha] at hr; cases hr
        | true =>
          rw [ha] at hr; simp only [cond_true] at hr
          split at hr
          · rename_i b hb
            exact eqOp_ok hr (fun hop S => opS_eqagg hE ho ht ha (hE.eqs T hc.2) hc.1.1 hc.1.2 hcx hcy hb (by decide) hop)
          · cases hr
      · cases hr
    | false =>
      rw [hc] at hr; simp only [cond_false] at hr
      split at hr
      · rename_i ht
        split at hr
        · rename_i b hb
          exact eqOp_ok hr (fun hop S => opS_eqptr hE ho ht rfl hb hop)
        · cases hr
      · cases hr

theorem OpS.le {p q : PV} {S' : Sx} (h : OpS P o ρ S S' p) (hq : PVle p q) : OpS P o ρ S S' q :=
  fun g w a next Q hI hv K => h g w a next Q hI hv (fun v g' w' h1 h2 h3 => K v g' w' (hq g' v h1) h2 h3)
theorem PVle.opt {b : Bool} {p : PV} (h : b = true) : PVle (.opt b p) p := fun g v hv => by
  cases hv with | opt _ _ _ h1 _ => exact h1 h

def unopt (c : Prop) : PV → List Prop × PV
  | .opt b p => ([c → b = true], p)
  | p => ([], p)
theorem unopt_le {c : Prop} {p : PV} (hc : c) (h : AllP (unopt c p).1) : PVle p (unopt c p).2 := by
  cases p <;> first | exact .rfl' | exact PVle.opt (h.1 hc)
theorem AllP_app : ∀ {l m : List Prop}, AllP (l ++ m) ↔ AllP l ∧ AllP m
  | [], m => by simp [AllP]
  | φ :: l, m => by simp only [List.cons_append, AllP, AllP_app (l := l), and_assoc]
def pickE (C : Prop) (h : Hint) (pc a b : PV) : Option Ro :=
  match (unopt C pc).2 with
  | .d (.v (.bool c)) =>
    match h with
    | .known true _ => some (.v ((unopt C pc).1 ++ ((c = true) :: (unopt True a).1)) (unopt True a).2)
    | .known false _ => some (.v ((unopt C pc).1 ++ ((c = false) :: (unopt True b).1)) (unopt True b).2)
    | _ => match (unopt (c = true) a).2, (unopt (c = false) b).2 with
      | .d (.v (.bool x)), .d (.v (.bool y)) => some (.v ((unopt C pc).1 ++ ((unopt (c = true) a).1 ++ (unopt (c = false) b).1)) (.d (.v (.bool (cond c x y)))))
      | .d (.v (.int k m)), .d (.v (.int k' n)) => if k = k' then some (.v ((unopt C pc).1 ++ ((unopt (c = true) a).1 ++ (unopt (c = false) b).1)) (.d (.v (.int k (cond c m n))))) else none
      | _, _ => none
  | _ => none
theorem pickE_ok {C : Prop} (hC : C) {h : Hint} {x y z : Operand} {r : Ro} (ho : o.op = .pick x y z) (hr : pickE C h (ρ x) (ρ y) (ρ z) = some r) : RoOk P o ρ S r := by
  have hpick : ∀ (S : Sx) (c : Bool), AllP (unopt C (ρ x)).1 → (unopt C (ρ x)).2 = .d (.v (.bool c)) → OpS P o ρ S S (if c then ρ y else ρ z) := by
    intro S c h0 hx
    have hle : PVle (ρ x) (.d (.v (.bool c))) := by have := unopt_le hC h0; rw [hx] at this; exact this
    refine .value fun g w a hI hv => ?_
    have e1 := hle g _ (hv x (by simp [ho, Op.operands]))
    have e2 := e1.d_v.1
    have hy := hv y (by simp [ho, Op.operands])
    have hz := hv z (by simp [ho, Op.operands])
    cases c with
    | true => exact ⟨a.eval y, by simp [execOp, ho, e2, asBool], by simpa using hy⟩
    | false => exact ⟨a.eval z, by simp [execOp, ho, e2, asBool], by simpa using hz⟩
  unfold pickE at hr
  split at hr
  · rename_i c hx
    split at hr
    · simp only [Option.some.injEq] at hr; subst hr
      intro hφ S
      obtain ⟨h0, rfl, h2⟩ := AllP_app.1 hφ
      exact (hpick S _ h0 hx).le (unopt_le trivial h2)
    · simp only [Option.some.injEq] at hr; subst hr
      intro hφ S
      obtain ⟨h0, rfl, h2⟩ := AllP_app.1 hφ
      exact (hpick S _ h0 hx).le (unopt_le trivial h2)
    · split at hr
      · rename_i x' y' e1 e2
        simp only [Option.some.injEq] at hr; subst hr
        intro hφ S
        obtain ⟨h0, hφ⟩ := AllP_app.1 hφ
        obtain ⟨h1, h2⟩ := AllP_app.1 hφ
        refine (hpick S c h0 hx).le ?_
        cases c with
        | true => have := unopt_le rfl h1; rw [e1] at this; exact this
        | false => have := unopt_le rfl h2; rw [e2] at this; exact this
      · rename_i k m k' n e1 e2
        split at hr
        · rename_i hk; subst hk
          simp only [Option.some.injEq] at hr; subst hr
          intro hφ S
          obtain ⟨h0, hφ⟩ := AllP_app.1 hφ
          obtain ⟨h1, h2⟩ := AllP_app.1 hφ
          refine (hpick S c h0 hx).le ?_
          cases c with
          | true => have := unopt_le rfl h1; rw [e1] at this; exact this
          | false => have := unopt_le rfl h2; rw [e2] at this; exact this
        · cases hr
      · cases hr
  · cases hr

def allocE (zs : List PV) (S : Sx) : Hint → Option Ro
  | .at p => match S.bs[p]? with
    | some none => some (.e [] (.ptr p 0) (.box p zs))
    | _ => none
  | _ => some (.e [] (.ptr S.bs.length 0) (.all ⟨S.bs ++ [some zs], S.ts⟩))
theorem alloc_ok (hE : EnvOk P E) {T : Nat} {e : TyE} {h : Hint} {r : Ro} (ho : o.op = .alloc T) (ht : tget E.tab T = some e) (hr : allocE e.zs S h = some r) : RoOk P o ρ S r := by
  have hk := hE.tab _ _ ht
  unfold allocE at hr
  split at hr
  · split at hr
    · rename_i hp
      simp only [Option.some.injEq] at hr; subst hr
      exact fun _ S2 ha => o_alloc_at _ ho hk.ti hk.zs (Eq.trans ha hp)
    · cases hr
  · simp only [Option.some.injEq] at hr; subst hr
    rintro _ S2 rfl
    exact o_alloc ho hk.ti hk.zs
theorem box_ok {T : Nat} {x : Operand} {ps : List PV} {h : Hint} {r : Ro} (ho : o.op = .box T x) (hx : (ρ x).cells = some ps) (hr : allocE ps S h = some r) : RoOk P o ρ S r := by
  unfold allocE at hr
  split at hr
  · split at hr
    · rename_i hp
      simp only [Option.some.injEq] at hr; subst hr
      exact fun _ S2 ha => o_box_at _ ho hx (Eq.trans ha hp)
    · cases hr
  · simp only [Option.some.injEq] at hr; subst hr
    rintro _ S2 rfl
    exact opS_box ho hx

def buildE (E : Env) (e : TyE) (ρ : Operand → PV) (ps : List (Nat × Operand)) : Option Ro :=
  match e.d with
  | .struct _ => match fillP ρ (fun i => e.pl.toArray[i]?) e.zs ps with
    | some cs => some (.v [] (.agg cs))
    | none => none
  | .array _ el => match tget E.tab el with
    | some e' => match fillP ρ (fun i => some (i * e'.size, e'.size)) e.zs ps with
      | some cs => some (.v [] (.agg cs))
      | none => none
    | none => none
  | _ => none
theorem build_ok (hE : EnvOk P E) {T : Nat} {e : TyE} {ps : Array (Nat × Operand)} {r : Ro} (ho : o.op = .build T ps) (ht : tget E.tab T = some e) (hr : buildE E e ρ ps.toList = some r) : RoOk P o ρ S r := by
  have hk := hE.tab _ _ ht
  unfold buildE at hr
  split at hr
  · rename_i fs hd
    split at hr
    · rename_i cs hf
      simp only [Option.some.injEq] at hr; subst hr
      exact fun _ S => o_build ho (by rw [hk.u, hd]) hk.ti hk.zs (hk.pl fs hd) hf
    · cases hr
  · rename_i n el hd
    split at hr
    · rename_i e' he'
      split at hr
      · rename_i cs hf
        simp only [Option.some.injEq] at hr; subst hr
        exact fun _ S => o_build_arr ho (by rw [hk.u, hd]) hk.ti hk.zs (hE.tab _ _ he').ti.size hf
      · cases hr
    · cases hr
  · cases hr

def bsE (E : Env) (e : TyE) (n : Nat) (ρ : Operand → PV) (ps : List (Nat × Operand)) : Option Ro :=
  match e.d with
  | .slice el => match tget E.tab el with
    | some e' => match elsOf ρ ps 0 with
      | some es => bif Nat.blt 0 e'.size && Nat.ble (n * e'.size) 16777216 && Nat.beq es.length n && es.all (fun e => e.length == e'.size) then some (.v [] (.d (.sl e'.size true es))) else none
      | none => none
    | none => none
  | _ => none
theorem bs_ok (hE : EnvOk P E) {T n : Nat} {e : TyE} {ps : Array (Nat × Operand)} {r : Ro} (ho : o.op = .buildSlice T n ps) (ht : tget E.tab T = some e) (hr : bsE E e n ρ ps.toList = some r) : RoOk P o ρ S r := by
  have hk := hE.tab _ _ ht
  unfold bsE at hr
  split at hr
  · rename_i el hd
    split at hr
    · rename_i e' he'
      split at hr
      · rename_i es hes
        cases hb : (Nat.blt 0 e'.size && Nat.ble (n * e'.size) 16777216 && Nat.beq es.length n && es.all (fun e => e.length == e'.size)) with
        | false => rw [hb] at hr; cases hr
        | true =>
          rw [hb] at hr; simp only [cond_true, Option.some.injEq] at hr; subst hr
          simp only [Bool.and_eq_true] at hb
          obtain ⟨⟨⟨h1, h2⟩, h3⟩, h4⟩ := hb
          exact fun _ S => o_buildSlice ho (by rw [hk.u, hd]) (hE.tab _ _ he').ti (by simpa using h1) (Nat.le_of_ble_eq_true h2) hes (Nat.eq_of_beq_eq_true h3) h4
      · cases hr
    · cases hr
  · cases hr
end
end Go.Pv
