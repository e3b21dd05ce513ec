/- Script: what an entry more changes. -/
import Derived.Test.YtcbppmocgiamiaaSR
namespace Go.Proofs.Ytcbppmocgiamiaa
open Go.Pv
def gr (S L : Scr) : Nat → Int
  | 0 => (L.picks.length : Int) - (S.picks.length : Int)
  | i + 1 => gr S L i + ((L.progs.getD i default).length : Int) - ((S.progs.getD i default).length : Int)
/-- One is the other one, or has an entry more. -/
structure Ext1 (S L : Scr) : Prop where
  sc : L.sc = S.sc
  th : L.th = S.th
  im : L.im = S.im
  hp : L.hp = S.hp
  lg : L.progs.length = S.progs.length
  lp : S.picks.length ≤ L.picks.length
  pre : ∀ i, (L.progs.getD i default).take (S.progs.getD i default).length = S.progs.getD i default
  le : ∀ i, (S.progs.getD i default).length ≤ (L.progs.getD i default).length
  gr : ∀ i, 0 ≤ gr S L i ∧ gr S L i ≤ 1
theorem Ext1.refl (S : Scr) : Ext1 S S := by
  refine ⟨rfl, rfl, rfl, rfl, rfl, Nat.le_refl _, fun i => List.take_length, fun i => Nat.le_refl _, fun i => ?_⟩
  have : Go.Proofs.Ytcbppmocgiamiaa.gr S S i = 0 := by
    induction i with
    | zero => simp [Go.Proofs.Ytcbppmocgiamiaa.gr]
    | succ i ih => simp [Go.Proofs.Ytcbppmocgiamiaa.gr, ih]
  omega
theorem gr_set {S : Scr} {t : Nat} {c : Call} (ht : t < S.progs.length) (i : Nat) : gr S { S with progs := S.progs.set t (S.progs.getD t default ++ [c]) } i = if t < i then 1 else 0 := by
  induction i with
  | zero => simp [gr]
  | succ i ih =>
    rw [gr, ih]
    by_cases h : i = t
    · subst h
      have : (S.progs.set i (S.progs.getD i default ++ [c])).getD i default = S.progs.getD i default ++ [c] := by simp [List.getD, ht]
      rw [this, if_neg (by omega), if_pos (by omega)]; simp only [List.length_append, List.length_singleton]; omega
    · have : (S.progs.set t (S.progs.getD t default ++ [c])).getD i default = S.progs.getD i default := by
        simp only [List.getD]; rw [List.getElem?_set_ne (by omega)]
      rw [this]
      by_cases h2 : t < i
      · rw [if_pos h2, if_pos (by omega)]; omega
      · rw [if_neg h2, if_neg (by omega)]; omega
theorem ext_more {S : Scr} (e0 e1 e2 e3 e4 e5 e6 e7 : Int) (hg : 1 ≤ S.progs.length) : Ext1 S (more S e0 e1 e2 e3 e4 e5 e6 e7) := by
  unfold more
  split
  · split
    · have ht : (e1 % ((S.progs.length : Nat) : Int)).toNat < S.progs.length := by
        have := Int.emod_nonneg e1 (show ((S.progs.length : Nat) : Int) ≠ 0 by omega)
        have := Int.emod_lt_of_pos e1 (show (0 : Int) < ((S.progs.length : Nat) : Int) by omega)
        omega
      generalize (e1 % ((S.progs.length : Nat) : Int)).toNat = t at ht
      have hd : ∀ i, (S.progs.set t (S.progs.getD t [] ++ [callOf e2 e3 e4 e5 e6 e7])).getD i default = if i = t then S.progs.getD t default ++ [callOf e2 e3 e4 e5 e6 e7] else S.progs.getD i default := by
        intro i
        by_cases h : i = t
        · subst h; rw [if_pos rfl]; simp [List.getD, ht, default]
        · rw [if_neg h]; simp only [List.getD]; rw [List.getElem?_set_ne (by omega)]
      refine ⟨rfl, rfl, rfl, rfl, by simp, Nat.le_refl _, fun i => ?_, fun i => ?_, fun i => ?_⟩
      · show ((S.progs.set t _).getD i default).take _ = _
        rw [hd]
        split
        · rename_i h; subst h; exact List.take_left
        · exact List.take_length
      · show _ ≤ ((S.progs.set t _).getD i default).length
        rw [hd]
        split
        · rename_i h; subst h; rw [List.length_append]; omega
        · exact Nat.le_refl _
      · have := gr_set (c := callOf e2 e3 e4 e5 e6 e7) ht i
        have e : gr S { S with progs := S.progs.set t (S.progs.getD t [] ++ [callOf e2 e3 e4 e5 e6 e7]) } i = if t < i then 1 else 0 := this
        rw [e]; split <;> omega
    · exact .refl S
  · split
    · split
      · have h := Ext1.refl S
        refine ⟨rfl, rfl, rfl, rfl, rfl, h.lp, h.pre, h.le, fun i => ?_⟩
        have : gr S { S with fins := S.fins.set (e1 % 8).toNat (S.fins.getD (e1 % 8).toNat [] ++ [opOf e2 e4 e5]) } i = gr S S i := by
          induction i with
          | zero => rfl
          | succ i ih => rw [gr, ih]; rfl
        rw [this]; exact h.gr i
      · exact .refl S
    · split
      · have h := Ext1.refl S
        refine ⟨rfl, rfl, rfl, rfl, rfl, by simp, h.pre, h.le, fun i => ?_⟩
        have : gr S { S with picks := S.picks ++ [num e4 e5] } i = 1 := by
          induction i with
          | zero => simp [gr]; omega
          | succ i ih => rw [gr, ih]; simp only; omega
        omega
      · exact .refl S
theorem runs_short {l : List Int} (h : l.length ≤ 8) (S : Scr) (hg : 1 ≤ S.progs.length) : Ext1 S (runs l S) := by
  by_cases h8 : 8 ≤ l.length
  · rw [runs_step h8, runs_end (by rw [List.length_drop]; omega)]
    exact ext_more _ _ _ _ _ _ _ _ hg
  · rw [runs_end h8]; exact .refl S
end Go.Proofs.Ytcbppmocgiamiaa
