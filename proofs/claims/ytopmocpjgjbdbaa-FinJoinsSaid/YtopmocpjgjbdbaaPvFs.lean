/- An own row that grew, and grows no more. -/
import Derived.Test.YtopmocpjgjbdbaaPvI
namespace Go.Pv
open Go.RowKit

/-- An own row grows no more. -/
def Gh.still (g : Gh) (b : Nat) : Gh := { g with gx := fun i => if i = b then none else g.gx i }
theorem V.still {g : Gh} {p : PV} {v : Value} (h : V g p v) (b : Nat) (ho : p.nob b = true) : V (g.still b) p v := by
  have hgx : ∀ (i : Nat) (o : Option Gr), (i != b) = true → g.gx i = o → (g.still b).gx i = o := fun i o hi e => by
    show (if i = b then none else g.gx i) = o
    rw [if_neg (fun hh => by subst hh; simp at hi)]; exact e
  induction h with
  | d x v h => exact .d x v h
  | agg cs vs hl h1 h ih => exact .agg cs vs hl h1 (fun i c x k1 k2 => ih i c x k1 k2 (nobL_get (by simpa only [PV.nob] using ho) i c k1))
  | tup cs vs hl h ih => exact .tup cs vs hl (fun i c x k1 k2 => ih i c x k1 k2 (nobL_get (by simpa only [PV.nob] using ho) i c k1))
  | app t sz es a cap T h hT hz hle he => exact .app t sz es a cap T h hT hz hle he
  | ptr i off blk h hg => exact .ptr i off blk h (hgx i _ (by simpa only [PV.nob] using ho) hg)
  | ms i off sz n cap a h hc hx hn => exact .ms i off sz n cap a (fun h0 => let ⟨blk, e1, e2, e3⟩ := h h0; ⟨blk, e1, e2, hgx i _ (by simpa only [PV.nob] using ho) e3⟩) hc hx hn
  | vec i sz n cap A G hG hz hle he hc hx hn => exact .vec i sz n cap A G (hgx i _ (by simpa only [PV.nob] using ho) hG) hz hle he hc hx hn
  | vp i N off blk G hG h0 hle he => exact .vp i N off blk G (hgx i _ (by simpa only [PV.nob] using ho) hG) h0 hle he
  | rp cs blk off f' h1 h2 => exact .rp cs blk off f' h1 h2
  | fp i j off blk h1 => exact .fp i j off blk h1
  | fs i j off sz n cap a h hc hx hn => exact .fs i j off sz n cap a h hc hx hn
  | fv i j sz n cap A b G hF hz hle he hc hx hn => exact .fv i j sz n cap A b G hF hz hle he hc hx hn
  | fq i j N off blk b G hF h0 hle he => exact .fq i j N off blk b G hF h0 hle he
  | fm i j blk h1 => exact .fm i j blk h1
  | fn f' fi ca fv cv hf' hc h1 h2 ih1 ih2 =>
    simp only [PV.nob, Bool.and_eq_true] at ho
    exact .fn f' fi ca fv cv hf' hc (fun i c x k1 k2 => ih1 i c x k1 k2 (nobL_get ho.1 i c k1)) (fun i c x k1 k2 => ih2 i c x k1 k2 (nobL_get ho.2 i c k1))
  | opt c p v h1 h2 ih =>
    refine .opt c p v (fun hc => ih hc ?_) h2
    simpa [PV.nob, hc] using ho
  | un => exact .un
  | junk v => exact .junk v
theorem Inv.still {g : Gh} {S : Sx} {w : World} (h : Inv g S w) {b : Nat} (hno : ∀ (i : Nat) (cs : List PV), S.bs[i]? = some (some cs) → PV.nobL b cs = true) : Inv (g.still b) S w := by
  refine ⟨h.hbx, h.htg, h.mem, h.one, fun i cs e hne hf => ?_, h.nob, h.bmem, h.blt, h.inj, fun i G e => ?_, h.tag, h.tbx, h.tinj, ?_⟩
  · obtain ⟨blk, cur, ty, j1, j2, j3, j4⟩ := h.box i cs e hne hf
    exact ⟨blk, cur, ty, j1, j2, j3, fun j c x e1 e2 => ⟨(j4 j c x e1 e2).1.still b (nobL_get (hno i cs e) j c e1), (j4 j c x e1 e2).2⟩⟩
  · change (if i = b then none else g.gx i) = some G at e
    split at e
    · cases e
    · exact h.gr i G e
  · refine h.fam.keepV (fun i j cs ds e hf hm k c x hk hv => ?_) rfl (fun i cs hf => Iff.rfl) (fun i cs e hf => ?_) (Nat.le_refl _) (fun i j F b' e1 e2 => ⟨rfl, (h.fam.out i j F b' e1 e2).2⟩)
    · have h1 := nobL_get (hno i cs e) (j + 1) _ hm
      exact hv.still b (nobL_get (by simpa only [PV.nob] using h1) k c hk)
    · obtain ⟨q1, q2⟩ := h.fam.bx i cs e hf
      exact ⟨q1, by show (if i = b then none else g.gx i) = none; split <;> first | rfl | exact q2⟩
theorem Ext.still {g0 g : Gh} {w0 w : World} (h : Ext g0 w0 g w) {b : Nat} (hb : Gl g0 b) : Ext g0 w0 (g.still b) w := by
  refine ⟨⟨h.le.mem, fun i k e1 e2 => ?_, fun i G e => ?_, h.le.tg, h.le.fx⟩, h.os, h.tape, h.output, h.size, h.frame, h.own, h.memx⟩
  · obtain ⟨q1, q2⟩ := h.le.bx i k e1 e2
    exact ⟨q1, by show (if i = b then none else g.gx i) = none; split <;> first | rfl | exact q2⟩
  · have hi := hb.lt e
    obtain ⟨G', q1, q2⟩ := h.le.gx i G e
    exact ⟨G', by show (if i = b then none else g.gx i) = some G'; rw [if_neg (by omega)]; exact q1, q2⟩
theorem V.stilled {g : Gh} {S : Sx} {w : World} (h : Inv g S w) {b sz m : Nat} {cs : List PV} (hb : S.bs[b]? = some (some cs)) (hl : cs.length = m * sz) (h0 : m ≠ 0) {v : Value} (hv : V g (.vec b sz m) v) : V (g.still b) (.ms b 0 sz m) v := by
  cases hv with
  | vec _ _ _ cap A G hG hz hle he hc hx hn =>
    obtain ⟨cs1, i1, i2, i3, _⟩ := h.gr b G hG
    rw [hb] at i1
    obtain rfl : cs = cs1 := by simpa using i1
    have hmm : m = G.m := by
      rw [hl, hz] at i2
      exact Nat.eq_of_mul_eq_mul_right (by omega) i2
    obtain ⟨blk, e1, rfl⟩ := (he hmm).2 (by omega)
    exact .ms b 0 sz m cap (some (blk, 0)) (fun _ => ⟨blk, rfl, e1, by show (if b = b then none else g.gx b) = none; rw [if_pos rfl]⟩) hc hx (fun h => by cases h)
/-- Of an own row a beginning alone is told. -/
theorem Inv.trunc {g : Gh} {S : Sx} {w : World} (h : Inv g S w) {b : Nat} {c' r : List PV} (hb : S.bs[b]? = some (some (c' ++ r))) (hc : c' ≠ []) (hg : g.gx b = none) (hf : isFam (c' ++ r) = false) : Inv g ⟨S.bs.set b (some c'), S.ts⟩ w := by
  have hf' : isFam c' = false := by
    cases c' with
    | nil => rfl
    | cons p q => cases p <;> first | rfl | (simp [isFam] at hf; done)
  have hlt := (List.getElem?_eq_some_iff.1 hb).1
  have hne : ∀ (i : Nat) (o : Option (List PV)), i ≠ b → ((S.bs.set b (some c'))[i]? = some o ↔ S.bs[i]? = some o) := fun i o hi => by
    rw [List.getElem?_set, if_neg (fun hh => hi hh.symm)]
  have hself : (S.bs.set b (some c'))[b]? = some (some c') := by rw [List.getElem?_set, if_pos rfl, if_pos hlt]
  refine ⟨by simp [h.hbx], h.htg, h.mem, h.one, fun i cs e hn hfm => ?_, fun i e => ?_, h.bmem, h.blt, h.inj, fun i G e => ?_, h.tag, h.tbx, h.tinj, ?_⟩
  · by_cases hi : i = b
    · subst hi
      change (S.bs.set i (some c'))[i]? = _ at e
      rw [hself] at e
      obtain rfl : c' = cs := by simpa using e
      obtain ⟨blk, cur, ty, j1, j2, j3, j4⟩ := h.box i _ hb (by simp [hc]) hf
      refine ⟨blk, cur, ty, j1, j2, by simp at j3; omega, fun j c x e1 e2 => j4 j c x ?_ e2⟩
      rw [List.getElem?_append_left (List.getElem?_eq_some_iff.1 e1).1]; exact e1
    · exact h.box i cs ((hne i _ hi).1 e) hn hfm
  · by_cases hi : i = b
    · subst hi
      change (S.bs.set i (some c'))[i]? = _ at e
      rw [hself] at e; cases e
    · exact h.nob i ((hne i _ hi).1 e)
  · have hi : i ≠ b := by rintro rfl; rw [hg] at e; cases e
    obtain ⟨cs, k1, k2⟩ := h.gr i G e
    exact ⟨cs, (hne i _ hi).2 k1, k2⟩
  · refine h.fam.keep (.refl g) rfl (fun i cs hfm => ?_) (fun i cs e hfm => h.fam.bx i cs e hfm) (Nat.le_refl _) (fun i j F b' e1 e2 => ⟨rfl, (h.fam.out i j F b' e1 e2).2⟩)
    by_cases hi : i = b
    · subst hi
      refine ⟨fun e => ?_, fun e => ?_⟩
      · change (S.bs.set i (some c'))[i]? = _ at e
        rw [hself] at e
        obtain rfl : c' = cs := by simpa using e
        rw [hf'] at hfm; cases hfm
      · rw [hb] at e
        obtain rfl : c' ++ r = cs := by simpa using e
        rw [hf] at hfm; cases hfm
    · exact hne i _ hi
/-- What is to be shown of the boxes. -/
def stB (b : Nat) : List (Option (List PV)) → List Prop
  | [] => []
  | none :: r => stB b r
  | some cs :: r => (PV.nobL b cs = true) :: stB b r
theorem stB_get {b : Nat} : ∀ {l : List (Option (List PV))}, AllQ (stB b l) → ∀ (i : Nat) (cs : List PV), l[i]? = some (some cs) → PV.nobL b cs = true
  | [], _, i, cs, h => by simp at h
  | none :: r, ha, i, cs, h => by
    cases i with
    | zero => simp at h
    | succ i => exact stB_get (l := r) ha i cs (by simpa using h)
  | some c :: r, ha, i, cs, h => by
    cases i with
    | zero => obtain rfl : c = cs := by simpa using h
              exact ha.1
    | succ i => exact stB_get (l := r) ha.2 i cs (by simpa using h)
end Go.Pv
