/- Families: members read and written. -/
import Derived.Test.YtopmocpjgjbdbaaPvS
namespace Go.Pv
open Go.RowKit

def FamAt (S : Sx) (i j : Nat) (ds : List PV) : Prop := ∃ cs, S.bs[i]? = some (some cs) ∧ isFam cs = true ∧ cs[j + 1]? = some (.agg ds)
theorem isFam_set {cs : List PV} {j : Nat} {p : PV} : isFam (cs.set (j + 1) p) = isFam cs := by
  cases cs with
  | nil => rfl
  | cons c r => rw [List.set_cons_succ]; cases c <;> rfl
theorem isFam_app {cs l : List PV} (h : isFam cs = true) : isFam (cs ++ l) = true := by
  cases cs with
  | nil => cases h
  | cons c r => cases c <;> first | exact h | rfl
theorem isFam_ne {cs : List PV} (h : isFam cs = true) : cs ≠ [] := by rintro rfl; cases h

/-- A member of cells, and its block. -/
structure MemB (g : Gh) (w : World) (i j : Nat) (ds : List PV) (blk : Nat) : Prop where
  fx : ∃ F, g.fx i j = some F ∧ F.blk = some blk ∧ F.kind ≠ .mp
  cells : ∃ cur ty, w.heap[blk]? = some (.cells cur ty (0, 0)) ∧ ds.length ≤ cur.size ∧ ∀ (k : Nat) (c : PV) (x : Value), ds[k]? = some c → cur[k]? = some x → V g c x ∧ x.oneCell' = true
section
variable {g : Gh} {S : Sx} {w : World} {i j : Nat} {ds : List PV}
theorem FamAt.member (hm : FamAt S i j ds) (hI : Inv g S w) : ∃ F, g.fx i j = some F ∧ Member g w F ds := by
  obtain ⟨cs, h1, h2, h3⟩ := hm
  obtain ⟨F, ds', k1, k2, k3⟩ := hI.fam.mem i j cs _ h1 h2 h3
  cases k2
  exact ⟨F, k1, k3⟩
theorem V.fp_mem {off : Nat} {v : Value} (hI : Inv g S w) (hv : V g (.fp i j off) v) (hm : FamAt S i j ds) (hne : ds ≠ []) : ∃ blk, v = .pointer (some ⟨blk, off, none⟩) ∧ MemB g w i j ds blk := by
  cases hv with
  | fp _ _ _ blk h =>
    obtain ⟨F, k1, k2⟩ := hm.member hI
    rw [h] at k1
    obtain rfl := Option.some.inj k1
    obtain ⟨b, cur, ty, e1, e2, e3, e4⟩ := k2 hne
    obtain rfl : blk = b := by simpa using e1
    exact ⟨blk, rfl, ⟨_, h, rfl, by intro e; cases e⟩, cur, ty, e2, e3, e4⟩
theorem MemB.of_gr {G : Gr} {b : Option Nat} (hI : Inv g S w) (hF : g.fx i j = some ⟨b, .gr G⟩) (hm : FamAt S i j ds) (hne : ds ≠ []) : ∃ blk, b = some blk ∧ MemB g w i j ds blk ∧ ds.length = G.m * G.sz := by
  obtain ⟨F, k1, k2⟩ := hm.member hI
  rw [hF] at k1
  obtain rfl := Option.some.inj k1
  obtain ⟨e1, e2, e3, e4, e5⟩ := k2
  have h0 : 0 < G.m := by
    rcases Nat.eq_zero_or_pos G.m with h | h
    · rw [h] at e1; simp at e1; exact absurd e1 hne
    · exact h
  obtain ⟨blk, cur, ty, q1, q2, q3, q4⟩ := e5 (by omega)
  have hle : G.m * G.sz ≤ G.cap * G.sz := Nat.mul_le_mul_right _ e3
  exact ⟨blk, q1, ⟨⟨_, hF, q1, by intro e; cases e⟩, cur, ty, q2, by omega, q4⟩, e1⟩
theorem V.fq_mem {N off : Nat} {v : Value} (hI : Inv g S w) (hv : V g (.fq i j N off) v) (hm : FamAt S i j ds) (hN : ds.length = N) (hne : ds ≠ []) : ∃ blk, v = .pointer (some ⟨blk, off, none⟩) ∧ MemB g w i j ds blk := by
  cases hv with
  | fq _ _ _ _ blk b G hF h0 hle he =>
    obtain ⟨blk', k1, k2, k3⟩ := MemB.of_gr hI hF hm hne
    obtain rfl : blk = blk' := by rw [he (by omega)] at k1; simpa using k1
    exact ⟨blk, rfl, k2⟩
/-- A member written. -/
theorem Inv.setfam (h : Inv g S w) {cs ps : List PV} {vs : List Value} {off blk : Nat} (hb : S.bs[i]? = some (some cs)) (hf : isFam cs = true) (hm : cs[j + 1]? = some (.agg ds)) (hk : MemB g w i j ds blk)
    (hv : Vs g ps vs) (ho : off + ps.length ≤ ds.length) :
    ∃ cur ty, w.heap[blk]? = some (.cells cur ty (0, 0)) ∧ off + vs.length ≤ cur.size ∧
      Inv g ⟨S.bs.set i (some (cs.set (j + 1) (.agg (splice ds off ps)))), S.ts⟩ (w.setRow blk (cur.toList.take off ++ vs ++ cur.toList.drop (off + vs.length)).toArray) ∧
      Ext g w g (w.setRow blk (cur.toList.take off ++ vs ++ cur.toList.drop (off + vs.length)).toArray) := by
  obtain ⟨⟨F0, f1, f2, f3⟩, cur, ty, h2, h3, h4⟩ := hk
  have hcs : Vb g ds cur.toList := ⟨by simpa using h3, fun j c x e1 e2 => h4 j c x e1 (by simpa using e2)⟩
  have hsp := hcs.splice hv off ho
  have hlt : i < S.bs.length := (List.getElem?_eq_some_iff.1 hb).1
  have hltj : j + 1 < cs.length := (List.getElem?_eq_some_iff.1 hm).1
  obtain ⟨o1, o2, o3, o4⟩ := h.fam.out i j F0 blk f1 f2
  obtain ⟨W, hW⟩ : ∃ W, W = w.setRow blk (cur.toList.take off ++ vs ++ cur.toList.drop (off + vs.length)).toArray := ⟨_, rfl⟩
  have hoth : ∀ k, k ≠ blk → W.heap[k]? = w.heap[k]? := fun k hne => by rw [hW]; exact setRow_other w blk k _ hne
  have hnew : W.heap[blk]? = some (.cells (cur.toList.take off ++ vs ++ cur.toList.drop (off + vs.length)).toArray ty (0, 0)) := by rw [hW]; exact setRow_heap w blk cur _ ty _ h2
  have hsize : W.heap.size = w.heap.size := by rw [hW, size_setRow]
  have hcz : (cur.toList.take off ++ vs ++ cur.toList.drop (off + vs.length)).toArray.size = cur.size := by have := hv.1; simp; omega
  refine ⟨cur, ty, h2, by have := hv.1; omega, ?_, ?_⟩
  · rw [← hW]
    refine ⟨by simp [h.hbx], h.htg, ?_, h.one, ?_, ?_, h.bmem, ?_, h.inj, ?_, ?_, ?_, h.tinj, ?_⟩
    · intro k o x e
      have hne : k ≠ blk := fun hh => by subst hh; rw [o2 o] at e; cases e
      rw [World.cell?_of_block (w := w) (hoth k hne)]
      exact h.mem k o x e
    · intro i' cs' e hne' hf'
      rw [List.getElem?_set] at e
      by_cases hib : i = i'
      · subst hib
        simp only [if_true, hlt] at e
        obtain rfl := Option.some.inj (Option.some.inj e)
        rw [isFam_set, hf] at hf'; cases hf'
      · rw [if_neg hib] at e
        obtain ⟨blk', cur', ty', k1, k2, k3⟩ := h.box i' cs' e hne' hf'
        refine ⟨blk', cur', ty', k1, ?_, k3⟩
        rw [hoth blk' (fun hh => o3 i' (hh ▸ k1))]
        exact k2
    · intro i' e
      rw [List.getElem?_set] at e
      by_cases hib : i = i'
      · subst hib; simp [hlt] at e
      · rw [if_neg hib] at e; exact h.nob i' e
    · intro i' k e; rw [hsize]; exact h.blt i' k e
    · intro i' G e
      obtain ⟨cs', k1, k2, k3, k4, k5, k6⟩ := h.gr i' G e
      have hib : i ≠ i' := by rintro rfl; rw [(h.fam.bx i cs hb hf).2] at e; cases e
      refine ⟨cs', by show (S.bs.set i _)[i']? = _; rw [List.getElem?_set, if_neg hib]; exact k1, k2, k3, k4, k5, fun hc => ?_⟩
      obtain ⟨blk', cur', ty', j1, j2, j3⟩ := k6 hc
      refine ⟨blk', cur', ty', j1, ?_, j3⟩
      rw [hoth blk' (fun hh => o3 i' (hh ▸ j1))]
      exact j2
    · intro t m e
      obtain ⟨T, k1, k2, k3, k4, k5⟩ := h.tag t m e
      refine ⟨T, k1, k2, k3, k4, fun hlt => ?_⟩
      obtain ⟨blk', cur', ty', j1, j2, j3⟩ := k5 hlt
      refine ⟨blk', cur', ty', j1, ?_, j3⟩
      rw [hoth blk' (fun hh => by subst hh; exact o4 t T k1 j1 hlt)]
      exact j2
    · intro t T k e1 e2 e3; rw [hsize]; exact h.tbx t T k e1 e2 e3
    · refine ⟨fun i' cs' e hf' => ?_, fun i' j' cs' m e hf' hm' => ?_, fun i' j' F e => ?_, fun i' j' F b e hb' => ?_, h.fam.inj⟩
      · rw [List.getElem?_set] at e
        by_cases hib : i = i'
        · subst hib; exact h.fam.bx i cs hb hf
        · rw [if_neg hib] at e; exact h.fam.bx i' cs' e hf'
      · have hother : ∀ (F : Fx) (ds' : List PV), g.fx i' j' = some F → Member g w F ds' → ¬ (i' = i ∧ j' = j) → Member g W F ds' := fun F ds' e1 e2 hne =>
          e2.map (fun _ _ _ _ hv => hv) (fun b hb' => hoth b (fun hh => hne (by subst hh; exact h.fam.inj i' j' i j F F0 b e1 f1 hb' f2)))
        rw [List.getElem?_set] at e
        by_cases hib : i = i'
        · subst hib
          simp only [if_true, hlt] at e
          obtain rfl := Option.some.inj (Option.some.inj e)
          rw [List.getElem?_set] at hm'
          by_cases hjj : j + 1 = j' + 1
          · obtain rfl : j = j' := by omega
            rw [if_pos rfl, if_pos hltj] at hm'
            obtain rfl := Option.some.inj hm'
            refine ⟨F0, _, f1, rfl, ?_⟩
            obtain ⟨F, ds', k1, k2, k3⟩ := h.fam.mem i j cs _ hb hf hm
            rw [f1] at k1
            obtain rfl := Option.some.inj k1
            cases k2
            have hcell : ∀ (k : Nat) (c : PV) (x : Value), (splice ds off ps)[k]? = some c → (cur.toList.take off ++ vs ++ cur.toList.drop (off + vs.length)).toArray[k]? = some x → V g c x ∧ x.oneCell' = true := fun k c x e1 e2 => hsp.2 k c x e1 (by simpa using e2)
            have hsl : (splice ds off ps).length = ds.length := by rw [splice_eq _ _ _ ho]; simp; omega
            unfold Member at k3 ⊢
            split at k3
            · exact fun _ => ⟨blk, _, ty, f2, hnew, by rw [hsl, hcz]; exact h3, hcell⟩
            · rename_i G hG
              obtain ⟨q1, q2, q3, q4, q5⟩ := k3
              refine ⟨by rw [hsl]; exact q1, q2, q3, q4, fun hc => ?_⟩
              obtain ⟨b', cur', ty', r1, r2, r3, r4⟩ := q5 hc
              rw [f2] at r1
              obtain rfl := Option.some.inj r1
              rw [h2] at r2
              obtain rfl : cur = cur' := by simpa using congrArg (fun x => match x with | some (Obj.cells c _ _) => c | _ => #[]) r2
              exact ⟨blk, _, ty, f2, hnew, by rw [hcz]; exact r3, hcell⟩
            · rename_i hG; exact absurd hG f3
          · rw [if_neg hjj] at hm'
            obtain ⟨F, ds', k1, rfl, k3⟩ := h.fam.mem i j' cs m hb hf hm'
            exact ⟨F, ds', k1, rfl, hother F ds' k1 k3 (by omega)⟩
        · rw [if_neg hib] at e
          obtain ⟨F, ds', k1, rfl, k3⟩ := h.fam.mem i' j' cs' m e hf' hm'
          exact ⟨F, ds', k1, rfl, hother F ds' k1 k3 (by omega)⟩
      · obtain ⟨cs', k1, k2, k3⟩ := h.fam.dom i' j' F e
        by_cases hib : i = i'
        · subst hib
          rw [hb] at k1
          obtain rfl : cs = cs' := by simpa using k1
          exact ⟨_, List.getElem?_set_self hlt, by rw [isFam_set]; exact hf, by simpa using k3⟩
        · exact ⟨cs', by show (S.bs.set i _)[i']? = _; rw [List.getElem?_set, if_neg hib]; exact k1, k2, k3⟩
      · rw [hsize]; exact h.fam.out i' j' F b e hb'
  · rw [← hW]
    exact ⟨.refl g, by rw [hW]; rfl, by rw [hW]; rfl, by rw [hW]; rfl, by rw [hsize]; exact Nat.le_refl _, fun k _ hn => hoth k (fun hh => hn (.inr (.inr ⟨i, j, F0, f1, by rw [hh]; exact f2⟩))), fun _ hh => .inl hh, fun _ _ _ hh => .inl hh⟩
end

section
variable {P : Program} {o : Oper} {ρ : Operand → PV} {S : Sx}
/-- A value that points to a member's cells. -/
def PtsTo (p : PV) (i j off : Nat) (ds : List PV) : Prop := p = .fp i j off ∨ p = .fq i j ds.length off
theorem PtsTo.mem {g : Gh} {w : World} {p : PV} {i j off : Nat} {ds : List PV} {v : Value} (hp : PtsTo p i j off ds) (hI : Inv g S w) (hv : V g p v) (hm : FamAt S i j ds) (hne : ds ≠ []) : ∃ blk, v = .pointer (some ⟨blk, off, none⟩) ∧ MemB g w i j ds blk := by
  rcases hp with rfl | rfl
  · exact hv.fp_mem hI hm hne
  · exact hv.fq_mem hI hm rfl hne
theorem o_load_fam {T : TypeId} {d : TypeDesc} {x : Operand} {i j off : Nat} {ds : List PV} {p : PV} (ho : o.op = .load T x) (hT : P.underlying T = some d) (hd : aggT d = false) (hx : PtsTo (ρ x) i j off ds)
    (hm : FamAt S i j ds) (hp : ds[off]? = some p) : OpS P o ρ S S p :=
  .value fun g w a hI hv => by
    have e1 := hv x (by simp [ho, Op.operands])
    have hne : ds ≠ [] := by rintro rfl; simp at hp
    obtain ⟨blk, hu, _, cur, ty, h2, h3, h4⟩ := hx.mem hI e1 hm hne
    have hlt : off < cur.size := Nat.lt_of_lt_of_le (List.getElem?_eq_some_iff.1 hp).1 h3
    have hc : w.cell? ⟨blk, off, none⟩ = some cur[off] := by rw [cell_of_row w blk off cur ty _ h2]; simp [hlt]
    exact ⟨cur[off], by simp [execOp, ho, hu, Instr.loadAt, Instr.sureAddr, loadVar, run_isAgg hT, hd, hc], (h4 off p cur[off] hp (by simp [hlt])).1⟩
theorem o_load_fam_agg {T : TypeId} {d : TypeDesc} {x : Operand} {i j off n : Nat} {ds : List PV} (ho : o.op = .load T x) (hT : P.underlying T = some d) (hd : aggT d = true) (hs : SizeIs P T n) (hx : PtsTo (ρ x) i j off ds)
    (hm : FamAt S i j ds) (hn : off + n ≤ ds.length) (hne : ds ≠ []) : OpS P o ρ S S (.agg ((ds.drop off).take n)) :=
  .value fun g w a hI hv => by
    have e1 := hv x (by simp [ho, Op.operands])
    obtain ⟨blk, hu, _, cur, ty, h2, h3, h4⟩ := hx.mem hI e1 hm hne
    have hl : (loadCells ⟨blk, off, none⟩ n).run P w = .ok ((cur.toList.drop off).take n).toArray w := by
      have := run_loadCells_list (P := P) w ⟨blk, off, none⟩ ((cur.toList.drop off).take n) (fun j v hj => by
        rw [Addr.add_lit, cell_of_row w blk _ cur ty _ h2]
        rw [List.getElem?_take] at hj
        split at hj
        · rw [List.getElem?_drop] at hj; simpa using hj
        · cases hj)
      have hlen : ((cur.toList.drop off).take n).length = n := by simp; omega
      rw [hlen] at this
      exact this
    have key : ∀ (i : Nat) (c : PV) (x : Value), ((ds.drop off).take n)[i]? = some c → ((cur.toList.drop off).take n)[i]? = some x → V g c x ∧ x.oneCell' = true := by
      intro i c x k1 k2
      rw [List.getElem?_take] at k1 k2
      split at k1
      · rename_i hi
        rw [if_pos hi] at k2
        rw [List.getElem?_drop] at k1 k2
        exact h4 _ c x k1 (by simpa using k2)
      · cases k1
    refine ⟨.agg ((cur.toList.drop off).take n).toArray, by simp [execOp, ho, hu, Instr.loadAt, Instr.sureAddr, loadVar, run_isAgg hT, hd, hs.run w, hl], .agg _ _ (by simp; omega) ?_ ?_⟩
    · intro v hm
      obtain ⟨j, hj, rfl⟩ := List.getElem_of_mem hm
      have hj' : j < ((ds.drop off).take n).length := by simp at hj ⊢; omega
      exact (key j _ _ (List.getElem?_eq_getElem hj') (List.getElem?_eq_getElem (by simpa using hj))).2
    · intro i c x k1 k2
      exact (key i c x k1 (by simpa using k2)).1
theorem o_store_fam {T : TypeId} {x y : Operand} {i j off n : Nat} {cs ds ps : List PV} (ho : o.op = .store T x y) (hs : SizeIs P T n) (hx : PtsTo (ρ x) i j off ds) (hy : (ρ y).cells = some ps) (hl : ps.length = n)
    (hb : S.bs[i]? = some (some cs)) (hf : isFam cs = true) (hm : cs[j + 1]? = some (.agg ds)) (hn : off + n ≤ ds.length) (hne : ds ≠ []) : OpS P o ρ S ⟨S.bs.set i (some (cs.set (j + 1) (.agg (splice ds off ps)))), S.ts⟩ .junk := by
  intro g w a next Q hI hv K
  have e1 := hv x (by simp [ho, Op.operands])
  have e2 := (hv y (by simp [ho, Op.operands])).cells hy
  obtain ⟨blk, hu, hk⟩ := hx.mem hI e1 ⟨cs, hb, hf, hm⟩ hne
  obtain ⟨cur, ty, h1, h2, h3, h4⟩ := hI.setfam (off := off) hb hf hm hk e2 (by omega)
  unfold Oper.wp
  have hst := run_storeCells_at P blk off ty (a.eval y).cells.toList 0 cur w h1 (by simpa using h2) e2.one
  have hsz : (a.eval y).cells.size = n := by have := e2.1; simp at this; omega
  simp only [execOp, ho, hu, Instr.storeAt, Instr.sureAddr, pure_bind, storeVar, Sem.run_bind, hs.run w, Result.andThen_ok, hsz, ne_eq, not_true_eq_false, if_false]
  simp only [Nat.add_zero] at hst
  simp only [hst, Result.andThen_ok, Sem.run_pure]
  exact K _ g _ (.junk _) h3 h4
end
end Go.Pv
