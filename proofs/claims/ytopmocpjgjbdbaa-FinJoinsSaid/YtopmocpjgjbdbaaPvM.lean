/- Operations that read, write and make memory, in the logic of pure values. -/
import Derived.Test.YtopmocpjgjbdbaaPvO
namespace Go.Pv
open Go.RowKit
section
variable {P : Program} {o : Oper} {ρ : Operand → PV} {S : Sx}

/-- The cells of a value. -/
def PV.cells : PV → Option (List PV)
  | .agg cs => some cs
  | .d (.agg cs) => some (cs.map .d)
  | .tup _ | .junk | .un | .opt _ _ => none
  | p => some [p]
theorem Vs_one {g : Gh} {p : PV} {v : Value} (h : V g p v) (h1 : v.oneCell' = true) : Vs g [p] v.cells.toList := by
  have e : v.cells = #[v] := by cases v <;> first | rfl | (cases h1)
  rw [e]
  refine ⟨rfl, fun j c x h2 h3 => ?_⟩
  cases j with
  | zero => simp at h2 h3; subst h2 h3; exact ⟨h, h1⟩
  | succ j => simp at h2
theorem V.cells {g : Gh} {p : PV} {v : Value} {ps : List PV} (h : V g p v) (hp : p.cells = some ps) : Vs g ps v.cells.toList := by
  cases p with
  | d x =>
    cases x with
    | v y => cases hp; obtain ⟨rfl, h1⟩ := h.d_v; exact Vs_one h h1
    | sl sz full es =>
      cases hp
      refine Vs_one h ?_
      cases h with | d _ _ h => cases h <;> rfl
    | agg cs =>
      cases hp
      cases h with
      | d _ _ h => cases h with
        | agg _ vs hl h1 h =>
          refine ⟨by simp [Value.cells, hl], fun j c x h2 h3 => ?_⟩
          simp only [List.getElem?_map, Option.map_eq_some_iff] at h2
          obtain ⟨c', h2, rfl⟩ := h2
          simp only [Value.cells] at h3
          exact ⟨.d _ _ (h j c' x h2 (by simpa using h3)), h1 x (List.mem_of_getElem? h3)⟩
  | agg cs =>
    cases hp
    cases h with
    | agg _ vs hl h1 h => exact ⟨by simp [Value.cells, hl], fun j c x h2 h3 => ⟨h j c x h2 (by simpa [Value.cells] using h3), h1 x (List.mem_of_getElem? h3)⟩⟩
  | tup _ => cases hp
  | opt _ _ => cases hp
  | junk => cases hp
  | un => cases hp
  | app _ _ _ => cases hp; refine Vs_one h ?_; cases h; rfl
  | ptr _ _ => cases hp; refine Vs_one h ?_; cases h; rfl
  | ms _ _ _ _ => cases hp; refine Vs_one h ?_; cases h; rfl
  | vec _ _ _ => cases hp; refine Vs_one h ?_; cases h; rfl
  | vp _ _ _ => cases hp; refine Vs_one h ?_; cases h; rfl
  | fp _ _ _ => cases hp; refine Vs_one h ?_; cases h; rfl
  | fs _ _ _ _ _ => cases hp; refine Vs_one h ?_; cases h; rfl
  | fv _ _ _ _ => cases hp; refine Vs_one h ?_; cases h; rfl
  | fq _ _ _ _ => cases hp; refine Vs_one h ?_; cases h; rfl
  | fm _ _ => cases hp; refine Vs_one h ?_; cases h; rfl
  | fh => cases hp; refine Vs_one h ?_; cases h
  | rp _ => cases hp; refine Vs_one h ?_; cases h; rfl
  | fn _ _ _ => cases hp; refine Vs_one h ?_; cases h; rfl

theorem opS_load_box {T : TypeId} {d : TypeDesc} {x : Operand} {b off : Nat} {cs : List PV} {p : PV} (ho : o.op = .load T x) (hT : P.underlying T = some d) (hd : aggT d = false) (hx : ρ x = .ptr b off)
    (hb : S.bs[b]? = some (some cs)) (hp : cs[off]? = some p) : OpS P o ρ S S p :=
  .value fun g w a hI hv => by
    have e1 := hv x (by simp [ho, Op.operands])
    rw [hx] at e1
    generalize hu : a.eval x = u at e1
    cases e1 with
    | ptr _ _ blk h =>
      have hne : cs ≠ [] := by rintro rfl; simp at hp
      obtain ⟨blk', cur, ty, h1, h2, h3, h4⟩ := hI.box b cs hb hne (hI.notFam hb h)
      rw [h] at h1
      obtain rfl : blk = blk' := by simpa using h1
      have hlt : off < cur.size := Nat.lt_of_lt_of_le (List.getElem?_eq_some_iff.1 hp).1 h3
      have hc : w.cell? ⟨blk, off, none⟩ = some cur[off] := by rw [cell_of_row w blk off cur ty _ h2]; simp [hlt]
      exact ⟨cur[off], by simp [execOp, ho, hu, Instr.loadAt, Instr.sureAddr, loadVar, run_isAgg hT, hd, hc], (h4 off p cur[off] hp (by simp [hlt])).1⟩

theorem opS_load_box_agg {T : TypeId} {d : TypeDesc} {x : Operand} {b off n : Nat} {cs : List PV} (ho : o.op = .load T x) (hT : P.underlying T = some d) (hd : aggT d = true) (hs : SizeIs P T n) (hx : ρ x = .ptr b off)
    (hb : S.bs[b]? = some (some cs)) (hn : off + n ≤ cs.length) (hne : cs ≠ []) : OpS P o ρ S S (.agg ((cs.drop off).take n)) :=
  .value fun g w a hI hv => by
    have e1 := hv x (by simp [ho, Op.operands])
    rw [hx] at e1
    generalize hu : a.eval x = u at e1
    cases e1 with
    | ptr _ _ blk h =>
      obtain ⟨blk', cur, ty, h1, h2, h3, h4⟩ := hI.box b cs hb hne (hI.notFam hb h)
      rw [h] at h1
      obtain rfl : blk = blk' := by simpa using h1
      have hl : (loadCells ⟨blk, off, none⟩ n).run P w = .ok ((cur.toList.drop off).take n).toArray w := by
        have := run_loadCells_list (P := P) w ⟨blk, off, none⟩ ((cur.toList.drop off).take n) (fun j v hj => by
          rw [Addr.add_lit, cell_of_row w blk _ cur ty _ h2]
          rw [List.getElem?_take] at hj
          split at hj
          · rw [List.getElem?_drop] at hj; simpa using hj
          · cases hj)
        have hlen : ((cur.toList.drop off).take n).length = n := by simp; omega
        rw [hlen] at this
        exact this
      have key : ∀ (i : Nat) (c : PV) (x : Value), ((cs.drop off).take n)[i]? = some c → ((cur.toList.drop off).take n)[i]? = some x → V g c x ∧ x.oneCell' = true := by
        intro i c x k1 k2
        rw [List.getElem?_take] at k1 k2
        split at k1
        · rename_i hi
          rw [if_pos hi] at k2
          rw [List.getElem?_drop] at k1 k2
          exact h4 _ c x k1 (by simpa using k2)
        · cases k1
      refine ⟨.agg ((cur.toList.drop off).take n).toArray, by simp [execOp, ho, hu, Instr.loadAt, Instr.sureAddr, loadVar, run_isAgg hT, hd, hs.run w, hl], .agg _ _ (by simp; omega) ?_ ?_⟩
      · intro v hm
        obtain ⟨j, hj, rfl⟩ := List.getElem_of_mem hm
        have hj' : j < ((cs.drop off).take n).length := by simp at hj ⊢; omega
        exact (key j _ _ (List.getElem?_eq_getElem hj') (List.getElem?_eq_getElem (by simpa using hj))).2
      · intro i c x k1 k2
        exact (key i c x k1 (by simpa using k2)).1

theorem opS_store {T : TypeId} {x y : Operand} {b off n : Nat} {cs ps : List PV} (ho : o.op = .store T x y) (hs : SizeIs P T n) (hx : ρ x = .ptr b off) (hy : (ρ y).cells = some ps) (hl : ps.length = n)
    (hb : S.bs[b]? = some (some cs)) (hn : off + n ≤ cs.length) (hne : cs ≠ []) : OpS P o ρ S ⟨S.bs.set b (some (splice cs off ps)), S.ts⟩ .junk := by
  intro g w a next Q hI hv K
  have e1 := hv x (by simp [ho, Op.operands])
  rw [hx] at e1
  have e2 := (hv y (by simp [ho, Op.operands])).cells hy
  generalize hu : a.eval x = u at e1
  cases e1 with
  | ptr _ _ blk h =>
    obtain ⟨cur, ty, h1, h2, h3, h4⟩ := hI.setbox (off := off) hb h e2 (by omega) hne
    unfold Oper.wp
    have hst := run_storeCells_at P blk off ty (a.eval y).cells.toList 0 cur w h1 (by simpa using h2) e2.one
    have hsz : (a.eval y).cells.size = n := by have := e2.1; simp at this; omega
    simp only [execOp, ho, hu, Instr.storeAt, Instr.sureAddr, pure_bind, storeVar, Sem.run_bind, hs.run w, Result.andThen_ok, hsz, ne_eq, not_true_eq_false, if_false]
    simp only [Nat.add_zero] at hst
    simp only [hst, Result.andThen_ok, Sem.run_pure]
    exact K _ g _ (.junk _) h3 h4

/-- Cells that are so in any memory. -/
def Zs (ps : List PV) (vs : List Value) : Prop := ∀ g, Vs g ps vs

theorem opS_alloc {T : TypeId} {i : TypeInfo} {z : Value} {zs : List PV} (ho : o.op = .alloc T) (hi : P.info? T = some i) (hz : i.zero = some z) (hzs : Zs zs z.cells.toList) :
    OpS P o ρ S ⟨S.bs ++ [some zs], S.ts⟩ (.ptr S.bs.length 0) := by
  intro g w a next Q hI hv K
  obtain ⟨h1, h2⟩ := hI.newbox (vs := z.cells) T (hzs g).b
  unfold Oper.wp
  simp only [execOp, ho, Instr.alloc, Sem.run_bind, zeroValue, typeInfo, run_program, Result.andThen_ok, hi, hz, Sem.run_pure, newVar, newRow, run_newObj]
  exact K _ { g with bx := g.bx ++ [some w.heap.size] } _ (.ptr _ _ _ (by rw [← hI.hbx]; simp) (hI.gx_new (Nat.le_refl _))) h1 h2

theorem opS_box {T : TypeId} {x : Operand} {ps : List PV} (ho : o.op = .box T x) (hx : (ρ x).cells = some ps) : OpS P o ρ S ⟨S.bs ++ [some ps], S.ts⟩ (.ptr S.bs.length 0) := by
  intro g w a next Q hI hv K
  obtain ⟨h1, h2⟩ := hI.newbox (vs := (a.eval x).cells) T ((hv x (by simp [ho, Op.operands])).cells hx).b
  unfold Oper.wp
  simp only [execOp, ho, Instr.box, Sem.run_bind, Result.andThen_ok, Sem.run_pure, newVar, newRow, run_newObj]
  exact K _ { g with bx := g.bx ++ [some w.heap.size] } _ (.ptr _ _ _ (by rw [← hI.hbx]; simp) (hI.gx_new (Nat.le_refl _))) h1 h2
end
end Go.Pv
