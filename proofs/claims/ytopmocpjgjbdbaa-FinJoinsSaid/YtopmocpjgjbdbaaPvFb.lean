/- Families: members begun. -/
import Derived.Test.YtopmocpjgjbdbaaPvFa
namespace Go.Pv
open Go.RowKit

def Gh.addf (g : Gh) (i N : Nat) (F : Fx) : Gh := { g with fx := fun i' j' => if i' = i ∧ j' = N then some F else g.fx i' j' }
theorem addf_new {g : Gh} {i N : Nat} {F : Fx} : (g.addf i N F).fx i N = some F := by simp [Gh.addf]
theorem addf_old {g : Gh} {i N i' j' : Nat} {F F' : Fx} (h : g.fx i N = none) (e : g.fx i' j' = some F') : (g.addf i N F).fx i' j' = some F' := by
  show (if i' = i ∧ j' = N then some F else g.fx i' j') = _
  rw [if_neg]
  · exact e
  · rintro ⟨rfl, rfl⟩; rw [h] at e; cases e
theorem addf_inv {g : Gh} {i N i' j' : Nat} {F F' : Fx} (e : (g.addf i N F).fx i' j' = some F') : (i' = i ∧ j' = N ∧ F' = F) ∨ g.fx i' j' = some F' := by
  change (if i' = i ∧ j' = N then some F else g.fx i' j') = _ at e
  split at e
  · rename_i h; exact .inl ⟨h.1, h.2, (Option.some.inj e).symm⟩
  · exact .inr e
section
variable {g : Gh} {S : Sx} {w : World} {i N : Nat} {cs : List PV}
theorem Inv.nomem (h : Inv g S w) (hb : S.bs[i]? = some (some cs)) (hN : cs.length = N + 1) : g.fx i N = none := by
  cases e : g.fx i N with
  | none => rfl
  | some F =>
    obtain ⟨cs', k1, _, k3⟩ := h.fam.dom i N F e
    rw [hb] at k1
    obtain rfl : cs = cs' := by simpa using k1
    omega
theorem Inv.le_addf (h : Inv g S w) (hb : S.bs[i]? = some (some cs)) (hN : cs.length = N + 1) (F : Fx) : Le g (g.addf i N F) :=
  ⟨fun _ _ _ e => e, fun _ _ e e2 => ⟨e, e2⟩, fun _ G e => ⟨G, e, .inl ⟨rfl, rfl⟩⟩, fun _ T e => ⟨T, e, .inl rfl⟩, fun _ _ F' e => ⟨F', addf_old (h.nomem hb hN) e, .inl rfl⟩⟩
/-- A family has a member more. -/
theorem Inv.newmem (h : Inv g S w) {F : Fx} {ds : List PV} (hb : S.bs[i]? = some (some cs)) (hf : isFam cs = true) (hN : cs.length = N + 1) (hm : Member (g.addf i N F) w F ds)
    (hk : ∀ b, F.blk = some b → b < w.heap.size ∧ (∀ o, g.mem b o = none) ∧ (∀ i' : Nat, g.bx[i']? ≠ some (some b)) ∧ (∀ (t : Nat) (T : Tg), g.tg[t]? = some T → T.base = some (b, 0) → ¬ T.m < T.cap) ∧ ∀ i' j' F', g.fx i' j' = some F' → F'.blk ≠ some b) :
    Inv (g.addf i N F) ⟨S.bs.set i (some (cs ++ [.agg ds])), S.ts⟩ w := by
  have hlt : i < S.bs.length := (List.getElem?_eq_some_iff.1 hb).1
  have hle := h.le_addf hb hN F
  have hset : ∀ (i' : Nat) (x : Option (List PV)), (S.bs.set i (some (cs ++ [.agg ds])))[i']? = some x → (i' = i ∧ x = some (cs ++ [.agg ds])) ∨ (i' ≠ i ∧ S.bs[i']? = some x) := by
    intro i' x e
    rw [List.getElem?_set] at e
    by_cases hi : i = i'
    · subst hi; rw [if_pos rfl, if_pos hlt] at e; exact .inl ⟨rfl, (Option.some.inj e).symm⟩
    · rw [if_neg hi] at e; exact .inr ⟨fun hh => hi hh.symm, e⟩
  refine ⟨by show g.bx.length = _; simp [h.hbx], h.htg, h.mem, h.one, ?_, ?_, h.bmem, h.blt, h.inj, ?_, h.tag, h.tbx, h.tinj, ?_⟩
  · intro i' ds' e hne hf'
    rcases hset i' _ e with ⟨_, e⟩ | ⟨_, e⟩
    · cases e; rw [isFam_app hf] at hf'; cases hf'
    · obtain ⟨blk, cur, ty, k1, k2, k3, k4⟩ := h.box i' ds' e hne hf'
      exact ⟨blk, cur, ty, k1, k2, k3, fun j c x e1 e2 => ⟨(k4 j c x e1 e2).1.mono hle, (k4 j c x e1 e2).2⟩⟩
  · intro i' e
    rcases hset i' _ e with ⟨_, e⟩ | ⟨_, e⟩
    · cases e
    · exact h.nob i' e
  · intro i' G e
    obtain ⟨ds', k1, k2⟩ := h.gr i' G e
    have hi : i ≠ i' := by rintro rfl; have : g.gx i = some G := e; rw [(h.fam.bx i cs hb hf).2] at this; cases this
    exact ⟨ds', by show (S.bs.set i _)[i']? = _; rw [List.getElem?_set, if_neg hi]; exact k1, k2⟩
  · refine ⟨fun i' cs' e hf' => ?_, fun i' j' cs' m e hf' hm' => ?_, fun i' j' F' e => ?_, fun i' j' F' b e hb' => ?_, fun i1 j1 i2 j2 F1 F2 b e1 e2 hb1 hb2 => ?_⟩
    · rcases hset i' _ e with ⟨rfl, _⟩ | ⟨_, e⟩
      · exact h.fam.bx i' cs hb hf
      · exact h.fam.bx i' cs' e hf'
    · have hold : ∀ (cs' : List PV), S.bs[i']? = some (some cs') → isFam cs' = true → cs'[j' + 1]? = some m → ∃ F' ds', (g.addf i N F).fx i' j' = some F' ∧ m = .agg ds' ∧ Member (g.addf i N F) w F' ds' := by
        intro cs' e hf' hm'
        obtain ⟨F', ds', k1, k2, k3⟩ := h.fam.mem i' j' cs' m e hf' hm'
        exact ⟨F', ds', addf_old (h.nomem hb hN) k1, k2, k3.mono hle (fun _ _ => rfl)⟩
      rcases hset i' _ e with ⟨rfl, e9⟩ | ⟨_, e9⟩
      · obtain rfl := Option.some.inj e9
        by_cases hj : j' + 1 < cs.length
        · rw [List.getElem?_append_left hj] at hm'; exact hold cs hb hf hm'
        · rw [List.getElem?_append_right (by omega)] at hm'
          have : j' + 1 - cs.length < 1 := by have := (List.getElem?_eq_some_iff.1 hm').1; simpa using this
          obtain rfl : j' = N := by omega
          rw [show j' + 1 - cs.length = 0 by omega] at hm'
          simp at hm'
          exact ⟨F, ds, addf_new, hm'.symm, hm⟩
      · exact hold cs' e9 hf' hm'
    · rcases addf_inv e with ⟨rfl, rfl, rfl⟩ | e
      · exact ⟨_, List.getElem?_set_self hlt, isFam_app hf, by simp; omega⟩
      · obtain ⟨cs', k1, k2, k3⟩ := h.fam.dom i' j' F' e
        by_cases hi : i = i'
        · subst hi
          rw [hb] at k1
          obtain rfl : cs = cs' := by simpa using k1
          exact ⟨_, List.getElem?_set_self hlt, isFam_app hf, by simp; omega⟩
        · exact ⟨cs', by show (S.bs.set i _)[i']? = _; rw [List.getElem?_set, if_neg hi]; exact k1, k2, k3⟩
    · rcases addf_inv e with ⟨rfl, rfl, rfl⟩ | e
      · obtain ⟨k1, k2, k3, k4, _⟩ := hk b hb'; exact ⟨k1, k2, k3, k4⟩
      · exact h.fam.out i' j' F' b e hb'
    · rcases addf_inv e1 with ⟨q1, q2, q3⟩ | q1 <;> rcases addf_inv e2 with ⟨r1, r2, r3⟩ | r1
      · exact ⟨q1.trans r1.symm, q2.trans r2.symm⟩
      · exact absurd hb2 ((hk b (q3 ▸ hb1)).2.2.2.2 _ _ _ r1)
      · exact absurd hb1 ((hk b (r3 ▸ hb2)).2.2.2.2 _ _ _ q1)
      · exact h.fam.inj i1 j1 i2 j2 F1 F2 b q1 r1 hb1 hb2
theorem Inv.fresh_blk (h : Inv g S w) (o : Obj) : w.heap.size < (w.alloc o).heap.size ∧ (∀ p, g.mem w.heap.size p = none) ∧ (∀ i' : Nat, g.bx[i']? ≠ some (some w.heap.size)) ∧ (∀ (t : Nat) (T : Tg), g.tg[t]? = some T → T.base = some (w.heap.size, 0) → ¬ T.m < T.cap) ∧ ∀ i' j' F', g.fx i' j' = some F' → F'.blk ≠ some w.heap.size := by
  refine ⟨by simp, fun p => ?_, fun i' e => ?_, fun t T e1 e2 e3 => ?_, fun i' j' F' e1 e2 => ?_⟩
  · cases e : g.mem w.heap.size p with
    | none => rfl
    | some x => have := h.mem_lt e; omega
  · have := h.blt i' _ e; omega
  · have := (h.tbx t T _ e1 e2 e3).1; omega
  · have := (h.fam.out i' j' F' _ e1 e2).1; omega
/-- A new block that is a member. -/
theorem Inv.allocmem (h : Inv g S w) {k : Fk} {o : Obj} {ds : List PV} (hb : S.bs[i]? = some (some cs)) (hf : isFam cs = true) (hN : cs.length = N + 1) (hm : Member (g.addf i N ⟨some w.heap.size, k⟩) (w.alloc o) ⟨some w.heap.size, k⟩ ds) :
    Inv (g.addf i N ⟨some w.heap.size, k⟩) ⟨S.bs.set i (some (cs ++ [.agg ds])), S.ts⟩ (w.alloc o) ∧ Ext g w (g.addf i N ⟨some w.heap.size, k⟩) (w.alloc o) := by
  refine ⟨(h.alloc o).newmem hb hf hN hm (fun b e => ?_), h.le_addf hb hN _, rfl, rfl, rfl, by simp, fun k hk _ => Below.heap_alloc w o k hk, fun k hk => ?_, fun _ _ _ e => .inl e⟩
  · cases e; exact h.fresh_blk o
  · rcases hk with hk | hk | ⟨i', j', F', e1, e2⟩
    · exact .inl (.inl hk)
    · exact .inl (.inr (.inl hk))
    · rcases addf_inv e1 with ⟨_, _, rfl⟩ | e1
      · cases e2; exact .inr (Nat.le_refl _)
      · exact .inl (.inr (.inr ⟨i', j', F', e1, e2⟩))
theorem Member.pl_new {ty : TypeId} {vs : Array Value} {ds : List PV} {g' : Gh} (hv : Vb g' ds vs.toList) : Member g' (w.alloc (.cells vs ty)) ⟨some w.heap.size, .pl⟩ ds :=
  fun _ => ⟨w.heap.size, vs, ty, rfl, heap_alloc_new w _, by have := hv.1; simpa using this, fun j c x e1 e2 => hv.2 j c x e1 (by simpa using e2)⟩
theorem Vb.mono {g g' : Gh} {cs : List PV} {vs : List Value} (h : Vb g cs vs) (k : Le g g') : Vb g' cs vs := ⟨h.1, fun j c x e1 e2 => ⟨(h.2 j c x e1 e2).1.mono k, (h.2 j c x e1 e2).2⟩⟩
/-- A new family. -/
theorem Inv.newfam (h : Inv g S w) : Inv { g with bx := g.bx ++ [none] } ⟨S.bs ++ [some [PV.fh]], S.ts⟩ w ∧ Ext g w { g with bx := g.bx ++ [none] } w := by
  have hbl : ∀ i, i < S.bs.length → (g.bx ++ [none])[i]? = g.bx[i]? := fun i hi => List.getElem?_append_left (by rw [h.hbx]; exact hi)
  have hbx : ∀ (i k : Nat), (g.bx ++ [none])[i]? = some (some k) → g.bx[i]? = some (some k) := by
    intro i k e
    by_cases hi : i < g.bx.length
    · rw [List.getElem?_append_left hi] at e; exact e
    · rw [List.getElem?_append_right (by omega)] at e
      have : i - g.bx.length < 1 := by have := (List.getElem?_eq_some_iff.1 e).1; simpa using this
      rw [show i - g.bx.length = 0 by omega] at e
      simp at e
  have hle : Le g { g with bx := g.bx ++ [none] } := by
    refine ⟨fun _ _ _ e => e, fun i k e e2 => ⟨?_, e2⟩, fun i G e => ⟨G, e, .inl ⟨rfl, hbl i (h.gr_lt e)⟩⟩, fun _ T e => ⟨T, e, .inl rfl⟩, fun _ _ F e => ⟨F, e, .inl rfl⟩⟩
    have hi : i < S.bs.length := by rw [← h.hbx]; exact (List.getElem?_eq_some_iff.1 e).1
    exact (hbl i hi).trans e
  have hin : ∀ (i : Nat) (o : Option (List PV)), (S.bs ++ [some [PV.fh]])[i]? = some o → S.bs[i]? = some o ∨ (i = S.bs.length ∧ o = some [PV.fh]) := by
    intro i o e
    by_cases hi : i < S.bs.length
    · rw [List.getElem?_append_left hi] at e; exact .inl e
    · rw [List.getElem?_append_right (by omega)] at e
      have : i - S.bs.length < 1 := by have := (List.getElem?_eq_some_iff.1 e).1; simpa using this
      have hi0 : i = S.bs.length := by omega
      subst hi0
      simp at e; exact .inr ⟨rfl, e.symm⟩
  refine ⟨⟨by simp [h.hbx], h.htg, h.mem, h.one, ?_, ?_, ?_, ?_, ?_, ?_, h.tag, ?_, h.tinj, ?_⟩, hle, rfl, rfl, rfl, Nat.le_refl _, fun _ _ _ => rfl, ?_, fun _ _ _ e => .inl e⟩
  · intro i cs e hne hf
    rcases hin i _ e with e | ⟨_, e⟩
    · obtain ⟨blk, cur, ty, k1, k2, k3, k4⟩ := h.box i cs e hne hf
      exact ⟨blk, cur, ty, (hbl i (List.getElem?_eq_some_iff.1 e).1).trans k1, k2, k3, fun j c x e1 e2 => ⟨(k4 j c x e1 e2).1.mono hle, (k4 j c x e1 e2).2⟩⟩
    · cases e; cases hf
  · intro i e
    rcases hin i _ e with e | ⟨_, e⟩
    · exact (hbl i (List.getElem?_eq_some_iff.1 e).1).trans (h.nob i e)
    · cases e
  · exact fun i k e o => h.bmem i k (hbx i k e) o
  · exact fun i k e => h.blt i k (hbx i k e)
  · exact fun i j k e1 e2 => h.inj i j k (hbx i k e1) (hbx j k e2)
  · intro i G e
    have e : g.gx i = some G := e
    obtain ⟨cs, k1, k2, k3, k4, k5, k6⟩ := h.gr i G e
    have hl := h.gr_lt e
    refine ⟨cs, (List.getElem?_append_left hl).trans k1, k2, k3, k4, k5, fun hc => ?_⟩
    obtain ⟨blk, cur, ty, j1, j2⟩ := k6 hc
    exact ⟨blk, cur, ty, (hbl i hl).trans j1, j2⟩
  · intro t T k e1 e2 e3
    obtain ⟨hlt, hno⟩ := h.tbx t T k e1 e2 e3
    exact ⟨hlt, fun i e => hno i (hbx i k e)⟩
  · refine ⟨fun i cs e hf => ?_, fun i j cs m e hf hm => ?_, fun i j F e => ?_, fun i j F b e hb => ?_, h.fam.inj⟩
    · rcases hin i _ e with e | ⟨rfl, _⟩
      · obtain ⟨q1, q2⟩ := h.fam.bx i cs e hf
        exact ⟨(hbl i (List.getElem?_eq_some_iff.1 e).1).trans q1, q2⟩
      · exact ⟨by rw [← h.hbx]; simp, h.gx_new (Nat.le_refl _)⟩
    · rcases hin i _ e with e | ⟨rfl, e9⟩
      · obtain ⟨F, ds, k1, k2, k3⟩ := h.fam.mem i j cs m e hf hm
        exact ⟨F, ds, k1, k2, k3.mono hle (fun _ _ => rfl)⟩
      · obtain rfl := Option.some.inj e9; simp at hm
    · obtain ⟨cs, k1, k2⟩ := h.fam.dom i j F e
      exact ⟨cs, (List.getElem?_append_left (List.getElem?_eq_some_iff.1 k1).1).trans k1, k2⟩
    · obtain ⟨q1, q2, q3, q4⟩ := h.fam.out i j F b e hb
      exact ⟨q1, q2, fun i' e' => q3 i' (hbx i' b e'), q4⟩
  · intro k hk
    rcases hk with ⟨i, e⟩ | hk
    · exact .inl (.inl ⟨i, hbx i k e⟩)
    · exact .inl (.inr hk)
theorem Wk.newfam {g0 : Gh} {w0 : World} {st : St} : Wk g0 w0 st (st.to ⟨st.S.bs ++ [some [PV.fh]], st.S.ts⟩) := by
  rintro a w ⟨g, k1, k2, k3, k4, k5⟩
  obtain ⟨h1, h2⟩ := k1.newfam
  exact ⟨_, h1, k2.trans h2, k3, k4, fun i hi => (k5 i hi).mono h2.le⟩
end

/-- A slice that holds nothing, and has no room, becomes a growing member. -/
theorem Wk.vecf {g0 : Gh} {w0 : World} {st : St} {d sz i N : Nat} {cs : List PV} (hd : st.t d = .d (.sl sz true [])) (hn : d < st.n) (h0 : 0 < sz) (hb : st.S.bs[i]? = some (some cs)) (hf : isFam cs = true) (hN : cs.length = N + 1) :
    Wk g0 w0 st ((St.put st (some d) (.fv i N sz 0)).to ⟨st.S.bs.set i (some (cs ++ [.agg []])), st.S.ts⟩) := by
  rintro a w ⟨g, k1, k2, k3, k4, k5⟩
  have hle := k1.le_addf hb hN ⟨none, .gr ⟨0, 0, sz⟩⟩
  have h1 := k1.newmem (F := ⟨none, .gr ⟨0, 0, sz⟩⟩) (ds := []) hb hf hN ⟨by simp, h0, Nat.le_refl _, by simp [maxLen], fun h => absurd h (Nat.lt_irrefl _)⟩ (fun b e => by cases e)
  have hv := k5 d hn
  rw [hd] at hv
  have hv2 : V (g.addf i N ⟨none, .gr ⟨0, 0, sz⟩⟩) (.fv i N sz 0) (a.tmps.getD d undef) := by
    cases hv with
    | d _ _ h =>
      obtain ⟨a1, cap, vs, e, hz, hc, hff, hnn, hx, hl, hm, hvv⟩ := h.unslT
      rw [e]
      obtain rfl : cap = 0 := hff rfl
      exact .fv i N sz 0 0 (a1.map adr) none ⟨0, 0, sz⟩ addf_new rfl (Nat.le_refl _) (fun _ => ⟨rfl, fun h => absurd h (Nat.lt_irrefl _)⟩) (Nat.le_refl _) (by simp [maxLen]) (fun _ => rfl)
  refine ⟨_, h1, ⟨k2.le.trans hle, k2.os, k2.tape, k2.output, k2.size, k2.frame, fun k hk => ?_, k2.memx⟩, k3, k4, fun i' hi => ?_⟩
  · refine k2.own k ?_
    rcases hk with hk | hk | ⟨i', j', F', e1, e2⟩
    · exact .inl hk
    · exact .inr (.inl hk)
    · rcases addf_inv e1 with ⟨_, _, rfl⟩ | e1
      · cases e2
      · exact .inr (.inr ⟨i', j', F', e1, e2⟩)
  · by_cases hi2 : i' = d
    · subst hi2; simp only [St.put, St.to, if_true]; exact hv2
    · have : ((St.put st (some d) (.fv i N sz 0)).to ⟨st.S.bs.set i (some (cs ++ [.agg []])), st.S.ts⟩).t i' = st.t i' := by simp [St.put, St.to, hi2]
      rw [this]; exact (k5 i' hi).mono hle

section
variable {P : Program} {o : Oper} {ρ : Operand → PV} {S : Sx} {i N : Nat} {cs : List PV}
theorem o_alloc_mem {T : TypeId} {sz b : Nat} {z : Value} {zs : List PV} (ho : o.op = .alloc T) (hT : TI P T sz b z) (hz : Zs zs z.cells.toList) (hb : S.bs[i]? = some (some cs)) (hf : isFam cs = true) (hN : cs.length = N + 1) : OpS P o ρ S ⟨S.bs.set i (some (cs ++ [.agg zs])), S.ts⟩ (.fp i N 0) := by
  intro g w a next Q hI hv K
  obtain ⟨ti, h1, h2, _⟩ := hT
  obtain ⟨k1, k2⟩ := hI.allocmem (k := .pl) (o := .cells z.cells T) (ds := zs) hb hf hN (Member.pl_new (hz _).b)
  unfold Oper.wp
  simp only [execOp, ho, Instr.alloc, Sem.run_bind, zeroValue, typeInfo, run_program, Result.andThen_ok, h1, h2, Sem.run_pure, newVar, newRow, run_newObj]
  exact K _ _ _ (.fp _ _ _ w.heap.size addf_new) k1 k2
theorem o_box_mem {T : TypeId} {x : Operand} {ps : List PV} (ho : o.op = .box T x) (hx : (ρ x).cells = some ps) (hb : S.bs[i]? = some (some cs)) (hf : isFam cs = true) (hN : cs.length = N + 1) : OpS P o ρ S ⟨S.bs.set i (some (cs ++ [.agg ps])), S.ts⟩ (.fp i N 0) := by
  intro g w a next Q hI hv K
  have e2 := (hv x (by simp [ho, Op.operands])).cells hx
  obtain ⟨k1, k2⟩ := hI.allocmem (k := .pl) (o := .cells (a.eval x).cells T) (ds := ps) hb hf hN (Member.pl_new ((e2.b).mono (hI.le_addf hb hN _)))
  unfold Oper.wp
  simp only [execOp, ho, Instr.box, Sem.run_bind, Result.andThen_ok, Sem.run_pure, newVar, newRow, run_newObj]
  exact K _ _ _ (.fp _ _ _ w.heap.size addf_new) k1 k2
theorem o_mk_mem {T E : TypeId} {sz b n : Nat} {z : Value} {zs : List PV} {x y : Operand} {k k' : IntKind} (ho : o.op = .makeSlice T x y) (hT : P.underlying T = some (.slice E)) (hE : TI P E sz b z) (h0 : 0 < sz) (hz : Zs zs z.cells.toList)
    (hx : ρ x = .d (.v (.int k ((n : Nat) : Int)))) (hy : ρ y = .d (.v (.int k' ((n : Nat) : Int)))) (hbb : n * b ≤ 281474976710656) (hm : n ≤ 9223372036854775807) (hb : S.bs[i]? = some (some cs)) (hf : isFam cs = true) (hN : cs.length = N + 1) :
    OpS P o ρ S ⟨S.bs.set i (some (cs ++ [.agg (reps n zs)])), S.ts⟩ (.fs i N 0 sz n) := by
  intro g w a next Q hI hv K
  have hr := o_mk_core (w := w) ho hT hE hv hx hy hbb hm
  obtain ⟨ti, t1, t2, t3, t4, t5, t6⟩ := hE
  subst t3 t4
  have hzl : zs.length = z.cells.size := by have := (hz g).1; simpa using this
  rw [← t5] at hr
  obtain ⟨k1, k2⟩ := hI.allocmem (k := .pl) (o := .cells (madeCells z.cells (n * z.cells.size)) E) (ds := reps n zs) hb hf hN (Member.pl_new (by
    refine ⟨by rw [reps_len, hzl]; simp [madeCells], fun j c x q1 q2 => ?_⟩
    have hj : j < n * zs.length := by have := (List.getElem?_eq_some_iff.1 q1).1; rwa [reps_len] at this
    rw [reps_get hj] at q1
    rw [Array.getElem?_toList, madeCells_get (by omega) (by rw [← hzl]; exact hj), ← hzl] at q2
    exact (hz _).2 _ c x q1 (by simpa using q2)))
  unfold Oper.wp
  rw [hr]
  exact K _ _ _ (.fs i N 0 _ n n (some (w.heap.size, 0)) (fun _ => ⟨w.heap.size, rfl, addf_new⟩) (Nat.le_refl _) (by simp only [maxLen]; omega) (fun h => by cases h)) k1 k2
end
end Go.Pv
