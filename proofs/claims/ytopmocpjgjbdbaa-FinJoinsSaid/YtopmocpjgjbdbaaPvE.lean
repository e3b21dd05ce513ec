/- Regions that draw their order and change own variables: the rules that a printed walk uses. -/
import Derived.Test.YtopmocpjgjbdbaaPvT
namespace Go.Pv
open Go.RowKit

/-- Places for own variables that are to come. -/
theorem Inv.reserve {g : Gh} {S : Sx} {w : World} (h : Inv g S w) (k : Nat) : Inv { g with bx := g.bx ++ List.replicate k none } ⟨S.bs ++ List.replicate k none, S.ts⟩ w ∧ Ext g w { g with bx := g.bx ++ List.replicate k none } w := by
  have hbl : ∀ i, i < S.bs.length → (g.bx ++ List.replicate k none)[i]? = g.bx[i]? := fun i hi => List.getElem?_append_left (by rw [h.hbx]; exact hi)
  have hle : Le g { g with bx := g.bx ++ List.replicate k none } := ⟨fun _ _ _ e => e, fun i b e e2 => by
    refine ⟨?_, e2⟩
    show (g.bx ++ _)[i]? = _
    rw [List.getElem?_append_left (List.getElem?_eq_some_iff.1 e).1]; exact e, fun i G e => ⟨G, e, .inl ⟨rfl, hbl i (h.gr_lt e)⟩⟩, fun _ T e => ⟨T, e, .inl rfl⟩, fun _ _ F e => ⟨F, e, .inl rfl⟩⟩
  have hold : ∀ (i b : Nat), (g.bx ++ List.replicate k none)[i]? = some (some b) → g.bx[i]? = some (some b) := by
    intro i b e
    by_cases hi : i < g.bx.length
    · rwa [List.getElem?_append_left hi] at e
    · rw [List.getElem?_append_right (by omega), List.getElem?_replicate] at e
      split at e <;> cases e
  refine ⟨⟨by simp [h.hbx], h.htg, h.mem, h.one, ?_, ?_, ?_, ?_, ?_, ?_, h.tag, ?_, h.tinj, ?_⟩, hle, rfl, rfl, rfl, Nat.le_refl _, fun _ _ _ => rfl, fun b hb => ?_, fun _ _ _ e => .inl e⟩
  · intro i cs e hne hf
    have e' : S.bs[i]? = some (some cs) := by
      change (S.bs ++ List.replicate k none)[i]? = _ at e
      by_cases hi : i < S.bs.length
      · rwa [List.getElem?_append_left hi] at e
      · rw [List.getElem?_append_right (by omega), List.getElem?_replicate] at e
        split at e <;> cases e
    obtain ⟨blk, cur, ty, k1, k2, k3, k4⟩ := h.box i cs e' hne hf
    exact ⟨blk, cur, ty, (hbl i (List.getElem?_eq_some_iff.1 e').1).trans k1, k2, k3, fun j c x e1 e2 => ⟨(k4 j c x e1 e2).1.mono hle, (k4 j c x e1 e2).2⟩⟩
  · intro i e
    change (S.bs ++ List.replicate k none)[i]? = _ at e
    show (g.bx ++ List.replicate k none)[i]? = _
    by_cases hi : i < S.bs.length
    · rw [List.getElem?_append_left hi] at e
      rw [List.getElem?_append_left (by rw [h.hbx]; exact hi)]; exact h.nob i e
    · have h2 := (List.getElem?_eq_some_iff.1 e).1
      rw [List.getElem?_append_right (by rw [h.hbx]; omega), List.getElem?_replicate, if_pos (by rw [h.hbx]; simp at h2; omega)]
  · intro i b e; exact h.bmem i b (hold i b e)
  · intro i b e; exact h.blt i b (hold i b e)
  · intro i j b e1 e2; exact h.inj i j b (hold i b e1) (hold j b e2)
  · intro i G e
    obtain ⟨cs, k1, k2, k3, k4, k5, k6⟩ := h.gr i G e
    have hi := h.gr_lt e
    refine ⟨cs, by show (S.bs ++ _)[i]? = _; rw [List.getElem?_append_left hi]; exact k1, k2, k3, k4, k5, fun hc => ?_⟩
    obtain ⟨blk, cur, ty, j1, j2⟩ := k6 hc
    exact ⟨blk, cur, ty, (hbl i hi).trans j1, j2⟩
  · intro t T b e1 e2 e3
    obtain ⟨k1, k2⟩ := h.tbx t T b e1 e2 e3
    exact ⟨k1, fun i e => k2 i (hold i b e)⟩
  · refine h.fam.keep hle rfl (fun i cs _ => fam_app k) (fun i cs e hf => ?_) (Nat.le_refl _) (fun i j F b e1 e2 => ?_)
    · obtain ⟨q1, q2⟩ := h.fam.bx i cs e hf
      exact ⟨(hbl i (List.getElem?_eq_some_iff.1 e).1).trans q1, q2⟩
    · obtain ⟨q1, q2, q3, q4⟩ := h.fam.out i j F b e1 e2
      exact ⟨rfl, q2, fun i' e => q3 i' (hold i' b e), q4⟩
  · rcases hb with ⟨i, e⟩ | hb
    · exact .inl (.inl ⟨i, hold i b e⟩)
    · exact .inl (.inr hb)

/-- A new own variable, at a place that was kept for it. -/
theorem Inv.newbox_at {g : Gh} {S : Sx} {w : World} (h : Inv g S w) {p : Nat} (hp : S.bs[p]? = some none) {cs : List PV} {vs : Array Value} (ty : TypeId) (hv : Vs g cs vs.toList) :
    Inv { g with bx := g.bx.set p (some w.heap.size) } ⟨S.bs.set p (some cs), S.ts⟩ (w.alloc (.cells vs ty)) ∧ Ext g w { g with bx := g.bx.set p (some w.heap.size) } (w.alloc (.cells vs ty)) := by
  have hgp := h.nob p hp
  have hlt : p < S.bs.length := (List.getElem?_eq_some_iff.1 hp).1
  have hlt' : p < g.bx.length := by rw [h.hbx]; exact hlt
  have hgp2 := h.gx_no hp
  have hbl : ∀ i, i ≠ p → (g.bx.set p (some w.heap.size))[i]? = g.bx[i]? := fun i hi => by rw [List.getElem?_set, if_neg (fun hh => hi hh.symm)]
  have hgl : ∀ i G, g.gx i = some G → i ≠ p := fun i G e hi => by subst hi; rw [hgp2] at e; cases e
  have hle : Le g { g with bx := g.bx.set p (some w.heap.size) } := ⟨fun _ _ _ e => e, fun i k e e2 => by
    refine ⟨?_, e2⟩
    show (g.bx.set p (some w.heap.size))[i]? = _
    rw [List.getElem?_set, if_neg (fun hh => by subst hh; rw [hgp] at e; cases e)]; exact e, fun i G e => ⟨G, e, .inl ⟨rfl, hbl i (hgl i G e)⟩⟩, fun _ T e => ⟨T, e, .inl rfl⟩, fun _ _ F e => ⟨F, e, .inl rfl⟩⟩
  have hbx : ∀ (i k : Nat), (g.bx.set p (some w.heap.size))[i]? = some (some k) → (i ≠ p ∧ g.bx[i]? = some (some k)) ∨ (i = p ∧ k = w.heap.size) := by
    intro i k e
    rw [List.getElem?_set] at e
    by_cases hi : p = i
    · subst hi; simp [hlt'] at e; exact .inr ⟨rfl, e.symm⟩
    · rw [if_neg hi] at e; exact .inl ⟨fun hh => hi hh.symm, e⟩
  have h' := h.alloc (.cells vs ty)
  refine ⟨⟨by simp [h.hbx], h.htg, h'.mem, h.one, ?_, ?_, ?_, ?_, ?_, ?_, ?_, ?_, h.tinj, ?_⟩, ?_⟩
  · intro i cs' e hne hf
    change (S.bs.set p (some cs))[i]? = _ at e
    rw [List.getElem?_set] at e
    by_cases hi : p = i
    · subst hi
      simp [hlt] at e
      subst e
      refine ⟨w.heap.size, vs, ty, ?_, heap_alloc_new w _, by have := hv.1; simp at this; omega, fun j c x e1 e2 => ⟨(hv.2 j c x e1 (by simpa using e2)).1.mono hle, (hv.2 j c x e1 (by simpa using e2)).2⟩⟩
      show (g.bx.set p (some w.heap.size))[p]? = _
      simp [hlt']
    · rw [if_neg hi] at e
      obtain ⟨blk, cur, ty', k1, k2, k3, k4⟩ := h'.box i cs' e hne hf
      exact ⟨blk, cur, ty', (hbl i (fun hh => hi hh.symm)).trans k1, k2, k3, fun j c x e1 e2 => ⟨(k4 j c x e1 e2).1.mono hle, (k4 j c x e1 e2).2⟩⟩
  · intro i e
    change (S.bs.set p (some cs))[i]? = _ at e
    rw [List.getElem?_set] at e
    by_cases hi : p = i
    · subst hi; simp [hlt] at e
    · rw [if_neg hi] at e
      show (g.bx.set p (some w.heap.size))[i]? = _
      rw [List.getElem?_set, if_neg hi]; exact h.nob i e
  · intro i k e o
    rcases hbx i k e with ⟨_, e⟩ | ⟨_, rfl⟩
    · exact h.bmem i k e o
    · cases hm : g.mem w.heap.size o with
      | none => rfl
      | some x => exact absurd (h.mem_lt hm) (by omega)
  · intro i k e
    rcases hbx i k e with ⟨_, e⟩ | ⟨_, rfl⟩
    · have := h.blt i k e; simp; omega
    · simp
  · intro i j k e1 e2
    rcases hbx i k e1 with ⟨n1, e1⟩ | ⟨e1, e1'⟩ <;> rcases hbx j k e2 with ⟨n2, e2⟩ | ⟨e2, e2'⟩
    · exact h.inj i j k e1 e2
    · have := h.blt i k e1; omega
    · have := h.blt j k e2; omega
    · omega
  · intro i G e
    obtain ⟨cs', k1, k2, k3, k4, k5, k6⟩ := h'.gr i G e
    have hi := hgl i G e
    refine ⟨cs', by show (S.bs.set p _)[i]? = _; rw [List.getElem?_set, if_neg (fun hh => hi hh.symm)]; exact k1, k2, k3, k4, k5, fun hc => ?_⟩
    obtain ⟨blk, cur, ty', j1, j2⟩ := k6 hc
    exact ⟨blk, cur, ty', (hbl i hi).trans j1, j2⟩
  · intro t m e
    obtain ⟨T, k1, k2⟩ := h'.tag t m e
    exact ⟨T, k1, k2⟩
  · intro t T k e1 e2 e3
    obtain ⟨hl, hno⟩ := h.tbx t T k e1 e2 e3
    refine ⟨by simp; omega, fun i e => ?_⟩
    rcases hbx i k e with ⟨_, e⟩ | ⟨_, rfl⟩
    · exact hno i e
    · omega
  · refine h.fam.keep hle rfl (fun i cs' hf => fam_set (fun _ e => by rw [hp] at e; cases e) (fun cs2 e => by cases e; exact notFam_of (g := g) (Nat.le_of_eq hv.1) hv.2) hf) (fun i cs' e hf => ?_) (by simp) (fun i j F b e1 e2 => ?_)
    · obtain ⟨q1, q2⟩ := h.fam.bx i cs' e hf
      have hi : i ≠ p := by rintro rfl; rw [hp] at e; cases e
      exact ⟨(hbl i hi).trans q1, q2⟩
    · obtain ⟨q1, q2, q3, q4⟩ := h.fam.out i j F b e1 e2
      refine ⟨Below.heap_alloc w _ b q1, q2, fun i' e => ?_, q4⟩
      rcases hbx i' b e with ⟨_, e⟩ | ⟨_, e⟩
      · exact q3 i' e
      · omega
  · refine ⟨hle, rfl, rfl, rfl, by simp, fun k hk _ => Below.heap_alloc w _ k hk, fun k hk => ?_, fun _ _ _ e => .inl e⟩
    rcases hk with ⟨i, e⟩ | hk
    · rcases hbx i k e with ⟨_, e⟩ | ⟨_, rfl⟩
      · exact .inl (.inl ⟨i, e⟩)
      · exact .inr (Nat.le_refl _)
    · exact .inl (.inr hk)

mutual
/-- It does not speak of the own variable 'b'. -/
def PV.nob (b : Nat) : PV → Bool
  | .d _ => true
  | .agg cs => PV.nobL b cs
  | .tup cs => PV.nobL b cs
  | .app _ _ _ => true
  | .ptr i _ => i != b
  | .ms i _ _ _ => i != b
  | .vec i _ _ => i != b
  | .vp i _ _ => i != b
  | .rp _ => true
  | .fp _ _ _ => true
  | .fs _ _ _ _ _ => true
  | .fv _ _ _ _ => true
  | .fq _ _ _ _ => true
  | .fm _ _ => true
  | .fh => true
  | .fn _ fi ca => PV.nobL b fi && PV.nobL b ca
  | .opt c p => PV.nob b p || !c
  | .un => true
  | .junk => true
def PV.nobL (b : Nat) : List PV → Bool
  | [] => true
  | p :: ps => PV.nob b p && PV.nobL b ps
end
theorem nobL_get {b : Nat} : ∀ {ps : List PV}, PV.nobL b ps = true → ∀ (i : Nat) (p : PV), ps[i]? = some p → PV.nob b p = true
  | [], _, i, p, h => by simp at h
  | q :: ps, h, i, p, hp => by
    simp only [PV.nobL, Bool.and_eq_true] at h
    cases i with
    | zero => simp at hp; subst hp; exact h.1
    | succ i => exact nobL_get h.2 i p (by simpa using hp)
/-- An own variable that becomes memory that stays. -/
def Gh.fz (g : Gh) (b : Nat) (f : Nat → Nat → Option Value) : Gh := { g with mem := fun k o => match f k o with | some x => some x | none => g.mem k o, bx := g.bx.set b none, gx := fun i => if i = b then none else g.gx i }
theorem V.fz {g : Gh} {p : PV} {v : Value} (h : V g p v) (b : Nat) (f : Nat → Nat → Option Value) (hf : ∀ k o x, g.mem k o = some x → f k o = none) (ho : p.nob b = true) : V (g.fz b f) p v := by
  have hm : ∀ k o x, g.mem k o = some x → (g.fz b f).mem k o = some x := fun k o x e => by simp only [Gh.fz, hf k o x e]; exact e
  have hgx : ∀ (i : Nat) (o : Option Gr), (i != b) = true → g.gx i = o → (g.fz b f).gx i = o := fun i o hi e => by
    show (if i = b then none else g.gx i) = o
    rw [if_neg (fun hh => by subst hh; simp at hi)]; exact e
  have hb : ∀ (i k : Nat), (i != b) = true → g.bx[i]? = some (some k) → (g.fz b f).bx[i]? = some (some k) := fun i k hi e => by
    show (g.bx.set b none)[i]? = _
    rw [List.getElem?_set, if_neg (fun hh => by subst hh; simp at hi)]; exact e
  induction h with
  | d x v h => exact .d x v (h.mono hm)
  | agg cs vs hl h1 h ih => exact .agg cs vs hl h1 (fun i c x k1 k2 => ih i c x k1 k2 (nobL_get (by simpa only [PV.nob] using ho) i c k1))
  | tup cs vs hl h ih => exact .tup cs vs hl (fun i c x k1 k2 => ih i c x k1 k2 (nobL_get (by simpa only [PV.nob] using ho) i c k1))
  | app t sz es a cap T h hT hz hle he => exact .app t sz es a cap T (h.mono hm) hT hz hle he
  | ptr i off blk h hg => exact .ptr i off blk (hb i blk (by simpa only [PV.nob] using ho) h) (hgx i _ (by simpa only [PV.nob] using ho) hg)
  | ms i off sz n cap a h hc hx hn => exact .ms i off sz n cap a (fun h0 => let ⟨blk, e1, e2, e3⟩ := h h0; ⟨blk, e1, hb i blk (by simpa only [PV.nob] using ho) e2, hgx i _ (by simpa only [PV.nob] using ho) e3⟩) hc hx hn
  | vec i sz n cap A G hG hz hle he hc hx hn => exact .vec i sz n cap A G (hgx i _ (by simpa only [PV.nob] using ho) hG) hz hle (fun h => ⟨(he h).1, fun h0 => let ⟨blk, e1, e2⟩ := (he h).2 h0; ⟨blk, hb i blk (by simpa only [PV.nob] using ho) e1, e2⟩⟩) hc hx hn
  | vp i N off blk G hG h0 hle he => exact .vp i N off blk G (hgx i _ (by simpa only [PV.nob] using ho) hG) h0 hle (fun h => hb i blk (by simpa only [PV.nob] using ho) (he h))
  | rp cs blk off f' h1 h2 => exact .rp cs blk off f' (fun j c hj => hm _ _ _ (h1 j c hj)) (fun j c hj => (h2 j c hj).mono hm)
  | fp i j off blk h1 => exact .fp i j off blk h1
  | fs i j off sz n cap a h hc hx hn => exact .fs i j off sz n cap a h hc hx hn
  | fv i j sz n cap A b G hF hz hle he hc hx hn => exact .fv i j sz n cap A b G hF hz hle he hc hx hn
  | fq i j N off blk b G hF h0 hle he => exact .fq i j N off blk b G hF h0 hle he
  | fm i j blk h1 => exact .fm i j blk h1
  | fn f' fi ca fv cv hf' hc h1 h2 ih1 ih2 =>
    simp only [PV.nob, Bool.and_eq_true] at ho
    exact .fn f' fi ca fv cv hf' hc (fun i c x k1 k2 => ih1 i c x k1 k2 (nobL_get ho.1 i c k1)) (fun i c x k1 k2 => ih2 i c x k1 k2 (nobL_get ho.2 i c k1))
  | opt c p v h1 h2 ih =>
    refine .opt c p v (fun hc => ih hc ?_) h2
    simpa [PV.nob, hc] using ho
  | un => exact .un
  | junk v => exact .junk v
def nobB (b : Nat) : Nat → List (Option (List PV)) → Bool
  | _, [] => true
  | i, none :: r => nobB b (i + 1) r
  | i, some cs :: r => (i == b || PV.nobL b cs) && nobB b (i + 1) r
theorem nobB_get {b : Nat} : ∀ {l : List (Option (List PV))} {k : Nat}, nobB b k l = true → ∀ (i : Nat) (cs : List PV), l[i]? = some (some cs) → k + i ≠ b → PV.nobL b cs = true
  | [], _, _, i, cs, h, _ => by simp at h
  | none :: r, k, h, i, cs, hp, hne => by
    cases i with
    | zero => simp at hp
    | succ i => exact nobB_get (k := k + 1) (by simpa only [nobB] using h) i cs (by simpa using hp) (by omega)
  | some q :: r, k, h, i, cs, hp, hne => by
    simp only [nobB, Bool.and_eq_true, Bool.or_eq_true, beq_iff_eq] at h
    cases i with
    | zero =>
      simp at hp; subst hp
      rcases h.1 with h1 | h1
      · exact absurd h1 (by omega)
      · exact h1
    | succ i => exact nobB_get (k := k + 1) h.2 i cs (by simpa using hp) (by omega)

section
variable {P : Program} {g0 : Gh} {w0 : World} {Q : Exit → St → Prop} {st : St} {o : Oper} {ρ : Operand → PV} {S S' : Sx}
theorem Wk.reserve (k : Nat) : Wk g0 w0 st (st.to ⟨st.S.bs ++ List.replicate k none, st.S.ts⟩) := by
  rintro a w ⟨g, k1, k2, k3, k4, k5⟩
  obtain ⟨j1, j2⟩ := k1.reserve k
  exact ⟨_, j1, k2.trans j2, k3, k4, fun i hi => (k5 i hi).mono j2.le⟩
theorem o_alloc_at {T : TypeId} {sz b : Nat} {z : Value} {zs : List PV} (p : Nat) (ho : o.op = .alloc T) (hT : TI P T sz b z) (hz : Zs zs z.cells.toList) (hp : S.bs[p]? = some none) : OpS P o ρ S ⟨S.bs.set p (some zs), S.ts⟩ (.ptr p 0) := by
  intro g w a next Q hI hv K
  obtain ⟨i, h1, h2, _⟩ := hT
  obtain ⟨k1, k2⟩ := hI.newbox_at hp (vs := z.cells) T (hz g)
  have hlt : p < g.bx.length := by rw [hI.hbx]; exact (List.getElem?_eq_some_iff.1 hp).1
  unfold Oper.wp
  simp only [execOp, ho, Instr.alloc, Sem.run_bind, zeroValue, typeInfo, run_program, Result.andThen_ok, h1, h2, Sem.run_pure, newVar, newRow, run_newObj]
  exact K _ { g with bx := g.bx.set p (some w.heap.size) } _ (.ptr _ _ w.heap.size (by show (g.bx.set p _)[p]? = _; simp [hlt]) (hI.gx_no hp)) k1 k2
theorem o_box_at {T : TypeId} {x : Operand} {ps : List PV} (p : Nat) (ho : o.op = .box T x) (hx : (ρ x).cells = some ps) (hp : S.bs[p]? = some none) : OpS P o ρ S ⟨S.bs.set p (some ps), S.ts⟩ (.ptr p 0) := by
  intro g w a next Q hI hv K
  obtain ⟨k1, k2⟩ := hI.newbox_at hp (vs := (a.eval x).cells) T ((hv x (by simp [ho, Op.operands])).cells hx)
  have hlt : p < g.bx.length := by rw [hI.hbx]; exact (List.getElem?_eq_some_iff.1 hp).1
  unfold Oper.wp
  simp only [execOp, ho, Instr.box, Sem.run_bind, Result.andThen_ok, Sem.run_pure, newVar, newRow, run_newObj]
  exact K _ { g with bx := g.bx.set p (some w.heap.size) } _ (.ptr _ _ w.heap.size (by show (g.bx.set p _)[p]? = _; simp [hlt]) (hI.gx_no hp)) k1 k2
/-- The slots, when the own variable 'b', a row of 'es', becomes memory that stays. -/
inductive FL (st : St) (b sz : Nat) (es : List (List D)) : List (Nat × PV) → Prop
  | nil : FL st b sz es []
  | keep {i : Nat} {p : PV} {l : List (Nat × PV)} (h : PVle (st.t i) p) (hn : p.nob b = true) (k : FL st b sz es l) : FL st b sz es ((i, p) :: l)
  | row {i : Nat} {l : List (Nat × PV)} (h : st.t i = .ms b 0 sz es.length) (k : FL st b sz es l) : FL st b sz es ((i, .d (.sl sz false es)) :: l)
theorem Wk.freeze {b sz n : Nat} {ds : List D} {es : List (List D)} {l : List (Nat × PV)} (hb : Gl g0 b) (hn : st.n = n) (hcs : st.S.bs[b]? = some (some (ds.map .d))) (hes : es.flatten = ds) (hz : ∀ e ∈ es, e.length = sz) (h1 : nobB b 0 st.S.bs = true)
    (h : FL st b sz es l) : Wk g0 w0 st (St.ofL n l ⟨st.S.bs.set b none, st.S.ts⟩) := by
  subst hn
  rintro a w ⟨g, k1, k2, k3, k4, k5⟩
  have hblt : b < st.S.bs.length := (List.getElem?_eq_some_iff.1 hcs).1
  -- what the row holds
  obtain ⟨f, hf0, hfx, hfone, hfown, hrow⟩ : ∃ f : Nat → Nat → Option Value, (∀ k o x, g.mem k o = some x → f k o = none) ∧ (∀ k o x, f k o = some x → w.cell? ⟨k, o, none⟩ = some x ∧ Owned g k ∧ g.bx[b]? = some (some k)) ∧ (∀ k o x, f k o = some x → x.oneCell' = true) ∧ True ∧
      (∀ v, V g (.ms b 0 sz es.length) v → V (g.fz b f) (.d (.sl sz false es)) v) := by
    by_cases hne : ds = []
    · subst hne
      refine ⟨fun _ _ => none, fun _ _ _ _ => rfl, fun k o x (h : (none : Option Value) = some x) => (by cases h), fun k o x (h : (none : Option Value) = some x) => (by cases h), trivial, fun v hv => ?_⟩
      cases hv with
      | ms _ _ _ _ cap a' hh hc hx hnn =>
        refine .d _ _ (.sl sz false es a' cap [] hz hc (fun h => by cases h) hnn hx (by rw [hes]; rfl) (fun p j x _ h => by simp at h) (fun j c x h => by rw [hes] at h; simp at h))
    · have hne' : ds.map PV.d ≠ [] := by simpa using hne
      obtain ⟨blk, cur, ty, j1, j2, j3, j4⟩ := k1.box b _ hcs hne' (notFam_map ds)
      have hnomem := k1.bmem b blk j1
      have hle : ∀ k o x, g.mem k o = some x → (if k = blk ∧ o < ds.length then cur[o]? else none) = none := fun k o x e => by
        rw [if_neg]; rintro ⟨rfl, _⟩; rw [hnomem o] at e; cases e
      refine ⟨fun k o => if k = blk ∧ o < ds.length then cur[o]? else none, hle, fun k o x h => ?_, fun k o x h => ?_, trivial, fun v hv => ?_⟩
      · change (if k = blk ∧ o < ds.length then cur[o]? else none) = some x at h
        split at h
        · rename_i hk
          obtain ⟨rfl, ho⟩ := hk
          exact ⟨by rw [cell_of_row w k o cur ty _ j2]; exact h, .inl ⟨b, j1⟩, j1⟩
        · cases h
      · change (if k = blk ∧ o < ds.length then cur[o]? else none) = some x at h
        split at h
        · rename_i hk
          have : (ds.map PV.d)[o]? = some (PV.d ds[o]) := by simp [hk.2]
          exact (j4 o _ x this h).2
        · cases h
      · have hm : ∀ k o x, g.mem k o = some x → (g.fz b (fun k o => if k = blk ∧ o < ds.length then cur[o]? else none)).mem k o = some x := fun k o x e => by simp only [Gh.fz, hle k o x e]; exact e
        cases hv with
        | ms _ _ _ _ cap a' hh hc hx hnn =>
          by_cases hn0 : es.length = 0
          · have : es = [] := List.eq_nil_of_length_eq_zero hn0
            subst this; simp at hes; first | exact absurd hes.symm hne | exact absurd hes hne
          · obtain ⟨blk', e1, e2, _⟩ := hh hn0
            rw [j1] at e2
            obtain rfl : blk = blk' := by simpa using e2
            subst e1
            have hlen : (cur.toList.take ds.length).length = ds.length := by simp at j3 ⊢; omega
            refine .d _ _ (VD.row blk 0 cap hz hc (fun h => by cases h) hx (vs := cur.toList.take ds.length) ⟨by rw [hes, hlen], fun j c x q1 q2 => ?_⟩ (fun j x hj => ?_))
            · rw [hes] at q1
              rw [List.getElem?_take] at q2
              split at q2
              · have := j4 j (PV.d c) x (by simp [q1]) (by simpa using q2)
                refine ⟨?_, this.2⟩
                cases this.1 with | d _ _ hd => exact hd.mono hm
              · cases q2
            · rw [List.getElem?_take] at hj
              split at hj
              · rename_i hjl
                simp only [Gh.fz, Nat.zero_add, hjl, and_self, if_true]
                have hj' : cur[j]? = some x := by simpa using hj
                simp [hj']
              · cases hj
  have hmm : ∀ k o x, g.mem k o = some x → (g.fz b f).mem k o = some x := fun k o x e => by simp only [Gh.fz, hf0 k o x e]; exact e
  have hmc : ∀ k o x, (g.fz b f).mem k o = some x → f k o = some x ∨ g.mem k o = some x := fun k o x e => by
    change (match f k o with | some x => some x | none => g.mem k o) = some x at e
    split at e
    · rename_i y hy; cases e; exact .inl hy
    · exact .inr e
  have hbx : ∀ (i k : Nat), (g.fz b f).bx[i]? = some (some k) → i ≠ b ∧ g.bx[i]? = some (some k) := fun i k e => by
    change (g.bx.set b none)[i]? = _ at e
    rw [List.getElem?_set] at e
    by_cases hi : b = i
    · subst hi; rw [if_pos rfl] at e; split at e <;> cases e
    · rw [if_neg hi] at e; exact ⟨fun hh => hi hh.symm, e⟩
  refine ⟨g.fz b f, ⟨by show (g.bx.set b none).length = (st.S.bs.set b none).length; simp [k1.hbx], k1.htg, ?_, ?_, ?_, ?_, ?_, ?_, ?_, ?_, ?_, ?_, k1.tinj, ?_⟩, ?_, k3, k4, ?_⟩
  · intro k o x e
    rcases hmc k o x e with e | e
    · exact (hfx k o x e).1
    · exact k1.mem k o x e
  · intro k o x e
    rcases hmc k o x e with e | e
    · exact hfone k o x e
    · exact k1.one k o x e
  · intro i cs e hne hf
    change (st.S.bs.set b none)[i]? = _ at e
    rw [List.getElem?_set] at e
    by_cases hi : b = i
    · subst hi; simp [hblt] at e
    · rw [if_neg hi] at e
      obtain ⟨blk, cur, ty, j1, j2, j3, j4⟩ := k1.box i cs e hne hf
      refine ⟨blk, cur, ty, ?_, j2, j3, fun j c x e1 e2 => ⟨(j4 j c x e1 e2).1.fz b f hf0 (nobL_get (nobB_get h1 i cs e (by omega)) j c e1), (j4 j c x e1 e2).2⟩⟩
      show (g.bx.set b none)[i]? = _
      rw [List.getElem?_set, if_neg hi]; exact j1
  · intro i e
    change (st.S.bs.set b none)[i]? = _ at e
    show (g.bx.set b none)[i]? = _
    rw [List.getElem?_set] at e ⊢
    by_cases hi : b = i
    · subst hi; simp [k1.hbx, hblt]
    · rw [if_neg hi] at e ⊢; exact k1.nob i e
  · intro i k e o
    obtain ⟨hi, e'⟩ := hbx i k e
    cases hx : (g.fz b f).mem k o with
    | none => rfl
    | some x =>
      rcases hmc k o x hx with h2 | h2
      · exact absurd (k1.inj _ _ _ e' (hfx k o x h2).2.2) hi
      · rw [k1.bmem i k e' o] at h2; cases h2
  · intro i k e; exact k1.blt i k (hbx i k e).2
  · intro i j k e1 e2; exact k1.inj i j k (hbx i k e1).2 (hbx j k e2).2
  · intro i G e
    change (if i = b then none else g.gx i) = some G at e
    split at e
    · cases e
    · rename_i hi
      obtain ⟨cs, j1, j2, j3, j4, j5, j6⟩ := k1.gr i G e
      refine ⟨cs, by show (st.S.bs.set b none)[i]? = _; rw [List.getElem?_set, if_neg (fun hh => hi hh.symm)]; exact j1, j2, j3, j4, j5, fun hc => ?_⟩
      obtain ⟨blk, cur, ty, q1, q2⟩ := j6 hc
      exact ⟨blk, cur, ty, by show (g.bx.set b none)[i]? = _; rw [List.getElem?_set, if_neg (fun hh => hi hh.symm)]; exact q1, q2⟩
  · intro t m e
    obtain ⟨T, j1, j2, j3, j4, j5⟩ := k1.tag t m e
    refine ⟨T, j1, j2, j3, j4, fun hlt => ?_⟩
    obtain ⟨blk, cur, ty, i1, i2, i3, i4⟩ := j5 hlt
    refine ⟨blk, cur, ty, i1, i2, i3, fun o ho => ?_⟩
    cases hx : (g.fz b f).mem blk o with
    | none => rfl
    | some x =>
      rcases hmc blk o x hx with h2 | h2
      · exact absurd (hfx blk o x h2).2.2 ((k1.tbx t T blk j1 i1 hlt).2 b)
      · rw [i4 o ho] at h2; cases h2
  · intro t T k e1 e2 e3
    obtain ⟨q1, q2⟩ := k1.tbx t T k e1 e2 e3
    exact ⟨q1, fun i e => q2 i (hbx i k e).2⟩
  · have hfb : ∀ cs, st.S.bs[b]? = some (some cs) → isFam cs = false := fun cs e => by rw [hcs] at e; cases e; exact notFam_map ds
    refine k1.fam.keepV (fun i j cs ds' e hf hm k c x hc hv => ?_) rfl (fun i cs hf => fam_set hfb (fun _ e => by cases e) hf) (fun i cs e hf => ?_) (Nat.le_refl _) (fun i j F b' e1 e2 => ?_)
    · have hi : b ≠ i := by rintro rfl; have := hfb cs e; rw [this] at hf; cases hf
      have hn : PV.nobL b ds' = true := by simpa only [PV.nob] using nobL_get (nobB_get h1 i cs e (by omega)) (j + 1) _ hm
      exact hv.fz b f hf0 (nobL_get hn k c hc)
    · obtain ⟨q1, q2⟩ := k1.fam.bx i cs e hf
      have hi : b ≠ i := by rintro rfl; have := hfb cs e; rw [this] at hf; cases hf
      refine ⟨?_, ?_⟩
      · show (g.bx.set b none)[i]? = _
        rw [List.getElem?_set_ne hi]; exact q1
      · show (if i = b then none else g.gx i) = none
        rw [if_neg (fun h => hi h.symm)]; exact q2
    · obtain ⟨q1, q2, q3, q4⟩ := k1.fam.out i j F b' e1 e2
      refine ⟨rfl, fun o => ?_, fun i' e => q3 i' (hbx i' b' e).2, q4⟩
      cases hx : (g.fz b f).mem b' o with
      | none => rfl
      | some x =>
        rcases hmc b' o x hx with h2 | h2
        · exact absurd (hfx b' o x h2).2.2 (q3 b)
        · rw [q2 o] at h2; cases h2
  · refine ⟨⟨fun k o x e => hmm k o x (k2.le.mem k o x e), fun i k e e2 => ?_, fun i G e => ?_, k2.le.tg, k2.le.fx⟩, k2.os, k2.tape, k2.output, k2.size, k2.frame, fun k hk => ?_, fun k o x e => ?_⟩
    · have hi := (List.getElem?_eq_some_iff.1 e).1
      have := hb.le
      obtain ⟨q1, q2⟩ := k2.le.bx i k e e2
      refine ⟨?_, ?_⟩
      · show (g.bx.set b none)[i]? = _
        rw [List.getElem?_set, if_neg (by omega)]; exact q1
      · show (if i = b then none else g.gx i) = none
        rw [if_neg (by omega)]; exact q2
    · have hi := hb.lt e
      obtain ⟨G', q1, q2⟩ := k2.le.gx i G e
      refine ⟨G', by show (if i = b then none else g.gx i) = _; rw [if_neg (by omega)]; exact q1, ?_⟩
      rcases q2 with ⟨q2, q3⟩ | q2
      · exact .inl ⟨q2, by show (g.bx.set b none)[i]? = _; rw [List.getElem?_set, if_neg (by omega)]; exact q3⟩
      · exact .inr q2
    · refine k2.own k ?_
      rcases hk with ⟨i, e⟩ | hk
      · exact .inl ⟨i, (hbx i k e).2⟩
      · exact .inr hk
    · rcases hmc k o x e with e | e
      · rcases k2.own k (hfx k o x e).2.1 with h2 | h2
        · exact .inr (.inl h2)
        · exact .inr (.inr h2)
      · exact k2.memx k o x e
  · intro i hi
    show V (g.fz b f) (look i l) _
    have hv := k5 i hi
    clear k5 k3 k4 hi
    induction h with
    | nil => exact .junk _
    | keep h hn k ih =>
      unfold look
      split
      · rename_i e; subst e; exact (h g _ hv).fz b f hf0 hn
      · exact ih
    | row h k ih =>
      unfold look
      split
      · rename_i e; subst e; rw [h] at hv; exact hrow _ hv
      · exact ih

/-! ### rows of one's own that are written -/
theorem o_len_ms {T E : TypeId} {x : Operand} {b off sz n : Nat} (ho : o.op = .call { callee := .builtin .len, args := #[x], argTypes := #[T] }) (hT : P.underlying T = some (.slice E)) (hx : ρ x = .ms b off sz n) : OpS P o ρ S S (.d (.v (.int .i64 ((n : Nat) : Int)))) :=
  .value fun g w a _ hv => by
    have e1 := hv x (by simp [ho, Op.operands, Call.operands])
    rw [hx] at e1
    generalize hu : a.eval x = u at e1
    cases e1 with
    | ms _ _ _ _ cap a' h hc hx' hn => exact ⟨_, by simp [execOp, ho, resolve, invoke, builtin, hu, Builtin.len_, run_underlying hT, goInt], .d _ _ (.v _ rfl)⟩
theorem o_index_ms {T E : TypeId} {x y : Operand} {b off sz n : Nat} {k : IntKind} {i : Int} (ho : o.op = .indexAddr T x y) (hT : P.underlying T = some (.slice E)) (hE : SizeIs P E sz) (hx : ρ x = .ms b off sz n) (hy : ρ y = .d (.v (.int k i))) (hi : 0 ≤ i) (hn : i < n) :
    OpS P o ρ S S (.ptr b (off + i.toNat * sz)) :=
  .value fun g w a _ hv => by
    have e1 := hv x (by simp [ho, Op.operands])
    rw [hx] at e1
    have e2 := hv y (by simp [ho, Op.operands])
    rw [hy] at e2
    have k2 := e2.d_v.1
    generalize hu : a.eval x = u at e1
    cases e1 with
    | ms _ _ _ _ cap a' h hc hx' hnn =>
      obtain ⟨blk, rfl, h2, h3⟩ := h (by omega)
      refine ⟨.pointer (some ⟨blk, off + i.toNat * sz, none⟩), ?_, .ptr _ _ blk h2 h3⟩
      simp only [execOp, ho, hu, k2, Sem.run_bind, Option.map_some, run_indexAt_slice (P := P) w T (adr (blk, off)) n cap k i (by simp [Program.elem, hT]), if_pos (show 0 ≤ i ∧ i < (n : Int) from ⟨hi, hn⟩)]
      simp only [Program.elem, hT, hE.run w, Result.andThen_ok, add_adr, Sem.run_pure]
theorem o_append_ms {T E : TypeId} {sz b : Nat} {z : Value} {x y : Operand} {ys : List (List D)} (ho : o.op = .call { callee := .builtin .append, args := #[x, y], argTypes := #[T, T] }) (hT : P.underlying T = some (.slice E)) (hE : TI P E sz b z) (h0 : 0 < sz)
    (hx : ρ x = .d (.sl sz true [])) (hy : (ρ y).els = some (sz, ys)) (hb : ys.length * b ≤ 140737488355328) (hmax : ys.length ≤ 9223372036854775807) : OpS P o ρ S ⟨S.bs ++ [some (ys.flatten.map .d)], S.ts⟩ (.ms S.bs.length 0 sz ys.length) := by
  intro g w a next Q hI hv K
  have e1 := hv x (by simp [ho, Op.operands, Call.operands])
  rw [hx] at e1
  have e2 := (hv y (by simp [ho, Op.operands, Call.operands])).els hy
  obtain ⟨i, t1, t2, t3, t4, t5, t6⟩ := hE
  subst t3 t4
  generalize hxv : a.eval x = sv at e1
  generalize hyv : a.eval y = xv at e2
  have e1' : VD g.mem (.sl i.size true []) sv := by cases e1 with | d _ _ h => exact h
  obtain ⟨a1, cap, vs, rfl, hzz, hc, hf, hn, hx1, hl, hm, hvv⟩ := e1'.unslT
  obtain rfl : cap = 0 := hf rfl
  have hz2 := e2.lens.1
  unfold Oper.wp
  by_cases hy0 : ys = []
  · subst hy0
    obtain ⟨a2, cap2, rfl⟩ := e2.unsl0
    have hr := run_append_zero (P := P) w T E o.type hT ⟨i, t1, rfl⟩ a1 a2 0 0 cap2 (Nat.le_refl _)
    simp only [List.length_nil] at hxv hyv
    simp only [execOp, ho, resolve, invoke, builtin, Sem.run_bind, Sem.run_pure, Result.andThen_ok, List.map_toArray, List.map_cons, List.map_nil, hxv, hyv, hr]
    obtain ⟨r1, r2⟩ := hI.reserve 1
    refine K _ { g with bx := g.bx ++ [none] } w (.ms _ 0 _ 0 0 a1 (fun h => absurd rfl h) (Nat.le_refl _) (by simp) (fun _ => rfl)) ?_ r2
    refine ⟨by have := r1.hbx; simpa using this, r1.htg, r1.mem, r1.one, ?_, ?_, r1.bmem, r1.blt, r1.inj, ?_, r1.tag, r1.tbx, r1.tinj, ?_⟩
    · intro j cs e hne hf
      change (S.bs ++ [some []])[j]? = _ at e
      by_cases hj : j < S.bs.length
      · refine r1.box j cs ?_ hne hf
        show (S.bs ++ List.replicate 1 none)[j]? = _
        rw [List.getElem?_append_left hj] at e ⊢; exact e
      · rw [List.getElem?_append_right (by omega)] at e
        have : j - S.bs.length < 1 := by have := (List.getElem?_eq_some_iff.1 e).1; simpa using this
        rw [show j - S.bs.length = 0 by omega] at e
        simp at e; first | exact absurd e.symm hne | exact absurd e hne
    · intro j e
      change (S.bs ++ [some []])[j]? = _ at e
      by_cases hj : j < S.bs.length
      · refine r1.nob j ?_
        show (S.bs ++ List.replicate 1 none)[j]? = _
        rw [List.getElem?_append_left hj] at e ⊢; exact e
      · rw [List.getElem?_append_right (by omega)] at e
        have : j - S.bs.length < 1 := by have := (List.getElem?_eq_some_iff.1 e).1; simpa using this
        rw [show j - S.bs.length = 0 by omega] at e
        simp at e
    · intro i G e
      obtain ⟨cs, j1, j2⟩ := hI.gr i G e
      obtain ⟨cs', j3, j4⟩ := r1.gr i G e
      have hi := hI.gr_lt e
      refine ⟨cs', ?_, j4⟩
      change (S.bs ++ List.replicate 1 none)[i]? = _ at j3
      show (S.bs ++ [some []])[i]? = _
      rw [List.getElem?_append_left hi] at j3 ⊢; exact j3
    · refine r1.fam.keep (.refl _) rfl (fun j cs hf => ?_) r1.fam.bx (Nat.le_refl _) (fun i j F b e1 e2 => ⟨rfl, (r1.fam.out i j F b e1 e2).2⟩)
      exact (fam_push rfl hf).trans (fam_app (l := S.bs) 1).symm
  · have hyl : 0 < ys.length := List.length_pos_iff.2 hy0
    obtain ⟨a2, cap2, us, rfl, _, hc2, _, hn2, hx2, hl2, hm2, hv2⟩ := e2.unslN hy0
    have hul : us.length = ys.length * i.size := by rw [← hl2, flat_len hz2]
    obtain ⟨q, rfl⟩ : ∃ q, a2 = some q := by
      cases a2 with
      | none => have := hn2 rfl; omega
      | some q => exact ⟨q, rfl⟩
    have hus : VsD g.mem ys.flatten us := ⟨hl2, fun j c x e1 e2 => ⟨hv2 j c x e1 e2, hI.one _ _ _ (hm2 q j x rfl e2)⟩⟩
    have hnews : ∀ j v, us[j]? = some v → w.cell? ((adr q).add j) = some v := fun j v hj => by rw [add_adr]; exact hI.mem _ _ _ (hm2 q j v rfl hj)
    have hge := grownCap_ge w ys.length 0 E
    have hcm := grownCap_le_maxLen w ys.length 0 E (by simp only [maxLen]; omega)
    -- the new row as an own variable
    have hbox := (hI.drew).newbox (cs := ys.flatten.map .d) (vs := us.toArray ++ Builtin.zeroCells z.cells (grownCap w ys.length 0 E - ys.length)) E (by
      refine ⟨by simp only [List.length_map, Array.toList_append, List.length_append, hl2]; exact Nat.le_add_right _ _, fun j c x q1 q2 => ?_⟩
      simp only [List.getElem?_map, Option.map_eq_some_iff] at q1
      obtain ⟨c', q1, rfl⟩ := q1
      have hj : j < us.length := by rw [← hl2]; exact (List.getElem?_eq_some_iff.1 q1).1
      rw [Array.toList_append, List.getElem?_append_left hj] at q2
      exact ⟨.d _ _ (hus.2 j c' x q1 q2).1, (hus.2 j c' x q1 q2).2⟩)
    have hval : ∀ a3, (a3 = (none : Option (Nat × Nat)) ∨ a3 ≠ none) → True := fun _ _ => trivial
    clear hval
    have hrun : (Builtin.append_ #[T, T] o.type #[.slice (a1.map adr) 0 0, .slice (some (adr q)) ys.length cap2]).run P w =
        .ok (.slice (some ⟨w.heap.size, 0, none⟩) ys.length (grownCap w ys.length 0 E)) (w.drew.alloc (.cells (us.toArray ++ Builtin.zeroCells z.cells (grownCap w ys.length 0 E - ys.length)) E)) := by
      cases a1 with
      | none => exact run_append_nil (P := P) w T o.type E i z hT t1 t2 (adr q) ys.length cap2 us hul hnews hyl (by omega) (by omega)
      | some p =>
        have := run_append_grow (P := P) w T o.type E i z hT t1 t2 (adr p) 0 0 [] (by simp) (by simp) (adr q) ys.length cap2 us hul hnews (by omega) (by omega) (growslice_fits (by omega) (by simpa using hb))
        simpa using this
    simp only [List.length_nil] at hxv
    simp only [execOp, ho, resolve, invoke, builtin, Sem.run_bind, Sem.run_pure, Result.andThen_ok, List.map_toArray, List.map_cons, List.map_nil, hxv, hyv, Option.map_some, hrun]
    exact K _ { g with bx := g.bx ++ [some w.drew.heap.size] } _ (.ms S.bs.length 0 i.size ys.length (grownCap w ys.length 0 E) (some (w.heap.size, 0)) (fun _ => ⟨w.heap.size, rfl, by
      show (g.bx ++ [some w.drew.heap.size])[S.bs.length]? = _
      rw [← hI.hbx]; simp, hI.gx_new (Nat.le_refl _)⟩) hge hcm (fun h => by cases h)) hbox.1 ((Ext.drew g w).trans hbox.2)
theorem o_cast {S1 S2 : Sx} {pv : PV} (h1 : S1 = S) (h2 : S2 = S') (h : OpS P o ρ S S' pv) : OpS P o ρ S1 S2 pv := by subst h1 h2; exact h

variable {ops : Array Oper} {Sf : (Nat → Bool) → Sx} {K : St → Prop} {l : List Oper} {i : Nat}
theorem d_nil (h : K st) : drawOk P ops Sf [] i st K := h
theorem d_step {pv : PV} (z : Nat) (hg : o.guard = none) (h : ∀ L, Adm ops i L → OpS P o (st.opz z) (Sf L) (Sf (ins L i)) pv) (k : drawOk P ops Sf l (i + 1) (st.put o.dst pv) K) : drawOk P ops Sf (o :: l) i st K := by
  refine ⟨pv, ?_, k⟩
  unfold stepD; rw [hg]; exact ⟨z, h⟩
theorem d_step_yes {pv : PV} {j : Nat} {want : Bool} (z : Nat) (hg : o.guard = some (j, want)) (hb : gval ops st j want = some true) (h : ∀ L, Adm ops i L → OpS P o (st.opz z) (Sf L) (Sf (ins L i)) pv)
    (k : drawOk P ops Sf l (i + 1) (st.put o.dst pv) K) : drawOk P ops Sf (o :: l) i st K := by
  refine ⟨pv, ?_, k⟩
  unfold stepD; rw [hg]; exact .inl ⟨hb, z, h⟩
theorem d_step_no {j : Nat} {want : Bool} (hg : o.guard = some (j, want)) (hb : gval ops st j want = some false) (h : ∀ L, Adm ops i L → Sf (ins L i) = Sf L) (k : drawOk P ops Sf l (i + 1) (st.put o.dst .un) K) : drawOk P ops Sf (o :: l) i st K := by
  refine ⟨.un, ?_, k⟩
  unfold stepD; rw [hg]; exact .inr ⟨hb, fun _ => .un, h⟩
end
end Go.Pv
