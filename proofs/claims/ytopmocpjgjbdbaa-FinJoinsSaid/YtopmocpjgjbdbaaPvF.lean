/- Functions, loops' heads, quiet regions, in the logic of pure values. -/
import Derived.Test.YtopmocpjgjbdbaaPvD
namespace Go.Pv
open Go.RowKit
section
variable {P : Program} {g0 : Gh} {w0 : World} {Q : Exit → St → Prop} {st : St}

/-! ### quiet regions that draw -/
def quietOk (P : Program) (ops : Array Oper) (S : Sx) : List Oper → St → (St → Prop) → Prop
  | [], st, K => K st
  | o :: l, st, K => (match o.guard with
    | none => ∃ pv z, OpS P o (st.opz z) S S pv ∧ quietOk P ops S l (st.put o.dst pv) K
    | some (j, want) => (gval ops st j want = some true ∧ ∃ pv z, OpS P o (st.opz z) S S pv ∧ quietOk P ops S l (st.put o.dst pv) K) ∨ (gval ops st j want = some false ∧ ∃ pv, (∀ g, V g pv undef) ∧ quietOk P ops S l (st.put o.dst pv) K))
theorem q_nil {ops : Array Oper} {S : Sx} {K : St → Prop} (h : K st) : quietOk P ops S [] st K := h
theorem q_step {ops : Array Oper} {S : Sx} {K : St → Prop} {o : Oper} {l : List Oper} {pv : PV} (z : Nat) (hg : o.guard = none) (h : OpS P o (st.opz z) S S pv) (k : quietOk P ops S l (st.put o.dst pv) K) : quietOk P ops S (o :: l) st K := by
  unfold quietOk; rw [hg]; exact ⟨pv, z, h, k⟩
theorem q_step_yes {ops : Array Oper} {S : Sx} {K : St → Prop} {o : Oper} {l : List Oper} {pv : PV} {j : Nat} {want : Bool} (z : Nat) (hg : o.guard = some (j, want)) (hb : gval ops st j want = some true) (h : OpS P o (st.opz z) S S pv)
    (k : quietOk P ops S l (st.put o.dst pv) K) : quietOk P ops S (o :: l) st K := by
  unfold quietOk; rw [hg]; exact .inl ⟨hb, pv, z, h, k⟩
theorem q_step_no {ops : Array Oper} {S : Sx} {K : St → Prop} {o : Oper} {l : List Oper} {j : Nat} {want : Bool} (hg : o.guard = some (j, want)) (hb : gval ops st j want = some false) (k : quietOk P ops S l (st.put o.dst .un) K) :
    quietOk P ops S (o :: l) st K := by
  unfold quietOk; rw [hg]; exact .inr ⟨hb, _, fun _ => .un, k⟩
theorem quiet_draw {ops : Array Oper} {S : Sx} {K : St → Prop} : ∀ (l : List Oper) (i : Nat) (st : St), quietOk P ops S l st K → drawOk P ops (fun _ => S) l i st K
  | [], _, _, h => h
  | o :: l, i, st, h => by
    unfold quietOk at h
    unfold drawOk stepD
    cases hg : o.guard with
    | none =>
      rw [hg] at h
      obtain ⟨pv, z, h1, h2⟩ := h
      exact ⟨pv, ⟨z, fun _ _ => h1⟩, quiet_draw l (i + 1) _ h2⟩
    | some jw =>
      obtain ⟨j, want⟩ := jw
      rw [hg] at h
      rcases h with ⟨hb, pv, z, h1, h2⟩ | ⟨hb, pv, h0, h2⟩
      · exact ⟨pv, .inl ⟨hb, z, fun _ _ => h1⟩, quiet_draw l (i + 1) _ h2⟩
      · exact ⟨pv, .inr ⟨hb, h0, fun _ _ => rfl⟩, quiet_draw l (i + 1) _ h2⟩
theorem tst_S {ops : Array Oper} {pv : Nat → PV} : ∀ i, (tst ops pv st i).S = st.S
  | 0 => rfl
  | i + 1 => by
    have ih := tst_S (ops := ops) (pv := pv) i
    simp only [tst]
    cases dstOf ops i <;> exact ih
theorem drawOk_S {ops : Array Oper} {Sf : (Nat → Bool) → Sx} {S : Sx} {K : St → Prop} : ∀ (l : List Oper) (i : Nat) (st : St), st.S = S → drawOk P ops Sf l i st K → drawOk P ops Sf l i st (fun st' => K st' ∧ st'.S = S)
  | [], _, _, hs, h => ⟨h, hs⟩
  | o :: l, i, st, hs, h => by
    obtain ⟨pv, h1, h2⟩ := h
    exact ⟨pv, h1, drawOk_S l (i + 1) _ (by cases o.dst <;> exact hs) h2⟩
theorem drawOk_mono {ops : Array Oper} {Sf : (Nat → Bool) → Sx} {K K' : St → Prop} (hk : ∀ s, K s → K' s) : ∀ (l : List Oper) (i : Nat) (st : St), drawOk P ops Sf l i st K → drawOk P ops Sf l i st K'
  | [], _, _, h => hk _ h
  | o :: l, i, st, h => by
    obtain ⟨pv, h1, h2⟩ := h
    exact ⟨pv, h1, drawOk_mono hk l (i + 1) _ h2⟩
/-- A region that draws its order, and changes no own variable. -/
theorem pw_quiet {id : Nat} {l : List Oper} (hm : P.follows .mixedOrders = true) (hc : chk l.toArray = true) (h : quietOk P l.toArray st.S l st (Q .normal)) : pw P g0 w0 (.region id l.toArray true) Q st :=
  pw_draw (fun _ => st.S) hm hc rfl (drawOk_mono (K := fun s => Q .normal s ∧ s.S = st.S) (fun s hs => by
    obtain ⟨h1, h2⟩ := hs
    rw [← h2]; exact h1) l 0 st (drawOk_S l 0 st rfl (quiet_draw l 0 st h)))

/-! ### what may be forgotten -/
structure Weak0 (st st' : St) : Prop where
  n : st'.n = st.n
  S : st'.S = st.S
  t : ∀ i, i < st.n → PVle (st.t i) (st'.t i)
def Wk (g0 : Gh) (w0 : World) (st st' : St) : Prop := ∀ a w, R g0 w0 st a w → R g0 w0 st' a w
theorem Wk.refl (st : St) : Wk g0 w0 st st := fun _ _ h => h
theorem Wk.trans {a b c : St} (h : Wk g0 w0 a b) (k : Wk g0 w0 b c) : Wk g0 w0 a c := fun x w hr => k x w (h x w hr)
theorem Weak0.wk {st' : St} (h : Weak0 st st') : Wk g0 w0 st st' := by
  rintro a w ⟨g, h1, h2, h3, h4, h5⟩
  exact ⟨g, by rw [h.S]; exact h1, h2, h3, by rw [h.n]; exact h4, fun i hi => h.t i (by rw [← h.n]; exact hi) g _ (h5 i (by rw [← h.n]; exact hi))⟩
theorem pw_wk {c : Code} {st' : St} (hw : Wk g0 w0 st st') (h : pw P g0 w0 c Q st') : pw P g0 w0 c Q st := fun a w hr => h a w (hw a w hr)
def St.junks (st : St) (W : List Nat) : St := { st with t := fun i => if W.contains i = true then .junk else st.t i }
theorem junks_put {W : List Nat} {d : Nat} (p : PV) (h : W.contains d = true) : (st.put (some d) p).junks W = st.junks W := by
  unfold St.junks St.put
  congr 1
  funext i
  by_cases hi : i = d
  · subst hi; simp only [h, if_true]
  · simp only [if_neg hi]
theorem junks_none {W : List Nat} (p : PV) : (st.put none p).junks W = st.junks W := rfl
theorem junks_to {W : List Nat} (S : Sx) : (st.to S).junks W = (st.junks W).to S := rfl
theorem junks_junks {W : List Nat} : (st.junks W).junks W = st.junks W := by
  unfold St.junks
  congr 1
  funext i
  by_cases h : W.contains i = true
  · simp only [h, if_true]
  · simp only [if_neg h]
theorem to_to (S S' : Sx) : (st.to S).to S' = st.to S' := rfl
theorem to_S : st.to st.S = st := rfl
theorem Weak0.junks (st : St) (W : List Nat) : Weak0 st (st.junks W) := ⟨rfl, rfl, fun i _ => by
  show PVle (st.t i) (if W.contains i = true then .junk else st.t i)
  split
  · exact .junk
  · exact .rfl'⟩
theorem Weak0.put {X : St} {d : Nat} {p : PV} (h : Weak0 st X) (hp : PVle (st.t d) p) : Weak0 st (X.put (some d) p) := ⟨h.n, h.S, fun i hi => by
  show PVle (st.t i) (if i = d then p else X.t i)
  split
  · rename_i e; subst e; exact hp
  · exact h.t i hi⟩
theorem Weak0.of_eq {X : St} (h : st = X) : Weak0 st X := h ▸ ⟨rfl, rfl, fun _ _ => .rfl'⟩
theorem Weak0.trans {a b c : St} (h : Weak0 a b) (k : Weak0 b c) : Weak0 a c := ⟨k.n.trans h.n, k.S.trans h.S, fun i hi => (h.t i hi).trans (k.t i (by rw [h.n]; exact hi))⟩

def okUpto (t : Nat → PV) (nb nt : Nat) : Nat → Bool
  | 0 => true
  | n + 1 => okUpto t nb nt n && (t n).ok nb nt
theorem okUpto_get {t : Nat → PV} {nb nt : Nat} : ∀ {n : Nat}, okUpto t nb nt n = true → ∀ i, i < n → (t i).ok nb nt = true
  | 0, _, i, hi => absurd hi (Nat.not_lt_zero i)
  | n + 1, h, i, hi => by
    simp only [okUpto, Bool.and_eq_true] at h
    by_cases hin : i = n
    · subst hin; exact h.2
    · exact okUpto_get h.1 i (by omega)
/-- Own variables and tags from some place on are forgotten. -/
theorem Wk.cut (nb nt : Nat) (hb : Gl g0 nb) (ht : g0.tg.length ≤ nt) (h1 : okUpto st.t nb nt st.n = true) (h2 : okB nb nt (st.S.bs.take nb) = true) : Wk g0 w0 st (st.to (st.S.cut nb nt)) := by
  rintro a w ⟨g, k1, k2, k3, k4, k5⟩
  exact ⟨g.cut nb nt, k1.cut nb nt h2, k2.cut nb nt hb ht, k3, k4, fun i hi => (k5 i hi).cut nb nt (okUpto_get h1 i hi)⟩
/-- A slice without room gets a tag. -/
theorem Wk.retag {d sz : Nat} {es : List (List D)} (hd : st.t d = .d (.sl sz true es)) (hn : d < st.n) : Wk g0 w0 st ((st.put (some d) (.app st.S.ts.length sz es)).to ⟨st.S.bs, st.S.ts ++ [es.length]⟩) := by
  rintro a w ⟨g, k1, k2, k3, k4, k5⟩
  have hv := k5 d hn
  rw [hd] at hv
  obtain ⟨g', j1, j2, j3⟩ := k1.retag (by cases hv with | d _ _ h => exact h)
  refine ⟨g', j2, k2.trans j3, k3, k4, fun i hi => ?_⟩
  show V g' (if i = d then _ else st.t i) _
  split
  · rename_i e; subst e; exact j1
  · exact (k5 i hi).mono j3.le

theorem pw_loop' {c : Code} {α : Type} (inv : α → St) (ok : α → Prop) (μ : α → Nat) (x0 : α) (h0 : ok x0) (hw : Wk g0 w0 st (inv x0))
    (round : ∀ x, ok x → pw P g0 w0 c (andThen (fun st' => ∃ x', ok x' ∧ μ x' < μ x ∧ Wk g0 w0 st' (inv x')) Q) (inv x)) : pw P g0 w0 (.loop c) Q st := by
  intro a w hr
  refine wp_loop_ghost (fun n a w => ∃ x, ok x ∧ μ x = n ∧ R g0 w0 (inv x) a w) (μ x0) ⟨x0, h0, rfl, hw _ _ hr⟩ ?_
  rintro n a w ⟨x, hx, rfl, hr⟩
  refine wp_mono (round x hx a w hr) (fun e a' w' hl => ?_)
  obtain ⟨st', h1, h2⟩ := hl
  cases e with
  | normal =>
    obtain ⟨x', h3, h4, h5⟩ := h2
    exact ⟨_, h4, x', h3, rfl, h5 _ _ h1⟩
  | _ => exact ⟨st', h1, h2⟩

/-! ### functions -/
def resOf (rv : ResultVar) (tmps : Array Value) : Sem Value :=
  match rv with
  | .tmp t => pure (tmps.getD t undef)
  | .cell a t => do loadVar t (← asAddr (tmps.getD a undef))
/-- A result. -/
def Res1 (P : Program) (st : St) (rv : ResultVar) (p : PV) : Prop := ∀ (g : Gh) (a : Act) (w : World), Inv g st.S w → a.tmps.size = st.n → (∀ i, i < st.n → V g (st.t i) (a.tmps.getD i undef)) → ∃ v, (resOf rv a.tmps).run P w = .ok v w ∧ V g p v
theorem Res1.tmp {t : Nat} {p : PV} (h : t < st.n) (hp : PVle (st.t t) p) : Res1 P st (.tmp t) p := fun g _ _ _ _ hv => ⟨_, rfl, hp g _ (hv t h)⟩
theorem Res1.cell {a' t b off : Nat} {d : TypeDesc} {cs : List PV} {c p : PV} (h : a' < st.n) (ht : st.t a' = .ptr b off) (hT : P.underlying t = some d) (hd : aggT d = false) (hb : st.S.bs[b]? = some (some cs)) (hc : cs[off]? = some c) (hp : PVle c p) :
    Res1 P st (.cell a' t) p := by
  intro g a w hI hs hv
  have e1 := hv a' h
  rw [ht] at e1
  generalize hu : a.tmps.getD a' undef = u at e1
  cases e1 with
  | ptr _ _ blk hk =>
    have hne : cs ≠ [] := by rintro rfl; simp at hc
    obtain ⟨blk', cur, ty, h1, h2, h3, h4⟩ := hI.box b cs hb hne (hI.notFam hb hk)
    rw [hk] at h1
    obtain rfl : blk = blk' := by simpa using h1
    have hlt : off < cur.size := Nat.lt_of_lt_of_le (List.getElem?_eq_some_iff.1 hc).1 h3
    have hcell : w.cell? ⟨blk, off, none⟩ = some cur[off] := by rw [cell_of_row w blk off cur ty _ h2]; simp [hlt]
    exact ⟨cur[off], by simp [resOf, hu, asAddr, loadVar, run_isAgg hT, hd, hcell], hp g _ (h4 off c cur[off] hc (by simp [hlt])).1⟩
theorem Res1.cell_agg {a' t b off n : Nat} {d : TypeDesc} {cs : List PV} {p : PV} (h : a' < st.n) (ht : st.t a' = .ptr b off) (hT : P.underlying t = some d) (hd : aggT d = true) (hsz : SizeIs P t n) (hb : st.S.bs[b]? = some (some cs)) (hn : off + n ≤ cs.length) (hne : cs ≠ [])
    (hp : PVle (.agg ((cs.drop off).take n)) p) : Res1 P st (.cell a' t) p := by
  intro g a w hI hs hv
  have e1 := hv a' h
  rw [ht] at e1
  generalize hu : a.tmps.getD a' undef = u at e1
  cases e1 with
  | ptr _ _ blk hk =>
    obtain ⟨blk', cur, ty, h1, h2, h3, h4⟩ := hI.box b cs hb hne (hI.notFam hb hk)
    rw [hk] at h1
    obtain rfl : blk = blk' := by simpa using h1
    have hll : (loadCells ⟨blk, off, none⟩ n).run P w = .ok ((cur.toList.drop off).take n).toArray w := by
      have := run_loadCells_list (P := P) w ⟨blk, off, none⟩ ((cur.toList.drop off).take n) (fun j v hj => by
        rw [Addr.add_lit, cell_of_row w blk _ cur ty _ h2]
        rw [List.getElem?_take] at hj
        split at hj
        · rw [List.getElem?_drop] at hj; simpa using hj
        · cases hj)
      have hlen : ((cur.toList.drop off).take n).length = n := by simp; omega
      rw [hlen] at this
      exact this
    have key : ∀ (i : Nat) (c : PV) (x : Value), ((cs.drop off).take n)[i]? = some c → ((cur.toList.drop off).take n)[i]? = some x → V g c x ∧ x.oneCell' = true := by
      intro i c x k1 k2
      rw [List.getElem?_take] at k1 k2
      split at k1
      · rename_i hi
        rw [if_pos hi] at k2
        rw [List.getElem?_drop] at k1 k2
        exact h4 _ c x k1 (by simpa using k2)
      · cases k1
    refine ⟨.agg ((cur.toList.drop off).take n).toArray, by simp [resOf, hu, asAddr, loadVar, run_isAgg hT, hd, hsz.run w, hll], hp g _ (.agg _ _ (by simp; omega) ?_ ?_)⟩
    · intro v hm
      obtain ⟨j, hj, rfl⟩ := List.getElem_of_mem hm
      have hj' : j < ((cs.drop off).take n).length := by simp at hj ⊢; omega
      exact (key j _ _ (List.getElem?_eq_getElem hj') (List.getElem?_eq_getElem (by simpa using hj))).2
    · intro i c x k1 k2
      exact (key i c x k1 (by simpa using k2)).1

/-- All results. -/
inductive ResL (P : Program) (st : St) : List ResultVar → List PV → Prop
  | nil : ResL P st [] []
  | cons (rv : ResultVar) (rvs : List ResultVar) (p : PV) (ps : List PV) (h : Res1 P st rv p) (k : ResL P st rvs ps) : ResL P st (rv :: rvs) (p :: ps)
theorem ResL.run {rvs : List ResultVar} {ps : List PV} (h : ResL P st rvs ps) {g : Gh} {a : Act} {w : World} (hI : Inv g st.S w) (hs : a.tmps.size = st.n) (hv : ∀ i, i < st.n → V g (st.t i) (a.tmps.getD i undef)) :
    ∃ vs : List Value, (rvs.mapM (fun rv => resOf rv a.tmps)).run P w = .ok vs w ∧ ps.length = vs.length ∧ ∀ (i : Nat) (p : PV) (v : Value), ps[i]? = some p → vs[i]? = some v → V g p v := by
  induction h with
  | nil => exact ⟨[], rfl, rfl, by simp⟩
  | cons rv rvs p ps h _ ih =>
    obtain ⟨v, h1, h2⟩ := h g a w hI hs hv
    obtain ⟨vs, k1, k2, k3⟩ := ih
    refine ⟨v :: vs, ?_, by simp [k2], fun i q x e1 e2 => ?_⟩
    · simp only [List.mapM_cons, Sem.run_bind, h1, Result.andThen_ok, k1, Sem.run_pure]
    · cases i with
      | zero => simp at e1 e2; subst e1 e2; exact h2
      | succ i => exact k3 i q x (by simpa using e1) (by simpa using e2)
theorem results_run {fn : Func} {tmps : Array Value} {w : World} {vs : List Value} (h : (fn.results.toList.mapM (fun rv => resOf rv tmps)).run P w = .ok vs w) :
    (results fn tmps).run P w = .ok (if h : vs.toArray.size = 1 then vs.toArray[0] else .tuple vs.toArray) w := by
  show (do
    let vs ← fn.results.mapM (fun rv => resOf rv tmps)
    pure (if h : vs.size = 1 then vs[0] else .tuple vs) : Sem Value).run P w = _
  rw [Array.mapM_eq_mapM_toList]
  simp only [Sem.run_bind, Sem.run_map, h, Result.andThen_ok, Sem.run_pure]

/-- What a function's end must be. -/
structure Fin (P : Program) (fn : Func) (nb nt : Nat) (S' : Sx) (r : PV) (st : St) : Prop where
  S : st.S.cut nb nt = S'
  okb : okB nb nt (st.S.bs.take nb) = true
  okr : r.ok nb nt = true
  res : ∃ ps, ResL P st fn.results.toList ps ∧ r = (match ps with | [p] => p | ps => .tup ps)

theorem pc_intro {f : FuncId} {fn : Func} {c : Code} {as : List PV} {S S' : Sx} {r : PV} (hf : P.funcs[f]? = some fn) (hb : fn.body = some c) (hn : as.length ≤ fn.ntmps)
    (h : ∀ g0 w0, Gn g0 S.bs.length → g0.tg.length = S.ts.length → pw P g0 w0 c (fun e st => (e = .normal ∨ e = .ret) ∧ Fin P fn S.bs.length S.ts.length S' r st) ⟨fun i => as.getD i .un, fn.ntmps, S⟩) : PC P f as S S' r := by
  intro g w vs hI hl hv
  refine calls_of_wp hf hb ?_
  have hsz : (vs.toArray ++ Array.replicate (fn.ntmps - vs.toArray.size) undef).size = fn.ntmps := by simp; omega
  have hr : R g w ⟨fun i => as.getD i .un, fn.ntmps, S⟩ { tmps := vs.toArray ++ Array.replicate (fn.ntmps - vs.toArray.size) undef, defers := [] } w := by
    refine ⟨g, hI, .refl g w, rfl, hsz, fun i hi => ?_⟩
    show V g (as.getD i .un) ((vs.toArray ++ Array.replicate (fn.ntmps - vs.toArray.size) undef).getD i undef)
    rw [Array.getD_eq_getD_getElem?]
    by_cases hia : i < as.length
    · rw [Array.getElem?_append_left (by simp; omega)]
      have h1 : as[i]? = some as[i] := List.getElem?_eq_getElem hia
      have h2 : vs[i]? = some (vs[i]'(by omega)) := List.getElem?_eq_getElem (by omega)
      have := hv i _ _ h1 h2
      simpa [List.getD, h1, h2] using this
    · rw [Array.getElem?_append_right (by simp; omega)]
      have h1 : as[i]? = none := List.getElem?_eq_none (by omega)
      have h2 : (Array.replicate (fn.ntmps - vs.toArray.size) undef)[i - vs.toArray.size]?.getD undef = undef := by
        cases hx : (Array.replicate (fn.ntmps - vs.toArray.size) undef)[i - vs.toArray.size]? with
        | none => rfl
        | some x =>
          obtain ⟨hlt, hx'⟩ := Array.getElem?_eq_some_iff.1 hx
          rw [← hx']; simp
      rw [h2]
      simp only [List.getD, h1, Option.getD_none]
      exact .un
  refine wp_mono (h g w hI.gn hI.htg _ w hr) ?_
  rintro e a w' ⟨st, ⟨g1, k1, k2, k3, k4, k5⟩, he, hfin⟩
  obtain ⟨ps, hps, hr'⟩ := hfin.res
  obtain ⟨us, u1, u2, u3⟩ := hps.run k1 k4 k5
  have hrun := results_run (P := P) (fn := fn) u1
  have hval : V g1 r (if h : us.toArray.size = 1 then us.toArray[0] else .tuple us.toArray) := by
    rw [hr']
    match ps, us, u2, u3 with
    | [p], [u], _, u3 => exact u3 0 p u rfl rfl
    | [], [], _, _ => exact .tup [] #[] rfl (by simp)
    | p :: q :: ps, u :: v :: us, u2, u3 =>
      rw [dif_neg (by simp)]
      exact .tup _ _ (by simpa using u2) (fun i c x e1 e2 => u3 i c x e1 (by simpa using e2))
  have hbody : bodyPost P fn (fun e w' => ∃ v g', e = .returned v ∧ V g' r v ∧ Inv g' S' w' ∧ Ext g w g' w') .ret a w' :=
    ⟨k3, _, hrun, _, g1.cut S.bs.length S.ts.length, rfl, hval.cut _ _ hfin.okr, by rw [← hfin.S]; exact k1.cut _ _ hfin.okb, k2.cut _ _ (hI.gl (Nat.le_refl _)) (by rw [hI.htg]; exact Nat.le_refl _)⟩
  rcases he with rfl | rfl
  · exact hbody
  · exact hbody
end
end Go.Pv
