/- Calls in a wider frame; slices that nobody appends to again; rows of things that are written. -/
import Derived.Test.YtopmocpjgjbdbaaPvE
namespace Go.Pv
open Go.RowKit

theorem okL_of {nb nt : Nat} : ∀ {ps : List PV}, (∀ (i : Nat) (p : PV), ps[i]? = some p → PV.ok nb nt p = true) → PV.okL nb nt ps = true
  | [], _ => rfl
  | q :: ps, h => by
    simp only [PV.okL, Bool.and_eq_true]
    exact ⟨h 0 q rfl, okL_of (fun i p hp => h (i + 1) p (by simpa using hp))⟩
theorem okB_of {nb nt : Nat} : ∀ {l : List (Option (List PV))}, (∀ (i : Nat) (cs : List PV), l[i]? = some (some cs) → PV.okL nb nt cs = true) → okB nb nt l = true
  | [], _ => rfl
  | none :: r, h => by simp only [okB]; exact okB_of (fun i cs hp => h (i + 1) cs (by simpa using hp))
  | some q :: r, h => by
    simp only [okB, Bool.and_eq_true]
    exact ⟨h 0 q rfl, okB_of (fun i cs hp => h (i + 1) cs (by simpa using hp))⟩
theorem get_of_lt {α : Type} {a : Array α} {i n : Nat} (h : n = a.size) (hi : i < n) : ∃ x, a[i]? = some x := ⟨a[i]'(by omega), Array.getElem?_eq_getElem (by omega)⟩
/-- What is a value at all speaks of what there is. -/
theorem V.isOk {g : Gh} (hl : ∀ {i : Nat} {G : Gr}, g.gx i = some G → i < g.bx.length) (hlf : ∀ {i j : Nat} {F : Fx}, g.fx i j = some F → i < g.bx.length) {p : PV} {v : Value} (h : V g p v) : p.ok g.bx.length g.tg.length = true := by
  induction h with
  | d x v h => rfl
  | agg cs vs hl h1 h ih =>
    simp only [PV.ok]
    exact okL_of fun i p hp => let ⟨x, hx⟩ := get_of_lt hl (List.getElem?_eq_some_iff.1 hp).1; ih i p x hp hx
  | tup cs vs hl h ih =>
    simp only [PV.ok]
    exact okL_of fun i p hp => let ⟨x, hx⟩ := get_of_lt hl (List.getElem?_eq_some_iff.1 hp).1; ih i p x hp hx
  | app t sz es a cap T h hT hz hle he => simp only [PV.ok, decide_eq_true_eq]; exact (List.getElem?_eq_some_iff.1 hT).1
  | ptr i off blk h hg => simp only [PV.ok, decide_eq_true_eq]; exact (List.getElem?_eq_some_iff.1 h).1
  | ms b off sz n cap a h hc hx hn =>
    simp only [PV.ok, Bool.or_eq_true, decide_eq_true_eq, beq_iff_eq]
    by_cases h0 : n = 0
    · exact .inr h0
    · obtain ⟨_, _, e, _⟩ := h h0
      exact .inl (List.getElem?_eq_some_iff.1 e).1
  | vec b sz n cap A G hG hz hle he hc hx hn => simp only [PV.ok, decide_eq_true_eq]; exact hl hG
  | vp b N off blk G hG h0 hle he => simp only [PV.ok, decide_eq_true_eq]; exact hl hG
  | fp i j off blk h1 => simp only [PV.ok, decide_eq_true_eq]; exact hlf h1
  | fs i j off sz n cap a h1 hc hx hn =>
    simp only [PV.ok, Bool.or_eq_true, decide_eq_true_eq, beq_iff_eq]
    by_cases h0 : n = 0
    · exact .inr h0
    · obtain ⟨_, _, e⟩ := h1 h0
      exact .inl (hlf e)
  | fv i j sz n cap A b G hF hz hle he hc hx hn => simp only [PV.ok, decide_eq_true_eq]; exact hlf hF
  | fq i j N off blk b G hF h0 hle he => simp only [PV.ok, decide_eq_true_eq]; exact hlf hF
  | fm i j blk h1 => simp only [PV.ok, decide_eq_true_eq]; exact hlf h1
  | rp cs blk off f' h1 h2 => rfl
  | fn f' fi ca fv cv hf' hc h1 h2 ih1 ih2 =>
    simp only [PV.ok, Bool.and_eq_true]
    exact ⟨okL_of fun i p hp => let ⟨x, hx⟩ := get_of_lt hf' (List.getElem?_eq_some_iff.1 hp).1; ih1 i p x hp hx,
      okL_of fun i p hp => let ⟨x, hx⟩ := get_of_lt hc (List.getElem?_eq_some_iff.1 hp).1; ih2 i p x hp hx⟩
  | opt b p v h1 h2 ih =>
    simp only [PV.ok, Bool.or_eq_true, Bool.not_eq_true']
    cases b
    · exact .inr rfl
    · exact .inl (ih rfl)
  | un => rfl
  | junk v => rfl
theorem Inv.fx_lt {g : Gh} {S : Sx} {w : World} (h : Inv g S w) {i j : Nat} {F : Fx} (e : g.fx i j = some F) : i < S.bs.length := by
  obtain ⟨cs, h1, _⟩ := h.fam.dom i j F e
  exact (List.getElem?_eq_some_iff.1 h1).1
theorem Member.get {g : Gh} {w : World} {F : Fx} {ds : List PV} (h : Member g w F ds) {k : Nat} {p : PV} (hk : ds[k]? = some p) : ∃ v, V g p v := by
  have hlt := (List.getElem?_eq_some_iff.1 hk).1
  unfold Member at h
  split at h
  · obtain ⟨b, cur, ty, _, _, k3, k4⟩ := h (by rintro rfl; simp at hk)
    exact ⟨_, (k4 k p _ hk (Array.getElem?_eq_getElem (by omega))).1⟩
  · rename_i G _
    obtain ⟨k1, k2, k3, k4, k5⟩ := h
    have h0 : 0 < G.cap := by
      rcases Nat.eq_zero_or_pos G.cap with h0 | h0
      · rw [show G.m = 0 by omega] at k1; simp at k1; rw [k1] at hlt; exact absurd hlt (Nat.not_lt_zero _)
      · exact h0
    obtain ⟨b, cur, ty, _, _, j3, j4⟩ := k5 h0
    have : G.m * G.sz ≤ G.cap * G.sz := Nat.mul_le_mul_right _ k3
    exact ⟨_, (j4 k p _ hk (Array.getElem?_eq_getElem (by omega))).1⟩
  · obtain ⟨b, es, clock, _, _, k3, k4⟩ := h
    have hi : k / 2 < es.size := by omega
    obtain ⟨a, v, e1, e2, e3, e4⟩ := k4 (k / 2) _ (Array.getElem?_eq_getElem hi)
    rcases Nat.mod_two_eq_zero_or_one k with hm | hm
    · rw [show 2 * (k / 2) = k by omega, hk] at e1
      cases e1; exact ⟨_, e3⟩
    · rw [show 2 * (k / 2) + 1 = k by omega, hk] at e2
      cases e2; exact ⟨_, e4⟩
theorem Inv.okB {g : Gh} {S : Sx} {w : World} (h : Inv g S w) : Pv.okB g.bx.length g.tg.length S.bs = true := okB_of fun i cs e => okL_of fun j p hp => by
  have hne : cs ≠ [] := by rintro rfl; simp at hp
  have hj := (List.getElem?_eq_some_iff.1 hp).1
  cases hf : isFam cs with
  | false =>
    obtain ⟨blk, cur, ty, _, _, k3, k4⟩ := h.box i cs e hne hf
    exact (k4 j p _ hp (Array.getElem?_eq_getElem (by omega))).1.isOk (fun e => by rw [h.hbx]; exact h.gr_lt e) (fun e => by rw [h.hbx]; exact h.fx_lt e)
  | true =>
    cases j with
    | zero =>
      cases cs with
      | nil => cases hp
      | cons c r =>
        obtain rfl : c = p := by simpa using hp
        cases c <;> first | (simp [isFam] at hf; done) | (simp [PV.ok]; done)
    | succ j =>
      obtain ⟨F, ds, _, rfl, hm⟩ := h.fam.mem i j cs p e hf hp
      simp only [PV.ok]
      exact okL_of fun k q hq => let ⟨v, hv⟩ := hm.get hq; hv.isOk (fun e => by rw [h.hbx]; exact h.gr_lt e) (fun e => by rw [h.hbx]; exact h.fx_lt e)

section
variable {P : Program} {o : Oper} {ρ : Operand → PV} {S S' : Sx}
/-- New tags forgotten at once. -/
theorem OpS.forget {p q : PV} {m : Nat} (h : OpS P o ρ S ⟨S.bs, S.ts ++ [m]⟩ p) (hq : PVle p q) (hok : ∀ nb nt, q.ok nb nt = true) : OpS P o ρ S S q := by
  intro g w a next Q hI hv K
  refine h g w a next Q hI hv (fun v g' w' h1 h2 h3 => ?_)
  have hb : g'.bx.length = S.bs.length := h2.hbx
  have ht : g'.tg.length = S.ts.length + 1 := by have := h2.htg; simpa using this
  have hokb : Pv.okB S.bs.length S.ts.length (S.bs.take S.bs.length) = true := by
    have := hI.okB
    rw [List.take_length, ← hI.hbx, ← hI.htg]; exact this
  have e : (⟨S.bs, S.ts ++ [m]⟩ : Sx).cut S.bs.length S.ts.length = S := by simp [Sx.cut]
  have c1 := h2.cut S.bs.length S.ts.length hokb
  rw [e] at c1
  exact K v (g'.cut S.bs.length S.ts.length) w' ((hq _ _ h1).cut _ _ (hok _ _)) c1 (h3.cut _ _ (hI.gl (Nat.le_refl _)) (by rw [hI.htg]; exact Nat.le_refl _))
theorem o_append_pure {T E : TypeId} {sz b : Nat} {z : Value} {x y : Operand} {es ys : List (List D)} (ho : o.op = .call { callee := .builtin .append, args := #[x, y], argTypes := #[T, T] }) (hT : P.underlying T = some (.slice E))
    (hE : TI P E sz b z) (h0 : 0 < sz) (hx : ρ x = .d (.sl sz true es)) (hy : (ρ y).els = some (sz, ys)) (hb : (es.length + ys.length) * b ≤ 140737488355328) (hmax : es.length + ys.length ≤ 9223372036854775807) :
    OpS P o ρ S S (.d (.sl sz false (es ++ ys))) := (o_append_full ho hT hE h0 hx hy hb hmax).forget .app (fun _ _ => rfl)

theorem OpS.mono {ρ' : Operand → PV} {p : PV} (h : OpS P o ρ' S S' p) (hr : ∀ x ∈ o.op.operands, PVle (ρ x) (ρ' x)) : OpS P o ρ S S' p :=
  fun g w a next Q hI hv K => h g w a next Q hI (fun x hx => hr x hx g _ (hv x hx)) K
theorem PVle.func {f : FuncId} : PVle (.d (.v (.func (.func f) #[] #[]))) (.fn f [] []) := fun g v hv => by
  cases hv with
  | d _ _ h =>
    cases h with
    | v _ _ => exact .fn f [] [] #[] #[] rfl rfl (fun i c x h => by simp at h) (fun i c x h => by simp at h)
theorem o_callv_d {x : Operand} {f : FuncId} {xs : Array Operand} {ts : Array TypeId} {as : List PV} {r : PV} (ho : o.op = .call { callee := .value x, args := xs, argTypes := ts }) (hf : FnOk P f) (hx : ρ x = .d (.v (.func (.func f) #[] #[])))
    (hl : xs.size = as.length) (ha : ∀ (i : Nat) (y : Operand) (p : PV), xs[i]? = some y → as[i]? = some p → PVle (ρ y) p) (h : PC P f as S S' r) : OpS P o ρ S S' r := by
  intro g w a next Q hI hv K
  unfold Oper.wp
  have e1 := hv x (by simp [ho, Op.operands, Call.operands])
  rw [hx] at e1
  generalize hu : a.eval x = u at e1
  cases e1 with
  | d _ _ e1 =>
  cases e1 with
  | v _ _ =>
  have e : (execOp a.eval o).run P w = .ok (.enter f (xs.toList.map a.eval).toArray) w := by
    have h2 := hf.run ((xs.toList.map a.eval).toArray) w
    simp only [execOp, ho, resolve, hu, Deferred.ofValue, pure_bind, invoke]
    rw [show #[] ++ Array.map a.eval xs ++ #[] = (xs.toList.map a.eval).toArray by apply Array.ext'; simp]
    exact h2
  rw [e]
  simp only [Oper.upon]
  refine (h g w (xs.toList.map a.eval) hI (by simp [hl]) (fun i p v h1 h2 => ?_)).mono ?_
  · simp only [List.getElem?_map, Option.map_eq_some_iff, Array.getElem?_toList] at h2
    obtain ⟨y, hy, rfl⟩ := h2
    exact ha i y p hy h1 g _ (hv y (by simp only [ho, Op.operands, Call.operands]; exact Array.mem_append.2 (.inr (Array.mem_of_getElem? hy))))
  · rintro e w' ⟨v, g', rfl, h1, h2, h3⟩
    exact K v g' w' h1 h2 h3
end

/-- A function that changes own variables, called where there are more of them. -/
theorem PC.frame {P : Program} {f : FuncId} {as : List PV} {bs bs' : List (Option (List PV))} {ts ts' : List Nat} {r : PV} (h : PC P f as ⟨bs, ts⟩ ⟨bs', ts'⟩ r) (rb : List (Option (List PV))) (rt : List Nat) (hb : bs'.length = bs.length) (ht : ts'.length = ts.length)
    (ha : PV.okL bs.length ts.length as = true) (hbo : okB bs.length ts.length bs = true) : PC P f as ⟨bs ++ rb, ts ++ rt⟩ ⟨bs' ++ rb, ts' ++ rt⟩ r := by
  intro g w vs hI hl hv
  have e0 : (⟨bs ++ rb, ts ++ rt⟩ : Sx).cut bs.length ts.length = ⟨bs, ts⟩ := by simp [Sx.cut]
  have hI0 := hI.cut bs.length ts.length (by rw [List.take_left]; exact hbo)
  rw [e0] at hI0
  refine (h (g.cut bs.length ts.length) w vs hI0 hl (fun i p v h1 h2 => (hv i p v h1 h2).cut _ _ (okL_get ha i p h1))).mono ?_
  rintro e w' ⟨v, q, rfl, hr, hJ, hE⟩
  have gb : g.bx.length = bs.length + rb.length := by have := hI.hbx; simpa using this
  have gt : g.tg.length = ts.length + rt.length := by have := hI.htg; simpa using this
  have qb : q.bx.length = bs.length := by have := hJ.hbx; simp only at this; omega
  have qt : q.tg.length = ts.length := by have := hJ.htg; simp only at this; omega
  have tk : ∀ {α : Type} (l : List α) (n i : Nat) (x : α), (l.take n)[i]? = some x → l[i]? = some x := by
    intro α l n i x e
    rw [List.getElem?_take] at e
    split at e
    · exact e
    · cases e
  have fxc : ∀ i j F, (g.cut bs.length ts.length).fx i j = some F → i < bs.length ∧ g.fx i j = some F := by
    intro i j F e
    change (if i < bs.length then g.fx i j else none) = some F at e
    split at e
    · exact ⟨by assumption, e⟩
    · cases e
  -- who owns what
  have hno : ∀ (i blk : Nat), bs.length ≤ i → g.bx[i]? = some (some blk) → ¬ Owned (g.cut bs.length ts.length) blk ∧ blk < w.heap.size := by
    refine fun i blk hi e => ⟨?_, hI.blt i blk e⟩
    rintro (⟨j, ej⟩ | ⟨t, T, e1, e2, e3⟩ | ⟨i2, j2, F, e1, e2⟩)
    · have hj : j < bs.length := by
        change (g.bx.take bs.length)[j]? = _ at ej
        have := (List.getElem?_eq_some_iff.1 ej).1
        simp at this; omega
      have := hI.inj i j blk e (tk _ _ _ _ ej); omega
    · exact (hI.tbx t T blk (tk _ _ _ _ e1) e2 e3).2 i e
    · exact (hI.fam.out i2 j2 F blk (fxc _ _ _ e1).2 e2).2.2.1 i e
  have hnt : ∀ (t : Nat) (T : Tg) (blk : Nat), ts.length ≤ t → g.tg[t]? = some T → T.base = some (blk, 0) → T.m < T.cap → ¬ Owned (g.cut bs.length ts.length) blk ∧ blk < w.heap.size := by
    refine fun t T blk hi e e2 e3 => ⟨?_, (hI.tbx t T blk e e2 e3).1⟩
    rintro (⟨j, ej⟩ | ⟨u, U, u1, u2, u3⟩ | ⟨i2, j2, F, u1, u2⟩)
    · exact (hI.tbx t T blk e e2 e3).2 j (tk _ _ _ _ ej)
    · have hu : u < ts.length := by
        change (g.tg.take ts.length)[u]? = _ at u1
        have := (List.getElem?_eq_some_iff.1 u1).1
        simp at this; omega
      have := hI.tinj t u T U blk e (tk _ _ _ _ u1) e2 u2 e3 u3; omega
    · exact (hI.fam.out i2 j2 F blk (fxc _ _ _ u1).2 u2).2.2.2 t T e e2 e3
  have hnf : ∀ (i j : Nat) (F : Fx) (blk : Nat), bs.length ≤ i → g.fx i j = some F → F.blk = some blk → ¬ Owned (g.cut bs.length ts.length) blk ∧ blk < w.heap.size := by
    refine fun i j F blk hi e e2 => ⟨?_, (hI.fam.out i j F blk e e2).1⟩
    rintro (⟨j, ej⟩ | ⟨u, U, u1, u2, u3⟩ | ⟨i2, j2, F2, u1, u2⟩)
    · exact (hI.fam.out i _ F blk e e2).2.2.1 _ (tk _ _ _ _ ej)
    · exact (hI.fam.out i j F blk e e2).2.2.2 u U (tk _ _ _ _ u1) u2 u3
    · have := (hI.fam.inj i j i2 j2 F F2 blk e (fxc _ _ _ u1).2 e2 u2).1
      have := (fxc _ _ _ u1).1
      omega
  have hsub : ∀ k, Owned (g.cut bs.length ts.length) k → Owned g k := by
    rintro k (⟨i, e⟩ | ⟨t, T, e1, e2⟩ | ⟨i, j, F, e1, e2⟩)
    · exact .inl ⟨i, tk _ _ _ _ e⟩
    · exact .inr (.inl ⟨t, T, tk _ _ _ _ e1, e2⟩)
    · exact .inr (.inr ⟨i, j, F, (fxc _ _ _ e1).2, e2⟩)
  have hmn : ∀ (k p : Nat), k < w.heap.size → ¬ Owned (g.cut bs.length ts.length) k → g.mem k p = none → q.mem k p = none := fun k p hk ho hn => by
    cases hx : q.mem k p with
    | none => rfl
    | some x =>
      rcases hE.memx k p x hx with e | e | e
      · change g.mem k p = some x at e; rw [hn] at e; cases e
      · exact absurd e ho
      · omega
  obtain ⟨g', rfl⟩ : ∃ g' : Gh, g' = ⟨q.mem, q.bx ++ g.bx.drop bs.length, q.tg ++ g.tg.drop ts.length, fun i => if i < bs.length then q.gx i else g.gx i, fun i j => if i < bs.length then q.fx i j else g.fx i j⟩ := ⟨_, rfl⟩
  have bxl : ∀ i, i < bs.length → (q.bx ++ g.bx.drop bs.length)[i]? = q.bx[i]? := fun i hi => List.getElem?_append_left (by omega)
  have bxr : ∀ i, bs.length ≤ i → (q.bx ++ g.bx.drop bs.length)[i]? = g.bx[i]? := fun i hi => by
    rw [List.getElem?_append_right (by omega), List.getElem?_drop, qb]; congr 1; omega
  have tgl : ∀ i, i < ts.length → (q.tg ++ g.tg.drop ts.length)[i]? = q.tg[i]? := fun i hi => List.getElem?_append_left (by omega)
  have tgr : ∀ i, ts.length ≤ i → (q.tg ++ g.tg.drop ts.length)[i]? = g.tg[i]? := fun i hi => by
    rw [List.getElem?_append_right (by omega), List.getElem?_drop, qt]; congr 1; omega
  have bsl : ∀ i, i < bs.length → (bs' ++ rb)[i]? = bs'[i]? := fun i hi => List.getElem?_append_left (by omega)
  have bsr : ∀ i, bs.length ≤ i → (bs' ++ rb)[i]? = (bs ++ rb)[i]? := fun i hi => by
    rw [List.getElem?_append_right (by omega), List.getElem?_append_right (by omega), hb]
  have tsl : ∀ i, i < ts.length → (ts' ++ rt)[i]? = ts'[i]? := fun i hi => List.getElem?_append_left (by omega)
  have tsr : ∀ i, ts.length ≤ i → (ts' ++ rt)[i]? = (ts ++ rt)[i]? := fun i hi => by
    rw [List.getElem?_append_right (by omega), List.getElem?_append_right (by omega), ht]
  have gxl : ∀ i, i < bs.length → (fun i => if i < bs.length then q.gx i else g.gx i) i = q.gx i := fun i hi => if_pos hi
  have gxr : ∀ i, bs.length ≤ i → (fun i => if i < bs.length then q.gx i else g.gx i) i = g.gx i := fun i hi => if_neg (by omega)
  have qlt : ∀ {i : Nat} {G : Gr}, q.gx i = some G → i < bs.length := fun e => by have := hJ.gr_lt e; simp only at this; omega
  have fxl : ∀ i j, i < bs.length → (fun i j => if i < bs.length then q.fx i j else g.fx i j) i j = q.fx i j := fun i j hi => if_pos hi
  have fxr : ∀ i j, bs.length ≤ i → (fun i j => if i < bs.length then q.fx i j else g.fx i j) i j = g.fx i j := fun i j hi => if_neg (by omega)
  have qlf : ∀ {i j : Nat} {F : Fx}, q.fx i j = some F → i < bs.length := fun e => by have := hJ.fx_lt e; simp only at this; omega
  have le0 : Le q ⟨q.mem, q.bx ++ g.bx.drop bs.length, q.tg ++ g.tg.drop ts.length, fun i => if i < bs.length then q.gx i else g.gx i, fun i j => if i < bs.length then q.fx i j else g.fx i j⟩ :=
    ⟨fun _ _ _ e => e, fun i k e e2 => by
      have hi : i < bs.length := by have := (List.getElem?_eq_some_iff.1 e).1; omega
      exact ⟨(bxl i hi).trans e, (gxl i hi).trans e2⟩,
     fun i G e => ⟨G, (gxl i (qlt e)).trans e, .inl ⟨rfl, bxl i (qlt e)⟩⟩,
     fun t T e => ⟨T, by
      show (q.tg ++ _)[t]? = _
      rw [List.getElem?_append_left (List.getElem?_eq_some_iff.1 e).1]; exact e, .inl rfl⟩,
     fun i j F e => ⟨F, (fxl i j (qlf e)).trans e, .inl rfl⟩⟩
  have le1 : Le g ⟨q.mem, q.bx ++ g.bx.drop bs.length, q.tg ++ g.tg.drop ts.length, fun i => if i < bs.length then q.gx i else g.gx i, fun i j => if i < bs.length then q.fx i j else g.fx i j⟩ := by
    refine ⟨hE.le.mem, fun i k e e2 => ?_, fun i G e => ?_, fun t T e => ?_, fun i j F e => ?_⟩
    · by_cases hi : i < bs.length
      · obtain ⟨a1, a2⟩ := hE.le.bx i k (Gh.cut_bx hi e) (Gh.cut_gx hi e2)
        exact ⟨(bxl i hi).trans a1, (gxl i hi).trans a2⟩
      · exact ⟨(bxr i (by omega)).trans e, (gxr i (by omega)).trans e2⟩
    · by_cases hi : i < bs.length
      · obtain ⟨G', a1, a2⟩ := hE.le.gx i G (Gh.cut_gx hi e)
        refine ⟨G', (gxl i hi).trans a1, ?_⟩
        rcases a2 with ⟨a2, a3⟩ | a2
        · exact .inl ⟨a2, (bxl i hi).trans (a3.trans (Gh.cut_bx hi rfl))⟩
        · exact .inr a2
      · exact ⟨G, (gxr i (by omega)).trans e, .inl ⟨rfl, bxr i (by omega)⟩⟩
    · show ∃ T', (q.tg ++ g.tg.drop ts.length)[t]? = _ ∧ _
      by_cases hi : t < ts.length
      · rw [tgl t hi]
        exact hE.le.tg t T (by show (g.tg.take _)[t]? = _; rw [List.getElem?_take, if_pos hi]; exact e)
      · rw [tgr t (by omega)]; exact ⟨T, e, .inl rfl⟩
    · by_cases hi : i < bs.length
      · obtain ⟨F', a1, a2⟩ := hE.le.fx i j F (Gh.cut_fx hi e)
        exact ⟨F', (fxl i j hi).trans a1, a2⟩
      · exact ⟨F, (fxr i j (by omega)).trans e, .inl rfl⟩
  have ownq : ∀ (i k : Nat), q.bx[i]? = some (some k) → Owned (g.cut bs.length ts.length) k ∨ w.heap.size ≤ k := fun i k e => hE.own k (.inl ⟨i, e⟩)
  have ownt : ∀ (t : Nat) (T : Tg) (k : Nat), q.tg[t]? = some T → T.base = some (k, 0) → T.m < T.cap → Owned (g.cut bs.length ts.length) k ∨ w.heap.size ≤ k := fun t T k e e2 e3 => hE.own k (.inr (.inl ⟨t, T, e, e2, e3⟩))
  have ownf : ∀ (i j : Nat) (F : Fx) (k : Nat), q.fx i j = some F → F.blk = some k → Owned (g.cut bs.length ts.length) k ∨ w.heap.size ≤ k := fun i j F k e e2 => hE.own k (.inr (.inr ⟨i, j, F, e, e2⟩))
  refine ⟨v, ⟨q.mem, q.bx ++ g.bx.drop bs.length, q.tg ++ g.tg.drop ts.length, fun i => if i < bs.length then q.gx i else g.gx i, fun i j => if i < bs.length then q.fx i j else g.fx i j⟩, rfl, hr.mono le0, ?_, ?_⟩
  · refine ⟨by simp; omega, by simp; omega, hJ.mem, hJ.one, ?_, ?_, ?_, ?_, ?_, ?_, ?_, ?_, ?_, ?_⟩
    · intro i cs e hne hf
      change (bs' ++ rb)[i]? = _ at e
      by_cases hi : i < bs.length
      · rw [bsl i hi] at e
        obtain ⟨blk, cur, ty, k1, k2, k3, k4⟩ := hJ.box i cs e hne hf
        exact ⟨blk, cur, ty, (bxl i hi).trans k1, k2, k3, fun j c x e1 e2 => ⟨(k4 j c x e1 e2).1.mono le0, (k4 j c x e1 e2).2⟩⟩
      · rw [bsr i (by omega)] at e
        obtain ⟨blk, cur, ty, k1, k2, k3, k4⟩ := hI.box i cs e hne hf
        obtain ⟨n1, n2⟩ := hno i blk (by omega) k1
        exact ⟨blk, cur, ty, (bxr i (by omega)).trans k1, (hE.frame blk n2 n1).trans k2, k3, fun j c x e1 e2 => ⟨(k4 j c x e1 e2).1.mono le1, (k4 j c x e1 e2).2⟩⟩
    · intro i e
      change (bs' ++ rb)[i]? = _ at e
      show (q.bx ++ g.bx.drop bs.length)[i]? = _
      by_cases hi : i < bs.length
      · rw [bsl i hi] at e; rw [bxl i hi]; exact hJ.nob i e
      · rw [bsr i (by omega)] at e; rw [bxr i (by omega)]; exact hI.nob i e
    · intro i b e p
      change (q.bx ++ g.bx.drop bs.length)[i]? = _ at e
      by_cases hi : i < bs.length
      · rw [bxl i hi] at e; exact hJ.bmem i b e p
      · rw [bxr i (by omega)] at e
        obtain ⟨n1, n2⟩ := hno i b (by omega) e
        exact hmn b p n2 n1 (hI.bmem i b e p)
    · intro i b e
      change (q.bx ++ g.bx.drop bs.length)[i]? = _ at e
      by_cases hi : i < bs.length
      · rw [bxl i hi] at e; exact hJ.blt i b e
      · rw [bxr i (by omega)] at e; exact Nat.lt_of_lt_of_le (hI.blt i b e) hE.size
    · intro i j b e1 e2
      change (q.bx ++ g.bx.drop bs.length)[i]? = _ at e1
      change (q.bx ++ g.bx.drop bs.length)[j]? = _ at e2
      by_cases hi : i < bs.length <;> by_cases hj : j < bs.length
      · rw [bxl i hi] at e1; rw [bxl j hj] at e2; exact hJ.inj i j b e1 e2
      · rw [bxl i hi] at e1; rw [bxr j (by omega)] at e2
        obtain ⟨n1, n2⟩ := hno j b (by omega) e2
        rcases ownq i b e1 with h1 | h1
        · exact absurd h1 n1
        · omega
      · rw [bxr i (by omega)] at e1; rw [bxl j hj] at e2
        obtain ⟨n1, n2⟩ := hno i b (by omega) e1
        rcases ownq j b e2 with h1 | h1
        · exact absurd h1 n1
        · omega
      · rw [bxr i (by omega)] at e1; rw [bxr j (by omega)] at e2; exact hI.inj i j b e1 e2
    · intro i G e
      change (if i < bs.length then q.gx i else g.gx i) = some G at e
      split at e
      · rename_i hi
        obtain ⟨cs, k1, k2, k3, k4, k5, k6⟩ := hJ.gr i G e
        refine ⟨cs, (bsl i hi).trans k1, k2, k3, k4, k5, fun hc => ?_⟩
        obtain ⟨blk, cur, ty, j1, j2⟩ := k6 hc
        exact ⟨blk, cur, ty, (bxl i hi).trans j1, j2⟩
      · rename_i hi
        obtain ⟨cs, k1, k2, k3, k4, k5, k6⟩ := hI.gr i G e
        refine ⟨cs, (bsr i (by omega)).trans k1, k2, k3, k4, k5, fun hc => ?_⟩
        obtain ⟨blk, cur, ty, j1, j2, j3⟩ := k6 hc
        obtain ⟨n1, n2⟩ := hno i blk (by omega) j1
        exact ⟨blk, cur, ty, (bxr i (by omega)).trans j1, (hE.frame blk n2 n1).trans j2, j3⟩
    · intro t m e
      change (ts' ++ rt)[t]? = _ at e
      show ∃ T : Tg, (q.tg ++ g.tg.drop ts.length)[t]? = some T ∧ _
      by_cases hi : t < ts.length
      · rw [tsl t hi] at e; rw [tgl t hi]; exact hJ.tag t m e
      · rw [tsr t (by omega)] at e; rw [tgr t (by omega)]
        obtain ⟨T, k1, k2, k3, k4, k5⟩ := hI.tag t m e
        refine ⟨T, k1, k2, k3, k4, fun hlt => ?_⟩
        obtain ⟨blk, cur, ty, j1, j2, j3, j4⟩ := k5 hlt
        obtain ⟨n1, n2⟩ := hnt t T blk (by omega) k1 j1 hlt
        exact ⟨blk, cur, ty, j1, (hE.frame blk n2 n1).trans j2, j3, fun p hp => hmn blk p n2 n1 (j4 p hp)⟩
    · intro t T b e1 e2 e3
      change (q.tg ++ g.tg.drop ts.length)[t]? = _ at e1
      by_cases hi : t < ts.length
      · rw [tgl t hi] at e1
        obtain ⟨k1, k2⟩ := hJ.tbx t T b e1 e2 e3
        refine ⟨k1, fun i e => ?_⟩
        change (q.bx ++ g.bx.drop bs.length)[i]? = _ at e
        by_cases hj : i < bs.length
        · rw [bxl i hj] at e; exact k2 i e
        · rw [bxr i (by omega)] at e
          obtain ⟨n1, n2⟩ := hno i b (by omega) e
          rcases ownt t T b e1 e2 e3 with h1 | h1
          · exact n1 h1
          · omega
      · rw [tgr t (by omega)] at e1
        obtain ⟨n1, n2⟩ := hnt t T b (by omega) e1 e2 e3
        refine ⟨Nat.lt_of_lt_of_le n2 hE.size, fun i e => ?_⟩
        change (q.bx ++ g.bx.drop bs.length)[i]? = _ at e
        by_cases hj : i < bs.length
        · rw [bxl i hj] at e
          rcases ownq i b e with h1 | h1
          · exact n1 h1
          · omega
        · rw [bxr i (by omega)] at e; exact (hI.tbx t T b e1 e2 e3).2 i e
    · intro t u T U b e1 e2 e3 e4 e5 e6
      change (q.tg ++ g.tg.drop ts.length)[t]? = _ at e1
      change (q.tg ++ g.tg.drop ts.length)[u]? = _ at e2
      by_cases hi : t < ts.length <;> by_cases hj : u < ts.length
      · rw [tgl t hi] at e1; rw [tgl u hj] at e2; exact hJ.tinj t u T U b e1 e2 e3 e4 e5 e6
      · rw [tgl t hi] at e1; rw [tgr u (by omega)] at e2
        obtain ⟨n1, n2⟩ := hnt u U b (by omega) e2 e4 e6
        rcases ownt t T b e1 e3 e5 with h1 | h1
        · exact absurd h1 n1
        · omega
      · rw [tgr t (by omega)] at e1; rw [tgl u hj] at e2
        obtain ⟨n1, n2⟩ := hnt t T b (by omega) e1 e3 e5
        rcases ownt u U b e2 e4 e6 with h1 | h1
        · exact absurd h1 n1
        · omega
      · rw [tgr t (by omega)] at e1; rw [tgr u (by omega)] at e2; exact hI.tinj t u T U b e1 e2 e3 e4 e5 e6
    · refine ⟨fun i cs e hf => ?_, fun i j cs m e hf hm => ?_, fun i j F e => ?_, fun i j F b e hb2 => ?_, fun i j i' j' F F' b e1 e2 hb1 hb2 => ?_⟩
      · change (bs' ++ rb)[i]? = _ at e
        by_cases hi : i < bs.length
        · rw [bsl i hi] at e
          obtain ⟨k1, k2⟩ := hJ.fam.bx i cs e hf
          exact ⟨(bxl i hi).trans k1, (gxl i hi).trans k2⟩
        · rw [bsr i (by omega)] at e
          obtain ⟨k1, k2⟩ := hI.fam.bx i cs e hf
          exact ⟨(bxr i (by omega)).trans k1, (gxr i (by omega)).trans k2⟩
      · change (bs' ++ rb)[i]? = _ at e
        by_cases hi : i < bs.length
        · rw [bsl i hi] at e
          obtain ⟨F, ds, k1, rfl, k3⟩ := hJ.fam.mem i j cs m e hf hm
          exact ⟨F, ds, (fxl i j hi).trans k1, rfl, k3.mono le0 (fun _ _ => rfl)⟩
        · rw [bsr i (by omega)] at e
          obtain ⟨F, ds, k1, rfl, k3⟩ := hI.fam.mem i j cs m e hf hm
          refine ⟨F, ds, (fxr i j (by omega)).trans k1, rfl, k3.mono le1 (fun b hb => ?_)⟩
          obtain ⟨n1, n2⟩ := hnf i j F b (by omega) k1 hb
          exact hE.frame b n2 n1
      · change (if i < bs.length then q.fx i j else g.fx i j) = some F at e
        split at e
        · rename_i hi
          obtain ⟨cs, k1, k2⟩ := hJ.fam.dom i j F e
          exact ⟨cs, (bsl i hi).trans k1, k2⟩
        · rename_i hi
          obtain ⟨cs, k1, k2⟩ := hI.fam.dom i j F e
          exact ⟨cs, (bsr i (by omega)).trans k1, k2⟩
      · change (if i < bs.length then q.fx i j else g.fx i j) = some F at e
        split at e
        · rename_i hi
          obtain ⟨k1, k2, k3, k4⟩ := hJ.fam.out i j F b e hb2
          refine ⟨k1, k2, fun i' e' => ?_, fun t T e1 e2 e3 => ?_⟩
          · change (q.bx ++ g.bx.drop bs.length)[i']? = _ at e'
            by_cases hj : i' < bs.length
            · rw [bxl i' hj] at e'; exact k3 i' e'
            · rw [bxr i' (by omega)] at e'
              obtain ⟨n1, n2⟩ := hno i' b (by omega) e'
              rcases ownf i j F b e hb2 with h1 | h1
              · exact n1 h1
              · omega
          · change (q.tg ++ g.tg.drop ts.length)[t]? = _ at e1
            by_cases hj : t < ts.length
            · rw [tgl t hj] at e1; exact k4 t T e1 e2 e3
            · rw [tgr t (by omega)] at e1
              obtain ⟨n1, n2⟩ := hnt t T b (by omega) e1 e2 e3
              rcases ownf i j F b e hb2 with h1 | h1
              · exact n1 h1
              · omega
        · rename_i hi
          obtain ⟨n1, n2⟩ := hnf i j F b (by omega) e hb2
          obtain ⟨k1, k2, k3, k4⟩ := hI.fam.out i j F b e hb2
          refine ⟨Nat.lt_of_lt_of_le k1 hE.size, fun p => hmn b p n2 n1 (k2 p), fun i' e' => ?_, fun t T e1 e2 e3 => ?_⟩
          · change (q.bx ++ g.bx.drop bs.length)[i']? = _ at e'
            by_cases hj : i' < bs.length
            · rw [bxl i' hj] at e'
              rcases ownq i' b e' with h1 | h1
              · exact n1 h1
              · omega
            · rw [bxr i' (by omega)] at e'; exact k3 i' e'
          · change (q.tg ++ g.tg.drop ts.length)[t]? = _ at e1
            by_cases hj : t < ts.length
            · rw [tgl t hj] at e1
              rcases ownt t T b e1 e2 e3 with h1 | h1
              · exact n1 h1
              · omega
            · rw [tgr t (by omega)] at e1; exact k4 t T e1 e2 e3
      · change (if i < bs.length then q.fx i j else g.fx i j) = some F at e1
        change (if i' < bs.length then q.fx i' j' else g.fx i' j') = some F' at e2
        split at e1 <;> split at e2
        · exact hJ.fam.inj i j i' j' F F' b e1 e2 hb1 hb2
        · obtain ⟨n1, n2⟩ := hnf i' j' F' b (by omega) e2 hb2
          rcases ownf i j F b e1 hb1 with h1 | h1
          · exact absurd h1 n1
          · omega
        · obtain ⟨n1, n2⟩ := hnf i j F b (by omega) e1 hb1
          rcases ownf i' j' F' b e2 hb2 with h1 | h1
          · exact absurd h1 n1
          · omega
        · exact hI.fam.inj i j i' j' F F' b e1 e2 hb1 hb2
  · refine ⟨le1, hE.os, hE.tape, hE.output, hE.size, fun k hk ho => hE.frame k hk (fun h => ho (hsub k h)), fun k hk => ?_, fun b p x e => ?_⟩
    · rcases hk with ⟨i, e⟩ | ⟨t, T, e1, e2, e3⟩ | ⟨i, j, F, e1, e2⟩
      · change (q.bx ++ g.bx.drop bs.length)[i]? = _ at e
        by_cases hi : i < bs.length
        · rw [bxl i hi] at e; exact (ownq i k e).imp (hsub k) id
        · rw [bxr i (by omega)] at e; exact .inl (.inl ⟨i, e⟩)
      · change (q.tg ++ g.tg.drop ts.length)[t]? = _ at e1
        by_cases hi : t < ts.length
        · rw [tgl t hi] at e1; exact (ownt t T k e1 e2 e3).imp (hsub k) id
        · rw [tgr t (by omega)] at e1; exact .inl (.inr (.inl ⟨t, T, e1, e2, e3⟩))
      · change (if i < bs.length then q.fx i j else g.fx i j) = some F at e1
        split at e1
        · exact (ownf i j F k e1 e2).imp (hsub k) id
        · exact .inl (.inr (.inr ⟨i, j, F, e1, e2⟩))
    · rcases hE.memx b p x e with e | e | e
      · exact .inl e
      · exact .inr (.inl (hsub b e))
      · exact .inr (.inr e)

theorem PC.res_eq {P : Program} {f : FuncId} {as : List PV} {S S' : Sx} {r r' : PV} (h : PC P f as S S' r) (e : r = r') : PC P f as S S' r' := e ▸ h
theorem map_get_eq {α : Type} [Inhabited α] {f : α → List D} {xs : List α} {i : Nat} {x : α} (h : i < xs.length) (hx : xs.getD i default = x) : (xs.map f)[i]? = some (f x) := hx ▸ map_get h

theorem ite_min (m n : Int) : (if n < m then n else m) = min m n := by
  rw [Int.min_def]
  split <;> split <;> omega

/-- An array built. -/
theorem o_build_arr {P : Program} {o : Oper} {ρ : Operand → PV} {S : Sx} {T E : TypeId} {n es sz b : Nat} {z : Value} {zs cs : List PV} {parts : Array (Nat × Operand)} (ho : o.op = .build T parts) (hT : P.underlying T = some (.array n E)) (hti : TI P T sz b z) (hzs : Zs zs z.cells.toList) (hE : SizeIs P E es)
    (hf : fillP ρ (fun i => some (i * es, es)) zs parts.toList = some cs) : OpS P o ρ S S (.agg cs) :=
  .value fun g w a _ hv => by
    obtain ⟨it, hi, hz, _⟩ := hti
    obtain ⟨cells', h1, h2⟩ := fillP_ok (g := g) (a := a) parts.toList zs cs z.cells (fun x hx => hv x.2 (by
      simp only [ho, Op.operands]
      rw [List.mem_toArray]
      exact List.mem_map.2 ⟨x, hx, rfl⟩)) (hzs g) hf
    have hparts : (parts.map fun (i, x) => (i, a.eval x)).toList = parts.toList.map fun (i, x) => (i, a.eval x) := by simp
    refine ⟨.agg cells', ?_, .agg _ _ (by have := h2.1; simpa using this) h2.one (fun i c x e1 e2 => (h2.2 i c x e1 (by simpa using e2)).1)⟩
    simp only [execOp, ho, Instr.build, Sem.run_bind, zeroValue, typeInfo, run_program, Result.andThen_ok, hi, hz, Sem.run_pure, run_underlying hT, hE.run w, hparts, h1]

/-! ### what is asked of lists, shown piece by piece -/
theorem okB_none {nb nt : Nat} {r : List (Option (List PV))} (h : okB nb nt r = true) : okB nb nt (none :: r) = true := h
theorem okB_cons {nb nt : Nat} {cs : List PV} {r : List (Option (List PV))} (h1 : PV.okL nb nt cs = true) (h : okB nb nt r = true) : okB nb nt (some cs :: r) = true := by simp only [okB, h1, h, Bool.and_self]
theorem okL_map {nb nt : Nat} : ∀ l : List D, PV.okL nb nt (l.map .d) = true
  | [] => rfl
  | _ :: l => by simp only [List.map_cons, PV.okL, PV.ok, Bool.true_and]; exact okL_map l
theorem nobL_map {b : Nat} : ∀ l : List D, PV.nobL b (l.map .d) = true
  | [] => rfl
  | _ :: l => by simp only [List.map_cons, PV.nobL, PV.nob, Bool.true_and]; exact nobL_map l
theorem nobB_none {b k : Nat} {r : List (Option (List PV))} (h : nobB b (k + 1) r = true) : nobB b k (none :: r) = true := h
theorem nobB_self {b : Nat} {cs : List PV} {r : List (Option (List PV))} (h : nobB b (b + 1) r = true) : nobB b b (some cs :: r) = true := by simp [nobB, h]
theorem nobB_cons {b k : Nat} {cs : List PV} {r : List (Option (List PV))} (h1 : PV.nobL b cs = true) (h : nobB b (k + 1) r = true) : nobB b k (some cs :: r) = true := by simp [nobB, h1, h]
inductive ALv : List PV → List PV → Prop
  | nil : ALv [] []
  | cons {q p : PV} {qs ps : List PV} (h : PVle q p) (k : ALv qs ps) : ALv (q :: qs) (p :: ps)
theorem argsv_ok {qs as : List PV} (h : ALv qs as) : ∀ (i : Nat) (p q : PV), qs[i]? = some q → as[i]? = some p → PVle q p := by
  induction h with
  | nil => intro i p q h; simp at h
  | cons h _ ih =>
    intro i p q h1 h2
    cases i with
    | zero => simp at h1 h2; subst h1 h2; exact h
    | succ i => exact ih i p q (by simpa using h1) (by simpa using h2)

/-! ### rows of things -/
section
set_option linter.unusedSectionVars false
variable {α : Type} [Inhabited α]
/-- What a row of things is, cell by cell. -/
def row (f : α → List D) (xs : List α) : List PV := (xs.map f).flatten.map .d
theorem okB_row {nb nt : Nat} {f : α → List D} {xs : List α} {r : List (Option (List PV))} (h : okB nb nt r = true) : okB nb nt (some (row f xs) :: r) = true := okB_cons (okL_map _) h
theorem nobB_row {b k : Nat} {f : α → List D} {xs : List α} {r : List (Option (List PV))} (h : nobB b (k + 1) r = true) : nobB b k (some (row f xs) :: r) = true := nobB_cons (nobL_map _) h
theorem row_nil (f : α → List D) : row f [] = [] := rfl
theorem row_cons (f : α → List D) (x : α) (xs : List α) : row f (x :: xs) = (f x).map .d ++ row f xs := by simp [row]
theorem row_len {f : α → List D} {n : Nat} (hf : ∀ x, (f x).length = n) (xs : List α) : (row f xs).length = xs.length * n := by
  induction xs with
  | nil => simp [row]
  | cons x xs ih => rw [row_cons, List.length_append, ih, List.length_map, hf, List.length_cons, Nat.add_mul]; omega
theorem row_ne {f : α → List D} {n : Nat} (hf : ∀ x, (f x).length = n) (h0 : 0 < n) {xs : List α} {i : Nat} (hi : i < xs.length) : row f xs ≠ [] := fun h => by
  have := row_len hf xs
  rw [h] at this
  have h1 : 0 < xs.length * n := Nat.mul_pos (by omega) h0
  exact absurd this.symm (Nat.ne_of_gt h1)
theorem row_get {f : α → List D} {n : Nat} (hf : ∀ x, (f x).length = n) : ∀ (xs : List α) (i k : Nat), i < xs.length → k < n → (row f xs)[i * n + k]? = (f (xs.getD i default))[k]?.map .d
  | [], _, _, h, _ => by simp at h
  | x :: xs, 0, k, _, hk => by
    rw [row_cons, List.getElem?_append_left (by simp [hf]; omega)]
    simp
  | x :: xs, i + 1, k, h, hk => by
    have e : (i + 1) * n + k = n + (i * n + k) := by rw [Nat.add_mul]; omega
    rw [row_cons, e, List.getElem?_append_right (by simp [hf])]
    simp only [List.length_map, hf, Nat.add_sub_cancel_left]
    rw [row_get hf xs i k (by simpa using h) hk]
    rfl
theorem splice_app (l r ps : List PV) (k : Nat) (h : k + ps.length ≤ l.length) : splice (l ++ r) k ps = splice l k ps ++ r := by
  rw [splice_eq _ _ _ (by simp; omega), splice_eq _ _ _ h]
  rw [List.take_append_of_le_length (by omega), List.drop_append_of_le_length h]
  simp
theorem splice_right (l r ps : List PV) (k : Nat) (h : k + ps.length ≤ r.length) : splice (l ++ r) (l.length + k) ps = l ++ splice r k ps := by
  rw [splice_eq _ _ _ (by simp; omega), splice_eq _ _ _ h, List.take_append, List.drop_append]
  simp [List.take_of_length_le, List.drop_eq_nil_of_le, Nat.add_assoc]
theorem splice_row {f : α → List D} {n : Nat} (hf : ∀ x, (f x).length = n) {x' : α} {ds : List D} : ∀ (xs : List α) (i k : Nat), i < xs.length → k + ds.length ≤ n → (splice ((f (xs.getD i default)).map .d) k (ds.map .d) = (f x').map .d) →
    splice (row f xs) (i * n + k) (ds.map .d) = row f (xs.set i x')
  | [], _, _, h, _, _ => by simp at h
  | x :: xs, 0, k, _, hk, hx => by
    have hx' : splice ((f x).map .d) k (ds.map .d) = (f x').map .d := by simpa using hx
    rw [Nat.zero_mul, Nat.zero_add, row_cons, splice_app _ _ _ _ (by simp [hf]; omega), hx', List.set_cons_zero, row_cons]
  | x :: xs, i + 1, k, h, hk, hx => by
    have hi : i < xs.length := by simpa using h
    have e : (i + 1) * n + k = ((f x).map PV.d).length + (i * n + k) := by rw [Nat.add_mul, List.length_map, hf]; omega
    have hb : (i + 1) * n ≤ xs.length * n := Nat.mul_le_mul_right n hi
    rw [Nat.add_mul] at hb
    rw [row_cons, e, splice_right _ _ _ _ (by rw [row_len hf, List.length_map]; omega), splice_row hf xs i k hi hk (by simpa using hx), List.set_cons_succ, row_cons]

variable {P : Program} {o : Oper} {ρ : Operand → PV} {S S' : Sx} {f : α → List D} {xs : List α}
theorem o_index_row {T E : TypeId} {x y : Operand} {b sz n j : Nat} {k : IntKind} {i : Int} (ho : o.op = .indexAddr T x y) (hT : P.underlying T = some (.slice E)) (hE : SizeIs P E sz) (hx : ρ x = .ms b 0 sz n) (hy : ρ y = .d (.v (.int k i))) (hj : i = (j : Int)) (hn : j < n) :
    OpS P o ρ S S (.ptr b (j * sz)) := by
  subst hj
  have := o_index_ms (P := P) (S := S) ho hT hE hx hy (by omega) (by omega)
  simpa using this
/-- One cell of a thing of a row, read. -/
theorem o_load_row {T : TypeId} {d : TypeDesc} {x : Operand} {b n i k : Nat} {c : D} (ho : o.op = .load T x) (hT : P.underlying T = some d) (hd : aggT d = false) (hx : ρ x = .ptr b (i * n + k))
    (hb : S.bs[b]? = some (some (row f xs))) (hf : ∀ x, (f x).length = n) (hi : i < xs.length) (hk : k < n) (hc : (f (xs.getD i default))[k]? = some c) : OpS P o ρ S S (.d c) :=
  opS_load_box ho hT hd hx hb (by rw [row_get hf xs i k hi hk, hc]; rfl)
theorem row_thing {n : Nat} (hf : ∀ x, (f x).length = n) : ∀ (xs : List α) (i : Nat), i < xs.length → ((row f xs).drop (i * n)).take n = (f (xs.getD i default)).map .d
  | [], _, h => by simp at h
  | x :: xs, 0, _ => by
    rw [row_cons, Nat.zero_mul, List.drop_zero, List.take_append_of_le_length (by simp [hf]), List.take_of_length_le (by simp [hf])]; simp
  | x :: xs, i + 1, h => by
    have e : (i + 1) * n = ((f x).map PV.d).length + i * n := by rw [Nat.add_mul, List.length_map, hf]; omega
    have e2 : ((f x).map PV.d ++ row f xs).drop (((f x).map PV.d).length + i * n) = (row f xs).drop (i * n) := by rw [← List.drop_drop, List.drop_left]
    rw [row_cons, e, e2, row_thing hf xs i (by simpa using h)]
    simp
/-- A thing of a row, read. -/
theorem o_load_row_agg {T : TypeId} {d : TypeDesc} {x : Operand} {b n i : Nat} (ho : o.op = .load T x) (hT : P.underlying T = some d) (hd : aggT d = true) (hs : SizeIs P T n) (hx : ρ x = .ptr b (i * n))
    (hb : S.bs[b]? = some (some (row f xs))) (hf : ∀ x, (f x).length = n) (h0 : 0 < n) (hi : i < xs.length) : OpS P o ρ S S (.agg ((f (xs.getD i default)).map .d)) := by
  have hb1 : (i + 1) * n ≤ xs.length * n := Nat.mul_le_mul_right n hi
  rw [Nat.add_mul] at hb1
  have := opS_load_box_agg (P := P) ho hT hd hs hx hb (by rw [row_len hf]; omega) (row_ne hf h0 hi)
  rwa [row_thing hf xs i hi] at this
/-- Cells of a thing of a row, written. -/
theorem o_store_row {T : TypeId} {x y : Operand} {b n m i k : Nat} {x' : α} {ps : List PV} {ds : List D} (ho : o.op = .store T x y) (hs : SizeIs P T m) (hx : ρ x = .ptr b (i * n + k)) (hy : (ρ y).cells = some ps) (hps : ps = ds.map .d) (hl : ds.length = m)
    (hb : S.bs[b]? = some (some (row f xs))) (hf : ∀ x, (f x).length = n) (hi : i < xs.length) (h0 : 0 < n) (hk : k + m ≤ n) (hx' : splice ((f (xs.getD i default)).map .d) k (ds.map .d) = (f x').map .d) :
    OpS P o ρ S ⟨S.bs.set b (some (row f (xs.set i x'))), S.ts⟩ .junk := by
  have hb1 : (i + 1) * n ≤ xs.length * n := Nat.mul_le_mul_right n hi
  rw [Nat.add_mul] at hb1
  have := opS_store (P := P) ho hs hx hy (by rw [hps, List.length_map, hl]) hb (by rw [row_len hf]; omega) (row_ne hf h0 hi)
  rwa [hps, splice_row hf xs i k hi (by omega) hx'] at this
theorem o_append_row {T E : TypeId} {sz b : Nat} {z : Value} {x y : Operand} (ho : o.op = .call { callee := .builtin .append, args := #[x, y], argTypes := #[T, T] }) (hT : P.underlying T = some (.slice E)) (hE : TI P E sz b z) (h0 : 0 < sz)
    (hx : ρ x = .d (.sl sz true [])) (hy : (ρ y).els = some (sz, xs.map f)) (hb : xs.length * b ≤ 140737488355328) (hmax : xs.length ≤ 9223372036854775807) : OpS P o ρ S ⟨S.bs ++ [some (row f xs)], S.ts⟩ (.ms S.bs.length 0 sz xs.length) := by
  have := o_append_ms (P := P) (S := S) ho hT hE h0 hx hy (by simpa using hb) (by simpa using hmax)
  rwa [List.length_map] at this
variable {g0 : Gh} {w0 : World} {st : St}
theorem Wk.freeze_row {b sz n : Nat} {l : List (Nat × PV)} {S' : Sx} (hb : Gl g0 b) (hn : st.n = n) (hcs : st.S.bs[b]? = some (some (row f xs))) (hf : ∀ x, (f x).length = sz) (h1 : nobB b 0 st.S.bs = true)
    (h : FL st b sz (xs.map f) l) (hS : (⟨st.S.bs.set b none, st.S.ts⟩ : Sx) = S') : Wk g0 w0 st (St.ofL n l S') := by
  subst hS
  exact Wk.freeze hb hn hcs rfl (fun e he => by obtain ⟨x, _, rfl⟩ := List.mem_map.1 he; exact hf x) h1 h
theorem FL.row' {b sz m i : Nat} {l : List (Nat × PV)} (h : st.t i = .ms b 0 sz m) (hm : m = xs.length) (k : FL st b sz (xs.map f) l) : FL st b sz (xs.map f) ((i, .d (.sl sz false (xs.map f))) :: l) := .row (by rw [h, hm, List.length_map]) k
end
end Go.Pv
