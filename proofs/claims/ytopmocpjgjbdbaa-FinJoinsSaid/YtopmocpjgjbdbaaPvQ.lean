/- append, as an operation. -/
import Derived.Test.YtopmocpjgjbdbaaPvP
namespace Go.Pv
open Go.RowKit
section
variable {P : Program}

theorem run_append_zero (w : World) (T E ty : TypeId) (hT : P.underlying T = some (.slice E)) {sz : Nat} (hE : SizeIs P E sz) (a : Option (Nat × Nat)) (b : Option Addr) (n cap c : Nat) (h : n ≤ cap) :
    (Builtin.append_ #[T, T] ty #[.slice (a.map adr) n cap, .slice b 0 c]).run P w = .ok (.slice (a.map adr) n cap) w := by
  have hf : (Builtin.firstCells sz 0 (.slice b 0 c)).run P w = .ok #[] w := by
    cases b <;> simp [Builtin.firstCells, loadCells, loadCellsFrom]
  cases a <;> simp [Builtin.append_, run_underlying hT, hE.run, Builtin.lenOf, h, hf, storeCells]

theorem run_append_room' (w : World) (t ty e e' : TypeId) (i : TypeInfo) (ht : P.underlying t = some (.slice e)) (hi : P.info? e = some i)
    (g sLen sCap : Nat) (cur : Array Value) (hg : w.heap[g]? = some (.cells cur e' (0, 0)))
    (a : Addr) (m c : Nat) (news : List Value) (hl : news.length = m * i.size) (hnews : ∀ j u, news[j]? = some u → w.cell? (a.add j) = some u) (h1 : ∀ u ∈ news, u.oneCell' = true)
    (hroom : sLen + m ≤ sCap) (hfit : sLen * i.size + news.length ≤ cur.size) :
    (Builtin.append_ #[t, t] ty #[.slice (some ⟨g, 0, none⟩) sLen sCap, .slice (some a) m c]).run P w =
      .ok (.slice (some ⟨g, 0, none⟩) (sLen + m) sCap) (w.setRow g (cur.toList.take (sLen * i.size) ++ news ++ cur.toList.drop (sLen * i.size + news.length)).toArray) := by
  have hf := run_firstCells_some (P := P) w i.size m a m c news hl hnews
  have hst := run_storeCells_at P g (sLen * i.size) e' news 0 cur w hg (by simpa using hfit) h1
  simp only [Nat.add_zero] at hst
  simp [Builtin.append_, run_underlying ht, sizeOf, typeInfo, hi, Builtin.lenOf, hroom, hf, Addr.add_lit, hst]

theorem zeroCells_one {z : Value} (h : ∀ v ∈ z.cells.toList, v.oneCell' = true) (n : Nat) : ∀ v ∈ (Builtin.zeroCells z.cells n).toList, v.oneCell' = true := by
  intro v hm
  simp only [Builtin.zeroCells, Array.toList_map, List.mem_map] at hm
  obtain ⟨i, hi, rfl⟩ := hm
  have hi' : i < n * z.cells.size := by simpa using hi
  have hlt : i % z.cells.size < z.cells.size := Nat.mod_lt _ (by
    rcases Nat.eq_zero_or_pos z.cells.size with h0 | h0
    · rw [h0] at hi'; simp at hi'
    · exact h0)
  rw [getElem!_pos z.cells _ hlt]
  exact h _ (by simp)

theorem append_core {g : Gh} {S : Sx} {w : World} (hI : Inv g S w) {T E ty : TypeId} {ie : TypeInfo} {z : Value} {t sz : Nat} {es ys : List (List D)} {sv xv : Value} (hT : P.underlying T = some (.slice E)) (hE : P.info? E = some ie)
    (hz : ie.zero = some z) (hs : ie.size = sz) (h0 : 0 < sz) (hzc : z.cells.size = sz) (hz1 : ∀ v ∈ z.cells.toList, v.oneCell' = true) (hsv : V g (.app t sz es) sv) (hxv : VD g.mem (.sl sz false ys) xv)
    (hcur : S.ts[t]? = some es.length) (hb : (es.length + ys.length) * ie.bytes ≤ 140737488355328) (hmax : es.length + ys.length ≤ maxLen) :
    ∃ v g' w', (Builtin.append_ #[T, T] ty #[sv, xv]).run P w = .ok v w' ∧ V g' (.app t sz (es ++ ys)) v ∧ Inv g' ⟨S.bs, S.ts.set t (es.length + ys.length)⟩ w' ∧ Ext g w g' w' := by
  subst hs
  cases hsv with
  | app _ _ _ a cap T0 hsl hT0 hTz hle he =>
  have hz2 := hxv.lens.1
  obtain ⟨a1, cap1, vs, e1, hzz, hc, _, hn, hx, hl, hm, hv⟩ := hsl.unslA
  have ea : a.map adr = a1.map adr ∧ cap = cap1 := by simpa using e1
  obtain ⟨ea, rfl⟩ := ea
  have ea' : a = a1 := by
    cases a <;> cases a1 <;> simp [adr] at ea ⊢
    exact Prod.ext ea.1 ea.2
  subst ea'
  obtain ⟨T1, k1, k2, k3, k4, k5⟩ := hI.tag t es.length hcur
  rw [hT0] at k1
  obtain rfl : T0 = T1 := by simpa using k1
  obtain ⟨rfl, rfl⟩ := he k2.symm
  have hvl : vs.length = es.length * ie.size := by rw [← hl, flat_len hzz]
  have hlt : t < S.ts.length := (List.getElem?_eq_some_iff.1 hcur).1
  have hltg : t < g.tg.length := by rw [hI.htg]; exact hlt
  have hzap : ∀ e ∈ es ++ ys, e.length = ie.size := fun e h => (List.mem_append.1 h).elim (hzz e) (hz2 e)
  by_cases hy : ys = []
  · subst hy
    obtain ⟨a2, cap2, rfl⟩ := hxv.unsl0
    have e0 : S.ts.set t es.length = S.ts := by
      apply List.ext_getElem?
      intro i
      rw [List.getElem?_set]
      by_cases hi : t = i
      · subst hi; simp [hlt, hcur.symm]
      · rw [if_neg hi]
    refine ⟨_, g, w, run_append_zero w T E ty hT ⟨ie, hE, rfl⟩ T0.base a2 es.length T0.cap cap2 hc, ?_, by simpa [e0] using hI, .refl g w⟩
    simpa using V.app (g := g) t ie.size es T0.base T0.cap T0 hsl hT0 hTz hle he
  · have hyl : 0 < ys.length := List.length_pos_iff.2 hy
    obtain ⟨a2, cap2, us, rfl, _, hc2, _, hn2, hx2, hl2, hm2, hv2⟩ := hxv.unslN hy
    have hul : us.length = ys.length * ie.size := by rw [← hl2, flat_len hz2]
    obtain ⟨q, rfl⟩ : ∃ q, a2 = some q := by
      cases a2 with
      | none => have := hn2 rfl; omega
      | some q => exact ⟨q, rfl⟩
    have hus : VsD g.mem ys.flatten us := ⟨hl2, fun j c x e1 e2 => ⟨hv2 j c x e1 e2, hI.one _ _ _ (hm2 q j x rfl e2)⟩⟩
    have hnews : ∀ j v, us[j]? = some v → w.cell? ((adr q).add j) = some v := fun j v hj => by rw [add_adr]; exact hI.mem _ _ _ (hm2 q j v rfl hj)
    have hvs : VsD g.mem es.flatten vs := by
      refine ⟨hl, fun j c x e1 e2 => ⟨hv j c x e1 e2, ?_⟩⟩
      cases hp : T0.base with
      | none =>
        have := hn hp
        have := (List.getElem?_eq_some_iff.1 e2).1
        rw [hvl, show es.length = 0 by omega] at this; simp at this
      | some p => exact hI.one _ _ _ (hm p j x hp e2)
    by_cases hroom : es.length + ys.length ≤ T0.cap
    · have hact : T0.m < T0.cap := by omega
      obtain ⟨blk, cur, E', i1, i2, i3, i4⟩ := k5 hact
      obtain ⟨cur', E'', r1, r2, r3, r4⟩ := hI.room us ys.length hus.one hcur hT0 i1 k2 hyl (by rw [hTz]; exact hul) (by omega)
      rw [i2] at r1
      obtain ⟨rfl, rfl⟩ : cur = cur' ∧ E' = E'' := by simpa using r1
      have hr := run_append_room' (P := P) w T ty E E' ie hT hE blk es.length T0.cap cur i2 (adr q) ys.length cap2 us hul hnews hus.one hroom (by rw [← k2, ← hTz, k2]; exact r2)
      rw [← hTz] at hr
      rw [i1]
      refine ⟨_, _, _, hr, ?_, r3, r4⟩
      have hlen : (es ++ ys).length = es.length + ys.length := by simp
      have hsl' : VD { g with mem := fun b o => if b = blk ∧ es.length * T0.sz ≤ o ∧ o < es.length * T0.sz + us.length then us[o - es.length * T0.sz]? else g.mem b o, tg := g.tg.set t { T0 with m := es.length + ys.length } }.mem (.sl ie.size false (es ++ ys)) (.slice (some ⟨blk, 0, none⟩) (es ++ ys).length T0.cap) := by
        refine VD.row blk 0 T0.cap hzap (by rw [hlen]; exact hroom) (fun h => by cases h) k4 (vs := vs ++ us) ?_ ?_
        · rw [List.flatten_append]; exact (hvs.append hus).mono r4.le.mem
        · intro j x hj
          show (if blk = blk ∧ es.length * T0.sz ≤ 0 + j ∧ 0 + j < es.length * T0.sz + us.length then us[0 + j - es.length * T0.sz]? else g.mem blk (0 + j)) = some x
          rw [Nat.zero_add]
          by_cases hjv : j < vs.length
          · rw [List.getElem?_append_left hjv] at hj
            rw [if_neg (by rw [hTz, ← hvl]; omega)]
            have := hm _ j x i1 hj
            simpa using this
          · have hj2 := (List.getElem?_eq_some_iff.1 hj).1
            rw [List.getElem?_append_right (by omega)] at hj
            rw [List.length_append] at hj2
            rw [if_pos ⟨rfl, by rw [hTz, ← hvl]; omega, by rw [hTz, ← hvl]; omega⟩, hTz, ← hvl]
            exact hj
      have := V.app (g := { g with mem := fun b o => if b = blk ∧ es.length * T0.sz ≤ o ∧ o < es.length * T0.sz + us.length then us[o - es.length * T0.sz]? else g.mem b o, tg := g.tg.set t { T0 with m := es.length + ys.length } })
        t ie.size (es ++ ys) (some (blk, 0)) T0.cap { T0 with m := es.length + ys.length } hsl' (by simp [hltg]) hTz (by rw [hlen]; exact Nat.le_refl _) (fun _ => ⟨i1.symm, rfl⟩)
      rw [hlen] at this
      exact this
    · -- it grows
      have hgrow : ∀ (olds : List Value), olds = vs → ∀ old, old < es.length + ys.length →
          ∃ g' w', w' = w.drew.alloc (.cells (olds.toArray ++ us.toArray ++ Builtin.zeroCells z.cells (grownCap w (es.length + ys.length) old E - (es.length + ys.length))) E) ∧
            V g' (.app t ie.size (es ++ ys)) (.slice (some ⟨w.heap.size, 0, none⟩) (es.length + ys.length) (grownCap w (es.length + ys.length) old E)) ∧
            Inv g' ⟨S.bs, S.ts.set t (es.length + ys.length)⟩ w' ∧ Ext g w g' w' := by
        rintro olds rfl old ho
        have hge := grownCap_ge w (es.length + ys.length) old E
        have hcm := grownCap_le_maxLen w (es.length + ys.length) old E hmax
        generalize hG : grownCap w (es.length + ys.length) old E = G at *
        generalize hcur' : olds.toArray ++ us.toArray ++ Builtin.zeroCells z.cells (G - (es.length + ys.length)) = cur at *
        have hcsz : cur.size = G * ie.size := by
          rw [← hcur']
          simp only [Array.size_append, List.size_toArray, size_zeroCells, hzc, hvl, hul, ← Nat.add_mul]
          congr 1; omega
        have hone : ∀ v ∈ cur.toList, v.oneCell' = true := by
          intro v hmv
          rw [← hcur'] at hmv
          simp only [Array.toList_append, List.mem_append] at hmv
          rcases hmv with (hmv | hmv) | hmv
          · exact hvs.one v (by simpa using hmv)
          · exact hus.one v (by simpa using hmv)
          · exact zeroCells_one hz1 _ v hmv
        obtain ⟨q1, q2⟩ := hI.grow cur E ie.size (es.length + ys.length) G t (S.ts.set t (es.length + ys.length)) (g.tg.set t ⟨some (w.heap.size, 0), ie.size, es.length + ys.length, G⟩) hone hge hcm hcsz
          (by simp [hltg]) (fun u hu => by rw [List.getElem?_set, if_neg (fun h => hu h.symm)]) (by simp [hlt]) (fun u hu => by rw [List.getElem?_set, if_neg (fun h => hu h.symm)]) (by simp [hI.htg])
          (fun T' hT' => by rw [hT0] at hT'; cases hT'; exact ⟨by omega, hTz⟩)
        refine ⟨_, _, rfl, ?_, q1, q2⟩
        have hlen : (es ++ ys).length = es.length + ys.length := by simp
        have hsl' := VD.row (M := ({ g.lay w.heap.size (fun o => if o < (es.length + ys.length) * ie.size then cur[o]? else none) with tg := g.tg.set t ⟨some (w.heap.size, 0), ie.size, es.length + ys.length, G⟩ } : Gh).mem) (sz := ie.size) (full := false) (es := es ++ ys) (vs := olds ++ us)
          w.heap.size 0 G hzap (by rw [hlen]; exact hge) (fun h => by cases h) hcm (by rw [List.flatten_append]; exact (hvs.append hus).mono q2.le.mem) (fun j x hj => by
            have hj2 := (List.getElem?_eq_some_iff.1 hj).1
            show (if w.heap.size = w.heap.size then (if 0 + j < (es.length + ys.length) * ie.size then cur[0 + j]? else none) else _) = some x
            rw [if_pos rfl, Nat.zero_add, if_pos (by rw [List.length_append, hvl, hul, ← Nat.add_mul] at hj2; exact hj2), ← hcur']
            rw [Array.getElem?_append_left (by simpa using hj2)]
            simpa using hj)
        have := V.app (g := { g.lay w.heap.size (fun o => if o < (es.length + ys.length) * ie.size then cur[o]? else none) with tg := g.tg.set t ⟨some (w.heap.size, 0), ie.size, es.length + ys.length, G⟩ })
          t ie.size (es ++ ys) (some (w.heap.size, 0)) G ⟨some (w.heap.size, 0), ie.size, es.length + ys.length, G⟩ hsl' (by simp [hltg]) rfl (by rw [hlen]; exact Nat.le_refl _) (fun _ => ⟨rfl, rfl⟩)
        rw [hlen] at this
        exact this
      cases hp : T0.base with
      | none =>
        have hcap0 := hn hp
        have hes0 : es.length = 0 := by omega
        have hes : es = [] := List.eq_nil_of_length_eq_zero hes0
        have hvs0 : vs = [] := List.eq_nil_of_length_eq_zero (by rw [hvl, hes0]; simp)
        obtain ⟨g', w', rfl, b2, b3, b4⟩ := hgrow vs rfl 0 (by omega)
        have hr := run_append_nil (P := P) w T ty E ie z hT hE hz (adr q) ys.length cap2 us hul hnews hyl (by simp only [maxLen] at hmax; omega) (by rw [hes0] at hb; simp at hb; omega)
        refine ⟨_, g', _, ?_, b2, b3, b4⟩
        rw [hvs0]
        subst hes
        simp only [List.length_nil, Nat.zero_add, Option.map_none, hcap0] at hr ⊢
        simpa using hr
      | some p =>
        obtain ⟨g', w', rfl, b2, b3, b4⟩ := hgrow vs rfl T0.cap (by omega)
        have hr := run_append_grow (P := P) w T ty E ie z hT hE hz (adr p) es.length T0.cap vs hvl (fun j v hj => by rw [add_adr]; exact hI.mem _ _ _ (hm p j v hp hj)) (adr q) ys.length cap2 us hul hnews (by omega) (by simp only [maxLen] at hmax; omega) (growslice_fits (by omega) hb)
        exact ⟨_, g', _, hr, b2, b3, b4⟩

/-- A slice that has no room to spare gets a tag. -/
theorem Inv.retag' {g : Gh} {S : Sx} {w : World} (h : Inv g S w) {sz : Nat} {es : List (List D)} {v : Value} (hv : VD g.mem (.sl sz true es) v) :
    ∃ g', g'.bx = g.bx ∧ g'.gx = g.gx ∧ V g' (.app S.ts.length sz es) v ∧ Inv g' ⟨S.bs, S.ts ++ [es.length]⟩ w ∧ Ext g w g' w := by
  obtain ⟨a, cap, vs, rfl, hz, hc, hf, hn, hx, hl, hm, hvv⟩ := hv.unslT
  obtain rfl := hf rfl
  have hle : Le g { g with tg := g.tg ++ [⟨a, sz, es.length, es.length⟩] } := ⟨fun _ _ _ e => e, fun _ _ e e2 => ⟨e, e2⟩, fun _ G e => ⟨G, e, .inl ⟨rfl, rfl⟩⟩, fun t T e => ⟨T, by
    show (g.tg ++ [_])[t]? = _
    rw [List.getElem?_append_left (List.getElem?_eq_some_iff.1 e).1]; exact e, .inl rfl⟩, fun _ _ F e => ⟨F, e, .inl rfl⟩⟩
  have hcase : ∀ (t : Nat) (T : Tg), (g.tg ++ [⟨a, sz, es.length, es.length⟩])[t]? = some T → g.tg[t]? = some T ∨ T = ⟨a, sz, es.length, es.length⟩ := by
    intro t T e
    by_cases ht : t < g.tg.length
    · rw [List.getElem?_append_left ht] at e; exact .inl e
    · rw [List.getElem?_append_right (by omega)] at e
      have : t - g.tg.length < 1 := by have := (List.getElem?_eq_some_iff.1 e).1; simpa using this
      rw [show t - g.tg.length = 0 by omega] at e
      simp at e; exact .inr e.symm
  refine ⟨{ g with tg := g.tg ++ [⟨a, sz, es.length, es.length⟩] }, rfl, rfl, ?_, ⟨h.hbx, by simp [h.htg], h.mem, h.one, ?_, h.nob, h.bmem, h.blt, h.inj, h.gr, ?_, ?_, ?_, ?_⟩, hle, rfl, rfl, rfl, Nat.le_refl _, fun _ _ _ => rfl, ?_, fun _ _ _ e => .inl e⟩
  · exact .app _ sz es a es.length ⟨a, sz, es.length, es.length⟩ (hv.unfull) (by rw [← h.htg]; simp) rfl (Nat.le_refl _) (fun _ => ⟨rfl, rfl⟩)
  · intro i cs e hne hf
    obtain ⟨blk, cur, ty, k1, k2, k3, k4⟩ := h.box i cs e hne hf
    exact ⟨blk, cur, ty, k1, k2, k3, fun j c x e1 e2 => ⟨(k4 j c x e1 e2).1.mono hle, (k4 j c x e1 e2).2⟩⟩
  · intro t m e
    by_cases ht : t < S.ts.length
    · rw [show (⟨S.bs, S.ts ++ [es.length]⟩ : Sx).ts = S.ts ++ [es.length] from rfl, List.getElem?_append_left ht] at e
      obtain ⟨T, k1, k2⟩ := h.tag t m e
      obtain ⟨T', k3, k4⟩ := hle.tg t T k1
      have : T' = T := by
        have h3 : (g.tg ++ [⟨a, sz, es.length, es.length⟩])[t]? = some T' := k3
        rw [List.getElem?_append_left (by rw [h.htg]; exact ht), k1] at h3
        exact (Option.some.inj h3).symm
      subst this
      exact ⟨T', k3, k2⟩
    · rw [show (⟨S.bs, S.ts ++ [es.length]⟩ : Sx).ts = S.ts ++ [es.length] from rfl, List.getElem?_append_right (by omega)] at e
      have : t - S.ts.length < 1 := by have := (List.getElem?_eq_some_iff.1 e).1; simpa using this
      have ht0 : t = S.ts.length := by omega
      subst ht0
      simp at e
      subst e
      exact ⟨⟨a, sz, es.length, es.length⟩, by rw [← h.htg]; simp, rfl, Nat.le_refl _, hx, fun hh => absurd hh (Nat.lt_irrefl _)⟩
  · intro t T blk e1 e2 e3
    rcases hcase t T e1 with e | rfl
    · exact h.tbx t T blk e e2 e3
    · exact absurd e3 (Nat.lt_irrefl _)
  · intro t u T U blk e1 e2 e3 e4 e5 e6
    rcases hcase t T e1 with e | rfl
    · rcases hcase u U e2 with e' | rfl
      · exact h.tinj t u T U blk e e' e3 e4 e5 e6
      · exact absurd e6 (Nat.lt_irrefl _)
    · exact absurd e5 (Nat.lt_irrefl _)
  · refine h.fam.keep hle rfl (fun _ _ _ => Iff.rfl) h.fam.bx (Nat.le_refl _) (fun i j F b e1 e2 => ?_)
    obtain ⟨q1, q2, q3, q4⟩ := h.fam.out i j F b e1 e2
    refine ⟨rfl, q2, q3, fun t T e3 e4 => ?_⟩
    rcases hcase t T e3 with e | rfl
    · exact q4 t T e e4
    · exact Nat.lt_irrefl _
  · intro k hk
    rcases hk with hk | ⟨t, T, e1, e2, e3⟩ | hk
    · exact .inl (.inl hk)
    · rcases hcase t T e1 with e | rfl
      · exact .inl (.inr (.inl ⟨t, T, e, e2, e3⟩))
      · exact absurd e3 (Nat.lt_irrefl _)
    · exact .inl (.inr (.inr hk))

theorem Inv.retag {g : Gh} {S : Sx} {w : World} (h : Inv g S w) {sz : Nat} {es : List (List D)} {v : Value} (hv : VD g.mem (.sl sz true es) v) :
    ∃ g', V g' (.app S.ts.length sz es) v ∧ Inv g' ⟨S.bs, S.ts ++ [es.length]⟩ w ∧ Ext g w g' w := let ⟨g', _, _, h1⟩ := h.retag' hv; ⟨g', h1⟩
variable {o : Oper} {ρ : Operand → PV} {S : Sx}

theorem opS_append_tag {T E : TypeId} {ie : TypeInfo} {z : Value} {x y : Operand} {t sz : Nat} {es ys : List (List D)} (ho : o.op = .call { callee := .builtin .append, args := #[x, y], argTypes := #[T, T] }) (hT : P.underlying T = some (.slice E))
    (hE : P.info? E = some ie) (hz : ie.zero = some z) (hs : ie.size = sz) (h0 : 0 < sz) (hzc : z.cells.size = sz) (hz1 : ∀ v ∈ z.cells.toList, v.oneCell' = true) (hx : ρ x = .app t sz es) (hy : (ρ y).els = some (sz, ys))
    (hcur : S.ts[t]? = some es.length) (hb : (es.length + ys.length) * ie.bytes ≤ 140737488355328) (hmax : es.length + ys.length ≤ maxLen) :
    OpS P o ρ S ⟨S.bs, S.ts.set t (es.length + ys.length)⟩ (.app t sz (es ++ ys)) := by
  intro g w a next Q hI hv K
  have e1 := hv x (by simp [ho, Op.operands, Call.operands])
  rw [hx] at e1
  have e2 := (hv y (by simp [ho, Op.operands, Call.operands])).els hy
  obtain ⟨v, g', w', h1, h2, h3, h4⟩ := append_core (P := P) hI (ty := o.type) hT hE hz hs h0 hzc hz1 e1 e2 hcur hb hmax
  unfold Oper.wp
  simp only [execOp, ho, resolve, invoke, builtin, Sem.run_bind, Sem.run_pure, Result.andThen_ok, List.map_toArray, List.map_cons, List.map_nil, h1]
  exact K v g' w' h2 h3 h4

theorem opS_append_full {T E : TypeId} {ie : TypeInfo} {z : Value} {x y : Operand} {sz : Nat} {es ys : List (List D)} (ho : o.op = .call { callee := .builtin .append, args := #[x, y], argTypes := #[T, T] }) (hT : P.underlying T = some (.slice E))
    (hE : P.info? E = some ie) (hz : ie.zero = some z) (hs : ie.size = sz) (h0 : 0 < sz) (hzc : z.cells.size = sz) (hz1 : ∀ v ∈ z.cells.toList, v.oneCell' = true) (hx : ρ x = .d (.sl sz true es)) (hy : (ρ y).els = some (sz, ys))
    (hb : (es.length + ys.length) * ie.bytes ≤ 140737488355328) (hmax : es.length + ys.length ≤ maxLen) :
    OpS P o ρ S ⟨S.bs, S.ts ++ [es.length + ys.length]⟩ (.app S.ts.length sz (es ++ ys)) := by
  intro g w a next Q hI hv K
  have e1 := hv x (by simp [ho, Op.operands, Call.operands])
  rw [hx] at e1
  have e2 := (hv y (by simp [ho, Op.operands, Call.operands])).els hy
  obtain ⟨g1, k1, k2, k3⟩ := hI.retag (by cases e1 with | d _ _ h => exact h)
  obtain ⟨v, g', w', h1, h2, h3, h4⟩ := append_core (P := P) k2 (ty := o.type) hT hE hz hs h0 hzc hz1 k1 (e2.mono k3.le.mem) (by simp) hb hmax
  unfold Oper.wp
  simp only [execOp, ho, resolve, invoke, builtin, Sem.run_bind, Sem.run_pure, Result.andThen_ok, List.map_toArray, List.map_cons, List.map_nil, h1]
  exact K v g' w' h2 (by simpa using h3) (k3.trans h4)

/-- The least of two numbers, the greatest of two. -/
theorem opS_min {T : Array TypeId} {x y : Operand} {k : IntKind} {m n : Int} (ho : o.op = .call { callee := .builtin .min, args := #[x, y], argTypes := T }) (hx : ρ x = .d (.v (.int k m))) (hy : ρ y = .d (.v (.int k n))) : OpS P o ρ S S (.d (.v (.int k (if n < m then n else m)))) :=
  .value fun g w a _ hv => by
    have e1 := hv x (by simp [ho, Op.operands, Call.operands])
    have e2 := hv y (by simp [ho, Op.operands, Call.operands])
    rw [hx] at e1
    rw [hy] at e2
    exact ⟨_, by simp [execOp, ho, resolve, invoke, builtin, Builtin.min_, e1.d_v.1, e2.d_v.1, Builtin.min2], .d _ _ (.v _ rfl)⟩

theorem opS_makeFunc {f : FuncId} {fi ca : Array Operand} (ho : o.op = .makeFunc (.func f) fi ca) : OpS P o ρ S S (.fn f (fi.toList.map ρ) (ca.toList.map ρ)) :=
  .value fun g w a _ hv => by
    refine ⟨.func (.func f) (fi.map a.eval) (ca.map a.eval), by simp [execOp, ho, Instr.makeFunc], .fn _ _ _ _ _ (by simp) (by simp) (fun i c x h1 h2 => ?_) (fun i c x h1 h2 => ?_)⟩
    · simp only [List.getElem?_map, Option.map_eq_some_iff, Array.getElem?_map] at h1 h2
      obtain ⟨y, hy, rfl⟩ := h1
      obtain ⟨y', hy', rfl⟩ := h2
      rw [Array.getElem?_toList, hy'] at hy
      cases hy
      exact hv y (by simp only [ho, Op.operands]; exact Array.mem_append.2 (.inl (Array.mem_of_getElem? hy')))
    · simp only [List.getElem?_map, Option.map_eq_some_iff, Array.getElem?_map] at h1 h2
      obtain ⟨y, hy, rfl⟩ := h1
      obtain ⟨y', hy', rfl⟩ := h2
      rw [Array.getElem?_toList, hy'] at hy
      cases hy
      exact hv y (by simp only [ho, Op.operands]; exact Array.mem_append.2 (.inr (Array.mem_of_getElem? hy')))
end
end Go.Pv
