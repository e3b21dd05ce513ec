/- Families: rows appended to; what is appended. -/
import Derived.Test.YtopmocpjgjbdbaaPvFb
namespace Go.Pv
open Go.RowKit

/-- Where the cells of a slice that is appended, or copied, come from. -/
inductive Src (S : Sx) : PV → Nat → Nat → List PV → Prop
  | els {p : PV} {sz : Nat} {ys : List (List D)} {ps : List PV} (h : p.els = some (sz, ys)) (e : ys.flatten.map .d = ps) : Src S p sz ys.length ps
  | ms {b off sz m : Nat} {cs ps : List PV} (h : S.bs[b]? = some (some cs)) (hl : off + m * sz ≤ cs.length) (e : (cs.drop off).take (m * sz) = ps) : Src S (.ms b off sz m) sz m ps
  | fs {i j off sz m : Nat} {ds ps : List PV} (h : FamAt S i j ds) (hl : off + m * sz ≤ ds.length) (e : (ds.drop off).take (m * sz) = ps) : Src S (.fs i j off sz m) sz m ps
def Given (g : Gh) (w : World) (v : Value) (sz m : Nat) (ps : List PV) : Prop := ∃ A2 cap2 us, v = .slice A2 m cap2 ∧ Vs g ps us ∧ us.length = m * sz ∧ (0 < m → ∃ q, A2 = some q ∧ ∀ j x, us[j]? = some x → w.cell? (q.add j) = some x)
theorem given_cells {g : Gh} {w : World} {ds ps : List PV} {blk off sz m cap : Nat} {cur : Array Value} {ty : TypeId} (h2 : w.heap[blk]? = some (.cells cur ty (0, 0))) (h3 : ds.length ≤ cur.size) (h4 : ∀ (k : Nat) (c : PV) (x : Value), ds[k]? = some c → cur[k]? = some x → V g c x ∧ x.oneCell' = true)
    (hl : off + m * sz ≤ ds.length) (e : (ds.drop off).take (m * sz) = ps) : Given g w (.slice (some ⟨blk, off, none⟩) m cap) sz m ps := by
  subst e
  refine ⟨_, cap, (cur.toList.drop off).take (m * sz), rfl, ⟨by simp; omega, fun j c x k1 k2 => ?_⟩, by simp; omega, fun _ => ⟨_, rfl, fun j v hj => ?_⟩⟩
  · rw [List.getElem?_take] at k1 k2
    split at k1
    · rename_i hi
      rw [if_pos hi] at k2
      rw [List.getElem?_drop] at k1 k2
      exact h4 _ c x k1 (by simpa using k2)
    · cases k1
  · rw [List.getElem?_take] at hj
    split at hj
    · rw [List.getElem?_drop] at hj
      rw [Addr.add_lit, cell_of_row w blk _ cur ty _ h2]; simpa using hj
    · cases hj
theorem given_zero {g : Gh} {w : World} {A : Option Addr} {sz cap : Nat} {ps : List PV} (h : ps = []) : Given g w (.slice A 0 cap) sz 0 ps := by
  subst h
  exact ⟨A, cap, [], rfl, ⟨rfl, fun j c x h => by simp at h⟩, by simp, fun h => absurd h (Nat.lt_irrefl _)⟩
theorem Src.given {g : Gh} {S : Sx} {w : World} (hI : Inv g S w) {p : PV} {sz m : Nat} {ps : List PV} (h : Src S p sz m ps) (h0 : 0 < sz) {v : Value} (hv : V g p v) : Given g w v sz m ps := by
  cases h with
  | els h e =>
    rename_i ys
    subst e
    have e2 := hv.els h
    by_cases hys : ys = []
    · subst hys
      obtain ⟨A2, c2, h2⟩ := e2.unsl0
      rw [h2]; exact given_zero rfl
    · obtain ⟨a2, cap2, us, h2, hz2, hc2, _, hn2, hx2, hl2, hm2, hv2⟩ := e2.unslN hys
      have hyl : 0 < ys.length := List.length_pos_iff.2 hys
      obtain ⟨q, rfl⟩ : ∃ q, a2 = some q := by
        cases a2 with
        | none => have := hn2 rfl; omega
        | some q => exact ⟨q, rfl⟩
      refine ⟨some (adr q), cap2, us, h2, ⟨by rw [List.length_map]; exact hl2, fun j c x h3 h4 => ?_⟩, by rw [← hl2, flat_len hz2], fun _ => ⟨adr q, rfl, fun j v hj => by rw [add_adr]; exact hI.mem _ _ _ (hm2 q j v rfl hj)⟩⟩
      rw [List.getElem?_map, Option.map_eq_some_iff] at h3
      obtain ⟨d, hd, rfl⟩ := h3
      exact ⟨.d _ _ (hv2 j d x hd h4), hI.one _ _ _ (hm2 q j x rfl h4)⟩
  | ms h hl e =>
    rename_i b off cs
    cases hv with
    | ms _ _ _ _ cap a' hh hc hx hnn =>
      by_cases hm : m = 0
      · subst hm; exact given_zero (by rw [← e]; simp)
      · obtain ⟨blk, rfl, q1, q2⟩ := hh hm
        have hpos : 0 < m * sz := Nat.mul_pos (Nat.pos_of_ne_zero hm) h0
        have hne : cs ≠ [] := by rintro rfl; simp at hl; omega
        obtain ⟨blk', cur, ty, r1, r2, r3, r4⟩ := hI.box b cs h hne (hI.notFam h q1)
        rw [q1] at r1
        obtain rfl : blk = blk' := by simpa using r1
        exact given_cells r2 r3 r4 hl e
  | fs h hl e =>
    rename_i i j off ds
    cases hv with
    | fs _ _ _ _ _ cap a' hh hc hx hnn =>
      by_cases hm : m = 0
      · subst hm; exact given_zero (by rw [← e]; simp)
      · obtain ⟨blk, rfl, q1⟩ := hh hm
        have hpos : 0 < m * sz := Nat.mul_pos (Nat.pos_of_ne_zero hm) h0
        have hne : ds ≠ [] := by rintro rfl; simp at hl; omega
        obtain ⟨F, k1, k2⟩ := h.member hI
        rw [q1] at k1
        obtain rfl := Option.some.inj k1
        obtain ⟨b, cur, ty, e1, e2, e3, e4⟩ := k2 hne
        obtain rfl : blk = b := by simpa using e1
        exact given_cells e2 e3 e4 hl e

/-- A growing member is another one. -/
theorem Inv.refam {g : Gh} {S : Sx} {w w' : World} (h : Inv g S w) {i j blk' : Nat} {cs ds ds' : List PV} {b0 : Option Nat} {G G' : Gr} {cur' : Array Value} {ty' : TypeId} (hb : S.bs[i]? = some (some cs)) (hf : isFam cs = true) (hmm : cs[j + 1]? = some (.agg ds)) (hF : g.fx i j = some ⟨b0, .gr G⟩)
    (hm : G.m < G'.m) (hsz : G'.sz = G.sz) (hcap : G'.m ≤ G'.cap) (hmax : G'.cap ≤ maxLen) (hcur : w'.heap[blk']? = some (.cells cur' ty' (0, 0))) (hsize : cur'.size = G'.cap * G'.sz) (hlen : ds'.length = G'.m * G'.sz)
    (hv : ∀ (j : Nat) (c : PV) (x : Value), ds'[j]? = some c → cur'[j]? = some x → V g c x ∧ x.oneCell' = true)
    (hfr : ∀ k, k < w.heap.size → k ≠ blk' → w'.heap[k]? = w.heap[k]?) (hle0 : w.heap.size ≤ w'.heap.size) (hos : w'.os = w.os) (htape : w'.tape = w.tape) (hout : w'.output = w.output)
    (hnew : b0 = some blk' ∨ w.heap.size ≤ blk') :
    Inv { g with fx := fun i' j' => if i' = i ∧ j' = j then some ⟨some blk', .gr G'⟩ else g.fx i' j' } ⟨S.bs.set i (some (cs.set (j + 1) (.agg ds'))), S.ts⟩ w' ∧
      Ext g w { g with fx := fun i' j' => if i' = i ∧ j' = j then some ⟨some blk', .gr G'⟩ else g.fx i' j' } w' := by
  have hlb : i < S.bs.length := (List.getElem?_eq_some_iff.1 hb).1
  have hltj : j + 1 < cs.length := (List.getElem?_eq_some_iff.1 hmm).1
  have hlt' : blk' < w'.heap.size := (Array.getElem?_eq_some_iff.1 hcur).1
  obtain ⟨g', hg'⟩ : ∃ g' : Gh, g' = { g with fx := fun i' j' => if i' = i ∧ j' = j then some ⟨some blk', .gr G'⟩ else g.fx i' j' } := ⟨_, rfl⟩
  have hfxs : g'.fx i j = some ⟨some blk', .gr G'⟩ := by rw [hg']; simp
  have hfxo : ∀ i' j', ¬ (i' = i ∧ j' = j) → g'.fx i' j' = g.fx i' j' := fun i' j' hne => by rw [hg']; show (if i' = i ∧ j' = j then _ else _) = _; rw [if_neg hne]
  have hbx : g'.bx = g.bx := by rw [hg']
  have hgx : g'.gx = g.gx := by rw [hg']
  have htg : g'.tg = g.tg := by rw [hg']
  have hmem : g'.mem = g.mem := by rw [hg']
  rw [← hg']
  -- nobody else has the block
  have hout' : (∀ o, g.mem blk' o = none) ∧ (∀ i' : Nat, g.bx[i']? ≠ some (some blk')) ∧ (∀ (t : Nat) (T : Tg), g.tg[t]? = some T → T.base = some (blk', 0) → ¬ T.m < T.cap) ∧ ∀ i' j' F', g.fx i' j' = some F' → F'.blk = some blk' → i' = i ∧ j' = j := by
    rcases hnew with rfl | hn
    · obtain ⟨_, k2, k3, k4⟩ := h.fam.out i j _ blk' hF rfl
      exact ⟨k2, k3, k4, fun i' j' F' e1 e2 => h.fam.inj i' j' i j F' _ blk' e1 hF e2 rfl⟩
    · refine ⟨fun o => ?_, fun i' e => ?_, fun t T e1 e2 e3 => ?_, fun i' j' F' e1 e2 => ?_⟩
      · cases e : g.mem blk' o with
        | none => rfl
        | some x => have := h.mem_lt e; omega
      · have := h.blt i' _ e; omega
      · have := (h.tbx t T _ e1 e2 e3).1; omega
      · have := (h.fam.out i' j' F' _ e1 e2).1; omega
  obtain ⟨n1, n2, n3, n4⟩ := hout'
  have hle : Le g g' := by
    refine ⟨fun b o x e => by rw [hmem]; exact e, fun i k e e2 => ⟨by rw [hbx]; exact e, by rw [hgx]; exact e2⟩, fun i Gi e => ⟨Gi, by rw [hgx]; exact e, .inl ⟨rfl, by rw [hbx]⟩⟩, fun t T e => ⟨T, by rw [htg]; exact e, .inl rfl⟩, fun i' j' F' e => ?_⟩
    by_cases hij : i' = i ∧ j' = j
    · obtain ⟨rfl, rfl⟩ := hij
      rw [hF] at e
      obtain rfl := Option.some.inj e
      exact ⟨_, hfxs, .inr ⟨G, G', rfl, rfl, hm, hsz⟩⟩
    · exact ⟨F', by rw [hfxo i' j' hij]; exact e, .inl rfl⟩
  have hset : ∀ (i' : Nat) (x : Option (List PV)), (S.bs.set i (some (cs.set (j + 1) (.agg ds'))))[i']? = some x → (i' = i ∧ x = some (cs.set (j + 1) (.agg ds'))) ∨ (i' ≠ i ∧ S.bs[i']? = some x) := by
    intro i' x e
    rw [List.getElem?_set] at e
    by_cases hi : i = i'
    · subst hi; rw [if_pos rfl, if_pos hlb] at e; exact .inl ⟨rfl, (Option.some.inj e).symm⟩
    · rw [if_neg hi] at e; exact .inr ⟨fun hh => hi hh.symm, e⟩
  refine ⟨⟨by rw [hbx]; simp [h.hbx], by rw [htg]; exact h.htg, ?_, ?_, ?_, ?_, ?_, ?_, ?_, ?_, ?_, ?_, ?_, ?_⟩, hle, hos, htape, hout, hle0, ?_, ?_, fun b o x e => .inl (by rw [hmem] at e; exact e)⟩
  · intro b o x e
    rw [hmem] at e
    rw [World.cell?_of_block (w := w) (hfr b (h.mem_lt e) (by rintro rfl; rw [n1 o] at e; cases e))]
    exact h.mem b o x e
  · intro b o x e; rw [hmem] at e; exact h.one b o x e
  · intro i' ds0 e hne hf'
    rcases hset i' _ e with ⟨_, e9⟩ | ⟨_, e9⟩
    · obtain rfl := Option.some.inj e9; rw [isFam_set, hf] at hf'; cases hf'
    · obtain ⟨blk, cur, ty, k1, k2, k3, k4⟩ := h.box i' ds0 e9 hne hf'
      refine ⟨blk, cur, ty, by rw [hbx]; exact k1, ?_, k3, fun j c x e1 e2 => ⟨(k4 j c x e1 e2).1.mono hle, (k4 j c x e1 e2).2⟩⟩
      rw [hfr blk (h.blt i' blk k1) (by rintro rfl; exact n2 i' k1)]; exact k2
  · intro i' e
    rcases hset i' _ e with ⟨_, e9⟩ | ⟨_, e9⟩
    · cases e9
    · rw [hbx]; exact h.nob i' e9
  · intro i' k e o; rw [hbx] at e; rw [hmem]; exact h.bmem i' k e o
  · intro i' k e; rw [hbx] at e; exact Nat.lt_of_lt_of_le (h.blt i' k e) hle0
  · intro i1 i2 k e1 e2; rw [hbx] at e1 e2; exact h.inj i1 i2 k e1 e2
  · intro i' Gi e
    rw [hgx] at e
    obtain ⟨ds0, k1, k2, k3, k4, k5, k6⟩ := h.gr i' Gi e
    have hi : i ≠ i' := by rintro rfl; rw [(h.fam.bx i cs hb hf).2] at e; cases e
    refine ⟨ds0, by show (S.bs.set i _)[i']? = _; rw [List.getElem?_set, if_neg hi]; exact k1, k2, k3, k4, k5, fun hc => ?_⟩
    obtain ⟨blk, cur, ty, j1, j2, j3⟩ := k6 hc
    refine ⟨blk, cur, ty, by rw [hbx]; exact j1, ?_, j3⟩
    rw [hfr blk (h.blt i' blk j1) (by rintro rfl; exact n2 i' j1)]; exact j2
  · intro t m e
    obtain ⟨T, k1, k2, k3, k4, k5⟩ := h.tag t m e
    refine ⟨T, by rw [htg]; exact k1, k2, k3, k4, fun hlt => ?_⟩
    obtain ⟨blk, cur, ty, j1, j2, j3, j4⟩ := k5 hlt
    obtain ⟨q1, q2⟩ := h.tbx t T blk k1 j1 hlt
    refine ⟨blk, cur, ty, j1, ?_, j3, fun o ho => by rw [hmem]; exact j4 o ho⟩
    rw [hfr blk q1 (by rintro rfl; exact n3 t T k1 j1 hlt)]; exact j2
  · intro t T k e1 e2 e3
    rw [htg] at e1
    obtain ⟨q1, q2⟩ := h.tbx t T k e1 e2 e3
    exact ⟨Nat.lt_of_lt_of_le q1 hle0, fun i' e => by rw [hbx] at e; exact q2 i' e⟩
  · intro t u T U k e1 e2 e3 e4 e5 e6
    rw [htg] at e1 e2
    exact h.tinj t u T U k e1 e2 e3 e4 e5 e6
  · have hcase : ∀ (i' j' : Nat) (F' : Fx), g'.fx i' j' = some F' → (i' = i ∧ j' = j ∧ F' = ⟨some blk', .gr G'⟩) ∨ (¬ (i' = i ∧ j' = j) ∧ g.fx i' j' = some F') := by
      intro i' j' F' e
      by_cases hij : i' = i ∧ j' = j
      · obtain ⟨rfl, rfl⟩ := hij
        rw [hfxs] at e
        exact .inl ⟨rfl, rfl, (Option.some.inj e).symm⟩
      · rw [hfxo i' j' hij] at e; exact .inr ⟨hij, e⟩
    refine ⟨fun i' cs' e hf' => ?_, fun i' j' cs' m e hf' hm' => ?_, fun i' j' F' e => ?_, fun i' j' F' b e hb' => ?_, fun i1 j1 i2 j2 F1 F2 b e1 e2 hb1 hb2 => ?_⟩
    · rw [hbx, hgx]
      rcases hset i' _ e with ⟨rfl, _⟩ | ⟨_, e9⟩
      · exact h.fam.bx i' cs hb hf
      · exact h.fam.bx i' cs' e9 hf'
    · have hold : ∀ (cs0 : List PV), S.bs[i']? = some (some cs0) → isFam cs0 = true → cs0[j' + 1]? = some m → ¬ (i' = i ∧ j' = j) → ∃ F' ds0, g'.fx i' j' = some F' ∧ m = .agg ds0 ∧ Member g' w' F' ds0 := by
        intro cs0 e hf' hm' hij
        obtain ⟨F', ds0, k1, k2, k3⟩ := h.fam.mem i' j' cs0 m e hf' hm'
        refine ⟨F', ds0, by rw [hfxo i' j' hij]; exact k1, k2, k3.mono hle (fun b hb' => hfr b (h.fam.out i' j' F' b k1 hb').1 (by rintro rfl; exact hij (n4 i' j' F' k1 hb')))⟩
      rcases hset i' _ e with ⟨rfl, e9⟩ | ⟨hi, e9⟩
      · obtain rfl := Option.some.inj e9
        by_cases hj : j' = j
        · subst hj
          rw [List.getElem?_set_self hltj] at hm'
          obtain rfl := Option.some.inj hm'
          obtain ⟨Fo, dso, p1, p2, p3⟩ := h.fam.mem i' j' cs _ hb hf hmm
          rw [hF] at p1
          obtain rfl := Option.some.inj p1
          have h0 : 0 < G.sz := p3.2.1
          exact ⟨_, ds', hfxs, rfl, hlen, by rw [hsz]; exact h0, hcap, hmax, fun _ => ⟨blk', cur', ty', rfl, hcur, hsize, fun k c x e1 e2 => ⟨(hv k c x e1 e2).1.mono hle, (hv k c x e1 e2).2⟩⟩⟩
        · rw [List.getElem?_set_ne (by omega)] at hm'
          exact hold cs hb hf hm' (by omega)
      · exact hold cs' e9 hf' hm' (by omega)
    · rcases hcase i' j' F' e with ⟨rfl, rfl, rfl⟩ | ⟨_, e9⟩
      · exact ⟨_, List.getElem?_set_self hlb, by rw [isFam_set]; exact hf, by simpa using hltj⟩
      · obtain ⟨cs', k1, k2, k3⟩ := h.fam.dom i' j' F' e9
        by_cases hi : i = i'
        · subst hi
          rw [hb] at k1
          obtain rfl : cs = cs' := by simpa using k1
          exact ⟨_, List.getElem?_set_self hlb, by rw [isFam_set]; exact hf, by simpa using k3⟩
        · exact ⟨cs', by show (S.bs.set i _)[i']? = _; rw [List.getElem?_set, if_neg hi]; exact k1, k2, k3⟩
    · rw [hmem, hbx, htg]
      rcases hcase i' j' F' e with ⟨_, _, rfl⟩ | ⟨_, e9⟩
      · cases hb'; exact ⟨hlt', n1, n2, n3⟩
      · obtain ⟨k1, k2⟩ := h.fam.out i' j' F' b e9 hb'
        exact ⟨Nat.lt_of_lt_of_le k1 hle0, k2⟩
    · rcases hcase i1 j1 F1 e1 with ⟨q1, q2, rfl⟩ | ⟨q0, q1⟩ <;> rcases hcase i2 j2 F2 e2 with ⟨r1, r2, rfl⟩ | ⟨r0, r1⟩
      · exact ⟨q1.trans r1.symm, q2.trans r2.symm⟩
      · cases hb1; exact absurd (n4 i2 j2 F2 r1 hb2) r0
      · cases hb2; exact absurd (n4 i1 j1 F1 q1 hb1) q0
      · exact h.fam.inj i1 j1 i2 j2 F1 F2 b q1 r1 hb1 hb2
  · intro k hk hno
    refine hfr k hk ?_
    rintro rfl
    rcases hnew with hn | hn
    · exact hno (.inr (.inr ⟨i, j, _, hF, hn⟩))
    · omega
  · intro k hk
    rcases hk with ⟨i', e⟩ | ⟨t, T, e⟩ | ⟨i', j', F', e1, e2⟩
    · rw [hbx] at e; exact .inl (.inl ⟨i', e⟩)
    · rw [htg] at e; exact .inl (.inr (.inl ⟨t, T, e⟩))
    · by_cases hij : i' = i ∧ j' = j
      · obtain ⟨rfl, rfl⟩ := hij
        rw [hfxs] at e1
        obtain rfl := Option.some.inj e1
        cases e2
        rcases hnew with rfl | hn
        · exact .inl (.inr (.inr ⟨i', j', _, hF, rfl⟩))
        · exact .inr hn
      · rw [hfxo i' j' hij] at e1; exact .inl (.inr (.inr ⟨i', j', F', e1, e2⟩))
end Go.Pv
