/- Families: append, literals, places, lengths. -/
import Derived.Test.YtopmocpjgjbdbaaPvFc
namespace Go.Pv
open Go.RowKit
section
variable {P : Program}
/-- append on a growing member. -/
theorem fv_core {g : Gh} {S : Sx} {w : World} (hI : Inv g S w) {T E ty : TypeId} {ie : TypeInfo} {z : Value} {i j n m sz : Nat} {cs ds ps : List PV} {sv yv : Value} (hT : P.underlying T = some (.slice E)) (hE : P.info? E = some ie)
    (hz : ie.zero = some z) (hs : ie.size = sz) (h0 : 0 < sz) (hzc : z.cells.size = sz) (hz1 : ∀ v ∈ z.cells.toList, v.oneCell' = true) (hsv : V g (.fv i j sz n) sv) (hcur : S.bs[i]? = some (some cs)) (hf : isFam cs = true) (hmm : cs[j + 1]? = some (.agg ds)) (hcl : ds.length = n * sz)
    (hy : Given g w yv sz m ps) (hb : (n + m) * ie.bytes ≤ 140737488355328) (hmax : n + m ≤ maxLen) :
    ∃ v g' w', (Builtin.append_ #[T, T] ty #[sv, yv]).run P w = .ok v w' ∧ V g' (.fv i j sz (n + m)) v ∧ Inv g' ⟨S.bs.set i (some (cs.set (j + 1) (.agg (ds ++ ps)))), S.ts⟩ w' ∧ Ext g w g' w' := by
  subst hs
  obtain ⟨A2, cap2, us, rfl, hps, hul, hA2⟩ := hy
  cases hsv with
  | fv _ _ _ _ cap A b0 G hG hGz hle he hc hx hn =>
  obtain ⟨F, k1, kk⟩ := FamAt.member ⟨cs, hcur, hf, hmm⟩ hI
  rw [hG] at k1
  obtain rfl := Option.some.inj k1
  obtain ⟨k2, k3, k4, k5, k6⟩ := kk
  have hnm : n = G.m := by
    rw [k2, hGz] at hcl
    exact (Nat.eq_of_mul_eq_mul_right h0 hcl).symm
  subst hnm
  obtain ⟨rfl, hA⟩ := he rfl
  have hpl : ps.length = m * ie.size := by rw [hps.1]; exact hul
  by_cases hm0 : m = 0
  · subst hm0
    have hps0 : ps = [] := List.eq_nil_of_length_eq_zero (by rw [hpl]; simp)
    subst hps0
    have e0 : S.bs.set i (some (cs.set (j + 1) (.agg (ds ++ [])))) = S.bs := by rw [List.append_nil, set_self hmm]; exact set_self hcur
    refine ⟨_, g, w, run_append_zeroA w T E ty hT ⟨ie, hE, rfl⟩ A A2 G.m G.cap cap2 hc, ?_, by rw [e0]; exact hI, .refl g w⟩
    exact .fv i j ie.size (G.m + 0) G.cap A b0 G hG hGz hle he hc hx hn
  · have hmp : 0 < m := Nat.pos_of_ne_zero hm0
    obtain ⟨q, rfl, hnews⟩ := hA2 hmp
    by_cases hroom : G.m + m ≤ G.cap
    · obtain ⟨blk, rfl, rfl⟩ := hA (by omega)
      obtain ⟨blk', cur, ty', i1, i2, i3, i4⟩ := k6 (by omega)
      obtain rfl : blk = blk' := by simpa using i1
      have hle2 : G.m * ie.size + us.length ≤ cur.size := by rw [i3, hGz, hul, ← Nat.add_mul]; exact Nat.mul_le_mul_right _ hroom
      have hr := run_append_room' (P := P) w T ty E ty' ie hT hE blk G.m G.cap cur i2 q m cap2 us hul hnews hps.one hroom hle2
      obtain ⟨q1, q2⟩ := hI.refam (w' := w.setRow blk (cur.toList.take (G.m * ie.size) ++ us ++ cur.toList.drop (G.m * ie.size + us.length)).toArray) (G' := ⟨G.m + m, G.cap, G.sz⟩) (ds' := ds ++ ps) (blk' := blk) hcur hf hmm hG (by simp; omega) rfl hroom k5
        (setRow_heap w blk cur _ ty' _ i2) (by rw [← i3]; simp; omega) (by simp only [List.length_append, k2, hpl, hGz, Nat.add_mul]) (fun k c x e1 e2 => by
          have e2 : (cur.toList.take (G.m * ie.size) ++ us ++ cur.toList.drop (G.m * ie.size + us.length))[k]? = some x := by simpa using e2
          have hlc : ds.length = G.m * ie.size := by rw [k2, hGz]
          by_cases hj : k < ds.length
          · rw [List.getElem?_append_left hj] at e1
            rw [List.append_assoc, List.getElem?_append_left (by simp; omega), List.getElem?_take, if_pos (by omega)] at e2
            exact i4 k c x e1 (by simpa using e2)
          · rw [List.getElem?_append_right (by omega)] at e1
            have hj2 := (List.getElem?_eq_some_iff.1 e1).1
            have hpu := hps.1
            rw [List.append_assoc, List.getElem?_append_right (by simp; omega), List.getElem?_append_left (by simp; omega)] at e2
            refine hps.2 _ c x e1 ?_
            rw [← e2]; congr 1; simp; omega) (fun k _ hne => setRow_other w blk k _ hne) (by rw [size_setRow]; exact Nat.le_refl _) rfl rfl rfl (.inl rfl)
      refine ⟨_, _, _, hr, ?_, q1, q2⟩
      exact .fv i j ie.size (G.m + m) G.cap _ (some blk) ⟨G.m + m, G.cap, G.sz⟩ (by simp) hGz (Nat.le_refl _) (fun _ => ⟨rfl, fun _ => ⟨blk, rfl, rfl⟩⟩) hroom hx (fun h => by cases h)
    · have hgrow : ∀ (olds : List Value) (old : Nat), olds.length = G.m * ie.size → (∀ (k : Nat) (c : PV) (x : Value), ds[k]? = some c → olds[k]? = some x → V g c x ∧ x.oneCell' = true) → old < G.m + m →
          ∃ g', V g' (.fv i j ie.size (G.m + m)) (.slice (some ⟨w.heap.size, 0, none⟩) (G.m + m) (grownCap w (G.m + m) old E)) ∧
            Inv g' ⟨S.bs.set i (some (cs.set (j + 1) (.agg (ds ++ ps)))), S.ts⟩ (w.drew.alloc (.cells (olds.toArray ++ us.toArray ++ Builtin.zeroCells z.cells (grownCap w (G.m + m) old E - (G.m + m))) E)) ∧
            Ext g w g' (w.drew.alloc (.cells (olds.toArray ++ us.toArray ++ Builtin.zeroCells z.cells (grownCap w (G.m + m) old E - (G.m + m))) E)) := by
        intro olds old hol hov ho
        have hge := grownCap_ge w (G.m + m) old E
        have hcm := grownCap_le_maxLen w (G.m + m) old E hmax
        generalize hG' : grownCap w (G.m + m) old E = C at *
        generalize hcur' : olds.toArray ++ us.toArray ++ Builtin.zeroCells z.cells (C - (G.m + m)) = cur at *
        have hcsz : cur.size = C * ie.size := by
          rw [← hcur']
          simp only [Array.size_append, List.size_toArray, size_zeroCells, hzc, hol, hul, ← Nat.add_mul]
          congr 1; omega
        have hnw : (w.drew.alloc (.cells cur E)).heap[w.heap.size]? = some (.cells cur E (0, 0)) := heap_alloc_new w.drew _
        obtain ⟨q1, q2⟩ := hI.refam (w' := w.drew.alloc (.cells cur E)) (G' := ⟨G.m + m, C, G.sz⟩) (ds' := ds ++ ps) (blk' := w.heap.size) hcur hf hmm hG (by simp; omega) rfl hge hcm hnw
          (by rw [hcsz, hGz]) (by simp only [List.length_append, k2, hpl, hGz, Nat.add_mul]) (fun k c x e1 e2 => by
            have hlc : ds.length = G.m * ie.size := by rw [k2, hGz]
            have e2 : (olds ++ us ++ (Builtin.zeroCells z.cells (C - (G.m + m))).toList)[k]? = some x := by rw [← hcur', ← Array.getElem?_toList] at e2; simpa using e2
            by_cases hj : k < ds.length
            · rw [List.getElem?_append_left hj] at e1
              rw [List.append_assoc, List.getElem?_append_left (by omega)] at e2
              exact hov k c x e1 e2
            · rw [List.getElem?_append_right (by omega)] at e1
              have hj2 := (List.getElem?_eq_some_iff.1 e1).1
              have hpu := hps.1
              rw [List.append_assoc, List.getElem?_append_right (by omega), List.getElem?_append_left (by omega)] at e2
              refine hps.2 _ c x e1 ?_
              rw [← e2]; congr 1; omega) (fun k hk _ => Below.heap_alloc w.drew _ k hk) (by simp) rfl rfl rfl (.inr (Nat.le_refl _))
        refine ⟨_, ?_, q1, q2⟩
        exact .fv i j ie.size (G.m + m) C _ (some w.heap.size) ⟨G.m + m, C, G.sz⟩ (by simp) hGz (Nat.le_refl _) (fun _ => ⟨rfl, fun _ => ⟨w.heap.size, rfl, rfl⟩⟩) hge hcm (fun h => by cases h)
      cases hAe : A with
      | none =>
        have hcap0 := hn hAe
        have hn0 : G.m = 0 := by omega
        have hcs0 : ds = [] := List.eq_nil_of_length_eq_zero (by rw [hcl, hn0]; simp)
        obtain ⟨g', b2, b3, b4⟩ := hgrow ([] : List Value) 0 (by rw [hn0]; simp) (fun k c x e1 _ => by rw [hcs0] at e1; simp at e1) (by omega)
        have hr := run_append_nil (P := P) w T ty E ie z hT hE hz q m cap2 us hul hnews hmp (by simp only [maxLen] at hmax; omega) (by rw [hn0, Nat.zero_add] at hb; omega)
        refine ⟨_, g', _, ?_, b2, b3, b4⟩
        rw [hn0, hcap0]
        simp only [Nat.zero_add] at hr ⊢
        simpa using hr
      | some a0 =>
        by_cases hcap0 : 0 < G.cap
        · obtain ⟨blk, j1, hAb⟩ := hA hcap0
          rw [hAe] at hAb
          obtain rfl : a0 = ⟨blk, 0, none⟩ := by simpa using hAb
          obtain ⟨blk', cur, ty', i1, i2, i3, i4⟩ := k6 hcap0
          simp only at i1
          rw [j1] at i1
          obtain rfl : blk = blk' := by simpa using i1
          have hcz : G.m * ie.size ≤ cur.size := by rw [i3, hGz]; exact Nat.mul_le_mul_right _ k4
          have hol : (cur.toList.take (G.m * ie.size)).length = G.m * ie.size := by simp; omega
          obtain ⟨g', b2, b3, b4⟩ := hgrow (cur.toList.take (G.m * ie.size)) G.cap hol (fun k c x e1 e2 => by
            have hj := (List.getElem?_eq_some_iff.1 e2).1
            rw [List.getElem?_take, if_pos (by rw [hol] at hj; exact hj)] at e2
            exact i4 k c x e1 (by simpa using e2)) (by omega)
          have hr := run_append_grow (P := P) w T ty E ie z hT hE hz ⟨blk, 0, none⟩ G.m G.cap (cur.toList.take (G.m * ie.size)) hol (fun j v hj => by
            have hj2 := (List.getElem?_eq_some_iff.1 hj).1
            rw [List.getElem?_take, if_pos (by rw [hol] at hj2; exact hj2)] at hj
            rw [Addr.add_lit, Nat.zero_add]
            rw [cell_of_row w blk j cur ty' _ i2]; simpa using hj) q m cap2 us hul hnews (by omega) (by simp only [maxLen] at hmax; omega) (growslice_fits (by omega) hb)
          exact ⟨_, g', _, hr, b2, b3, b4⟩
        · have hcap0' : G.cap = 0 := by omega
          have hn0 : G.m = 0 := by omega
          have hcs0 : ds = [] := List.eq_nil_of_length_eq_zero (by rw [hcl, hn0]; simp)
          obtain ⟨g', b2, b3, b4⟩ := hgrow [] G.cap (by rw [hn0]; simp) (fun k c x e1 _ => by rw [hcs0] at e1; simp at e1) (by omega)
          have hr := run_append_grow (P := P) w T ty E ie z hT hE hz a0 G.m G.cap [] (by rw [hn0]; simp) (fun j v hj => by simp at hj) q m cap2 us hul hnews (by omega) (by simp only [maxLen] at hmax; omega) (growslice_fits (by omega) hb)
          exact ⟨_, g', _, hr, b2, b3, b4⟩

/-- append to nothing, with no room. -/
theorem app_empty {g : Gh} {S : Sx} {w : World} (hI : Inv g S w) {T E ty : TypeId} {ie : TypeInfo} {z : Value} {m sz : Nat} {ps : List PV} {sv yv : Value} (hT : P.underlying T = some (.slice E)) (hE : P.info? E = some ie)
    (hz : ie.zero = some z) (hs : ie.size = sz) (hzc : z.cells.size = sz) (hz1 : ∀ v ∈ z.cells.toList, v.oneCell' = true) (hsv : VD g.mem (.sl sz true []) sv) (hy : Given g w yv sz m ps) (hb : m * ie.bytes ≤ 140737488355328) (hmax : m ≤ maxLen) :
    (m = 0 ∧ ps = [] ∧ ∃ a : Option (Nat × Nat), (Builtin.append_ #[T, T] ty #[sv, yv]).run P w = .ok (.slice (a.map adr) 0 0) w) ∨
    (0 < m ∧ ∃ vs C, m ≤ C ∧ C ≤ maxLen ∧ (Builtin.append_ #[T, T] ty #[sv, yv]).run P w = .ok (.slice (some ⟨w.heap.size, 0, none⟩) m C) (w.drew.alloc (.cells vs E)) ∧ Vb g ps vs.toList ∧ ps.length = m * sz) := by
  subst hs
  obtain ⟨A2, cap2, us, rfl, hps, hul, hA2⟩ := hy
  obtain ⟨a1, cap, vs, rfl, hzz, hc, hff, hn, hx1, hl, hm, hvv⟩ := hsv.unslT
  obtain rfl : cap = 0 := hff rfl
  have hpl : ps.length = m * ie.size := by rw [hps.1]; exact hul
  by_cases hm0 : m = 0
  · subst hm0
    exact .inl ⟨rfl, List.eq_nil_of_length_eq_zero (by rw [hpl]; simp), a1, run_append_zeroA w T E ty hT ⟨ie, hE, rfl⟩ (a1.map adr) A2 0 0 cap2 (Nat.le_refl _)⟩
  · have hmp : 0 < m := Nat.pos_of_ne_zero hm0
    obtain ⟨q, rfl, hnews⟩ := hA2 hmp
    have hvs0 : vs = [] := List.eq_nil_of_length_eq_zero (by rw [← hl]; rfl)
    refine .inr ⟨hmp, us.toArray ++ Builtin.zeroCells z.cells (grownCap w m 0 E - m), grownCap w m 0 E, grownCap_ge w m 0 E, grownCap_le_maxLen w m 0 E hmax, ?_, ?_, hpl⟩
    · cases a1 with
      | none =>
        have hr := run_append_nil (P := P) w T ty E ie z hT hE hz q m cap2 us hul hnews hmp (by simp only [maxLen] at hmax; omega) (by omega)
        simpa using hr
      | some p =>
        have hr := run_append_grow (P := P) w T ty E ie z hT hE hz (adr p) 0 0 [] (by simp) (fun j v hj => by simp at hj) q m cap2 us hul hnews (by omega) (by simp only [maxLen] at hmax; omega) (growslice_fits (by omega) (by simpa using hb))
        simpa using hr
    · refine ⟨by simp; omega, fun k c x e1 e2 => ?_⟩
      have hk := (List.getElem?_eq_some_iff.1 e1).1
      have e2 : (us ++ (Builtin.zeroCells z.cells (grownCap w m 0 E - m)).toList)[k]? = some x := by simpa using e2
      rw [List.getElem?_append_left (by omega)] at e2
      exact hps.2 k c x e1 e2
end
end Go.Pv
