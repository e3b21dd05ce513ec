/- Things made data, or a region's. -/
import Derived.Test.YtihiooaimdoapaaGreatBmL
set_option linter.unusedVariables false
set_option linter.unusedSimpArgs false
namespace Go.Bm
noncomputable section
open Go.RowKit

theorem flat_map {α : Type} (f : α → List D) (l : List α) : (l.map f).flatten = l.flatMap f := by rw [List.flatMap_def]
theorem flatA_len (t : Ty) (l : List t.T) : (l.flatMap (encA t)).length = l.length * t.size := by
  induction l with
  | nil => simp
  | cons a l ih => rw [List.flatMap_cons, List.length_append, ih, encA_len, List.length_cons, Nat.succ_mul, Nat.add_comm]
theorem flatA_part (t : Ty) (l : List t.T) (off n : Nat) : ((l.flatMap (encA t)).drop (off * t.size)).take (n * t.size) = ((l.drop off).take n).flatMap (encA t) := by
  have h1 : l.flatMap (encA t) = (l.take off).flatMap (encA t) ++ (l.drop off).flatMap (encA t) := by rw [← List.flatMap_append, List.take_append_drop]
  by_cases hl : off ≤ l.length
  · have h2 : ((l.take off).flatMap (encA t)).length = off * t.size := by rw [flatA_len, List.length_take, Nat.min_eq_left hl]
    rw [h1, List.drop_append, List.drop_eq_nil_of_le (by omega), List.nil_append, h2, Nat.sub_self, List.drop_zero]
    generalize l.drop off = k
    have h3 : k.flatMap (encA t) = (k.take n).flatMap (encA t) ++ (k.drop n).flatMap (encA t) := by rw [← List.flatMap_append, List.take_append_drop]
    by_cases hk : n ≤ k.length
    · have h4 : ((k.take n).flatMap (encA t)).length = n * t.size := by rw [flatA_len, List.length_take, Nat.min_eq_left hk]
      rw [h3, List.take_append_of_le_length (by omega), List.take_of_length_le (by omega)]
    · rw [List.take_of_length_le (by rw [flatA_len]; exact Nat.mul_le_mul_right _ (by omega)), List.take_of_length_le (l := k) (by omega)]
  · rw [List.drop_eq_nil_of_le (as := l) (by omega), List.drop_eq_nil_of_le (by rw [flatA_len]; exact Nat.mul_le_mul_right _ (by omega))]
    simp
theorem VD.of_mem {g : G} {t : Ty} (hd : t.data = true) {l : List t.T} {us : List Value} {b off cap : Nat} (hv : Vs g (l.flatMap (encA t)) us) (hm : ∀ (j : Nat) (x : Value), us[j]? = some x → g.mem b (off + j) = some x) (hc : l.length ≤ cap) (hx : cap ≤ maxLen) :
    VD g.mem (.sl t.size false (l.map (encD t))) (.slice (some ⟨b, off, none⟩) l.length cap) := by
  have h1 := flatV (fun x vs h => Vs.data t x vs hd h) (fun x => by rw [encA_len, encD_len]) l us hv
  have := VD.sl (M := g.mem) t.size false (l.map (encD t)) (some (b, off)) cap us (fun e he => by obtain ⟨x, _, rfl⟩ := List.mem_map.1 he; exact encD_len t x) (by simpa using hc) (fun h => by cases h) (fun h => by cases h) hx (by rw [flat_map]; exact h1.1) (fun p j x hp hj => by cases hp; exact hm j x hj) (fun j c x e1 e2 => by rw [flat_map] at e1; exact h1.2 j c x e1 e2)
  rw [List.length_map] at this
  exact this
/-- A row becomes data. -/
theorem Inv.freeze {g : G} {S : Hp} {w : World} (h : Inv g S w) {o : Nat} {t : Ty} {l : List t.T} (hd : t.data = true) (h0 : 0 < t.size) (ho : S.ob o = some (.cells (l.flatMap (encA t)))) :
    ∃ g', Inv g' (S.del o) w ∧ Ext S g w (S.del o) g' w ∧ (∀ v, V g (.tw (.loc o) t.size) v → V g' (.tl t false l) v) ∧ ∀ off n v, off + n ≤ l.length → V g (.ts (.loc o) t.size off n) v → V g' (.tl t false (tk n (dr off l))) v := by
  have hlen := flatA_len t l
  have hdel : ∀ i x, (S.del o).ob i = some x → S.ob i = some x := fun i x e => by
    have e : (if i = o then none else S.ob i) = some x := e
    split at e
    · cases e
    · exact e
  rcases h.cells o _ ho with ⟨k1, k2⟩ | ⟨b, tt, k1, _⟩
  · have hl : l = [] := List.eq_nil_of_length_eq_zero (by
      rw [k2] at hlen
      rcases Nat.eq_zero_or_pos l.length with h | h
      · exact h
      · have : 0 < l.length * t.size := Nat.mul_pos h h0
        simp at hlen; omega)
    subst hl
    refine ⟨g, h.less hdel (fun _ e => e), Ext.less hdel (fun _ e => e), fun v hv => ?_, fun off n v hle hv => ?_⟩
    · cases hv with
      | tw0 _ _ ad _ => exact .tl t false [] _ (.sl0 _ _ ad)
      | tw _ _ n b cap tt h1 => rw [show (Ref.loc o).id = o from rfl, k1] at h1; cases h1
    · cases hv with
      | ts0 _ _ _ _ ad _ hn =>
        rw [show tk n (dr off ([] : List t.T)) = [] by simp [tk, dr]]
        exact .tl t false [] _ (.sl0 _ _ ad)
      | ts _ _ _ _ b cap s h1 => rw [show (Ref.loc o).id = o from rfl, k1] at h1; cases h1
  · obtain ⟨cur, ty, q1, q2, q3, q4, q5, q6⟩ := h.frz ho k1
    refine ⟨_, q5, q6, fun v hv => ?_, fun off n v hle hv => ?_⟩
    · cases hv with
      | tw0 _ _ ad h1 => rw [show (Ref.loc o).id = o from rfl, k1] at h1; cases h1
      | tw _ _ n b' cap tt' h1 hn hx hp d hd' =>
        rw [show (Ref.loc o).id = o from rfl, k1] at h1
        simp only [Option.some.injEq, Prod.mk.injEq] at h1
        obtain ⟨rfl, h2, rfl⟩ := h1
        have hnl : n = l.length := Nat.eq_of_mul_eq_mul_right h0 (by rw [← h2, hlen])
        subst hnl
        by_cases hc : cap = 0
        · have : l = [] := List.eq_nil_of_length_eq_zero (by omega)
          subst this; subst hc
          exact .tl t false [] _ (.sl0 _ _ _)
        · rw [hd' hc]
          refine .tl t false l _ (VD.of_mem hd (q3.mono q4) (fun j x hj => ?_) hn hx)
          show (if b = b then (if 0 + j < (l.flatMap (encA t)).length then cur[0 + j]? else none) else g.mem b (0 + j)) = some x
          rw [if_pos rfl, Nat.zero_add]
          rw [List.getElem?_take] at hj
          split at hj
          · rename_i hlt; rw [if_pos hlt]; simpa using hj
          · cases hj
    · cases hv with
      | ts0 _ _ _ _ ad h1 => rw [show (Ref.loc o).id = o from rfl, k1] at h1; cases h1
      | ts _ _ _ _ b' cap s h1 hn hx hs hp d hd' =>
        rw [show (Ref.loc o).id = o from rfl, k1] at h1
        simp only [Option.some.injEq, Prod.mk.injEq] at h1
        obtain ⟨rfl, rfl⟩ := h1
        have hl2 : ((l.drop off).take n).length = n := by simp; omega
        by_cases hc : cap = 0
        · have : n = 0 := by omega
          subst this; subst hc
          exact .tl t false _ _ (.sl0 _ _ _)
        · rw [hd' hc]
          have hv2 := (q3.part (off * t.size) (n * t.size)).mono q4
          rw [flatA_part] at hv2
          have := VD.of_mem (b := b) (off := off * t.size) (cap := cap) hd hv2 (fun j x hj => by
            show (if b = b then (if off * t.size + j < (l.flatMap (encA t)).length then cur[off * t.size + j]? else none) else g.mem b (off * t.size + j)) = some x
            rw [if_pos rfl]
            rw [List.getElem?_take] at hj
            split at hj
            · rw [List.getElem?_drop, List.getElem?_take] at hj
              split at hj
              · rename_i hlt; rw [if_pos hlt]; simpa using hj
              · cases hj
            · cases hj) (by rw [hl2]; exact hn) hx
          rw [hl2] at this
          exact .tl t false _ _ this
/-- A row moves. -/
theorem Inv.moveRow {g : G} {S : Hp} {w : World} (h : Inv g S w) {o i : Nat} {X Y : Ref} (hX : X.id = i) (hY : Y.id = o) {t : Ty} {l : List t.T} (h0 : 0 < t.size) (ho : S.ob o = some (.cells (l.flatMap (encA t)))) (hf : S.fr i) {m : Nat} (hm : m ≤ l.length) :
    ∃ g', Inv g' ((S.del o).new i (.cells ((tk m l).flatMap (encA t)))) w ∧ Ext S g w ((S.del o).new i (.cells ((tk m l).flatMap (encA t)))) g' w ∧ (∀ v, m = l.length → V g (.tw Y t.size) v → V g' (.tw X t.size) v) ∧ ∀ v, V g (.ts Y t.size 0 m) v → V g' (.tw X t.size) v := by
  have hlen := flatA_len t l
  have htk : (l.flatMap (encA t)).take (m * t.size) = (tk m l).flatMap (encA t) := by
    have := flatA_part t l 0 m
    simpa [tk] using this
  rcases h.cells o _ ho with ⟨k1, k2⟩ | ⟨b, tt, k1, _⟩
  · have hl : l = [] := List.eq_nil_of_length_eq_zero (by
      rw [k2] at hlen
      rcases Nat.eq_zero_or_pos l.length with h | h
      · exact h
      · have : 0 < l.length * t.size := Nat.mul_pos h h0
        simp at hlen; omega)
    subst hl
    have hdel : ∀ i x, (S.del o).ob i = some x → S.ob i = some x := fun i x e => by
      have e : (if i = o then none else S.ob i) = some x := e
      split at e
      · cases e
      · exact e
    have h1 := h.less (S' := S.del o) hdel (fun _ e => e)
    have h2 := Ext.less (S := S) (S' := S.del o) (g := g) (w := w) hdel (fun _ e => e)
    obtain ⟨q1, q2⟩ := h1.emp (o := i) hf
    have e : (tk m ([] : List t.T)).flatMap (encA t) = [] := by simp [tk]
    rw [e]
    refine ⟨_, q1, h2.trans q2, fun v _ hv => ?_, fun v hv => ?_⟩
    · cases hv with
      | tw0 _ _ ad _ => exact .tw0 X t.size ad (by rw [hX]; exact gput_at)
      | tw _ _ n b cap tt h1 => rw [hY, k1] at h1; cases h1
    · cases hv with
      | ts0 _ _ _ _ ad _ _ => exact .tw0 X t.size ad (by rw [hX]; exact gput_at)
      | ts _ _ _ _ b cap s h1 => rw [hY, k1] at h1; cases h1
  · obtain ⟨q1, q2⟩ := h.ren (m := m * t.size) ho hf k1 (by rw [hlen]; exact Nat.mul_le_mul_right _ hm)
    rw [htk] at q1 q2
    refine ⟨_, q1, q2, fun v hm' hv => ?_, fun v hv => ?_⟩
    · subst hm'
      cases hv with
      | tw0 _ _ ad h1 => rw [hY, k1] at h1; cases h1
      | tw _ _ n b' cap tt' h1 hn hx hp d hd' =>
        rw [hY, k1] at h1
        simp only [Option.some.injEq, Prod.mk.injEq] at h1
        obtain ⟨rfl, h2, rfl⟩ := h1
        have hnl : n = l.length := Nat.eq_of_mul_eq_mul_right h0 (by rw [← h2, hlen])
        subst hnl
        exact .tw X t.size _ b cap tt (by rw [hX]; exact gput_at) hn hx hp d hd'
    · cases hv with
      | ts0 _ _ _ _ ad h1 => rw [hY, k1] at h1; cases h1
      | ts _ _ _ _ b' cap s h1 hn hx hs hp d hd' =>
        rw [hY, k1] at h1
        simp only [Option.some.injEq, Prod.mk.injEq] at h1
        obtain ⟨rfl, rfl⟩ := h1
        simp only [Nat.zero_add, Nat.zero_mul] at hp hd'
        exact .tw X t.size m b cap tt (by rw [hX]; exact gput_at) hn hx hp d hd'
end
end Go.Bm
