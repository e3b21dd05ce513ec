/- Script: entries of unlike threads, tags, picks may come in any order. -/
import Derived.Test.YtcbppmocgiamiaaSR
namespace Go.Proofs.Ytcbppmocgiamiaa
open Go.Pv
def grp (th e0 e1 : Int) : Int := if e0 % 8 < 5 then e1 % th else if e0 % 8 = 5 then 4 + e1 % 8 else 12
def moreE (s : Scr) (e : List Int) : Scr := more s (e.getD 0 default) (e.getD 1 default) (e.getD 2 default) (e.getD 3 default) (e.getD 4 default) (e.getD 5 default) (e.getD 6 default) (e.getD 7 default)
def gE (th : Int) (e : List Int) : Int := grp th (e.getD 0 default) (e.getD 1 default)
theorem runs_cons {e : List Int} (h : e.length = 8) (r : List Int) (s : Scr) : runs (e ++ r) s = runs r (moreE s e) := by
  match e, h with
  | [e0, e1, e2, e3, e4, e5, e6, e7], _ => rfl
theorem runs_flat : ∀ (C : List (List Int)), (∀ e ∈ C, e.length = 8) → ∀ s, runs C.flatten s = C.foldl moreE s
  | [], _, s => rfl
  | e :: C, h, s => by
    rw [List.flatten_cons, runs_cons (h e (by simp)), List.foldl_cons]
    exact runs_flat C (fun x hx => h x (by simp [hx])) _
theorem runs_chunks : ∀ (n : Nat) (r : List Int) (s : Scr), 8 * n ≤ r.length → r.length < 8 * n + 8 → runs r s = ((List.range n).map fun j => (r.drop (8 * j)).take 8).foldl moreE s
  | 0, r, s, _, h => by rw [runs_end (by omega)]; rfl
  | n + 1, r, s, h1, h2 => by
    have e : r = r.take 8 ++ r.drop 8 := (List.take_append_drop 8 r).symm
    rw [List.range_succ_eq_map, List.map_cons, List.map_map, List.foldl_cons]
    conv => lhs; rw [e]
    rw [runs_cons (by rw [List.length_take]; omega), runs_chunks n (r.drop 8) _ (by rw [List.length_drop]; omega) (by rw [List.length_drop]; omega)]
    congr 1
    apply List.map_congr_left
    intro j _
    simp only [Function.comp]
    rw [List.drop_drop, show 8 + 8 * j = 8 * (j + 1) by omega]
/-- What threads and tags there are. -/
structure Wt (th : Int) (s : Scr) : Prop where
  g : (s.progs.length : Int) = th
  t : 1 ≤ th ∧ th ≤ 4
  f : s.fins.length = 8
theorem Wt.more {th : Int} {s : Scr} (h : Wt th s) (e : List Int) : Wt th (moreE s e) := by
  obtain ⟨h1, h2⟩ := more_len s (e.getD 0 default) (e.getD 1 default) (e.getD 2 default) (e.getD 3 default) (e.getD 4 default) (e.getD 5 default) (e.getD 6 default) (e.getD 7 default)
  exact ⟨by unfold moreE; rw [h2]; exact h.g, h.t, by unfold moreE; rw [h1]; exact h.f⟩
/-- One entry's doing, by its kind. -/
theorem more_g {s : Scr} {e0 e1 e2 e3 e4 e5 e6 e7 : Int} (h : e0 % 8 < 5) : more s e0 e1 e2 e3 e4 e5 e6 e7 =
    { s with progs := if e2 ≤ 11 ∧ (s.progs.getD (e1 % (s.progs.length : Int)).toNat []).length < 64 then s.progs.set (e1 % (s.progs.length : Int)).toNat (s.progs.getD (e1 % (s.progs.length : Int)).toNat [] ++ [callOf e2 e3 e4 e5 e6 e7]) else s.progs } := by
  unfold more; rw [if_pos h]; split <;> rfl
theorem more_f {s : Scr} {e0 e1 e2 e3 e4 e5 e6 e7 : Int} (h : e0 % 8 = 5) : more s e0 e1 e2 e3 e4 e5 e6 e7 =
    { s with fins := if e2 ≤ 4 ∧ (s.fins.getD (e1 % 8).toNat []).length < 8 then s.fins.set (e1 % 8).toNat (s.fins.getD (e1 % 8).toNat [] ++ [opOf e2 e4 e5]) else s.fins } := by
  unfold more; rw [if_neg (by omega), if_pos h]; split <;> rfl
theorem more_p {s : Scr} {e0 e1 e2 e3 e4 e5 e6 e7 : Int} (h : ¬ e0 % 8 < 5) (h2 : ¬ e0 % 8 = 5) : more s e0 e1 e2 e3 e4 e5 e6 e7 =
    { s with picks := if s.picks.length < 4096 then s.picks ++ [num e4 e5] else s.picks } := by
  unfold more; rw [if_neg h, if_neg h2]; split <;> rfl
theorem set2 {α : Type} {G : List (List α)} {i j : Nat} (hij : i ≠ j) (p q : Prop) [Decidable p] [Decidable q] (n : Nat) (x y : α) :
    (if p ∧ ((if q ∧ (G.getD j []).length < n then G.set j (G.getD j [] ++ [y]) else G).getD i []).length < n then (if q ∧ (G.getD j []).length < n then G.set j (G.getD j [] ++ [y]) else G).set i ((if q ∧ (G.getD j []).length < n then G.set j (G.getD j [] ++ [y]) else G).getD i [] ++ [x]) else (if q ∧ (G.getD j []).length < n then G.set j (G.getD j [] ++ [y]) else G)) =
    (if q ∧ ((if p ∧ (G.getD i []).length < n then G.set i (G.getD i [] ++ [x]) else G).getD j []).length < n then (if p ∧ (G.getD i []).length < n then G.set i (G.getD i [] ++ [x]) else G).set j ((if p ∧ (G.getD i []).length < n then G.set i (G.getD i [] ++ [x]) else G).getD j [] ++ [y]) else (if p ∧ (G.getD i []).length < n then G.set i (G.getD i [] ++ [x]) else G)) := by
  have e1 : ∀ z, (G.set j z).getD i [] = G.getD i [] := fun z => by simp only [List.getD]; rw [List.getElem?_set_ne (by omega)]
  have e2 : ∀ z, (G.set i z).getD j [] = G.getD j [] := fun z => by simp only [List.getD]; rw [List.getElem?_set_ne (by omega)]
  by_cases hp : p ∧ (G.getD i []).length < n
  · by_cases hq : q ∧ (G.getD j []).length < n
    · simp only [if_pos hp, if_pos hq, e1, e2]
      rw [List.set_comm _ _ (by omega)]
    · simp only [if_pos hp, if_neg hq, e2]
  · by_cases hq : q ∧ (G.getD j []).length < n
    · simp only [if_neg hp, if_pos hq, e1]
    · simp only [if_neg hp, if_neg hq]
theorem more_comm {th : Int} {s : Scr} (h : Wt th s) {a b : List Int} (hg : gE th a ≠ gE th b) : moreE (moreE s a) b = moreE (moreE s b) a := by
  obtain ⟨hl, ht, hf⟩ := h
  unfold gE grp at hg
  unfold moreE
  generalize a.getD 0 default = a0 at *
  generalize a.getD 1 default = a1 at *
  generalize a.getD 2 default = a2
  generalize a.getD 3 default = a3
  generalize a.getD 4 default = a4
  generalize a.getD 5 default = a5
  generalize a.getD 6 default = a6
  generalize a.getD 7 default = a7
  generalize b.getD 0 default = b0 at *
  generalize b.getD 1 default = b1 at *
  generalize b.getD 2 default = b2
  generalize b.getD 3 default = b3
  generalize b.getD 4 default = b4
  generalize b.getD 5 default = b5
  generalize b.getD 6 default = b6
  generalize b.getD 7 default = b7
  have m1 : 0 ≤ a1 % th ∧ a1 % th < th := ⟨Int.emod_nonneg _ (by omega), Int.emod_lt_of_pos _ (by omega)⟩
  have m2 : 0 ≤ b1 % th ∧ b1 % th < th := ⟨Int.emod_nonneg _ (by omega), Int.emod_lt_of_pos _ (by omega)⟩
  by_cases ha : a0 % 8 < 5
  · by_cases hb : b0 % 8 < 5
    · rw [if_pos ha, if_pos hb] at hg
      have hd : ∀ (q : Prop) [Decidable q] (i : Nat) (l : List Call), (if q then s.progs.set i l else s.progs).length = s.progs.length := fun q _ i l => by split <;> simp
      simp only [more_g ha, more_g hb, hd]
      rw [hl]
      congr 1
      exact (set2 (by omega) _ _ _ _ _).symm
    · by_cases hb5 : b0 % 8 = 5
      · simp only [more_g ha, more_f hb5]
      · simp only [more_g ha, more_p hb hb5]
  · by_cases ha5 : a0 % 8 = 5
    · by_cases hb : b0 % 8 < 5
      · simp only [more_f ha5, more_g hb]
      · by_cases hb5 : b0 % 8 = 5
        · rw [if_neg ha, if_pos ha5, if_neg hb, if_pos hb5] at hg
          simp only [more_f ha5, more_f hb5]
          congr 1
          exact (set2 (by omega) _ _ _ _ _).symm
        · simp only [more_f ha5, more_p hb hb5]
    · by_cases hb : b0 % 8 < 5
      · simp only [more_p ha ha5, more_g hb]
      · by_cases hb5 : b0 % 8 = 5
        · simp only [more_p ha ha5, more_f hb5]
        · rw [if_neg ha, if_neg ha5, if_neg hb, if_neg hb5] at hg; exact absurd rfl hg
theorem past {th : Int} {a : List Int} : ∀ (L : List (List Int)) (s : Scr), Wt th s → (∀ b ∈ L, gE th b ≠ gE th a) → L.foldl moreE (moreE s a) = moreE (L.foldl moreE s) a
  | [], _, _, _ => rfl
  | b :: L, s, h, hn => by
    rw [List.foldl_cons, more_comm h (fun e => hn b (by simp) e.symm), past L _ (h.more b) (fun x hx => hn x (by simp [hx])), List.foldl_cons]
theorem pull {th : Int} (g : Int) : ∀ (C : List (List Int)) (s : Scr), Wt th s → C.foldl moreE s = (C.filter (fun e => decide (gE th e = g)) ++ C.filter (fun e => !decide (gE th e = g))).foldl moreE s
  | [], _, _ => rfl
  | a :: C, s, h => by
    rw [List.foldl_cons, pull g C _ (h.more a)]
    by_cases hg : gE th a = g
    · simp [hg]
    · rw [List.foldl_append, past _ _ h, List.filter_cons_of_neg (by simpa using hg), List.filter_cons_of_pos (by simpa using hg), List.foldl_append, List.foldl_cons]
      intro b hb
      have : gE th b = g := by simpa using (List.mem_filter.1 hb).2
      rw [this]; exact fun e => hg e.symm
theorem Wt.fold {th : Int} : ∀ (C : List (List Int)) (s : Scr), Wt th s → Wt th (C.foldl moreE s)
  | [], _, h => h
  | a :: C, s, h => Wt.fold C _ (h.more a)
/-- All groups, one behind the other. -/
theorem apart {th : Int} : ∀ (gl : List Int), gl.Nodup → ∀ (C : List (List Int)) (s : Scr), Wt th s → (∀ e ∈ C, gE th e ∈ gl) → C.foldl moreE s = ((gl.map fun g => C.filter (fun e => decide (gE th e = g))).flatten).foldl moreE s
  | [], _, C, s, _, hC => by
    have : C = [] := by
      cases C with
      | nil => rfl
      | cons a C => exact absurd (hC a (by simp)) (by simp)
    subst this; rfl
  | g :: gl, hn, C, s, h, hC => by
    obtain ⟨h1, h2⟩ := List.nodup_cons.1 hn
    rw [pull g C s h, List.foldl_append, List.map_cons, List.flatten_cons, List.foldl_append]
    rw [apart gl h2 (C.filter fun e => !decide (gE th e = g)) _ (h.fold _)]
    · congr 2
      apply List.map_congr_left
      intro g' hg'
      rw [List.filter_filter]
      apply List.filter_congr
      intro e _
      by_cases he : gE th e = g'
      · have : g' ≠ g := fun hh => h1 (hh ▸ hg')
        simp [he, this]
      · simp [he]
    · intro e he
      obtain ⟨he1, he2⟩ := List.mem_filter.1 he
      have := hC e he1
      rcases List.mem_cons.1 this with h3 | h3
      · simp [h3] at he2
      · exact h3
theorem gE_in {th : Int} (h : 1 ≤ th ∧ th ≤ 4) (e : List Int) : 0 ≤ gE th e ∧ gE th e ≤ 12 := by
  unfold gE grp
  have m1 := Int.emod_nonneg (e.getD 1 default) (show th ≠ 0 by omega)
  have m2 := Int.emod_lt_of_pos (e.getD 1 default) (show 0 < th by omega)
  split
  · omega
  · split <;> omega
end Go.Proofs.Ytcbppmocgiamiaa
namespace Go.Proofs.Ytcbppmocgiamiaa
open Go.Pv
def chn (x : List Int) (j : Nat) : List Int := (x.drop (4 + 8 * j)).take 8
def nch (x : List Int) : Nat := (x.length - 4) / 8
def selP (th g : Int) (x : List Int) (j : Nat) : List (List Int) := ((List.range j).map (chn x)).filter (fun e => decide (gE th e = g))
def accA (th : Int) (x : List Int) (k j : Nat) : List Int := x.take 4 ++ (((List.range k).map (fun i : Nat => (selP th (13 - (i : Int)) x (nch x)).flatten)).flatten ++ (selP th (13 - (k : Int)) x j).flatten)
theorem accA_zero (th : Int) (x : List Int) : accA th x 0 0 = x.take 4 := by simp [accA, selP]
theorem accA_row (th : Int) (x : List Int) (k : Nat) : accA th x k (nch x) = accA th x (k + 1) 0 := by
  simp [accA, selP, List.range_succ]
theorem chn_0 {x : List Int} {j : Nat} (h : 4 + 8 * j + 8 ≤ x.length) (i : Nat) (hi : i < 8) : (chn x j).getD i default = x.getD (4 + 8 * j + i) default := by
  unfold chn
  simp only [List.getD, List.getElem?_take, if_pos hi, List.getElem?_drop]
theorem acc_step {th : Int} {x : List Int} (k : Nat) {j : Nat} (h : 4 + 8 * j + 8 ≤ x.length) :
    accA th x k (j + 1) = if grp th (x.getD (4 + 8 * j) default) (x.getD (4 + 8 * j + 1) default) = 13 - (k : Int) then accA th x k j ++ chn x j else accA th x k j := by
  have e : gE th (chn x j) = grp th (x.getD (4 + 8 * j) default) (x.getD (4 + 8 * j + 1) default) := by
    unfold gE; rw [chn_0 h 0 (by omega), chn_0 h 1 (by omega)]; rfl
  unfold accA selP
  rw [List.range_succ, List.map_append, List.filter_append, List.flatten_append]
  by_cases hg : gE th (chn x j) = 13 - (k : Int)
  · rw [if_pos (by rw [← e]; exact hg)]
    simp [hg]
  · rw [if_neg (by rw [← e]; exact hg)]
    simp [hg]
theorem acc_len (th : Int) (x : List Int) (h : x.length ≤ 800) (k j : Nat) (hk : k ≤ 14) (hj : j ≤ 100) : (accA th x k j).length ≤ 12804 := by
  have h1 : ∀ g n, n ≤ 100 → (selP th g x n).flatten.length ≤ 800 := by
    intro g n hn
    have : ∀ l : List (List Int), (∀ e ∈ l, e.length ≤ 8) → l.flatten.length ≤ 8 * l.length := by
      intro l
      induction l with
      | nil => intro _; simp
      | cons a l ih => intro hl; have := hl a (by simp); have := ih (fun e he => hl e (by simp [he])); simp only [List.flatten_cons, List.length_append, List.length_cons]; omega
    have h2 := this (selP th g x n) (fun e he => by
      unfold selP at he
      obtain ⟨i, _, rfl⟩ := List.mem_map.1 (List.mem_filter.1 he).1
      unfold chn; rw [List.length_take]; omega)
    have h3 : (selP th g x n).length ≤ n := by
      unfold selP; exact Nat.le_trans (List.length_filter_le _ _) (by simp)
    omega
  unfold accA
  have hn : nch x ≤ 100 := by unfold nch; omega
  have h4 : (((List.range k).map (fun i : Nat => (selP th (13 - (i : Int)) x (nch x)).flatten)).flatten).length ≤ 800 * k := by
    induction k with
    | zero => simp
    | succ k ih =>
      have := ih (by omega)
      have := h1 (13 - (k : Int)) (nch x) hn
      rw [List.range_succ, List.map_append, List.flatten_append, List.length_append]
      simp only [List.map_cons, List.map_nil, List.flatten_cons, List.flatten_nil, List.append_nil]
      omega
  have h5 := h1 (13 - (k : Int)) j hj
  simp only [List.length_append, List.length_take]; omega
/-- Laid one group behind the other they say the same. -/
theorem ofB_apart {x : List Int} (h4 : 4 ≤ x.length) : ofB (accA (1 + x.getD 1 default % 4) x 14 0) = ofB x := by
  have ht : 1 ≤ 1 + x.getD 1 default % 4 ∧ 1 + x.getD 1 default % 4 ≤ 4 := by omega
  generalize hth : 1 + x.getD 1 default % 4 = th at ht
  have e1 : accA th x 14 0 = x.take 4 ++ ((List.range 14).map (fun i : Nat => (selP th (13 - (i : Int)) x (nch x)).flatten)).flatten := by simp [accA, selP]
  have l4 : (x.take 4).length = 4 := by rw [List.length_take]; omega
  have hd : ∀ i, i < 4 → ∀ r, (x.take 4 ++ r).getD i default = x.getD i default := by
    intro i hi r
    simp only [List.getD]
    rw [List.getElem?_append_left (by omega), List.getElem?_take, if_pos hi]
  unfold ofB
  rw [e1, hd 0 (by omega), hd 1 (by omega), hd 2 (by omega), hd 3 (by omega), List.drop_left' l4]
  generalize hs : s0 (x.getD 0 default) (x.getD 1 default) (x.getD 2 default) (x.getD 3 default) = s
  have hw : Wt th s := by
    subst hs
    refine ⟨?_, ht, by simp [s0]⟩
    simp only [s0, List.length_replicate]; omega
  rw [runs_chunks (nch x) (x.drop 4) s (by rw [List.length_drop]; unfold nch; omega) (by rw [List.length_drop]; unfold nch; omega)]
  have e2 : ((List.range (nch x)).map fun j => ((x.drop 4).drop (8 * j)).take 8) = (List.range (nch x)).map (chn x) := by
    apply List.map_congr_left
    intro j _
    unfold chn; rw [List.drop_drop]
  rw [e2]
  have e3 : ((List.range 14).map (fun i : Nat => (selP th (13 - (i : Int)) x (nch x)).flatten)).flatten = (((List.range 14).map (fun i : Nat => 13 - (i : Int))).map fun g => ((List.range (nch x)).map (chn x)).filter (fun e => decide (gE th e = g))).flatten.flatten := by
    rw [List.map_map]
    simp only [selP, Function.comp_def, List.range, List.range.loop, List.map_cons, List.map_nil, List.flatten_cons, List.flatten_nil, List.flatten_append, List.append_assoc, List.append_nil]
  rw [e3, runs_flat _ (by
    intro e he
    obtain ⟨l, hl, he⟩ := List.mem_flatten.1 he
    obtain ⟨g, _, rfl⟩ := List.mem_map.1 hl
    obtain ⟨j, hj, rfl⟩ := List.mem_map.1 (List.mem_filter.1 he).1
    have := List.mem_range.1 hj
    unfold nch at this
    unfold chn; rw [List.length_take, List.length_drop]; omega)]
  refine (apart _ (by decide) _ s hw (fun e _ => ?_)).symm
  have := gE_in ht e
  simp only [List.mem_map, List.mem_range]
  exact ⟨(13 - gE th e).toNat, by omega, by omega⟩
theorem bytes_acc {x : List Int} (hx : Bytes x) (th : Int) (k j : Nat) : Bytes (accA th x k j) := by
  have h1 : ∀ g n, Bytes (selP th g x n).flatten := by
    intro g n y hy
    obtain ⟨l, hl, hy⟩ := List.mem_flatten.1 hy
    unfold selP at hl
    obtain ⟨i, _, rfl⟩ := List.mem_map.1 (List.mem_filter.1 hl).1
    exact hx y (List.mem_of_mem_drop (List.mem_of_mem_take hy))
  intro y hy
  unfold accA at hy
  rcases List.mem_append.1 hy with hy | hy
  · exact hx y (List.mem_of_mem_take hy)
  · rcases List.mem_append.1 hy with hy | hy
    · obtain ⟨l, hl, hy⟩ := List.mem_flatten.1 hy
      obtain ⟨i, _, rfl⟩ := List.mem_map.1 hl
      exact h1 _ _ y hy
    · exact h1 _ _ y hy
end Go.Proofs.Ytcbppmocgiamiaa
namespace Go.Proofs.Ytcbppmocgiamiaa
open Go.Pv
theorem chn_len {x : List Int} {j : Nat} (h : 4 + 8 * j + 8 ≤ x.length) : (chn x j).length = 8 := by unfold chn; rw [List.length_take, List.length_drop]; omega
theorem chn_bytes {x : List Int} (h : Bytes x) (j : Nat) : Bytes (chn x j) := (h.drop _).take _
theorem chn_sl {x : List Int} {j : Nat} (l u : Int) (hl : l = ((4 + 8 * j : Nat) : Int)) (hu : u = ((4 + 8 * j + 8 : Nat) : Int)) (h : 4 + 8 * j + 8 ≤ x.length) :
    0 ≤ l ∧ l ≤ u ∧ u ≤ (x.map eByte).length ∧ ((x.map eByte).drop l.toNat).take (u.toNat - l.toNat) = (chn x j).map eByte := by
  have := sl_map (f := eByte) x l u (4 + 8 * j) (4 + 8 * j + 8) hl hu (by omega) h
  rw [show 4 + 8 * j + 8 - (4 + 8 * j) = 8 by omega] at this
  exact this
theorem runs_chn {x : List Int} {j : Nat} {s : Scr} (h : 4 + 8 * j + 8 ≤ x.length) : runs (x.drop (4 + 8 * j)) s = runs (x.drop (4 + 8 * (j + 1))) (moreE s (chn x j)) := by
  have e : x.drop (4 + 8 * j) = chn x j ++ x.drop (4 + 8 * (j + 1)) := by
    have h2 := List.take_append_drop 8 (x.drop (4 + 8 * j))
    rw [List.drop_drop] at h2
    rw [show 4 + 8 * (j + 1) = 4 + 8 * j + 8 by omega]
    exact h2.symm
  rw [e, runs_cons (chn_len h)]
theorem moreE_len (s : Scr) (e : List Int) : (moreE s e).fins.length = s.fins.length ∧ (moreE s e).progs.length = s.progs.length := more_len s _ _ _ _ _ _ _ _
theorem moreE_plan (s : Scr) (e : List Int) : (moreE s e).sc = s.sc ∧ (moreE s e).th = s.th ∧ (moreE s e).im = s.im ∧ (moreE s e).hp = s.hp := more_plan s _ _ _ _ _ _ _ _
end Go.Proofs.Ytcbppmocgiamiaa
