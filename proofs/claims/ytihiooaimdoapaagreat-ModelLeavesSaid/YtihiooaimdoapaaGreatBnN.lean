/- Names, told anew. -/
import Derived.Test.YtihiooaimdoapaaGreatBnL
set_option linter.unusedVariables false
set_option linter.unusedSimpArgs false
namespace Go.Bm
noncomputable section
open Go.RowKit
/-- Names that stay: own ones below N, and those of regions. -/
def stay (N i : Nat) : Prop := i < N ∨ ¬ i < lim
structure Gsub (N : Nat) (g g' : G) : Prop where
  at' : ∀ i, stay N i → g'.at' i = g.at' i
  mem : g'.mem = g.mem
  lp : g'.lp = g.lp
def VP (N : Nat) (c : A) : Prop := ∀ g g' v, Gsub N g g' → V g c v → V g' c v
def okN (N : Nat) : Ref → Bool
  | .loc o => Nat.blt o N
  | .reg _ _ => true
theorem okN_at {N : Nat} {x : Ref} (h : okN N x = true) {g g' : G} (k : Gsub N g g') : g'.at' x.id = g.at' x.id := by
  cases x with
  | loc o => exact k.at' o (.inl (blt_lt h))
  | reg r j => exact k.at' _ (.inr (Nat.not_lt.2 (rid_ge r j)))
def okF (p : A → Bool) : Nat → Tr A → Bool
  | 0, _ => true
  | n + 1, F => p (slotA F.get n) && okF p n F
theorem okF_ok {p : A → Bool} {F : Tr A} : ∀ {n : Nat}, okF p n F = true → ∀ i, i < n → p (slotA F.get i) = true
  | n + 1, h, i, hi => by
    have h : (p (slotA F.get n) && okF p n F) = true := h
    rw [Bool.and_eq_true] at h
    by_cases e : i = n
    · rw [e]; exact h.1
    · exact okF_ok h.2 i (by omega)
def okA (N : Nat) : Nat → A → Bool
  | 0, _ => false
  | k + 1, a => match a with
    | .agg cs => cs.all (okA N k)
    | .tup cs => cs.all (okA N k)
    | .fn _ fi ca => fi.all (okA N k) && ca.all (okA N k)
    | .ptr o _ => Nat.blt o N
    | .tp x _ => okN N x
    | .sl o _ _ _ => Nat.blt o N
    | .ts x _ _ _ => okN N x
    | .tf x _ _ _ => okN N x
    | .tw x _ => okN N x
    | .as x _ _ _ => okN N x
    | .mp x => okN N x
    | .yld q n F _ _ _ _ => Nat.blt q N && okF (okA N k) n F
    | _ => true
theorem VP.tp {N : Nat} {x : Ref} {π : List Sp} (h : okN N x = true) : VP N (.tp x π) := fun g g' v k hv => by
  cases hv with
  | tp _ _ b s h1 hk => exact .tp x π b s ((okN_at h k).trans h1) hk
theorem VP.tw {N : Nat} {x : Ref} {z : Nat} (h : okN N x = true) : VP N (.tw x z) := fun g g' v k hv => by
  cases hv with
  | tw0 _ _ ad h1 => exact .tw0 x z ad ((okN_at h k).trans h1)
  | tw _ _ n b cap t h1 hn hx hp d hd => exact .tw x z n b cap t ((okN_at h k).trans h1) hn hx hp d hd
theorem VP.e0 {N : Nat} : VP N .e0 := fun g g' v k hv => by cases hv; exact .e0 _
theorem VP.mp {N : Nat} {x : Ref} (h : okN N x = true) : VP N (.mp x) := fun g g' v k hv => by
  cases hv with
  | mp _ b s h1 => exact .mp x b s ((okN_at h k).trans h1)
theorem okA_VP {N : Nat} : ∀ (k : Nat) (a : A), okA N k a = true → VP N a
  | 0, _, h => by cases h
  | k + 1, .v x, _ => fun g g' v _ hv => by cases hv; exact .v _
  | k + 1, .agg cs, h => fun g g' v hg hv => by
    have h : cs.all (okA N k) = true := h
    rw [List.all_eq_true] at h
    cases hv with
    | agg _ vs hl h1 hh => exact .agg cs vs hl h1 (fun i c x e1 e2 => okA_VP k c (h c (List.mem_of_getElem? e1)) g g' x hg (hh i c x e1 e2))
  | k + 1, .tup cs, h => fun g g' v hg hv => by
    have h : cs.all (okA N k) = true := h
    rw [List.all_eq_true] at h
    cases hv with
    | tup _ vs hl hh => exact .tup cs vs hl (fun i c x e1 e2 => okA_VP k c (h c (List.mem_of_getElem? e1)) g g' x hg (hh i c x e1 e2))
  | k + 1, .fn f fi ca, h => fun g g' v hg hv => by
    have h : (fi.all (okA N k) && ca.all (okA N k)) = true := h
    rw [Bool.and_eq_true, List.all_eq_true, List.all_eq_true] at h
    cases hv with
    | fn _ _ _ fv cv hf hc h1 h2 => exact .fn f fi ca fv cv hf hc (fun i c x e1 e2 => okA_VP k c (h.1 c (List.mem_of_getElem? e1)) g g' x hg (h1 i c x e1 e2)) (fun i c x e1 e2 => okA_VP k c (h.2 c (List.mem_of_getElem? e1)) g g' x hg (h2 i c x e1 e2))
  | k + 1, .ptr o off, h => fun g g' v hg hv => by
    cases hv with
    | ptr _ _ b s h1 => exact .ptr o off b s ((hg.at' o (.inl (blt_lt h))).trans h1)
  | k + 1, .tp x π, h => .tp h
  | k + 1, .sl o off z n, h => fun g g' v hg hv => by
    cases hv with
    | sl _ _ _ _ b cap s h1 hn hx hs => exact .sl o off z n b cap s ((hg.at' o (.inl (blt_lt h))).trans h1) hn hx hs
  | k + 1, .ts x z off n, h => fun g g' v hg hv => by
    cases hv with
    | ts _ _ _ _ b cap s h1 hn hx hs hp d hd hq => exact .ts x z off n b cap s ((okN_at h hg).trans h1) hn hx hs hp d hd hq
    | ts0 _ _ _ _ ad h1 hn => exact .ts0 x z off n ad ((okN_at h hg).trans h1) hn
  | k + 1, .tf x z off n, h => fun g g' v hg hv => by
    cases hv with
    | tf _ _ _ _ b s h1 hx hs d hd => exact .tf x z off n b s ((okN_at h hg).trans h1) hx hs d hd
    | tf0 _ _ _ _ ad h1 hn => exact .tf0 x z off n ad ((okN_at h hg).trans h1) hn
  | k + 1, .tw x z, h => .tw h
  | k + 1, .as x π n z, h => fun g g' v hg hv => by
    cases hv with
    | as _ _ _ _ b cap s h1 hk hn hx => exact .as x π n z b cap s ((okN_at h hg).trans h1) hk hn hx
  | k + 1, .e0, _ => .e0
  | k + 1, .tl t f l, _ => fun g g' v hg hv => by
    cases hv with
    | tl _ _ _ _ h => exact .tl t f l v (by rw [hg.mem]; exact h)
  | k + 1, .nn t l, _ => fun g g' v hg hv => by
    cases hv with
    | nn _ _ a n c h => exact .nn t l a n c (by rw [hg.mem]; exact h)
  | k + 1, .dp t x, _ => fun g g' v hg hv => by
    cases hv with
    | dp _ _ b off f hm => exact .dp t x b off f (fun j c e => by rw [hg.mem]; exact hm j c e)
  | k + 1, .mp x, h => .mp h
  | k + 1, .op r o, _ => fun g g' v hg hv => by
    cases hv with
    | op _ _ _ h0 h1 => exact .op r o v h0 (fun j e => VP.tp (N := N) (x := .reg r j) rfl g g' v hg (h1 j e))
  | k + 1, .os r z o, _ => fun g g' v hg hv => by
    cases hv with
    | os _ _ _ _ h0 h1 => exact .os r z o v (fun e => VP.e0 (N := N) g g' v hg (h0 e)) (fun j e => VP.tw (N := N) (x := .reg r j) rfl g g' v hg (h1 j e))
  | k + 1, .om r o, _ => fun g g' v hg hv => by
    cases hv with
    | om _ _ _ h0 h1 => exact .om r o v h0 (fun j e => VP.mp (N := N) (x := .reg r j) rfl g g' v hg (h1 j e))
  | k + 1, .yld q n F ps j as bd, h => fun g g' v hg hv => by
    have h : (Nat.blt q N && okF (okA N k) n F) = true := h
    rw [Bool.and_eq_true] at h
    cases hv with
    | yld _ _ _ _ _ _ _ b s l h0 hl h1 h2 h3 h4 h5 => exact .yld q n F ps j as bd b s l ((hg.at' q (.inl (blt_lt h.1))).trans h0) (by rw [hg.lp]; exact hl) h1 h2 h3 h4 (fun i hi => okA_VP k _ (okF_ok h.2 i hi) g g' _ hg (h5 i hi))
  | k + 1, .un, _ => fun g g' v _ hv => by cases hv; exact .un
  | k + 1, .junk, _ => fun g g' v _ _ => .junk v
theorem encA_VP {N : Nat} : ∀ (t : Ty) (x : t.T), ∀ c ∈ encA t x, VP N c
  | .int k, x, c, h => by rcases List.mem_singleton.1 h with rfl; exact okA_VP 1 _ rfl
  | .bool, x, c, h => by rcases List.mem_singleton.1 h with rfl; exact okA_VP 1 _ rfl
  | .unit, _, c, h => by cases h
  | .pair a b, x, c, h => (List.mem_append.1 h).elim (encA_VP a x.1 c) (encA_VP b x.2 c)
  | .arr n t, l, c, h => by
    obtain ⟨i, _, h⟩ := List.mem_flatMap.1 h
    exact encA_VP t _ c h
  | .slc t, l, c, h => by rcases List.mem_singleton.1 h with rfl; exact okA_VP 1 _ rfl
  | .ptr r, x, c, h => by rcases List.mem_singleton.1 h with rfl; exact okA_VP 1 _ rfl
  | .nptr r, j, c, h => by rcases List.mem_singleton.1 h with rfl; exact okA_VP 1 _ rfl
  | .rsl r z, x, c, h => by rcases List.mem_singleton.1 h with rfl; exact okA_VP 1 _ rfl
  | .wrg r z, j, c, h => by rcases List.mem_singleton.1 h with rfl; exact okA_VP 1 _ rfl
  | .mp r, x, c, h => by rcases List.mem_singleton.1 h with rfl; exact okA_VP 1 _ rfl
theorem packA_VP {N : Nat} (a : Bool) (t : Ty) (x : t.T) : VP N (packA a t x) := by
  unfold packA
  have h := encA_VP (N := N) t x
  cases a with
  | true =>
    intro g g' v hg hv
    cases hv with
    | agg _ vs hl h1 hh => exact .agg _ vs hl h1 (fun i c y e1 e2 => h c (List.mem_of_getElem? e1) g g' y hg (hh i c y e1 e2))
  | false =>
    generalize encA t x = cs at h
    match cs, h with
    | [c], h => exact h c (.head _)
    | [], _ => exact fun g g' v _ _ => .junk v
    | _ :: _ :: _, _ => exact fun g g' v _ _ => .junk v
/-- A thing in memory that speaks of names that stay. -/
def obP (N : Nat) : Ob → Prop
  | .cells cs => ∀ c ∈ cs, VP N c
  | .oth (.map es) => ∀ e ∈ es, VP N e.1 ∧ VP N e.2
  | .oth .dfr => True
  | .oth (.loop _ _) => True
theorem regOb_VP {N : Nat} {k : RK} {c : k.T} {j : Nat} {x : Ob} (h : regOb k c j = some x) : obP N x := by
  cases k with
  | box t =>
    simp only [regOb] at h
    split at h
    · cases h; exact encA_VP t _
    · cases h
  | row t =>
    simp only [regOb] at h
    split at h
    · cases h; exact fun c hc => by obtain ⟨y, _, hy⟩ := List.mem_flatMap.1 hc; exact encA_VP t y c hy
    · cases h
  | map ka tk va tv =>
    simp only [regOb] at h
    split at h
    · cases h; exact fun e he => by obtain ⟨y, _, rfl⟩ := List.mem_map.1 he; exact ⟨packA_VP _ _ _, packA_VP _ _ _⟩
    · cases h
/-- The ghost, with names told anew. -/
def gjv (g : G) : Option (Option Nat) → Option (Option Nat × (Nat × Nat))
  | some (some o) => g.at' o
  | some none => some (none, (0, 0))
  | none => none
def gj (N : Nat) (names : List (Option Nat)) (g : G) : G := ⟨fun i => if i < N ∨ ¬ i < lim then g.at' i else gjv g names[i - N]?, g.mem, g.lp⟩
theorem gj_sub (N : Nat) (names : List (Option Nat)) (g : G) : Gsub N g (gj N names g) := ⟨fun i h => if_pos h, rfl, rfl⟩
theorem gj_at {N : Nat} {names : List (Option Nat)} {g : G} {k : Nat} {nm : Option Nat} (h : names[k]? = some nm) (hl : N + names.length ≤ lim) : (gj N names g).at' (N + k) = gjv g (some nm) := by
  have hk := (List.getElem?_eq_some_iff.1 h).1
  show (if N + k < N ∨ ¬ N + k < lim then g.at' (N + k) else _) = _
  rw [if_neg (by omega), Nat.add_sub_cancel_left, h]
theorem RowAt.to {g g' : G} {w : World} {b t : Nat} {cs : List A} (h : RowAt g w b t cs) {N : Nat} (hs : Gsub N g g') (hc : ∀ c ∈ cs, VP N c) : RowAt g' w b t cs := by
  obtain ⟨cur, ty, k1, k2, k3, k4⟩ := h
  exact ⟨cur, ty, k1, k2, k3, fun j c x e1 e2 => ⟨hc c (List.mem_of_getElem? e1) g g' x hs (k4 j c x e1 e2).1, (k4 j c x e1 e2).2⟩⟩
theorem OthOk.to {g g' : G} {x : Oth} {ob : Obj} (h : OthOk g x ob) {N : Nat} (hs : Gsub N g g') (hc : obP N (.oth x)) : OthOk g' x ob := by
  cases x with
  | map es =>
    obtain ⟨mes, clock, k1, k2, k3⟩ := h
    exact ⟨mes, clock, k1, k2, fun i e q e1 e2 => ⟨(hc q (List.mem_of_getElem? e2)).1 g g' _ hs (k3 i e q e1 e2).1, (hc q (List.mem_of_getElem? e2)).2 g g' _ hs (k3 i e q e1 e2).2⟩⟩
  | dfr => exact h
  | loop => exact h
/-- Names are told anew; what is not told any more is forgotten. -/
theorem rejoin {N : Nat} {names : List (Option Nat)} {S S' S0 : Hp} {g g0 : G} {w w0 : World} (hl : N + names.length ≤ lim)
    (h1 : ∀ i x, stay N i → S'.ob i = some x → (S.ob i = some x ∧ obP N x) ∨ ∃ cs cs', S.ob i = some (.cells cs) ∧ x = .cells cs' ∧ cs'.length = cs.length ∧ ∀ vs, Vs g cs vs → Vs (gj N names g) cs' vs)
    (h2 : ∀ i x, ¬ stay N i → S'.ob i = some x → ∃ k nm, i = N + k ∧ names[k]? = some nm ∧ (∀ o, nm = some o → S.ob o = some x ∧ obP N x) ∧ (nm = none → x = .cells []))
    (h3 : ∀ (k k' o : Nat), names[k]? = some (some o) → names[k']? = some (some o) → k = k')
    (h4 : ∀ (k o : Nat), names[k]? = some (some o) → stay N o → S'.ob o = none)
    (h5 : ∀ i, S'.fr i → (¬ stay N i → N + names.length ≤ i) ∧ (stay N i → S.fr i))
    (hf : ∀ o, N ≤ o → o < lim → S0.fr o ∧ g0.at' o = none) (hI : Inv g S w) (hE : Ext S0 g0 w0 S g w) :
    Inv (gj N names g) S' w ∧ Ext S0 g0 w0 S' (gj N names g) w := by
  have hs := gj_sub N names g
  have ns : ∀ {i}, ¬ stay N i → N ≤ i ∧ i < lim := fun {i} h => by unfold stay at h; omega
  have hatn : ∀ i, ¬ stay N i → (gj N names g).at' i = gjv g names[i - N]? := fun i h => if_neg h
  -- where a thing that is told comes from
  have src : ∀ i x b s, S'.ob i = some x → (gj N names g).at' i = some (some b, s) → ∃ o y, S.ob o = some y ∧ g.at' o = some (some b, s) ∧ (i = o ∧ stay N i ∨ ¬ stay N i ∧ ∃ k, i = N + k ∧ names[k]? = some (some o)) := fun i x b s e1 e2 => by
    by_cases hi : stay N i
    · rcases h1 i x hi e1 with ⟨q1, q2⟩ | ⟨cs, cs', q1, _, _⟩
      · exact ⟨i, x, q1, by rw [← hs.at' i hi]; exact e2, .inl ⟨rfl, hi⟩⟩
      · exact ⟨i, _, q1, by rw [← hs.at' i hi]; exact e2, .inl ⟨rfl, hi⟩⟩
    · obtain ⟨k, nm, rfl, hk, q1, q2⟩ := h2 i x hi e1
      rw [gj_at hk hl] at e2
      cases nm with
      | none => cases e2
      | some o => exact ⟨o, x, (q1 o rfl).1, e2, .inr ⟨hi, k, rfl, hk⟩⟩
  have inj : ∀ i j x y b s s', S'.ob i = some x → S'.ob j = some y → (gj N names g).at' i = some (some b, s) → (gj N names g).at' j = some (some b, s') → i = j := fun i j x y b s s' e1 e2 k1 k2 => by
    obtain ⟨o1, x1, p1, p3, p4⟩ := src i x b s e1 k1
    obtain ⟨o2, x2, q1, q3, q4⟩ := src j y b s' e2 k2
    have ho := hI.inj o1 o2 x1 x2 b s s' p1 q1 p3 q3
    subst ho
    rcases p4 with ⟨rfl, p5⟩ | ⟨p5, k, rfl, p6⟩
    · rcases q4 with ⟨rfl, _⟩ | ⟨q5, k', rfl, q6⟩
      · rfl
      · rw [h4 k' i q6 p5] at e1; cases e1
    · rcases q4 with ⟨rfl, q5⟩ | ⟨q5, k', rfl, q6⟩
      · rw [h4 k j p6 q5] at e2; cases e2
      · rw [h3 k k' o1 p6 q6]
  refine ⟨⟨fun i cs e => ?_, fun i x e => ?_, fun i e => ?_, fun i b s e => ?_, inj, hI.mem, fun i b s j x e k => ?_, hI.lp⟩, ⟨⟨fun o p e => ?_, fun _ _ _ e => hE.le.mem _ _ _ e, fun _ _ e => hE.le.lp _ _ e⟩, hE.os, hE.tape, hE.output, hE.size, hE.frame, fun k ⟨i, s, x, e1, e2⟩ => ?_, fun o p e => ?_, fun o e => ?_, hE.memo, hE.lpo⟩⟩
  · by_cases hi : stay N i
    · rw [hs.at' i hi]
      rcases h1 i _ hi e with ⟨q1, q2⟩ | ⟨ds, ds', q1, q2, q3, q4⟩
      · exact (hI.cells i cs q1).imp id fun ⟨b, t, k1, k2⟩ => ⟨b, t, k1, k2.to hs q2⟩
      · cases q2
        rcases hI.cells i ds q1 with ⟨k1, k2⟩ | ⟨b, t, k1, cur, ty, k2, k3, k4⟩
        · exact .inl ⟨k1, List.length_eq_zero_iff.1 (by rw [q3, k2]; rfl)⟩
        · exact .inr ⟨b, t, by rw [q3]; exact k1, cur, ty, k2, k3, by rw [q3]; exact q4 _ k4⟩
    · obtain ⟨k, nm, rfl, hk, q1, q2⟩ := h2 i _ hi e
      rw [gj_at hk hl]
      cases nm with
      | none =>
        have := q2 rfl
        cases this
        exact .inl ⟨rfl, rfl⟩
      | some o =>
        obtain ⟨q3, q4⟩ := q1 o rfl
        exact (hI.cells o cs q3).imp id fun ⟨b, t, k1, k2⟩ => ⟨b, t, k1, k2.to hs q4⟩
  · by_cases hi : stay N i
    · rcases h1 i _ hi e with ⟨q1, q2⟩ | ⟨ds, ds', q1, q2, q3⟩
      · obtain ⟨b, s, ob, k1, k2, k3⟩ := hI.oth i x q1
        exact ⟨b, s, ob, (hs.at' i hi).trans k1, k2, k3.to hs q2⟩
      · cases q2
    · obtain ⟨k, nm, rfl, hk, q1, q2⟩ := h2 i _ hi e
      cases nm with
      | none => have := q2 rfl; cases this
      | some o =>
        obtain ⟨q3, q4⟩ := q1 o rfl
        obtain ⟨b, s, ob, k1, k2, k3⟩ := hI.oth o x q3
        exact ⟨b, s, ob, (gj_at hk hl).trans k1, k2, k3.to hs q4⟩
  · obtain ⟨q1, q2⟩ := h5 i e
    by_cases hi : stay N i
    · rw [hs.at' i hi]; exact hI.fresh i (q2 hi)
    · rw [hatn i hi, List.getElem?_eq_none (by have := q1 hi; omega)]; rfl
  · by_cases hi : stay N i
    · rw [hs.at' i hi] at e; exact hI.lt i b s e
    · rw [hatn i hi] at e
      generalize names[i - N]? = nm at e
      match nm, e with
      | some (some o), e => exact hI.lt o b s e
  · obtain ⟨o, y, p1, p3, _⟩ := src i x b s e k
    exact hI.memd o b s j y p1 p3
  · have hi : stay N o := by
      by_cases hi : stay N o
      · exact hi
      · obtain ⟨a1, a2⟩ := ns hi
        rw [(hf o a1 a2).2] at e; cases e
    rw [hs.at' o hi]; exact hE.le.at' o p e
  · obtain ⟨o, y, p1, p3, _⟩ := src i x k s e1 e2
    exact hE.own k ⟨o, s, y, p1, p3⟩
  · by_cases hi : stay N o
    · rw [hs.at' o hi] at e; exact hE.dom o p e
    · obtain ⟨a1, a2⟩ := ns hi
      exact .inr ⟨(hf o a1 a2).2, (hf o a1 a2).1⟩
  · by_cases hi : stay N o
    · exact hE.fr o ((h5 o e).2 hi)
    · obtain ⟨a1, a2⟩ := ns hi
      exact (hf o a1 a2).1
end
end Go.Bm
