/- A function that minds some regions alone, used where there is more. -/
import Derived.Test.YtihiooaimdoapaaGreatBnC
set_option linter.unusedVariables false
set_option linter.unusedSimpArgs false
namespace Go.Bm
noncomputable section
open Go.RowKit
def kin (kp : Nat → Bool) (i : Nat) : Bool := !(Nat.blt i 16777216) && kp (rOf i)
/-- Of what lies where, what lies in these regions. -/
def G.keep (kp : Nat → Bool) (g : G) : G := ⟨fun i => if kin kp i = true then g.at' i else none, g.mem, g.lp⟩
theorem keep_le (kp : Nat → Bool) (g : G) : Le (g.keep kp) g := ⟨fun o p h => (by
  have h : (if kin kp o = true then g.at' o else none) = some p := h
  split at h
  · exact h
  · cases h), fun _ _ _ h => h, fun _ _ h => h⟩
theorem keep_in {kp : Nat → Bool} {g : G} {i : Nat} (h : kin kp i = true) : (g.keep kp).at' i = g.at' i := if_pos h
theorem keep_out {kp : Nat → Bool} {g : G} {i : Nat} (h : kin kp i = false) : (g.keep kp).at' i = none := if_neg (by rw [h]; simp)
/-- It speaks of these regions alone. -/
def VK (kp : Nat → Bool) (c : A) : Prop := ∀ g v, V g c v → V (g.keep kp) c v
def ObK (kp : Nat → Bool) : Ob → Prop
  | .cells cs => ∀ c ∈ cs, VK kp c
  | .oth (.map es) => ∀ e ∈ es, VK kp e.1 ∧ VK kp e.2
  | .oth _ => False
/-- Two tellings, put together. -/
def G.join (kp : Nat → Bool) (g0 g : G) : G := ⟨fun i => if kin kp i = true then g0.at' i else g.at' i, g0.mem, g0.lp⟩
theorem join_keep (kp : Nat → Bool) (g0 g : G) : (G.join kp g0 g).keep kp = g0.keep kp := by
  unfold G.join G.keep
  congr 1
  funext i
  by_cases h : kin kp i = true
  · simp only [if_pos h]
  · simp only [if_neg h]
theorem VK.join {kp : Nat → Bool} {c : A} (h : VK kp c) {g0 g : G} {v : Value} (hv : V g0 c v) : V (G.join kp g0 g) c v := by
  have := h g0 v hv
  rw [← join_keep kp g0 g] at this
  exact this.mono (keep_le kp _)
def Hp.join (kp : Nat → Bool) (S0 S : Hp) : Hp := ⟨fun i => if kin kp i = true then S0.ob i else S.ob i, fun i => if kin kp i = true then S0.fr i else S.fr i⟩
theorem RowAt.conv {g g' : G} {w w' : World} {b t : Nat} {cs : List A} (h : RowAt g w b t cs) (hw : w'.heap[b]? = w.heap[b]?) (hc : ∀ c ∈ cs, ∀ v, V g c v → V g' c v) : RowAt g' w' b t cs := by
  obtain ⟨cur, ty, k2, k2', k3⟩ := h
  exact ⟨cur, ty, hw.trans k2, k2', k3.1, fun j c x e1 e2 => ⟨hc c (List.mem_of_getElem? e1) _ (k3.2 j c x e1 e2).1, (k3.2 j c x e1 e2).2⟩⟩
theorem frame_in {kp : Nat → Bool} {g : G} {S S0 : Hp} {w : World} (hI : Inv g S w) (h0 : ∀ i, kin kp i = false → S0.ob i = none) (h1 : ∀ i, kin kp i = true → S.ob i = S0.ob i ∧ (S.fr i ↔ S0.fr i)) (hk : ∀ i x, S0.ob i = some x → ObK kp x) : Inv (g.keep kp) S0 w := by
  have kn : ∀ {i x}, S0.ob i = some x → kin kp i = true ∧ S.ob i = some x := fun {i x} h => by
    cases hki : kin kp i with
    | false => rw [h0 i hki] at h; cases h
    | true => exact ⟨rfl, (h1 i hki).1.trans h⟩
  have sub := (keep_le kp g).at'
  refine ⟨fun o cs h => ?_, fun o x h => ?_, fun o h => ?_, fun o b s h => hI.lt o b s (sub _ _ h), fun o o' x x' b s s' e1 e2 e3 e4 => hI.inj o o' x x' b s s' (kn e1).2 (kn e2).2 (sub _ _ e3) (sub _ _ e4), hI.mem, fun o b s i x e1 e2 => hI.memd o b s i x (kn e1).2 (sub _ _ e2), hI.lp⟩
  · obtain ⟨q1, q2⟩ := kn h
    rw [keep_in q1]
    rcases hI.cells o cs q2 with ⟨k1, k2⟩ | ⟨b, t, k1, k2⟩
    · exact .inl ⟨k1, k2⟩
    · exact .inr ⟨b, t, k1, k2.conv rfl (fun c hc v hv => hk o _ h c hc g v hv)⟩
  · obtain ⟨q1, q2⟩ := kn h
    obtain ⟨b, s, ob, k1, k2, k3⟩ := hI.oth o x q2
    refine ⟨b, s, ob, by rw [keep_in q1]; exact k1, k2, ?_⟩
    have hx := hk o _ h
    cases x with
    | map es =>
      obtain ⟨mes, clock, e1, e2, e3⟩ := k3
      exact ⟨mes, clock, e1, e2, fun i e q a1 a2 => let hq := hx q (List.mem_of_getElem? a2); ⟨hq.1 g _ (e3 i e q a1 a2).1, hq.2 g _ (e3 i e q a1 a2).2⟩⟩
    | _ => exact hx.elim
  · cases hki : kin kp o with
    | false => exact keep_out hki
    | true => rw [keep_in hki]; exact hI.fresh o ((h1 o hki).2.2 h)
theorem frame_out {kp : Nat → Bool} {g g0' : G} {S S0 S0' : Hp} {w w' : World} (hI : Inv g S w) (h0 : ∀ i, kin kp i = false → S0.ob i = none) (h1 : ∀ i, kin kp i = true → S.ob i = S0.ob i ∧ (S.fr i ↔ S0.fr i))
    (hk : ∀ i x, kin kp i = true → S0'.ob i = some x → ObK kp x) (hI' : Inv g0' S0' w') (x0 : Ext S0 (g.keep kp) w S0' g0' w') :
    Inv (G.join kp g0' g) (Hp.join kp S0' S) w' ∧ Ext S g w (Hp.join kp S0' S) (G.join kp g0' g) w' := by
  have ow : ∀ {k}, Owned S0 (g.keep kp) k → ∃ o s x, kin kp o = true ∧ S.ob o = some x ∧ g.at' o = some (some k, s) := fun {k} ⟨o, s, x, e1, e2⟩ => by
    cases hki : kin kp o with
    | false => rw [h0 o hki] at e1; cases e1
    | true => exact ⟨o, s, x, hki, (h1 o hki).1.trans e1, (keep_le kp g).at' _ _ e2⟩
  have own1 : ∀ {k}, Owned S0 (g.keep kp) k → Owned S g k := fun {k} h => by
    obtain ⟨o, s, x, _, e1, e2⟩ := ow h
    exact ⟨o, s, x, e1, e2⟩
  -- what is elsewhere is not theirs
  have other : ∀ {o x b s}, kin kp o = false → S.ob o = some x → g.at' o = some (some b, s) → ¬ Owned S0 (g.keep kp) b := fun {o x b s} hn e1 e2 h => by
    obtain ⟨o', s', x', k1, k2, k3⟩ := ow h
    have := hI.inj o o' x x' b s s' e1 k2 e2 k3
    rw [this, k1] at hn; cases hn
  have ji : ∀ {i}, kin kp i = true → (G.join kp g0' g).at' i = g0'.at' i ∧ (Hp.join kp S0' S).ob i = S0'.ob i ∧ ((Hp.join kp S0' S).fr i ↔ S0'.fr i) := fun {i} h => ⟨if_pos h, if_pos h, by show (if kin kp i = true then _ else _) ↔ _; rw [if_pos h]⟩
  have jo : ∀ {i}, kin kp i = false → (G.join kp g0' g).at' i = g.at' i ∧ (Hp.join kp S0' S).ob i = S.ob i ∧ ((Hp.join kp S0' S).fr i ↔ S.fr i) := fun {i} h => by
    have h' : ¬ kin kp i = true := by rw [h]; simp
    exact ⟨if_neg h', if_neg h', by show (if kin kp i = true then _ else _) ↔ _; rw [if_neg h']⟩
  have le : Le g (G.join kp g0' g) := ⟨fun o p e => (by
    cases hki : kin kp o with
    | true => rw [(ji hki).1]; exact x0.le.at' o p (by rw [keep_in hki]; exact e)
    | false => rw [(jo hki).1]; exact e), x0.le.mem, x0.le.lp⟩
  have heap : ∀ {o x b s}, kin kp o = false → S.ob o = some x → g.at' o = some (some b, s) → w'.heap[b]? = w.heap[b]? := fun {o x b s} hn e1 e2 => x0.frame b (hI.lt o b s e2) (other hn e1 e2)
  refine ⟨⟨fun o cs h => ?_, fun o x h => ?_, fun o h => ?_, fun o b s h => ?_, fun o o' x x' b s s' e1 e2 e3 e4 => ?_, hI'.mem, fun o b s i x e1 e2 => ?_, hI'.lp⟩, ⟨le, x0.os, x0.tape, x0.output, x0.size, fun k hk1 hk2 => x0.frame k hk1 (fun h => hk2 (own1 h)), fun k h => ?_, fun o p h => ?_, fun o h => ?_, fun b i x h => ?_, fun b l h => x0.lpo b l h⟩⟩
  · cases hki : kin kp o with
    | true =>
      rw [(ji hki).2.1] at h
      rw [(ji hki).1]
      rcases hI'.cells o cs h with ⟨k1, k2⟩ | ⟨b, t, k1, k2⟩
      · exact .inl ⟨k1, k2⟩
      · exact .inr ⟨b, t, k1, k2.conv rfl (fun c hc v hv => (hk o _ hki h c hc).join hv)⟩
    | false =>
      rw [(jo hki).2.1] at h
      rw [(jo hki).1]
      rcases hI.cells o cs h with ⟨k1, k2⟩ | ⟨b, t, k1, k2⟩
      · exact .inl ⟨k1, k2⟩
      · exact .inr ⟨b, t, k1, k2.conv (heap hki h k1) (fun c hc v hv => hv.mono le)⟩
  · cases hki : kin kp o with
    | true =>
      rw [(ji hki).2.1] at h
      rw [(ji hki).1]
      obtain ⟨b, s, ob, k1, k2, k3⟩ := hI'.oth o x h
      refine ⟨b, s, ob, k1, k2, ?_⟩
      have hx := hk o _ hki h
      cases x with
      | map es =>
        obtain ⟨mes, clock, e1, e2, e3⟩ := k3
        exact ⟨mes, clock, e1, e2, fun i e q a1 a2 => let hq := hx q (List.mem_of_getElem? a2); ⟨hq.1.join (e3 i e q a1 a2).1, hq.2.join (e3 i e q a1 a2).2⟩⟩
      | _ => exact hx.elim
    | false =>
      rw [(jo hki).2.1] at h
      rw [(jo hki).1]
      obtain ⟨b, s, ob, k1, k2, k3⟩ := hI.oth o x h
      exact ⟨b, s, ob, k1, (heap hki h k1).trans k2, k3.mono le⟩
  · cases hki : kin kp o with
    | true => rw [(ji hki).1]; exact hI'.fresh o ((ji hki).2.2.1 h)
    | false => rw [(jo hki).1]; exact hI.fresh o ((jo hki).2.2.1 h)
  · cases hki : kin kp o with
    | true => rw [(ji hki).1] at h; exact hI'.lt o b s h
    | false => rw [(jo hki).1] at h; exact Nat.lt_of_lt_of_le (hI.lt o b s h) x0.size
  · have mixed : ∀ {o o' x x' b s s'}, kin kp o = true → kin kp o' = false → S0'.ob o = some x → S.ob o' = some x' → g0'.at' o = some (some b, s) → g.at' o' = some (some b, s') → False := fun {o o' x x' b s s'} h1 h2 e1 e2 e3 e4 => by
      rcases x0.own b ⟨o, s, x, e1, e3⟩ with h | h
      · exact other h2 e2 e4 h
      · have := hI.lt o' b s' e4; omega
    cases hki : kin kp o with
    | true =>
      rw [(ji hki).2.1] at e1
      rw [(ji hki).1] at e3
      cases hki' : kin kp o' with
      | true =>
        rw [(ji hki').2.1] at e2
        rw [(ji hki').1] at e4
        exact hI'.inj o o' x x' b s s' e1 e2 e3 e4
      | false =>
        rw [(jo hki').2.1] at e2
        rw [(jo hki').1] at e4
        exact (mixed hki hki' e1 e2 e3 e4).elim
    | false =>
      rw [(jo hki).2.1] at e1
      rw [(jo hki).1] at e3
      cases hki' : kin kp o' with
      | true =>
        rw [(ji hki').2.1] at e2
        rw [(ji hki').1] at e4
        exact (mixed hki' hki e2 e1 e4 e3).elim
      | false =>
        rw [(jo hki').2.1] at e2
        rw [(jo hki').1] at e4
        exact hI.inj o o' x x' b s s' e1 e2 e3 e4
  · cases hki : kin kp o with
    | true =>
      rw [(ji hki).2.1] at e1
      rw [(ji hki).1] at e2
      exact hI'.memd o b s i x e1 e2
    | false =>
      rw [(jo hki).2.1] at e1
      rw [(jo hki).1] at e2
      show g0'.mem b i = none
      cases hm : g0'.mem b i with
      | none => rfl
      | some y =>
        rcases x0.memo b i y hm with h | h | h
        · have := hI.memd o b s i x e1 e2
          have h : g.mem b i = some y := h
          rw [this] at h; cases h
        · exact absurd h (other hki e1 e2)
        · have := hI.lt o b s e2; omega
  · obtain ⟨o, s, x, e1, e2⟩ := h
    cases hki : kin kp o with
    | true =>
      rw [(ji hki).2.1] at e1
      rw [(ji hki).1] at e2
      rcases x0.own k ⟨o, s, x, e1, e2⟩ with h | h
      · exact .inl (own1 h)
      · exact .inr h
    | false =>
      rw [(jo hki).2.1] at e1
      rw [(jo hki).1] at e2
      exact .inl ⟨o, s, x, e1, e2⟩
  · cases hki : kin kp o with
    | true =>
      rw [(ji hki).1] at h
      rcases x0.dom o p h with h | ⟨h, k⟩
      · rw [keep_in hki] at h; exact .inl h
      · rw [keep_in hki] at h; exact .inr ⟨h, (h1 o hki).2.2 k⟩
    | false => rw [(jo hki).1] at h; exact .inl h
  · cases hki : kin kp o with
    | true => exact (h1 o hki).2.2 (x0.fr o ((ji hki).2.2.1 h))
    | false => exact (jo hki).2.2.1 h
  · rcases x0.memo b i x h with h | h | h
    · exact .inl h
    · exact .inr (.inl (own1 h))
    · exact .inr (.inr h)
end
end Go.Bm
