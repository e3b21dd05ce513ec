/- Contracts in more memory than they speak of. -/
import Derived.Test.YtihiooaimdoapaaGreatBnI
set_option linter.unusedVariables false
set_option linter.unusedSimpArgs false
namespace Go.Bm
noncomputable section
open Go.RowKit
theorem PC.frame {P : Program} {f : FuncId} {kp : Nat → Bool} {as : List A} {S S0 S0' : Hp} {r : A} (h0 : ∀ i, kin kp i = false → S0.ob i = none) (h1 : ∀ i, kin kp i = true → S.ob i = S0.ob i ∧ (S.fr i ↔ S0.fr i)) (hk : ∀ i x, S0.ob i = some x → ObK kp x)
    (hk' : ∀ i x, kin kp i = true → S0'.ob i = some x → ObK kp x) (ha : ∀ a ∈ as, VK kp a) (hr : VK kp r) (h : PC P f as S0 S0' r) : PC P f as S (Hp.join kp S0' S) r := fun g w vs hI hl hv => by
  refine (h (g.keep kp) w vs (frame_in hI h0 h1 hk) hl (fun i p v e1 e2 => ha p (List.mem_of_getElem? e1) g v (hv i p v e1 e2))).mono ?_
  rintro e w' ⟨v, g', rfl, k1, k2, k3⟩
  obtain ⟨q1, q2⟩ := frame_out hI h0 h1 hk' k2 k3
  exact ⟨v, _, rfl, hr.join k1, q1, q2⟩
/-- It speaks of these regions alone. -/
def inK (kp : Nat → Bool) : Ty → Bool
  | .int _ => true
  | .bool => true
  | .unit => true
  | .pair a b => inK kp a && inK kp b
  | .arr _ t => inK kp t
  | .slc _ => true
  | .ptr r => Nat.blt r 64 && kp r
  | .nptr r => Nat.blt r 64 && kp r
  | .rsl r _ => Nat.blt r 64 && kp r
  | .wrg r _ => Nat.blt r 64 && kp r
  | .mp r => Nat.blt r 64 && kp r
theorem kin_rid {kp : Nat → Bool} {r j : Nat} (h : r < 64) (hk : kp r = true) : kin kp (rid r j) = true := by
  have h1 := rid_ge r j
  have h2 := rOf_rid (j := j) h
  generalize rid r j = i at h1 h2
  unfold kin
  rw [h2, hk, Bool.and_true]
  cases hx : Nat.blt i 16777216 with
  | false => rfl
  | true => have : i < 16777216 := by simpa using hx
            unfold lim at h1; omega
theorem VK.v {kp : Nat → Bool} (x : Value) : VK kp (.v x) := fun g v h => by cases h; exact .v _
theorem VK.tp {kp : Nat → Bool} {r j : Nat} (h : r < 64) (hk : kp r = true) : VK kp (.tp (.reg r j) []) := fun g v hv => by
  cases hv with
  | tp _ _ b s hat hp => exact .tp _ _ b s (by rw [show (Ref.reg r j).id = rid r j from rfl, keep_in (kin_rid h hk)]; exact hat) hp
theorem VK.tw {kp : Nat → Bool} {r j z : Nat} (h : r < 64) (hk : kp r = true) : VK kp (.tw (.reg r j) z) := fun g v hv => by
  have e : (g.keep kp).at' (Ref.reg r j).id = g.at' (Ref.reg r j).id := keep_in (kin_rid h hk)
  cases hv with
  | tw0 _ _ ad hat => exact .tw0 _ _ ad (by rw [e]; exact hat)
  | tw _ _ n b cap t hat hn hx hp d hd => exact .tw _ _ n b cap t (by rw [e]; exact hat) hn hx hp d hd
theorem VK.mp {kp : Nat → Bool} {r j : Nat} (h : r < 64) (hk : kp r = true) : VK kp (.mp (.reg r j)) := fun g v hv => by
  cases hv with
  | mp _ b s hat => exact .mp _ b s (by rw [show (Ref.reg r j).id = rid r j from rfl, keep_in (kin_rid h hk)]; exact hat)
theorem VK.tl {kp : Nat → Bool} {t : Ty} {f : Bool} {l : List t.T} : VK kp (.tl t f l) := fun g v hv => by
  cases hv with
  | tl _ _ _ _ hd => exact .tl t f l v hd
theorem flat_mem {α β : Type} {f : α → List β} {p : β → Prop} (h : ∀ x, ∀ c ∈ f x, p c) (l : List α) : ∀ c ∈ l.flatMap f, p c := fun c hc => by
  obtain ⟨x, _, hx⟩ := List.mem_flatMap.1 hc
  exact h x c hx
theorem inK_ok {kp : Nat → Bool} : ∀ (t : Ty) (x : t.T), inK kp t = true → ∀ c ∈ encA t x, VK kp c
  | .int k, x, _, c, hc => by rcases List.mem_singleton.1 hc with rfl; exact .v _
  | .bool, x, _, c, hc => by rcases List.mem_singleton.1 hc with rfl; exact .v _
  | .unit, x, _, c, hc => by cases hc
  | .pair a b, x, h, c, hc => by
    simp only [inK, Bool.and_eq_true] at h
    rcases List.mem_append.1 hc with hc | hc
    · exact inK_ok a x.1 h.1 c hc
    · exact inK_ok b x.2 h.2 c hc
  | .arr n t, l, h, c, hc => flat_mem (f := fun i => encA t (nth t.dflt l i)) (fun i c hc => inK_ok t _ h c hc) _ c hc
  | .slc t, l, _, c, hc => by rcases List.mem_singleton.1 hc with rfl; exact .tl
  | .ptr r, x, h, c, hc => by
    simp only [inK, Bool.and_eq_true] at h
    rcases List.mem_singleton.1 hc with rfl
    intro g v hv
    cases hv with
    | op _ _ _ h0 h1 => exact .op r x v h0 (fun j e => VK.tp (blt_lt h.1) h.2 g v (h1 j e))
  | .nptr r, j, h, c, hc => by
    simp only [inK, Bool.and_eq_true] at h
    rcases List.mem_singleton.1 hc with rfl
    exact .tp (blt_lt h.1) h.2
  | .rsl r z, x, h, c, hc => by
    simp only [inK, Bool.and_eq_true] at h
    rcases List.mem_singleton.1 hc with rfl
    intro g v hv
    cases hv with
    | os _ _ _ _ h0 h1 => exact .os r z x v (fun e => by cases h0 e with | e0 ad => exact .e0 ad) (fun j e => VK.tw (blt_lt h.1) h.2 g v (h1 j e))
  | .wrg r z, j, h, c, hc => by
    simp only [inK, Bool.and_eq_true] at h
    rcases List.mem_singleton.1 hc with rfl
    exact .tw (blt_lt h.1) h.2
  | .mp r, x, h, c, hc => by
    simp only [inK, Bool.and_eq_true] at h
    rcases List.mem_singleton.1 hc with rfl
    intro g v hv
    cases hv with
    | om _ _ _ h0 h1 => exact .om r x v h0 (fun j e => VK.mp (blt_lt h.1) h.2 g v (h1 j e))
theorem VK.agg {kp : Nat → Bool} {cs : List A} (h : ∀ c ∈ cs, VK kp c) : VK kp (.agg cs) := fun g v hv => by
  cases hv with
  | agg _ vs hl h1 h2 => exact .agg cs vs hl h1 (fun i c x e1 e2 => h c (List.mem_of_getElem? e1) g x (h2 i c x e1 e2))
theorem VK.tup {kp : Nat → Bool} {cs : List A} (h : ∀ c ∈ cs, VK kp c) : VK kp (.tup cs) := fun g v hv => by
  cases hv with
  | tup _ vs hl h2 => exact .tup cs vs hl (fun i c x e1 e2 => h c (List.mem_of_getElem? e1) g x (h2 i c x e1 e2))
theorem VK.junk {kp : Nat → Bool} : VK kp .junk := fun g v _ => .junk v
theorem VK.pack {kp : Nat → Bool} {a : Bool} {t : Ty} (x : t.T) (h : inK kp t = true) : VK kp (packA a t x) := by
  unfold packA
  cases a with
  | true => exact .agg (inK_ok t x h)
  | false =>
    simp only [cond_false]
    split
    · rename_i c hc
      exact inK_ok t x h c (by rw [hc]; exact .head _)
    · exact .junk
def RK.inK (kp : Nat → Bool) : RK → Bool
  | .box t => Bm.inK kp t
  | .row t => Bm.inK kp t
  | .map _ tk _ tv => Bm.inK kp tk && Bm.inK kp tv
theorem regOb_inK {kp : Nat → Bool} {k : RK} {c : k.T} {j : Nat} {x : Ob} (hk : k.inK kp = true) (h : regOb k c j = some x) : ObK kp x := by
  cases k with
  | box t =>
    have h : (match gtA (α := t.T) c j with | some x => some (Ob.cells (encA t x)) | none => none) = some x := h
    split at h
    · cases h; exact inK_ok t _ hk
    · cases h
  | row t =>
    have h : (match gtA (α := Option (List t.T)) c j with | some (some l) => some (Ob.cells (l.flatMap (encA t))) | _ => none) = some x := h
    split at h
    · cases h; exact flat_mem (fun y c hc => inK_ok t y hk c hc) _
    · cases h
  | map ka tk va tv =>
    have h : (match gtA (α := List (tk.T × tv.T)) c j with | some es => some (Ob.oth (.map (ents ka tk va tv es))) | none => none) = some x := h
    simp only [RK.inK, Bool.and_eq_true] at hk
    split at h
    · cases h
      intro e he
      obtain ⟨y, _, rfl⟩ := List.mem_map.1 he
      exact ⟨.pack _ hk.1, .pack _ hk.2⟩
    · cases h
end
end Go.Bm
