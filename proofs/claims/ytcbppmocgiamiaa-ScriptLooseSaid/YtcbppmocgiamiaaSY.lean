/- Script: bits that are not looked at. -/
import Derived.Test.YtcbppmocgiamiaaSX
namespace Go.Proofs.Ytcbppmocgiamiaa
open Go.Pv
def loose (n k : Nat) (a b : Int) : Prop := (k = 0 → b % 8 = a % 8) ∧ (k = 1 → b % 4 = a % 4) ∧ (k = 2 → b % 64 = a % 64) ∧ (k = 3 → b % 128 = a % 128) ∧
  (4 ≤ k → 4 + 8 * ((k - 4) / 8) + 8 ≤ n → ((k - 4) % 8 = 0 → b % 8 = a % 8) ∧ ((k - 4) % 8 = 3 → b % 64 = a % 64) ∧ ((k - 4) % 8 = 7 → b % 8 = a % 8) ∧ ((k - 4) % 8 ≠ 0 → (k - 4) % 8 ≠ 3 → (k - 4) % 8 ≠ 7 → b = a))
theorem loose_refl (n k : Nat) (a : Int) : loose n k a a := by unfold loose; simp
structure LR (x y : List Int) : Prop where
  len : y.length = x.length
  by' : Bytes y
  at' : ∀ k, loose x.length k (x.getD k default) (y.getD k default)
theorem LR.refl {x : List Int} (h : Bytes x) : LR x x := ⟨rfl, h, fun k => loose_refl _ _ _⟩
theorem LR.set {x y : List Int} (h : LR x y) {k : Nat} {v : Int} (hk : k < x.length) (hv : 0 ≤ v ∧ v ≤ 255) (hl : loose x.length k (x.getD k default) v) : LR x (y.set k v) := by
  refine ⟨by rw [List.length_set]; exact h.len, fun z hz => ?_, fun i => ?_⟩
  · rcases mem_set' hz with hz | rfl
    · exact h.by' z hz
    · exact hv
  · by_cases hi : i = k
    · subst hi
      have : (y.set i v).getD i default = v := by simp [List.getD, h.len, hk]
      rw [this]; exact hl
    · have : (y.set k v).getD i default = y.getD i default := by simp only [List.getD]; rw [List.getElem?_set_ne (by omega)]
      rw [this]; exact h.at' i
def xr (a b m : Int) : Int := ((a.toNat ^^^ (((b.toNat &&& m.toNat : Nat) : Int)).toNat : Nat) : Int)
theorem and_255 {b m : Int} (hb : 0 ≤ b ∧ b ≤ 255) : b.toNat &&& m.toNat ≤ 255 := Nat.le_trans Nat.and_le_left (by omega)
theorem xr_bnd {a b m : Int} (ha : 0 ≤ a ∧ a ≤ 255) (hb : 0 ≤ b ∧ b ≤ 255) : 0 ≤ xr a b m ∧ xr a b m ≤ 255 := by
  unfold xr
  rw [Int.toNat_natCast]
  have h1 := and_255 (b := b) (m := m) hb
  have : a.toNat ^^^ (b.toNat &&& m.toNat) < 2 ^ 8 := Nat.xor_lt_two_pow (by omega) (by omega)
  omega
theorem xr_mod {a b m : Int} (j : Nat) (ha : 0 ≤ a) (hm : m.toNat % 2 ^ j = 0) : xr a b m % ((2 ^ j : Nat) : Int) = a % ((2 ^ j : Nat) : Int) := by
  have e : (a.toNat ^^^ (b.toNat &&& m.toNat)) % 2 ^ j = a.toNat % 2 ^ j := by
    rw [Nat.xor_mod_two_pow, Nat.and_mod_two_pow, hm, Nat.and_zero, Nat.xor_zero]
  unfold xr
  rw [Int.toNat_natCast, ← Int.natCast_emod, e, Int.natCast_emod, Int.toNat_of_nonneg ha]
def okm (n k : Nat) (m : Int) : Prop := (k = 0 → m.toNat % 8 = 0) ∧ (k = 1 → m.toNat % 4 = 0) ∧ (k = 2 → m.toNat % 64 = 0) ∧ (k = 3 → m.toNat % 128 = 0) ∧
  (4 ≤ k → 4 + 8 * ((k - 4) / 8) + 8 ≤ n → ((k - 4) % 8 = 0 → m.toNat % 8 = 0) ∧ ((k - 4) % 8 = 3 → m.toNat % 64 = 0) ∧ ((k - 4) % 8 = 7 → m.toNat % 8 = 0) ∧ ((k - 4) % 8 ≠ 0 → (k - 4) % 8 ≠ 3 → (k - 4) % 8 ≠ 7 → False))
theorem LR.setx {x y : List Int} (h : LR x y) {k : Nat} {bits m : Int} (hk : k < x.length) (hb : 0 ≤ bits ∧ bits ≤ 255) (hq : okm x.length k m) : LR x (y.set k (xr (y.getD k default) bits m)) := by
  have hy := h.by'.get k
  refine h.set hk (xr_bnd hy hb) ?_
  have ha := h.at' k
  have m3 : m.toNat % 8 = 0 → xr (y.getD k default) bits m % 8 = y.getD k default % 8 := fun hm => xr_mod 3 hy.1 hm
  have m2 : m.toNat % 4 = 0 → xr (y.getD k default) bits m % 4 = y.getD k default % 4 := fun hm => xr_mod 2 hy.1 hm
  have m6 : m.toNat % 64 = 0 → xr (y.getD k default) bits m % 64 = y.getD k default % 64 := fun hm => xr_mod 6 hy.1 hm
  have m7 : m.toNat % 128 = 0 → xr (y.getD k default) bits m % 128 = y.getD k default % 128 := fun hm => xr_mod 7 hy.1 hm
  generalize xr (y.getD k default) bits m = v at *
  unfold loose at *
  unfold okm at hq
  obtain ⟨a0, a1, a2, a3, a4⟩ := ha
  obtain ⟨q0, q1, q2, q3, q4⟩ := hq
  refine ⟨fun e => (m3 (q0 e)).trans (a0 e), fun e => (m2 (q1 e)).trans (a1 e), fun e => (m6 (q2 e)).trans (a2 e), fun e => (m7 (q3 e)).trans (a3 e), fun e1 e2 => ?_⟩
  obtain ⟨b0, b1, b2, b3⟩ := a4 e1 e2
  obtain ⟨r0, r1, r2, r3⟩ := q4 e1 e2
  exact ⟨fun e => (m3 (r0 e)).trans (b0 e), fun e => (m6 (r1 e)).trans (b1 e), fun e => (m3 (r2 e)).trans (b2 e), fun x1 x2 x3 => (r3 x1 x2 x3).elim⟩
theorem LR.setf {x y : List Int} (h : LR x y) {k : Nat} {v : Int} (hk : k < x.length) (hv : 0 ≤ v ∧ v ≤ 255) (h4 : 4 ≤ k) (hn : ¬ 4 + 8 * ((k - 4) / 8) + 8 ≤ x.length) : LR x (y.set k v) :=
  h.set hk hv ⟨fun e => absurd e (by omega), fun e => absurd e (by omega), fun e => absurd e (by omega), fun e => absurd e (by omega), fun _ e => absurd e hn⟩
def masks : List Int := [248, 252, 192, 128]
theorem masks_bnd : Bytes masks := by intro x hx; simp only [masks, List.mem_cons, List.not_mem_nil, or_false] at hx; omega
theorem okm0 {n k : Nat} (h : k < 4) : okm n k (([248, 252, 192, 128] : List Int).getD k default) := by
  match k, h with
  | 0, _ => exact ⟨fun _ => by decide, fun e => absurd e (by omega), fun e => absurd e (by omega), fun e => absurd e (by omega), fun e => absurd e (by omega)⟩
  | 1, _ => exact ⟨fun e => absurd e (by omega), fun _ => by decide, fun e => absurd e (by omega), fun e => absurd e (by omega), fun e => absurd e (by omega)⟩
  | 2, _ => exact ⟨fun e => absurd e (by omega), fun e => absurd e (by omega), fun _ => by decide, fun e => absurd e (by omega), fun e => absurd e (by omega)⟩
  | 3, _ => exact ⟨fun e => absurd e (by omega), fun e => absurd e (by omega), fun e => absurd e (by omega), fun _ => by decide, fun e => absurd e (by omega)⟩
theorem okm_at {n j : Nat} (i : Nat) (m : Int) (hi : i = 0 ∧ m = 248 ∨ i = 3 ∧ m = 192 ∨ i = 7 ∧ m = 248) : okm n (4 + 8 * j + i) m := by
  refine ⟨fun e => absurd e (by omega), fun e => absurd e (by omega), fun e => absurd e (by omega), fun e => absurd e (by omega), fun _ _ => ?_⟩
  rcases hi with ⟨rfl, rfl⟩ | ⟨rfl, rfl⟩ | ⟨rfl, rfl⟩
  · exact ⟨fun _ => by decide, fun e => absurd e (by omega), fun e => absurd e (by omega), fun e => absurd (by omega) e⟩
  · exact ⟨fun e => absurd e (by omega), fun _ => by decide, fun e => absurd e (by omega), fun _ e => absurd (by omega) e⟩
  · exact ⟨fun e => absurd e (by omega), fun e => absurd e (by omega), fun _ => by decide, fun _ _ e => absurd (by omega) e⟩
theorem ib_xr {a b m : Int} (ha : 0 ≤ a ∧ a ≤ 255) (hb : 0 ≤ b ∧ b ≤ 255) : ibin .xor .u8 a (((b.toNat &&& m.toNat : Nat)) : Int) = some (.int .u8 (xr a b m)) :=
  ib_xorN_u8 ha (by have := and_255 (b := b) (m := m) hb; omega)
theorem xor_bnd {a b : Int} (ha : 0 ≤ a ∧ a ≤ 255) (hb : 0 ≤ b ∧ b ≤ 255) : 0 ≤ ((a.toNat ^^^ b.toNat : Nat) : Int) ∧ ((a.toNat ^^^ b.toNat : Nat) : Int) ≤ 255 := by
  have : a.toNat ^^^ b.toNat < 2 ^ 8 := Nat.xor_lt_two_pow (by omega) (by omega)
  omega
/-- An entry's doing hangs on some of its bits alone. -/
theorem more_loose (s : Scr) {a0 a1 a2 a3 a4 a5 a6 a7 b0 b3 b7 : Int} (h0 : b0 % 8 = a0 % 8) (h3 : b3 % 64 = a3 % 64) (h7 : b7 % 8 = a7 % 8) : more s b0 a1 a2 b3 a4 a5 a6 b7 = more s a0 a1 a2 a3 a4 a5 a6 a7 := by
  have e : callOf a2 b3 a4 a5 a6 b7 = callOf a2 a3 a4 a5 a6 a7 := by
    unfold callOf
    have e1 : b3 % 4 = a3 % 4 := by omega
    have e2 : b3 / 4 % 4 = a3 / 4 % 4 := by omega
    have e3 : b3 / 16 % 4 = a3 / 16 % 4 := by omega
    rw [e1, e2, e3, h7]
  unfold more
  rw [h0, e]
theorem runs_loose : ∀ (n : Nat) (x y : List Int) (s : Scr), x.length = n → y.length = n →
    (∀ k, 8 * (k / 8) + 8 ≤ n → (k % 8 = 0 → y.getD k default % 8 = x.getD k default % 8) ∧ (k % 8 = 3 → y.getD k default % 64 = x.getD k default % 64) ∧ (k % 8 = 7 → y.getD k default % 8 = x.getD k default % 8) ∧ (k % 8 ≠ 0 → k % 8 ≠ 3 → k % 8 ≠ 7 → y.getD k default = x.getD k default)) → runs y s = runs x s := by
  intro n
  induction n using Nat.strongRecOn with
  | _ n ih =>
    intro x y s hx hy h
    by_cases h8 : 8 ≤ n
    · have hd : ∀ l : List Int, ∀ k, (l.drop 8).getD k default = l.getD (8 + k) default := fun l k => by simp only [List.getD, List.getElem?_drop]
      rw [runs_step (b := x) (by omega), runs_step (b := y) (by omega)]
      have k0 := (h 0 (by omega)).1 rfl
      have k1 := (h 1 (by omega)).2.2.2 (by omega) (by omega) (by omega)
      have k2 := (h 2 (by omega)).2.2.2 (by omega) (by omega) (by omega)
      have k3 := (h 3 (by omega)).2.1 rfl
      have k4 := (h 4 (by omega)).2.2.2 (by omega) (by omega) (by omega)
      have k5 := (h 5 (by omega)).2.2.2 (by omega) (by omega) (by omega)
      have k6 := (h 6 (by omega)).2.2.2 (by omega) (by omega) (by omega)
      have k7 := (h 7 (by omega)).2.2.1 rfl
      rw [k1, k2, k4, k5, k6, more_loose s k0 k3 k7]
      refine ih (n - 8) (by omega) (x.drop 8) (y.drop 8) _ (by rw [List.length_drop]; omega) (by rw [List.length_drop]; omega) (fun k hk => ?_)
      rw [hd, hd]
      have := h (8 + k) (by omega)
      rw [show (8 + k) % 8 = k % 8 by omega] at this
      exact this
    · rw [runs_end (by omega), runs_end (by omega)]
theorem ofB_loose {x y : List Int} (h : LR x y) : ofB y = ofB x := by
  unfold ofB
  have h0 := (h.at' 0).1 rfl
  have h1 := (h.at' 1).2.1 rfl
  have h2 := (h.at' 2).2.2.1 rfl
  have h3 := (h.at' 3).2.2.2.1 rfl
  have e : s0 (y.getD 0 default) (y.getD 1 default) (y.getD 2 default) (y.getD 3 default) = s0 (x.getD 0 default) (x.getD 1 default) (x.getD 2 default) (x.getD 3 default) := by
    unfold s0; rw [h0, h1, h2, h3]
  rw [e]
  have hd : ∀ l : List Int, ∀ k, (l.drop 4).getD k default = l.getD (4 + k) default := fun l k => by simp only [List.getD, List.getElem?_drop]
  refine runs_loose (x.length - 4) _ _ _ (by rw [List.length_drop]) (by rw [List.length_drop, h.len]) (fun k hk => ?_)
  rw [hd, hd]
  have := (h.at' (4 + k)).2.2.2.2 (by omega) (by omega)
  rw [show 4 + k - 4 = k by omega] at this
  exact this
theorem ofB_whole {x : List Int} (h4 : 4 ≤ x.length) : ofB (x.take (4 + 8 * nch x)) = ofB x := by
  have hn : 4 + 8 * nch x ≤ x.length := by unfold nch; omega
  have hn2 : x.length < 4 + 8 * nch x + 8 := by unfold nch; omega
  generalize nch x = n at *
  unfold ofB
  have hg : ∀ i, i < 4 → (x.take (4 + 8 * n)).getD i default = x.getD i default := fun i hi => by
    simp only [List.getD, List.getElem?_take, if_pos (show i < 4 + 8 * n by omega)]
  rw [hg 0 (by omega), hg 1 (by omega), hg 2 (by omega), hg 3 (by omega)]
  generalize s0 (x.getD 0 default) (x.getD 1 default) (x.getD 2 default) (x.getD 3 default) = s
  have e : (x.take (4 + 8 * n)).drop 4 = (x.drop 4).take (8 * n) := by rw [List.drop_take]; congr 1; omega
  rw [e]
  conv => rhs; rw [← List.take_append_drop (8 * n) (x.drop 4)]
  rw [runs_app n _ _ _ (by rw [List.length_take, List.length_drop]; omega)]
  rw [runs_end (b := (x.drop 4).drop (8 * n)) (by rw [List.length_drop, List.length_drop]; omega)]
end Go.Proofs.Ytcbppmocgiamiaa
