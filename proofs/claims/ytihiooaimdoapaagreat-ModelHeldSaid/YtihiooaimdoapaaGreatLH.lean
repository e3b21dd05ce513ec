/- ModelHeld, by its cases. -/
import Derived.Test.YtihiooaimdoapaaGreatEB
import Derived.Test.YtihiooaimdoapaaGreatBnS
set_option linter.unusedVariables false
set_option linter.unusedSimpArgs false
namespace Go.Proofs.YtihiooaimdoapaaGreat
open Go.Bm
set_option maxRecDepth 1000000
set_option maxHeartbeats 0
def ok1 {β : Type} (x : Option ((Bool × Unit) × β)) : Bool := match x with
  | some ((true, ()), _) => true
  | _ => false
theorem ok1_ex {β : Type} {x : Option ((Bool × Unit) × β)} (h : ok1 x = true) : ∃ d, x = some ((true, ()), d) := by
  unfold ok1 at h; split at h
  · exact ⟨_, rfl⟩
  · cases h
theorem held_cases : ∀ n : Fin 5, ∀ w : Fin (2 ^ n.val), ∀ p : Bool, ok1 (e.penfoldlaw12_ModelHeld lpE jnE (n.val : Int) (2 * (w.val : Int)) p [] [] [] [] [] [] [] [] [] [] []) = true := by decide +kernel
theorem brc {α : Type} {b : Bool} {x x' y : Option α} (h : b = true → x = x') : br b x y = br b x' y := by
  cases b with
  | false => rfl
  | true => exact h rfl
theorem gdc {α : Type} {p : Prop} [Decidable p] {x x' : Option α} (h : p → x = x') : gd p x = gd p x' := by
  unfold gd
  split
  · exact h (by assumption)
  · rfl
theorem wrpb (b : Int) (k1 : 0 ≤ b) (k2 : b ≤ 255) : wrp IntKind.i64 b = b := by
  have : wrp IntKind.i64 b = (b + 9223372036854775808) % 18446744073709551616 - 9223372036854775808 := by
    simp [wrp, IntKind.wrap, IntKind.bits, IntKind.signed]
    omega
  omega
theorem modN (n : Nat) (h0 : 0 < n) (hn : n < 200) (a : Int) (h : inR .u8 a) : ∃ i : Fin n, irem (wrp IntKind.i64 a) n = irem (wrp IntKind.i64 (i.val : Int)) n ∧ irem (wrp IntKind.i64 a) n = i.val := by
  obtain ⟨h1, h2⟩ := h
  have h1 : (0 : Int) ≤ a := h1
  have h2 : a ≤ 255 := h2
  have k1 : 0 ≤ a % (n : Int) := Int.emod_nonneg _ (by omega)
  have k2 : a % (n : Int) < n := Int.emod_lt_of_pos _ (by omega)
  have k3 : ((a % (n : Int)).toNat : Int) = a % (n : Int) := Int.toNat_of_nonneg k1
  have k4 : ((a % (n : Int)).toNat : Nat) < n := by omega
  have e1 : irem (wrp IntKind.i64 a) n = a % (n : Int) := by
    rw [wrpb a h1 h2]
    exact Int.tmod_eq_emod_of_nonneg h1
  have e2 : irem (wrp IntKind.i64 (((a % (n : Int)).toNat : Nat) : Int)) n = a % (n : Int) := by
    rw [wrpb _ (by omega) (by omega)]
    show (((a % (n : Int)).toNat : Nat) : Int).tmod n = _
    rw [Int.tmod_eq_emod_of_nonneg (by omega), k3, Int.emod_emod_of_dvd _ (Int.dvd_refl _)]
  exact ⟨⟨(a % (n : Int)).toNat, k4⟩, by rw [e1]; exact e2.symm, by rw [e1]; exact k3.symm⟩
theorem iadd1 {b : Int} (h1 : 0 ≤ b) (h2 : b ≤ 200) : iadd IntKind.i64 1 b = 1 + b := wrpb (1 + b) (by omega) (by omega)
theorem fin256 {a : Int} (h : inR .u8 a) : ∃ i : Fin 256, a = (i.val : Int) := by
  obtain ⟨h1, h2⟩ := h
  have h1 : (0 : Int) ≤ a := h1
  have h2 : a ≤ 255 := h2
  exact ⟨⟨a.toNat, by omega⟩, by show a = ((a.toNat : Nat) : Int); omega⟩
theorem held_bits : ∀ a : Fin 256, ∀ n : Fin 5, ∀ i : Fin 5, 0 < i.val → i.val ≤ n.val → bits BinOp.and IntKind.u8 (ishr IntKind.u8 (a.val : Int) (i.val : Int)) 1 = bits BinOp.and IntKind.u8 (ishr IntKind.u8 (2 * (((a.val / 2 % 2 ^ n.val : Nat)) : Int)) (i.val : Int)) 1 := by decide +kernel
theorem held_l0 (L : LpT) (J : JnT) {a0 b0 a1 b1 : Int} (a2 : Bool) (h0 : irem (wrp IntKind.i64 a0) 5 = irem (wrp IntKind.i64 b0) 5) (h1 : ∀ i : Int, 0 ≤ i → i ≠ 0 → i < iadd IntKind.i64 1 (irem (wrp IntKind.i64 b0) 5) → bits BinOp.and IntKind.u8 (ishr IntKind.u8 a1 i) 1 = bits BinOp.and IntKind.u8 (ishr IntKind.u8 b1 i) 1) :
    e.penfoldlaw12_ModelHeld_l0 L J a0 a1 a2 = e.penfoldlaw12_ModelHeld_l0 L J b0 b1 a2 := by
  funext v0 v1 v2 v3 v4 k s
  unfold e.penfoldlaw12_ModelHeld_l0
  rw [h0]
  refine brc fun k1 => gdc fun k2 => ?_
  have k1 : s.1.1 < iadd IntKind.i64 1 (irem (wrp IntKind.i64 b0) 5) := of_decide_eq_true k1
  have k2 : 0 ≤ s.1.1 := k2
  by_cases hz : s.1.1 = 0
  · have : ieql s.1.1 0 = true := decide_eq_true hz
    simp only [this, br_true]
  · rw [h1 s.1.1 k2 hz k1]
theorem held_l1 (L : LpT) (J : JnT) {a0 b0 a1 b1 : Int} (a2 : Bool) (h0 : irem (wrp IntKind.i64 a0) 5 = irem (wrp IntKind.i64 b0) 5) (h1 : ∀ i : Int, 0 ≤ i → i ≠ 0 → i < iadd IntKind.i64 1 (irem (wrp IntKind.i64 b0) 5) → bits BinOp.and IntKind.u8 (ishr IntKind.u8 a1 i) 1 = bits BinOp.and IntKind.u8 (ishr IntKind.u8 b1 i) 1) :
    e.penfoldlaw12_ModelHeld_l1 L J a0 a1 a2 = e.penfoldlaw12_ModelHeld_l1 L J b0 b1 a2 := by
  funext v0 v1 k s
  unfold e.penfoldlaw12_ModelHeld_l1
  rw [h0, held_l0 L J a2 h0 h1]
  refine brc fun k1 => gdc fun k2 => ?_
  have k1 : s.1.1 < iadd IntKind.i64 1 (irem (wrp IntKind.i64 b0) 5) := of_decide_eq_true k1
  have k2 : 0 ≤ s.1.1 := k2
  by_cases hz : s.1.1 = 0
  · have : ieql s.1.1 0 = true := decide_eq_true hz
    simp only [this, br_true]
  · rw [h1 s.1.1 k2 hz k1]
theorem held_low (L : LpT) (J : JnT) {a0 b0 a1 b1 : Int} (a2 : Bool) (h0 : irem (wrp IntKind.i64 a0) 5 = irem (wrp IntKind.i64 b0) 5) (h1 : ∀ i : Int, 0 ≤ i → i ≠ 0 → i < iadd IntKind.i64 1 (irem (wrp IntKind.i64 b0) 5) → bits BinOp.and IntKind.u8 (ishr IntKind.u8 a1 i) 1 = bits BinOp.and IntKind.u8 (ishr IntKind.u8 b1 i) 1) :
    e.penfoldlaw12_ModelHeld L J a0 a1 a2 = e.penfoldlaw12_ModelHeld L J b0 b1 a2 := by
  funext d0 d1 d2 d3 d4 d5 d6 d7 d8 d9 d10
  unfold e.penfoldlaw12_ModelHeld
  rw [held_l1 L J a2 h0 h1]
theorem modelHeld_plain (a b : Int) (p : Bool) (ha : okT (.int .u8) a) (hb : okT (.int .u8) b) (_ : okT .bool p) : ∃ d, F8 (a, b, p, ()) (emR _) (emR _) = some ((true, ()), d) := by
  obtain ⟨n, hn, hn2⟩ := modN 5 (by omega) (by omega) a ha
  obtain ⟨x, rfl⟩ := fin256 hb
  have hw : x.val / 2 % 2 ^ n.val < 2 ^ n.val := Nat.mod_lt _ (Nat.pos_of_ne_zero (by simp))
  have h := held_cases n ⟨x.val / 2 % 2 ^ n.val, hw⟩ p
  rw [← held_low lpE jnE (a0 := a) (a1 := (x.val : Int)) p hn (fun i i1 i2 i3 => ?_), ← lpO_eq, ← jnO_eq] at h
  · exact ok1_ex h
  · have e : irem (wrp IntKind.i64 ((n.val : Nat) : Int)) 5 = n.val := hn.symm.trans hn2
    have hlt := n.isLt
    rw [e, iadd1 (by omega) (by omega)] at i3
    have := held_bits x n ⟨i.toNat, by omega⟩ (show 0 < i.toNat by omega) (show i.toNat ≤ n.val by omega)
    have e2 : ((i.toNat : Nat) : Int) = i := by omega
    simp only [e2] at this
    exact this
end Go.Proofs.YtihiooaimdoapaaGreat
