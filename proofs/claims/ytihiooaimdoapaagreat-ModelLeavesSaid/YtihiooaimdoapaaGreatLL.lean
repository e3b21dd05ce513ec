/- ModelLeaves, by its cases. -/
import Derived.Test.YtihiooaimdoapaaGreatEB
import Derived.Test.YtihiooaimdoapaaGreatBnS
set_option linter.unusedVariables false
set_option linter.unusedSimpArgs false
namespace Go.Proofs.YtihiooaimdoapaaGreat
open Go.Bm
set_option maxRecDepth 1000000
set_option maxHeartbeats 0
def ok2 {β : Type} (x : Option ((Bool × Unit) × β)) : Bool := match x with
  | some ((true, ()), _) => true
  | _ => false
theorem ok2_ex {β : Type} {x : Option ((Bool × Unit) × β)} (h : ok2 x = true) : ∃ d, x = some ((true, ()), d) := by
  unfold ok2 at h; split at h
  · exact ⟨_, rfl⟩
  · cases h
theorem leaves_c03 : ∀ n : Fin 4, ∀ w : Fin (2 ^ n.val), ∀ o : Fin 3, ok2 (e.penfoldlaw12_ModelLeaves lpE jnE (n.val : Int) (w.val : Int) (o.val : Int) [] [] [] [] [] [] [] [] [] [] []) = true := by decide +kernel
theorem leaves_c40 : ∀ w : Fin (2 ^ 4), ok2 (e.penfoldlaw12_ModelLeaves lpE jnE ((4 : Nat) : Int) (w.val : Int) ((0 : Nat) : Int) [] [] [] [] [] [] [] [] [] [] []) = true := by decide +kernel
theorem leaves_c41 : ∀ w : Fin (2 ^ 4), ok2 (e.penfoldlaw12_ModelLeaves lpE jnE ((4 : Nat) : Int) (w.val : Int) ((1 : Nat) : Int) [] [] [] [] [] [] [] [] [] [] []) = true := by decide +kernel
theorem leaves_c42 : ∀ w : Fin (2 ^ 4), ok2 (e.penfoldlaw12_ModelLeaves lpE jnE ((4 : Nat) : Int) (w.val : Int) ((2 : Nat) : Int) [] [] [] [] [] [] [] [] [] [] []) = true := by decide +kernel
theorem leaves_c50 : ∀ w : Fin (2 ^ 5), ok2 (e.penfoldlaw12_ModelLeaves lpE jnE ((5 : Nat) : Int) (w.val : Int) ((0 : Nat) : Int) [] [] [] [] [] [] [] [] [] [] []) = true := by decide +kernel
theorem leaves_c51 : ∀ w : Fin (2 ^ 5), ok2 (e.penfoldlaw12_ModelLeaves lpE jnE ((5 : Nat) : Int) (w.val : Int) ((1 : Nat) : Int) [] [] [] [] [] [] [] [] [] [] []) = true := by decide +kernel
theorem leaves_c52 : ∀ w : Fin (2 ^ 5), ok2 (e.penfoldlaw12_ModelLeaves lpE jnE ((5 : Nat) : Int) (w.val : Int) ((2 : Nat) : Int) [] [] [] [] [] [] [] [] [] [] []) = true := by decide +kernel
theorem leaves_c60 : ∀ w : Fin (2 ^ 6), ok2 (e.penfoldlaw12_ModelLeaves lpE jnE ((6 : Nat) : Int) (w.val : Int) ((0 : Nat) : Int) [] [] [] [] [] [] [] [] [] [] []) = true := by decide +kernel
theorem leaves_c61 : ∀ w : Fin (2 ^ 6), ok2 (e.penfoldlaw12_ModelLeaves lpE jnE ((6 : Nat) : Int) (w.val : Int) ((1 : Nat) : Int) [] [] [] [] [] [] [] [] [] [] []) = true := by decide +kernel
theorem leaves_c62 : ∀ w : Fin (2 ^ 6), ok2 (e.penfoldlaw12_ModelLeaves lpE jnE ((6 : Nat) : Int) (w.val : Int) ((2 : Nat) : Int) [] [] [] [] [] [] [] [] [] [] []) = true := by decide +kernel
theorem leaves_cases : ∀ n : Fin 7, ∀ w : Fin (2 ^ n.val), ∀ o : Fin 3, ok2 (e.penfoldlaw12_ModelLeaves lpE jnE (n.val : Int) (w.val : Int) (o.val : Int) [] [] [] [] [] [] [] [] [] [] []) = true
  | ⟨0, _⟩, w, o => leaves_c03 ⟨0, by omega⟩ w o
  | ⟨1, _⟩, w, o => leaves_c03 ⟨1, by omega⟩ w o
  | ⟨2, _⟩, w, o => leaves_c03 ⟨2, by omega⟩ w o
  | ⟨3, _⟩, w, o => leaves_c03 ⟨3, by omega⟩ w o
  | ⟨4, _⟩, w, ⟨0, _⟩ => leaves_c40 w
  | ⟨4, _⟩, w, ⟨1, _⟩ => leaves_c41 w
  | ⟨4, _⟩, w, ⟨2, _⟩ => leaves_c42 w
  | ⟨5, _⟩, w, ⟨0, _⟩ => leaves_c50 w
  | ⟨5, _⟩, w, ⟨1, _⟩ => leaves_c51 w
  | ⟨5, _⟩, w, ⟨2, _⟩ => leaves_c52 w
  | ⟨6, _⟩, w, ⟨0, _⟩ => leaves_c60 w
  | ⟨6, _⟩, w, ⟨1, _⟩ => leaves_c61 w
  | ⟨6, _⟩, w, ⟨2, _⟩ => leaves_c62 w
theorem brc {α : Type} {b : Bool} {x x' y : Option α} (h : b = true → x = x') : br b x y = br b x' y := by
  cases b with
  | false => rfl
  | true => exact h rfl
theorem gdc {α : Type} {p : Prop} [Decidable p] {x x' : Option α} (h : p → x = x') : gd p x = gd p x' := by
  unfold gd
  split
  · exact h (by assumption)
  · rfl
theorem wrpb (b : Int) (k1 : 0 ≤ b) (k2 : b ≤ 255) : wrp IntKind.i64 b = b := by
  have : wrp IntKind.i64 b = (b + 9223372036854775808) % 18446744073709551616 - 9223372036854775808 := by
    simp [wrp, IntKind.wrap, IntKind.bits, IntKind.signed]
    omega
  omega
theorem modN (n : Nat) (h0 : 0 < n) (hn : n < 200) (a : Int) (h : inR .u8 a) : ∃ i : Fin n, irem (wrp IntKind.i64 a) n = irem (wrp IntKind.i64 (i.val : Int)) n ∧ irem (wrp IntKind.i64 a) n = i.val := by
  obtain ⟨h1, h2⟩ := h
  have h1 : (0 : Int) ≤ a := h1
  have h2 : a ≤ 255 := h2
  have k1 : 0 ≤ a % (n : Int) := Int.emod_nonneg _ (by omega)
  have k2 : a % (n : Int) < n := Int.emod_lt_of_pos _ (by omega)
  have k3 : ((a % (n : Int)).toNat : Int) = a % (n : Int) := Int.toNat_of_nonneg k1
  have k4 : ((a % (n : Int)).toNat : Nat) < n := by omega
  have e1 : irem (wrp IntKind.i64 a) n = a % (n : Int) := by
    rw [wrpb a h1 h2]
    exact Int.tmod_eq_emod_of_nonneg h1
  have e2 : irem (wrp IntKind.i64 (((a % (n : Int)).toNat : Nat) : Int)) n = a % (n : Int) := by
    rw [wrpb _ (by omega) (by omega)]
    show (((a % (n : Int)).toNat : Nat) : Int).tmod n = _
    rw [Int.tmod_eq_emod_of_nonneg (by omega), k3, Int.emod_emod_of_dvd _ (Int.dvd_refl _)]
  exact ⟨⟨(a % (n : Int)).toNat, k4⟩, by rw [e1]; exact e2.symm, by rw [e1]; exact k3.symm⟩
theorem iadd1 {b : Int} (h1 : 0 ≤ b) (h2 : b ≤ 200) : iadd IntKind.i64 1 b = 1 + b := wrpb (1 + b) (by omega) (by omega)
theorem fin256 {a : Int} (h : inR .u8 a) : ∃ i : Fin 256, a = (i.val : Int) := by
  obtain ⟨h1, h2⟩ := h
  have h1 : (0 : Int) ≤ a := h1
  have h2 : a ≤ 255 := h2
  exact ⟨⟨a.toNat, by omega⟩, by show a = ((a.toNat : Nat) : Int); omega⟩
theorem leaves_bits : ∀ a : Fin 256, ∀ n : Fin 7, ∀ i : Fin 7, i.val < n.val → bits BinOp.and IntKind.u8 (ishr IntKind.u8 (a.val : Int) (i.val : Int)) 1 = bits BinOp.and IntKind.u8 (ishr IntKind.u8 (((a.val % 2 ^ n.val : Nat)) : Int) (i.val : Int)) 1 := by decide +kernel
theorem leaves_l0 (L : LpT) (J : JnT) {a0 b0 : Int} (h0 : irem (wrp IntKind.i64 a0) 7 = irem (wrp IntKind.i64 b0) 7) :
    e.penfoldlaw12_ModelLeaves_l0 L J a0 = e.penfoldlaw12_ModelLeaves_l0 L J b0 := by
  unfold e.penfoldlaw12_ModelLeaves_l0
  rw [h0]
theorem leaves_l1 (L : LpT) (J : JnT) {a0 b0 : Int} (h0 : irem (wrp IntKind.i64 a0) 7 = irem (wrp IntKind.i64 b0) 7) :
    e.penfoldlaw12_ModelLeaves_l1 L J a0 = e.penfoldlaw12_ModelLeaves_l1 L J b0 := by
  unfold e.penfoldlaw12_ModelLeaves_l1
  rw [leaves_l0 L J h0]
theorem leaves_l2 (L : LpT) (J : JnT) {a0 b0 a1 b1 : Int} (h0 : irem (wrp IntKind.i64 a0) 7 = irem (wrp IntKind.i64 b0) 7) (h1 : ∀ i : Int, 0 ≤ i → i < irem (wrp IntKind.i64 b0) 7 → bits BinOp.and IntKind.u8 (ishr IntKind.u8 a1 i) 1 = bits BinOp.and IntKind.u8 (ishr IntKind.u8 b1 i) 1) :
    e.penfoldlaw12_ModelLeaves_l2 L J a0 a1 = e.penfoldlaw12_ModelLeaves_l2 L J b0 b1 := by
  funext v0 v1 k s
  unfold e.penfoldlaw12_ModelLeaves_l2
  rw [h0, leaves_l1 L J h0]
  refine brc fun k1 => gdc fun k2 => ?_
  rw [h1 s.1.2.1 k2 (of_decide_eq_true k1)]
theorem leaves_l3 (L : LpT) (J : JnT) {a0 b0 a1 b1 a2 b2 : Int} (h0 : irem (wrp IntKind.i64 a0) 7 = irem (wrp IntKind.i64 b0) 7) (h1 : ∀ i : Int, 0 ≤ i → i < irem (wrp IntKind.i64 b0) 7 → bits BinOp.and IntKind.u8 (ishr IntKind.u8 a1 i) 1 = bits BinOp.and IntKind.u8 (ishr IntKind.u8 b1 i) 1) (h2 : irem (wrp IntKind.i64 a2) 3 = irem (wrp IntKind.i64 b2) 3) :
    e.penfoldlaw12_ModelLeaves_l3 L J a0 a1 a2 = e.penfoldlaw12_ModelLeaves_l3 L J b0 b1 b2 := by
  funext v0 v1 k s
  unfold e.penfoldlaw12_ModelLeaves_l3
  rw [h2, leaves_l2 L J h0 h1]
theorem leaves_low (L : LpT) (J : JnT) {a0 b0 a1 b1 a2 b2 : Int} (h0 : irem (wrp IntKind.i64 a0) 7 = irem (wrp IntKind.i64 b0) 7) (h1 : ∀ i : Int, 0 ≤ i → i < irem (wrp IntKind.i64 b0) 7 → bits BinOp.and IntKind.u8 (ishr IntKind.u8 a1 i) 1 = bits BinOp.and IntKind.u8 (ishr IntKind.u8 b1 i) 1) (h2 : irem (wrp IntKind.i64 a2) 3 = irem (wrp IntKind.i64 b2) 3) :
    e.penfoldlaw12_ModelLeaves L J a0 a1 a2 = e.penfoldlaw12_ModelLeaves L J b0 b1 b2 := by
  funext d0 d1 d2 d3 d4 d5 d6 d7 d8 d9 d10
  unfold e.penfoldlaw12_ModelLeaves
  rw [leaves_l3 L J h0 h1 h2]
theorem modelLeaves_plain (a b c : Int) (ha : okT (.int .u8) a) (hb : okT (.int .u8) b) (hc : okT (.int .u8) c) : ∃ d, F3 (a, b, c, ()) (emR _) (emR _) = some ((true, ()), d) := by
  obtain ⟨n, hn, hn2⟩ := modN 7 (by omega) (by omega) a ha
  obtain ⟨o, ho, _⟩ := modN 3 (by omega) (by omega) c hc
  obtain ⟨x, rfl⟩ := fin256 hb
  have hw : x.val % 2 ^ n.val < 2 ^ n.val := Nat.mod_lt _ (Nat.pos_of_ne_zero (by simp))
  have h := leaves_cases n ⟨x.val % 2 ^ n.val, hw⟩ o
  rw [← leaves_low lpE jnE (a0 := a) (a1 := (x.val : Int)) (a2 := c) hn (fun i i1 i2 => ?_) ho, ← lpO_eq, ← jnO_eq] at h
  · exact ok2_ex h
  · have e : irem (wrp IntKind.i64 ((n.val : Nat) : Int)) 7 = n.val := hn.symm.trans hn2
    have hlt := n.isLt
    rw [e] at i2
    have := leaves_bits x n ⟨i.toNat, by omega⟩ (show i.toNat < n.val by omega)
    have e2 : ((i.toNat : Nat) : Int) = i := by omega
    simp only [e2] at this
    exact this
end Go.Proofs.YtihiooaimdoapaaGreat
