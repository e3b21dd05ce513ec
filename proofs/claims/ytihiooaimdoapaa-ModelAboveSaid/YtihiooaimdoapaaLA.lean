/- ModelAbove, by its cases. -/
import Derived.Test.YtihiooaimdoapaaEB
import Derived.Test.YtihiooaimdoapaaBnS
set_option linter.unusedVariables false
set_option linter.unusedSimpArgs false
namespace Go.Proofs.Ytihiooaimdoapaa
open Go.Bm
set_option maxRecDepth 1000000
set_option maxHeartbeats 0
def ok1 {β : Type} (x : Option ((Bool × Unit) × β)) : Bool := match x with
  | some ((true, ()), _) => true
  | _ => false
theorem ok1_ex {β : Type} {x : Option ((Bool × Unit) × β)} (h : ok1 x = true) : ∃ d, x = some ((true, ()), d) := by
  unfold ok1 at h; split at h
  · exact ⟨_, rfl⟩
  · cases h
theorem above_cases : ∀ i j : Fin 4, ∀ p : Bool, ok1 (e.penfoldlaw12_ModelAbove lpE jnE i.val j.val p [] [] [] [] [] [] [] [] [] [] []) = true := by decide +kernel
theorem mod4 (a : Int) (h : inR .u8 a) : ∃ i : Fin 4, irem (wrp IntKind.i64 a) 4 = irem (wrp IntKind.i64 (i.val : Int)) 4 := by
  obtain ⟨h1, h2⟩ := h
  have h1 : (0 : Int) ≤ a := h1
  have h2 : a ≤ 255 := h2
  have hw : ∀ b : Int, 0 ≤ b → b ≤ 255 → wrp IntKind.i64 b = b := fun b k1 k2 => by
    have : wrp IntKind.i64 b = (b + 9223372036854775808) % 18446744073709551616 - 9223372036854775808 := by
      simp [wrp, IntKind.wrap, IntKind.bits, IntKind.signed]
      omega
    omega
  refine ⟨⟨(a % 4).toNat, by omega⟩, ?_⟩
  rw [hw a h1 h2, hw _ (by omega) (by show (((a % 4).toNat : Nat) : Int) ≤ 255; omega)]
  show a.tmod 4 = (((a % 4).toNat : Nat) : Int).tmod 4
  rw [Int.tmod_eq_emod_of_nonneg h1, Int.tmod_eq_emod_of_nonneg (by omega)]
  omega
theorem above_mod (L : LpT) (J : JnT) {a a' b b' : Int} (p : Bool) (ha : irem (wrp IntKind.i64 a) 4 = irem (wrp IntKind.i64 a') 4) (hb : irem (wrp IntKind.i64 b) 4 = irem (wrp IntKind.i64 b') 4) : e.penfoldlaw12_ModelAbove L J a b p = e.penfoldlaw12_ModelAbove L J a' b' p := by
  unfold e.penfoldlaw12_ModelAbove
  rw [ha, hb]
theorem modelAbove_plain (a b : Int) (p : Bool) (ha : okT (.int .u8) a) (hb : okT (.int .u8) b) (_ : okT .bool p) : ∃ d, F4 (a, b, p, ()) (emR _) (emR _) = some ((true, ()), d) := by
  obtain ⟨i, hi⟩ := mod4 a ha
  obtain ⟨j, hj⟩ := mod4 b hb
  have h := above_cases i j p
  rw [← above_mod lpE jnE p hi hj, ← lpO_eq, ← jnO_eq] at h
  exact ok1_ex h
end Go.Proofs.Ytihiooaimdoapaa
