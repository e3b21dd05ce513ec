/- Script: how many entries. -/
import Derived.Test.YtcbppmocgiamiaaSF
namespace Go.Proofs.Ytcbppmocgiamiaa
open Go.Pv
def sg {α : Type} (G : List (List α)) (i : Nat) : Nat := ((G.take i).map List.length).sum
theorem sg_zero {α : Type} (G : List (List α)) : sg G 0 = 0 := by simp [sg]
theorem sg_next {α : Type} {G : List (List α)} {i : Nat} (h : i < G.length) : sg G (i + 1) = sg G i + (G.getD i default).length := by
  unfold sg; rw [take_one h]; simp
theorem sg_end {α : Type} {G : List (List α)} {i : Nat} (h : ¬ i < G.length) : sg G i = (G.map List.length).sum := by
  unfold sg; rw [List.take_of_length_le (by omega)]
theorem sg_le {α : Type} {G : List (List α)} {n : Nat} (h : ∀ l ∈ G, l.length ≤ n) (i : Nat) (hi : i ≤ G.length) : sg G i ≤ i * n := by
  have := sum_le (l := (G.take i).map List.length) (n := n) (fun x hx => by
    obtain ⟨l, hl, rfl⟩ := List.mem_map.1 hx; exact h l (List.mem_of_mem_take hl))
  rw [List.length_map, List.length_take, Nat.min_eq_left hi] at this
  exact this
end Go.Proofs.Ytcbppmocgiamiaa
