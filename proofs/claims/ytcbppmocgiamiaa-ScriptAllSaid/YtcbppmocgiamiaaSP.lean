/- Script: the bytes of a script. -/
import Derived.Test.YtcbppmocgiamiaaSL
namespace Go.Proofs.Ytcbppmocgiamiaa
open Go.Pv
def encC (t : Nat) (c : Call) : List Int := [0, (t : Int) % 256, c.op, c.r % 4 + c.h % 4 * 4 + c.v % 4 * 16, c.a % 256, c.a / 256 % 256, c.b % 256, c.c % 256]
def encF (t : Nat) (o : FOp) : List Int := [5, (t : Int) % 256, o.op, 0, o.a % 256, o.b % 256, 0, 0]
def encP (n : Int) : List Int := [6, 0, 0, 0, n % 256, n / 256 % 256, 0, 0]
/-- Rows, each with its number. -/
def encR {α : Type} (f : Nat → α → List Int) : Nat → List (List α) → List Int
  | _, [] => []
  | k, l :: r => l.flatMap (f k) ++ encR f (k + 1) r
theorem encR_snoc {α : Type} (f : Nat → α → List Int) : ∀ (G : List (List α)) (k : Nat) (l : List α), encR f k (G ++ [l]) = encR f k G ++ l.flatMap (f (k + G.length))
  | [], k, l => by simp [encR]
  | g :: G, k, l => by
    simp only [List.cons_append, encR, encR_snoc f G (k + 1) l, List.length_cons, List.append_assoc]
    rw [show k + 1 + G.length = k + (G.length + 1) by omega]
theorem encR_next {α : Type} [Inhabited α] (f : Nat → α → List Int) {G : List (List α)} {i : Nat} (h : i < G.length) : encR f 0 (G.take (i + 1)) = encR f 0 (G.take i) ++ (G.getD i default).flatMap (f i) := by
  rw [List.take_succ_eq_append_getElem h, encR_snoc]
  simp [List.getD, h, Nat.min_eq_left (Nat.le_of_lt h)]
theorem flat_next {α : Type} [Inhabited α] (f : α → List Int) {l : List α} {i : Nat} (h : i < l.length) : (l.take (i + 1)).flatMap f = (l.take i).flatMap f ++ f (l.getD i default) := by
  have e : l.getD i default = l[i] := by simp [List.getD, h]
  rw [e, List.take_succ_eq_append_getElem h, List.flatMap_append, List.flatMap_cons, List.flatMap_nil, List.append_nil]
def plan4 (s : Scr) : List Int := [(s.sc - 1) % 256, (s.th - 1) % 256, (s.im.tdiv 8) % 256, (s.hp.tdiv 8) % 256]
def enc (s : Scr) : List Int := plan4 s ++ encR encC 0 s.progs ++ encR encF 0 s.fins ++ s.picks.flatMap encP
def putB (s : Scr) : List Int := if ofB (enc s) = s then enc s else []
end Go.Proofs.Ytcbppmocgiamiaa
namespace Go.Proofs.Ytcbppmocgiamiaa
open Go.Pv
/-- What Put has behind some calls, ops, picks. -/
def pG (s : Scr) (i j : Nat) : List Int := plan4 s ++ encR encC 0 (s.progs.take i) ++ ((s.progs.getD i default).take j).flatMap (encC i)
def pF (s : Scr) (i j : Nat) : List Int := plan4 s ++ encR encC 0 s.progs ++ encR encF 0 (s.fins.take i) ++ ((s.fins.getD i default).take j).flatMap (encF i)
def pP (s : Scr) (k : Nat) : List Int := plan4 s ++ encR encC 0 s.progs ++ encR encF 0 s.fins ++ (s.picks.take k).flatMap encP
theorem pG_zero (s : Scr) : plan4 s = pG s 0 0 := by simp [pG, encR]
theorem pG_step {s : Scr} {i j : Nat} (h : j < (s.progs.getD i default).length) : pG s i (j + 1) = pG s i j ++ encC i ((s.progs.getD i default).getD j default) := by
  unfold pG; rw [flat_next _ h]; simp
theorem pG_row {s : Scr} {i j : Nat} (hi : i < s.progs.length) (h : ¬ j < (s.progs.getD i default).length) : pG s i j = pG s (i + 1) 0 := by
  unfold pG; rw [encR_next _ hi, List.take_of_length_le (by omega : (s.progs.getD i default).length ≤ j)]; simp
theorem pG_end {s : Scr} {i : Nat} (hi : ¬ i < s.progs.length) : pG s i 0 = pF s 0 0 := by
  unfold pG pF; rw [List.take_of_length_le (by omega : s.progs.length ≤ i)]; simp [encR]
theorem pF_step {s : Scr} {i j : Nat} (h : j < (s.fins.getD i default).length) : pF s i (j + 1) = pF s i j ++ encF i ((s.fins.getD i default).getD j default) := by
  unfold pF; rw [flat_next _ h]; simp
theorem pF_row {s : Scr} {i j : Nat} (hi : i < s.fins.length) (h : ¬ j < (s.fins.getD i default).length) : pF s i j = pF s (i + 1) 0 := by
  unfold pF; rw [encR_next _ hi, List.take_of_length_le (by omega : (s.fins.getD i default).length ≤ j)]; simp
theorem pF_end {s : Scr} {i : Nat} (hi : ¬ i < s.fins.length) : pF s i 0 = pP s 0 := by
  unfold pF pP; rw [List.take_of_length_le (by omega : s.fins.length ≤ i)]; simp
theorem pP_step {s : Scr} {k : Nat} (h : k < s.picks.length) : pP s (k + 1) = pP s k ++ encP (s.picks.getD k default) := by
  unfold pP; rw [flat_next _ h]; simp
theorem pP_end {s : Scr} {k : Nat} (h : ¬ k < s.picks.length) : pP s k = enc s := by
  unfold pP enc; rw [List.take_of_length_le (by omega)]
theorem encR_len {α : Type} [Inhabited α] (f : Nat → α → List Int) (G : List (List α)) (i : Nat) (k j : Nat) : (encR f k (G.take i)).length + (((G.getD i default).take j).flatMap (f (k + i))).length ≤ (encR f k G).length := by
  induction G generalizing i k with
  | nil => simp [encR, default]
  | cons g G ih =>
    cases i with
    | zero =>
      simp only [List.take_zero, encR, List.length_nil, List.getD_cons_zero, Nat.add_zero, List.length_append, Nat.zero_add]
      have : g.flatMap (f k) = (g.take j).flatMap (f k) ++ (g.drop j).flatMap (f k) := by rw [← List.flatMap_append, List.take_append_drop]
      rw [this, List.length_append]; omega
    | succ i =>
      simp only [List.take_succ_cons, encR, List.length_append, List.getD_cons_succ]
      have := ih i (k + 1)
      rw [show k + 1 + i = k + (i + 1) by omega] at this
      omega
theorem flat_len {α : Type} (f : α → List Int) (l : List α) (k : Nat) : ((l.take k).flatMap f).length ≤ (l.flatMap f).length := by
  have : l.flatMap f = (l.take k).flatMap f ++ (l.drop k).flatMap f := by rw [← List.flatMap_append, List.take_append_drop]
  rw [this, List.length_append]; omega
theorem pG_len (s : Scr) (i j : Nat) : (pG s i j).length ≤ (enc s).length := by
  have := encR_len encC s.progs i 0 j
  rw [Nat.zero_add] at this
  simp only [pG, enc, List.length_append]; omega
theorem pF_len (s : Scr) (i j : Nat) : (pF s i j).length ≤ (enc s).length := by
  have := encR_len encF s.fins i 0 j
  rw [Nat.zero_add] at this
  simp only [pF, enc, List.length_append]; omega
theorem pP_len (s : Scr) (k : Nat) : (pP s k).length ≤ (enc s).length := by
  have := flat_len encP s.picks k
  simp only [pP, enc, List.length_append]; omega
/-- A script whose numbers are of their kinds, and not too long. -/
def CW (c : Call) : Prop := (0 ≤ c.op ∧ c.op ≤ 255) ∧ (0 ≤ c.r ∧ c.r ≤ 255) ∧ (0 ≤ c.h ∧ c.h ≤ 255) ∧ (0 ≤ c.v ∧ c.v ≤ 255) ∧ (-9223372036854775808 ≤ c.a ∧ c.a ≤ 9223372036854775807) ∧ (-9223372036854775808 ≤ c.b ∧ c.b ≤ 9223372036854775807) ∧ (-9223372036854775808 ≤ c.c ∧ c.c ≤ 9223372036854775807)
def OW (o : FOp) : Prop := (0 ≤ o.op ∧ o.op ≤ 255) ∧ (-9223372036854775808 ≤ o.a ∧ o.a ≤ 9223372036854775807) ∧ (-9223372036854775808 ≤ o.b ∧ o.b ≤ 9223372036854775807)
def IW (n : Int) : Prop := -9223372036854775808 ≤ n ∧ n ≤ 9223372036854775807
theorem CW.out {c : Call} (h : CW c) : (0 ≤ c.op ∧ c.op ≤ 255) ∧ (0 ≤ c.r ∧ c.r ≤ 255) ∧ (0 ≤ c.h ∧ c.h ≤ 255) ∧ (0 ≤ c.v ∧ c.v ≤ 255) ∧ (-9223372036854775808 ≤ c.a ∧ c.a ≤ 9223372036854775807) ∧ (-9223372036854775808 ≤ c.b ∧ c.b ≤ 9223372036854775807) ∧ (-9223372036854775808 ≤ c.c ∧ c.c ≤ 9223372036854775807) := h
theorem OW.out {o : FOp} (h : OW o) : (0 ≤ o.op ∧ o.op ≤ 255) ∧ (-9223372036854775808 ≤ o.a ∧ o.a ≤ 9223372036854775807) ∧ (-9223372036854775808 ≤ o.b ∧ o.b ≤ 9223372036854775807) := h
theorem IW.out {n : Int} (h : IW n) : -9223372036854775808 ≤ n ∧ n ≤ 9223372036854775807 := h
structure SW (s : Scr) : Prop where
  c : ∀ l ∈ s.progs, ∀ c ∈ l, CW c
  o : ∀ l ∈ s.fins, ∀ o ∈ l, OW o
  i : ∀ n ∈ s.picks, IW n
  len : (enc s).length ≤ 1000000
  lg : s.progs.length ≤ 1000000
  lf : s.fins.length ≤ 1000000
theorem getD_mem {α : Type} [Inhabited α] {l : List α} {i : Nat} (h : i < l.length) : l.getD i default ∈ l := by
  simp [List.getD, h]
theorem getD_or {α : Type} [Inhabited α] {p : α → Prop} {l : List α} (h : ∀ x ∈ l, p x) (h0 : p default) (i : Nat) : p (l.getD i default) := by
  by_cases hi : i < l.length
  · exact h _ (getD_mem hi)
  · simp [List.getD, List.getElem?_eq_none (show l.length ≤ i by omega)]; exact h0
theorem SW.c' {s : Scr} (h : SW s) (i j : Nat) : CW ((s.progs.getD i default).getD j default) := by
  have h0 : CW default := by simp [CW, default]
  refine getD_or (p := CW) ?_ h0 j
  exact getD_or (p := fun l => ∀ x ∈ l, CW x) h.c (by intro x hx; cases hx) i
theorem SW.o' {s : Scr} (h : SW s) (i j : Nat) : OW ((s.fins.getD i default).getD j default) := by
  have h0 : OW default := by simp [OW, default]
  refine getD_or (p := OW) ?_ h0 j
  exact getD_or (p := fun l => ∀ x ∈ l, OW x) h.o (by intro x hx; cases hx) i
theorem SW.i' {s : Scr} (h : SW s) (i : Nat) : IW (s.picks.getD i default) := getD_or (p := IW) h.i (by simp [IW, default]) i
theorem flat_const {α : Type} (f : α → List Int) (n : Nat) (h : ∀ x, (f x).length = n) (l : List α) : (l.flatMap f).length = n * l.length := by
  induction l with
  | nil => simp
  | cons x l ih => simp [h, ih, Nat.mul_add]; omega
theorem encR_const {α : Type} (f : Nat → α → List Int) (n : Nat) (h : ∀ k x, (f k x).length = n) (G : List (List α)) (k : Nat) : (encR f k G).length = n * (G.map List.length).sum := by
  induction G generalizing k with
  | nil => simp [encR]
  | cons g G ih => simp [encR, flat_const _ n (h k), ih, Nat.mul_add]
theorem sum_mem {l : List Nat} {n : Nat} (h : n ∈ l) : n ≤ l.sum := by
  induction l with
  | nil => cases h
  | cons x l ih =>
    rcases List.mem_cons.1 h with rfl | h
    · simp
    · have := ih h; simp; omega
theorem enc_length (s : Scr) : (enc s).length = 4 + 8 * ((s.progs.map List.length).sum + (s.fins.map List.length).sum + s.picks.length) := by
  simp only [enc, List.length_append, encR_const encC 8 (fun _ _ => rfl), encR_const encF 8 (fun _ _ => rfl), flat_const encP 8 (fun _ => rfl)]
  simp [plan4]; omega
theorem SW.lc {s : Scr} (h : SW s) (i : Nat) : (s.progs.getD i default).length ≤ 1000000 := by
  have := enc_length s
  have h1 := h.len
  by_cases hi : i < s.progs.length
  · have := sum_mem (l := s.progs.map List.length) (List.mem_map_of_mem (getD_mem hi)); omega
  · simp [List.getD, List.getElem?_eq_none (show s.progs.length ≤ i by omega), default]
theorem SW.lo {s : Scr} (h : SW s) (i : Nat) : (s.fins.getD i default).length ≤ 1000000 := by
  have := enc_length s
  have h1 := h.len
  by_cases hi : i < s.fins.length
  · have := sum_mem (l := s.fins.map List.length) (List.mem_map_of_mem (getD_mem hi)); omega
  · simp [List.getD, List.getElem?_eq_none (show s.fins.length ≤ i by omega), default]
theorem SW.lp {s : Scr} (h : SW s) : s.picks.length ≤ 1000000 := by
  have := enc_length s
  have h1 := h.len
  omega
theorem bytes_enc {s : Scr} (h : SW s) : Bytes (enc s) := by
  have m (x : Int) : 0 ≤ x % 256 ∧ x % 256 ≤ 255 := ⟨Int.emod_nonneg _ (by omega), by have := Int.emod_lt_of_pos x (show (0 : Int) < 256 by omega); omega⟩
  have hR {α : Type} (f : Nat → α → List Int) (G : List (List α)) (hf : ∀ k, ∀ l ∈ G, ∀ x ∈ l, Bytes (f k x)) : ∀ k, Bytes (encR f k G) := by
    induction G with
    | nil => intro k x hx; cases hx
    | cons g G ih =>
      intro k x hx
      simp only [encR, List.mem_append, List.mem_flatMap] at hx
      rcases hx with ⟨y, hy, hx⟩ | hx
      · exact hf k g (by simp) y hy x hx
      · exact ih (fun k l hl => hf k l (by simp [hl])) _ x hx
  intro x hx
  simp only [enc, List.mem_append] at hx
  rcases hx with ((hx | hx) | hx) | hx
  · simp only [plan4, List.mem_cons, List.not_mem_nil, or_false] at hx
    rcases hx with rfl | rfl | rfl | rfl <;> exact m _
  · refine hR encC s.progs (fun k l hl c hc y hy => ?_) 0 x hx
    have hw := h.c l hl c hc
    simp only [encC, List.mem_cons, List.not_mem_nil, or_false] at hy
    unfold CW at hw
    rcases hy with rfl | rfl | rfl | rfl | rfl | rfl | rfl | rfl <;> first | exact m _ | omega
  · refine hR encF s.fins (fun k l hl c hc y hy => ?_) 0 x hx
    have hw := h.o l hl c hc
    simp only [encF, List.mem_cons, List.not_mem_nil, or_false] at hy
    unfold OW at hw
    rcases hy with rfl | rfl | rfl | rfl | rfl | rfl | rfl | rfl <;> first | exact m _ | omega
  · simp only [List.mem_flatMap] at hx
    obtain ⟨n, _, hx⟩ := hx
    simp only [encP, List.mem_cons, List.not_mem_nil, or_false] at hx
    rcases hx with rfl | rfl | rfl | rfl | rfl | rfl | rfl | rfl <;> first | exact m _ | omega
end Go.Proofs.Ytcbppmocgiamiaa
