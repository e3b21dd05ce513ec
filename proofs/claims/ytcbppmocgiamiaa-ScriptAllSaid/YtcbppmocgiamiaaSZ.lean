/- Script: the bytes of a script, by the document. -/
import Derived.Test.YtcbppmocgiamiaaSQ
import Derived.Test.YtcbppmocgiamiaaS8
import Derived.Test.YtcbppmocgiamiaaS6
namespace Go.Proofs.Ytcbppmocgiamiaa
open Go.Pv
def encCq (t : Nat) (c : Call) : List Int := entP 0 (smallP (t : Int)) c.op (c.r % 4 + 4 * (c.h % 4) + 16 * (c.v % 4)) c.a (smallP c.b) (smallP c.c)
def encFq (t : Nat) (o : FOp) : List Int := [5, smallP (t : Int), o.op, 0, smallP o.a, smallP o.b, 0, 0]
def encPq (n : Int) : List Int := entP 6 0 0 0 n 0 0
def planQ (s : Scr) : List Int := [smallP (IntKind.i64.wrap (s.sc - 1)), smallP (IntKind.i64.wrap (s.th - 1)), smallP (IntKind.i64.wrap (s.im.tdiv 8)), smallP (IntKind.i64.wrap (s.hp.tdiv 8))]
def encQ (s : Scr) : List Int := planQ s ++ encR encCq 0 s.progs ++ encR encFq 0 s.fins ++ s.picks.flatMap encPq
theorem small_in {n : Int} (h : 0 ≤ n ∧ n ≤ 255) : smallP n = n := by unfold smallP; rw [if_neg (by omega)]
theorem small_bnd (n : Int) : 0 ≤ smallP n ∧ smallP n ≤ 255 := by unfold smallP; split <;> omega
theorem adj_bnd (a : Int) : 0 ≤ adj a ∧ adj a ≤ 65535 := by unfold adj; split <;> (try split) <;> omega
theorem adj_mod {a : Int} (h : -32768 ≤ a ∧ a ≤ 65535) : adj a % 256 = a % 256 ∧ adj a / 256 = a / 256 % 256 := by
  unfold adj
  by_cases h0 : a < 0
  · rw [if_pos h0, if_neg (by omega)]; omega
  · rw [if_neg h0, if_neg (by omega)]; omega
theorem encCq_eq {t : Nat} {c : Call} (ht : t < 8) (h : CM c) : encCq t c = encC t c := by
  unfold CM at h
  obtain ⟨h1, h2, h3, h4, h5, h6, h7⟩ := h
  unfold encCq encC entP
  rw [small_in (by omega), small_in (by omega), small_in (by omega), (adj_mod (by omega)).1, (adj_mod (by omega)).2]
  have e1 : (t : Int) % 256 = t := by omega
  have e2 : c.b % 256 = c.b := by omega
  have e3 : c.c % 256 = c.c := by omega
  have e4 : c.r % 4 + 4 * (c.h % 4) + 16 * (c.v % 4) = c.r % 4 + c.h % 4 * 4 + c.v % 4 * 16 := by omega
  rw [e1, e2, e3, e4]
theorem encFq_eq {t : Nat} {o : FOp} (ht : t < 8) (h : OM o) : encFq t o = encF t o := by
  have hA := bA_pos o.op; have hB := bB_pos o.op
  unfold OM at h
  obtain ⟨h1, h2, h3⟩ := h
  unfold encFq encF
  rw [small_in (by omega), small_in (by omega), small_in (by omega)]
  have e1 : (t : Int) % 256 = t := by omega
  have e2 : o.a % 256 = o.a := by omega
  have e3 : o.b % 256 = o.b := by omega
  rw [e1, e2, e3]
theorem encPq_eq {n : Int} (h : 0 ≤ n ∧ n ≤ 65535) : encPq n = encP n := by
  unfold encPq encP entP
  rw [(adj_mod (by omega)).1, (adj_mod (by omega)).2]
theorem encR_congr {α : Type} {f g : Nat → α → List Int} : ∀ (G : List (List α)) (k : Nat), (∀ t, k ≤ t → t < k + G.length → ∀ l ∈ G, ∀ x ∈ l, f t x = g t x) → encR f k G = encR g k G
  | [], _, _ => rfl
  | l :: G, k, h => by
    rw [encR, encR, encR_congr G (k + 1) (fun t h1 h2 l' hl' x hx => h t (by omega) (by simp only [List.length_cons]; omega) l' (by simp [hl']) x hx)]
    congr 1
    have : ∀ x ∈ l, f k x = g k x := fun x hx => h k (Nat.le_refl _) (by simp) l (by simp) x hx
    clear h
    induction l with
    | nil => rfl
    | cons x l ih => rw [List.flatMap_cons, List.flatMap_cons, this x (by simp), ih (fun y hy => this y (by simp [hy]))]
theorem encQ_may {s : Scr} (h : May s) : encQ s = enc s := by
  have h1 := h.sc; have h2 := h.th; have h3 := h.im; have h4 := h.hp; have h5 := h.lg; have h6 := h.lf
  have e0 : planQ s = plan4 s := by
    unfold planQ plan4
    rw [Int.tdiv_eq_ediv_of_nonneg h3.1, Int.tdiv_eq_ediv_of_nonneg h4.1]
    rw [Go.IntWalk.i64_in (s.sc - 1) ⟨by omega, by omega⟩, Go.IntWalk.i64_in (s.th - 1) ⟨by omega, by omega⟩, Go.IntWalk.i64_in (s.im / 8) ⟨by omega, by omega⟩, Go.IntWalk.i64_in (s.hp / 8) ⟨by omega, by omega⟩]
    rw [small_in (by omega), small_in (by omega), small_in (by omega), small_in (by omega)]
    rw [Int.emod_eq_of_lt (a := s.sc - 1) (by omega) (by omega), Int.emod_eq_of_lt (a := s.th - 1) (by omega) (by omega), Int.emod_eq_of_lt (a := s.im / 8) (by omega) (by omega), Int.emod_eq_of_lt (a := s.hp / 8) (by omega) (by omega)]
  unfold encQ enc
  rw [e0, encR_congr (f := encCq) (g := encC) s.progs 0 (fun t _ ht l hl c hc => encCq_eq (by omega) ((h.g l hl).2 c hc)), encR_congr (f := encFq) (g := encF) s.fins 0 (fun t _ ht l hl c hc => encFq_eq (by omega) ((h.f l hl).2 c hc))]
  congr 1
  have : ∀ x ∈ s.picks, encPq x = encP x := fun x hx => encPq_eq (h.p x hx)
  generalize s.picks = p at *
  induction p with
  | nil => rfl
  | cons x l ih => rw [List.flatMap_cons, List.flatMap_cons, this x (by simp), ih (fun y hy => this y (by simp [hy]))]
theorem may_put {s : Scr} (hs : SW s) (h : ofB (enc s) = s) : May s := by
  have := may_of (bytes_enc hs)
  rw [h] at this; exact this
theorem putB_neg {s : Scr} (hs : SW s) {k : Nat} (hk : k < s.picks.length) (h : s.picks.getD k default < 0) : [] = putB s := by
  unfold putB
  rw [if_neg]
  intro he
  have hm := may_put hs he
  have := hm.p _ (getD_mem hk)
  omega
theorem bytes_encQ {s : Scr} (h : SW s) : Bytes (encQ s) := by
  have hR {α : Type} (f : Nat → α → List Int) (G : List (List α)) (hf : ∀ k, ∀ l ∈ G, ∀ x ∈ l, Bytes (f k x)) : ∀ k, Bytes (encR f k G) := by
    induction G with
    | nil => intro k x hx; cases hx
    | cons g G ih =>
      intro k x hx
      simp only [encR, List.mem_append, List.mem_flatMap] at hx
      rcases hx with ⟨y, hy, hx⟩ | hx
      · exact hf k g (by simp) y hy x hx
      · exact ih (fun k l hl => hf k l (by simp [hl])) _ x hx
  intro x hx
  simp only [encQ, List.mem_append] at hx
  rcases hx with ((hx | hx) | hx) | hx
  · simp only [planQ, List.mem_cons, List.not_mem_nil, or_false] at hx
    rcases hx with rfl | rfl | rfl | rfl <;> exact small_bnd _
  · refine hR encCq s.progs (fun k l hl c hc y hy => ?_) 0 x hx
    have hw := h.c l hl c hc
    simp only [encCq, entP, List.mem_cons, List.not_mem_nil, or_false] at hy
    unfold CW at hw
    have ha := adj_bnd c.a
    rcases hy with rfl | rfl | rfl | rfl | rfl | rfl | rfl | rfl <;> first | exact small_bnd _ | omega
  · refine hR encFq s.fins (fun k l hl c hc y hy => ?_) 0 x hx
    have hw := h.o l hl c hc
    simp only [encFq, List.mem_cons, List.not_mem_nil, or_false] at hy
    unfold OW at hw
    rcases hy with rfl | rfl | rfl | rfl | rfl | rfl | rfl | rfl <;> first | exact small_bnd _ | omega
  · simp only [List.mem_flatMap] at hx
    obtain ⟨n, _, hx⟩ := hx
    have ha := adj_bnd n
    simp only [encPq, entP, List.mem_cons, List.not_mem_nil, or_false] at hx
    rcases hx with rfl | rfl | rfl | rfl | rfl | rfl | rfl | rfl <;> omega
theorem encQ_length (s : Scr) : (encQ s).length = (enc s).length := by
  simp only [encQ, enc, List.length_append, encR_const encC 8 (fun _ _ => rfl), encR_const encF 8 (fun _ _ => rfl), flat_const encP 8 (fun _ => rfl), encR_const encCq 8 (fun _ _ => rfl), encR_const encFq 8 (fun _ _ => rfl), flat_const encPq 8 (fun _ => rfl)]
  simp [planQ, plan4]
theorem putQ_yes {s : Scr} (hs : SW s) (h : ofB (encQ s) = s) : encQ s = putB s := by
  have hm : May s := by have := may_of (bytes_encQ hs); rw [h] at this; exact this
  rw [putB_may hm, encQ_may hm]
theorem putQ_no {s : Scr} (hs : SW s) (h : ¬ ofB (encQ s) = s) : [] = putB s := by
  unfold putB
  rw [if_neg]
  intro he
  have hm := may_put hs he
  exact h (by rw [encQ_may hm]; exact he)
/-- What Put has behind some calls, ops, picks. -/
def qG (s : Scr) (i j : Nat) : List Int := planQ s ++ encR encCq 0 (s.progs.take i) ++ ((s.progs.getD i default).take j).flatMap (encCq i)
def qF (s : Scr) (i j : Nat) : List Int := planQ s ++ encR encCq 0 s.progs ++ encR encFq 0 (s.fins.take i) ++ ((s.fins.getD i default).take j).flatMap (encFq i)
def qP (s : Scr) (k : Nat) : List Int := planQ s ++ encR encCq 0 s.progs ++ encR encFq 0 s.fins ++ (s.picks.take k).flatMap encPq
theorem qG_zero (s : Scr) : planQ s = qG s 0 0 := by simp [qG, encR]
theorem qG_step {s : Scr} {i j : Nat} (h : j < (s.progs.getD i default).length) : qG s i (j + 1) = qG s i j ++ encCq i ((s.progs.getD i default).getD j default) := by
  unfold qG; rw [flat_next _ h]; simp
theorem qG_row {s : Scr} {i j : Nat} (hi : i < s.progs.length) (h : ¬ j < (s.progs.getD i default).length) : qG s i j = qG s (i + 1) 0 := by
  unfold qG; rw [encR_next _ hi, List.take_of_length_le (by omega : (s.progs.getD i default).length ≤ j)]; simp
theorem qG_end {s : Scr} {i : Nat} (hi : ¬ i < s.progs.length) : qG s i 0 = qF s 0 0 := by
  unfold qG qF; rw [List.take_of_length_le (by omega : s.progs.length ≤ i)]; simp [encR]
theorem qF_step {s : Scr} {i j : Nat} (h : j < (s.fins.getD i default).length) : qF s i (j + 1) = qF s i j ++ encFq i ((s.fins.getD i default).getD j default) := by
  unfold qF; rw [flat_next _ h]; simp
theorem qF_row {s : Scr} {i j : Nat} (hi : i < s.fins.length) (h : ¬ j < (s.fins.getD i default).length) : qF s i j = qF s (i + 1) 0 := by
  unfold qF; rw [encR_next _ hi, List.take_of_length_le (by omega : (s.fins.getD i default).length ≤ j)]; simp
theorem qF_end {s : Scr} {i : Nat} (hi : ¬ i < s.fins.length) : qF s i 0 = qP s 0 := by
  unfold qF qP; rw [List.take_of_length_le (by omega : s.fins.length ≤ i)]; simp
theorem qP_step {s : Scr} {k : Nat} (h : k < s.picks.length) : qP s (k + 1) = qP s k ++ encPq (s.picks.getD k default) := by
  unfold qP; rw [flat_next _ h]; simp
theorem qP_end {s : Scr} {k : Nat} (h : ¬ k < s.picks.length) : qP s k = encQ s := by
  unfold qP encQ; rw [List.take_of_length_le (by omega)]
theorem qG_len (s : Scr) (i j : Nat) : (qG s i j).length ≤ (enc s).length := by
  rw [← encQ_length]
  have := encR_len encCq s.progs i 0 j
  rw [Nat.zero_add] at this
  simp only [qG, encQ, List.length_append]; omega
theorem qF_len (s : Scr) (i j : Nat) : (qF s i j).length ≤ (enc s).length := by
  rw [← encQ_length]
  have := encR_len encFq s.fins i 0 j
  rw [Nat.zero_add] at this
  simp only [qF, encQ, List.length_append]; omega
theorem qP_len (s : Scr) (k : Nat) : (qP s k).length ≤ (enc s).length := by
  rw [← encQ_length]
  have := flat_len encPq s.picks k
  simp only [qP, encQ, List.length_append]; omega
/-- A script that is not too long. -/
def shF (s : Scr) (i : Nat) : List (List FOp) := (s.fins.take i).map (·.take 10)
def shG (s : Scr) (i : Nat) : List (List Call) := (s.progs.take i).map (·.take 70)
def shortS (s : Scr) : Scr := ⟨s.sc, s.th, s.im, s.hp, shF s 9, shG s 5, s.picks.take 100⟩
theorem tk1 {α : Type} [Inhabited α] {xs : List α} {k : Nat} (h : k < xs.length) : xs.take (k + 1) = xs.take k ++ [xs.getD k default] := by
  rw [List.take_succ_eq_append_getElem h]; simp [List.getD, h]
theorem shF_next {s : Scr} {i : Nat} (h : i < s.fins.length) : shF s (i + 1) = shF s i ++ [(s.fins.getD i default).take 10] := by
  unfold shF; rw [tk1 h, List.map_append]; rfl
theorem shG_next {s : Scr} {i : Nat} (h : i < s.progs.length) : shG s (i + 1) = shG s i ++ [(s.progs.getD i default).take 70] := by
  unfold shG; rw [tk1 h, List.map_append]; rfl
theorem shF_end {s : Scr} {i : Nat} (h : i = 9 ∨ (s.fins.length ≤ i ∧ i ≤ 9)) : shF s i = shF s 9 := by
  unfold shF; congr 1; rw [List.take_eq_take_iff]; omega
theorem shG_end {s : Scr} {i : Nat} (h : i = 5 ∨ (s.progs.length ≤ i ∧ i ≤ 5)) : shG s i = shG s 5 := by
  unfold shG; congr 1; rw [List.take_eq_take_iff]; omega
theorem shF_len (s : Scr) (i : Nat) : (shF s i).length ≤ i := by simp [shF]; omega
theorem shG_len (s : Scr) (i : Nat) : (shG s i).length ≤ i := by simp [shG]; omega
theorem sw_short {s : Scr} (hc : ∀ l ∈ s.progs, ∀ c ∈ l, CW c) (ho : ∀ l ∈ s.fins, ∀ o ∈ l, OW o) (hi : ∀ n ∈ s.picks, IW n) : SW (shortS s) := by
  refine ⟨fun l hl c hc' => ?_, fun l hl c hc' => ?_, fun n hn => hi n (List.mem_of_mem_take hn), ?_, ?_, ?_⟩
  · simp only [shortS, shG, List.mem_map] at hl
    obtain ⟨l', hl', rfl⟩ := hl
    exact hc l' (List.mem_of_mem_take hl') c (List.mem_of_mem_take hc')
  · simp only [shortS, shF, List.mem_map] at hl
    obtain ⟨l', hl', rfl⟩ := hl
    exact ho l' (List.mem_of_mem_take hl') c (List.mem_of_mem_take hc')
  · rw [enc_length]
    have h1 : ((shortS s).progs.map List.length).sum ≤ ((shortS s).progs.map List.length).length * 70 := sum_le (fun x hx => by
      obtain ⟨l, hl, rfl⟩ := List.mem_map.1 hx
      simp only [shortS, shG, List.mem_map] at hl
      obtain ⟨l', _, rfl⟩ := hl
      rw [List.length_take]; omega)
    have h2 : ((shortS s).fins.map List.length).sum ≤ ((shortS s).fins.map List.length).length * 10 := sum_le (fun x hx => by
      obtain ⟨l, hl, rfl⟩ := List.mem_map.1 hx
      simp only [shortS, shF, List.mem_map] at hl
      obtain ⟨l', _, rfl⟩ := hl
      rw [List.length_take]; omega)
    simp only [List.length_map] at h1 h2
    have := shG_len s 5; have := shF_len s 9
    have : (shortS s).picks.length ≤ 100 := by simp [shortS]; omega
    have e1 : (shortS s).progs = shG s 5 := rfl
    have e2 : (shortS s).fins = shF s 9 := rfl
    rw [e1] at h1 ⊢; rw [e2] at h2 ⊢
    omega
  · have := shG_len s 5; simp only [shortS]; omega
  · have := shF_len s 9; simp only [shortS]; omega
end Go.Proofs.Ytcbppmocgiamiaa
