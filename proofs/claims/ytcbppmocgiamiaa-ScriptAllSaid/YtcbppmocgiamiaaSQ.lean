/- Script: which scripts bytes say, and that they are read back. -/
import Derived.Test.YtcbppmocgiamiaaSP
namespace Go.Proofs.Ytcbppmocgiamiaa
open Go.Pv
/-- A call that bytes may say. -/
def CM (c : Call) : Prop := (0 ≤ c.op ∧ c.op ≤ 11) ∧ (0 ≤ c.r ∧ c.r ≤ 3) ∧ (0 ≤ c.h ∧ c.h ≤ 3) ∧ (0 ≤ c.v ∧ c.v ≤ 3) ∧ (-32768 ≤ c.a ∧ c.a ≤ 32767) ∧ (0 ≤ c.b ∧ c.b ≤ 255) ∧ (0 ≤ c.c ∧ c.c ≤ 7)
def OM (o : FOp) : Prop := (0 ≤ o.op ∧ o.op ≤ 4) ∧ (0 ≤ o.a ∧ o.a < bA o.op) ∧ (0 ≤ o.b ∧ o.b < bB o.op)
/-- A script that bytes may say. -/
structure May (s : Scr) : Prop where
  sc : 1 ≤ s.sc ∧ s.sc ≤ 8
  th : 1 ≤ s.th ∧ s.th ≤ 4
  im : 0 ≤ s.im ∧ s.im ≤ 504 ∧ s.im % 8 = 0
  hp : 0 ≤ s.hp ∧ s.hp ≤ 1016 ∧ s.hp % 8 = 0
  lf : s.fins.length = 8
  lg : (s.progs.length : Int) = s.th
  f : ∀ l ∈ s.fins, l.length ≤ 8 ∧ ∀ o ∈ l, OM o
  g : ∀ l ∈ s.progs, l.length ≤ 64 ∧ ∀ c ∈ l, CM c
  lp : s.picks.length ≤ 4096
  p : ∀ n ∈ s.picks, 0 ≤ n ∧ n ≤ 65535

theorem sum_le {l : List Nat} {n : Nat} (h : ∀ x ∈ l, x ≤ n) : l.sum ≤ l.length * n := by
  induction l with
  | nil => simp
  | cons x l ih =>
    have h1 := h x (by simp)
    have h2 := ih (fun y hy => h y (by simp [hy]))
    simp only [List.sum_cons, List.length_cons, Nat.succ_mul]; omega
theorem bA_hi (c : Int) : bA c ≤ 64 := (bA_pos c).2
theorem May.sw {s : Scr} (h : May s) : SW s := by
  refine ⟨fun l hl c hc => ?_, fun l hl o ho => ?_, fun n hn => ?_, ?_, ?_, ?_⟩
  · have := (h.g l hl).2 c hc; unfold CM at this; unfold CW; omega
  · have := (h.f l hl).2 o ho; unfold OM at this; unfold OW; have := bA_pos o.op; have := bB_pos o.op; omega
  · have := h.p n hn; unfold IW; omega
  · rw [enc_length]
    have h1 : (s.progs.map List.length).sum ≤ (s.progs.map List.length).length * 64 := sum_le (fun x hx => by
      obtain ⟨l, hl, rfl⟩ := List.mem_map.1 hx; exact (h.g l hl).1)
    have h2 : (s.fins.map List.length).sum ≤ (s.fins.map List.length).length * 8 := sum_le (fun x hx => by
      obtain ⟨l, hl, rfl⟩ := List.mem_map.1 hx; exact (h.f l hl).1)
    simp only [List.length_map] at h1 h2
    have := h.lf; have := h.lg; have := h.th; have := h.lp
    omega
  · have := h.lg; have := h.th; omega
  · have := h.lf; omega

theorem CM_callOf {e2 e3 e4 e5 e6 e7 : Int} (h2 : 0 ≤ e2 ∧ e2 ≤ 11) (h4 : 0 ≤ e4 ∧ e4 ≤ 255) (h5 : 0 ≤ e5 ∧ e5 ≤ 255) (h6 : 0 ≤ e6 ∧ e6 ≤ 255) : CM (callOf e2 e3 e4 e5 e6 e7) := by
  unfold CM callOf sgn num
  simp only
  split <;> omega
theorem OM_opOf {e2 e4 e5 : Int} (h2 : 0 ≤ e2 ∧ e2 ≤ 4) : OM (opOf e2 e4 e5) := by
  have hA := bA_pos e2; have hB := bB_pos e2
  unfold OM opOf
  exact ⟨h2, ⟨Int.emod_nonneg _ (by omega), Int.emod_lt_of_pos _ hA.1⟩, ⟨Int.emod_nonneg _ (by omega), Int.emod_lt_of_pos _ hB.1⟩⟩
theorem mem_set' {α : Type} {l : List α} {i : Nat} {x y : α} (h : y ∈ l.set i x) : y ∈ l ∨ y = x := by
  rcases List.mem_or_eq_of_mem_set h with h | h
  · exact .inl h
  · exact .inr h
theorem mem_getD {α : Type} {G : List (List α)} {j : Nat} {c : α} (h : c ∈ G.getD j []) : ∃ l ∈ G, c ∈ l := by
  by_cases hj : j < G.length
  · refine ⟨G[j], List.getElem_mem hj, ?_⟩
    simpa [List.getD, hj] using h
  · simp [List.getD, List.getElem?_eq_none (show G.length ≤ j by omega)] at h
theorem may_more {s : Scr} {e0 e1 e2 e3 e4 e5 e6 e7 : Int} (h : May s) (he : Ent e0 e1 e2 e3 e4 e5 e6 e7) : May (more s e0 e1 e2 e3 e4 e5 e6 e7) := by
  obtain ⟨h0, h1, h2, h3, h4, h5, h6, h7⟩ := he
  unfold more
  split
  · split
    · rename_i hc
      refine ⟨h.sc, h.th, h.im, h.hp, h.lf, by simpa using h.lg, h.f, fun l hl => ?_, h.lp, h.p⟩
      rcases mem_set' hl with hl | rfl
      · exact h.g l hl
      · refine ⟨by rw [List.length_append, List.length_singleton]; omega, fun c hc' => ?_⟩
        rcases List.mem_append.1 hc' with hc' | hc'
        · obtain ⟨l, hl, hc'⟩ := mem_getD hc'; exact (h.g l hl).2 c hc'
        · rw [List.mem_singleton.1 hc']; exact CM_callOf ⟨h2.1, hc.1⟩ h4 h5 h6
    · exact h
  · split
    · split
      · rename_i hc
        refine ⟨h.sc, h.th, h.im, h.hp, by simpa using h.lf, h.lg, fun l hl => ?_, h.g, h.lp, h.p⟩
        rcases mem_set' hl with hl | rfl
        · exact h.f l hl
        · refine ⟨by rw [List.length_append, List.length_singleton]; omega, fun c hc' => ?_⟩
          rcases List.mem_append.1 hc' with hc' | hc'
          · obtain ⟨l, hl, hc'⟩ := mem_getD hc'; exact (h.f l hl).2 c hc'
          · rw [List.mem_singleton.1 hc']; exact OM_opOf ⟨h2.1, hc.1⟩
      · exact h
    · split
      · refine ⟨h.sc, h.th, h.im, h.hp, h.lf, h.lg, h.f, h.g, by rw [List.length_append, List.length_singleton]; omega, fun n hn => ?_⟩
        rcases List.mem_append.1 hn with hn | hn
        · exact h.p n hn
        · rw [List.mem_singleton.1 hn]; unfold num; omega
      · exact h
theorem may_runs : ∀ (b : List Int) (s : Scr), May s → Bytes b → May (runs b s)
  | e0 :: e1 :: e2 :: e3 :: e4 :: e5 :: e6 :: e7 :: r, s, h, hb => by
    rw [runs]
    exact may_runs r _ (may_more h (hb.ent)) (fun x hx => hb x (by simp [hx]))
  | [], s, h, _ => h
  | [_], s, h, _ => h
  | [_, _], s, h, _ => h
  | [_, _, _], s, h, _ => h
  | [_, _, _, _], s, h, _ => h
  | [_, _, _, _, _], s, h, _ => h
  | [_, _, _, _, _, _], s, h, _ => h
  | [_, _, _, _, _, _, _], s, h, _ => h
theorem may_s0 (p0 p1 p2 p3 : Int) : May (s0 p0 p1 p2 p3) := by
  refine ⟨by simp only [s0]; omega, by simp only [s0]; omega, by simp only [s0]; omega, by simp only [s0]; omega, by simp [s0], ?_, ?_, ?_, by simp [s0], by simp [s0]⟩
  · simp only [s0, List.length_replicate]; omega
  · intro l hl; simp only [s0, List.mem_replicate] at hl; rw [hl.2]; simp
  · intro l hl; simp only [s0, List.mem_replicate] at hl; rw [hl.2]; simp
theorem may_of {b : List Int} (hb : Bytes b) : May (ofB b) := may_runs _ _ (may_s0 _ _ _ _) (hb.drop 4)

/-- Whole entries ahead. -/
theorem runs_app : ∀ (n : Nat) (xs ys : List Int) (s : Scr), xs.length = 8 * n → runs (xs ++ ys) s = runs ys (runs xs s)
  | 0, xs, ys, s, h => by
    have : xs = [] := List.eq_nil_of_length_eq_zero (by omega)
    subst this; rfl
  | n + 1, xs, ys, s, h => by
    match xs, h with
    | e0 :: e1 :: e2 :: e3 :: e4 :: e5 :: e6 :: e7 :: r, h =>
      simp only [List.cons_append, runs]
      exact runs_app n r ys _ (by simp only [List.length_cons] at h; omega)
theorem mod4 {x : Int} (h : 0 ≤ x ∧ x ≤ 3) : x % 4 = x := by omega
theorem sgn_num {a : Int} (h : -32768 ≤ a ∧ a ≤ 32767) : sgn (num (a % 256) (a / 256 % 256)) = a := by
  unfold sgn num; split <;> omega
theorem dec_call {c : Call} (h : CM c) : callOf c.op (c.r % 4 + c.h % 4 * 4 + c.v % 4 * 16) (c.a % 256) (c.a / 256 % 256) (c.b % 256) (c.c % 256) = c := by
  unfold CM at h
  obtain ⟨h1, h2, h3, h4, h5, h6, h7⟩ := h
  unfold callOf
  rw [sgn_num h5]
  exact Call.ext' rfl (by simp only; omega) (by simp only; omega) (by simp only; omega) rfl (by simp only; omega) (by simp only; omega)
theorem runs_calls {s : Scr} {t : Nat} (ht : t < s.progs.length) (h4 : s.progs.length ≤ 4) : ∀ (l : List Call), (∀ c ∈ l, CM c) → (s.progs.getD t []).length + l.length ≤ 64 → runs (l.flatMap (encC t)) s = { s with progs := s.progs.set t (s.progs.getD t [] ++ l) }
  | [], _, _ => by
    have : s.progs.set t (s.progs.getD t [] ++ []) = s.progs := by
      rw [List.append_nil]; simp [List.getD, ht]
    rw [this]; rfl
  | c :: l, hc, hl => by
    have hcm := hc c (by simp)
    have e : more s 0 ((t : Int) % 256) c.op (c.r % 4 + c.h % 4 * 4 + c.v % 4 * 16) (c.a % 256) (c.a / 256 % 256) (c.b % 256) (c.c % 256) = { s with progs := s.progs.set t (s.progs.getD t [] ++ [c]) } := by
      have e1 : ((t : Int) % 256 % (s.progs.length : Int)).toNat = t := by
        rw [Int.emod_eq_of_lt (by omega : (0 : Int) ≤ t) (by omega), Int.emod_eq_of_lt (by omega) (by omega)]; simp
      simp only [List.length_cons] at hl
      unfold more
      rw [if_pos (by decide), e1, if_pos ⟨hcm.1.2, by omega⟩, dec_call hcm]
    show runs (encC t c ++ l.flatMap (encC t)) s = _
    rw [runs_app 1 _ _ _ rfl]
    show runs (l.flatMap (encC t)) (more s 0 ((t : Int) % 256) c.op (c.r % 4 + c.h % 4 * 4 + c.v % 4 * 16) (c.a % 256) (c.a / 256 % 256) (c.b % 256) (c.c % 256)) = _
    rw [e]
    have hg : (s.progs.set t (s.progs.getD t [] ++ [c])).getD t [] = s.progs.getD t [] ++ [c] := by simp [List.getD, ht]
    simp only [List.length_cons] at hl
    rw [runs_calls (s := { s with progs := s.progs.set t (s.progs.getD t [] ++ [c]) }) (t := t) (by simpa using ht) (by simpa using h4) l (fun c hc' => hc c (by simp [hc'])) (by show ((s.progs.set t (s.progs.getD t [] ++ [c])).getD t []).length + l.length ≤ 64; rw [hg]; simp only [List.length_append, List.length_cons, List.length_nil]; omega)]
    show ({ s with progs := (s.progs.set t (s.progs.getD t [] ++ [c])).set t ((s.progs.set t (s.progs.getD t [] ++ [c])).getD t [] ++ l) } : Scr) = _
    rw [hg, List.set_set]; simp
theorem runs_ops {s : Scr} {t : Nat} (ht : t < s.fins.length) (h8 : s.fins.length ≤ 8) : ∀ (l : List FOp), (∀ o ∈ l, OM o) → (s.fins.getD t []).length + l.length ≤ 8 → runs (l.flatMap (encF t)) s = { s with fins := s.fins.set t (s.fins.getD t [] ++ l) }
  | [], _, _ => by
    have : s.fins.set t (s.fins.getD t [] ++ []) = s.fins := by
      rw [List.append_nil]; simp [List.getD, ht]
    rw [this]; rfl
  | o :: l, hc, hl => by
    have hcm := hc o (by simp)
    have e : more s 5 ((t : Int) % 256) o.op 0 (o.a % 256) (o.b % 256) 0 0 = { s with fins := s.fins.set t (s.fins.getD t [] ++ [o]) } := by
      have e1 : ((t : Int) % 256 % 8).toNat = t := by omega
      simp only [List.length_cons] at hl
      have e2 : opOf o.op (o.a % 256) (o.b % 256) = o := by
        have hA := bA_pos o.op; have hB := bB_pos o.op
        obtain ⟨k1, k2, k3⟩ := hcm
        unfold opOf
        rw [Int.emod_eq_of_lt (by omega : 0 ≤ o.a) (by omega : o.a < 256), Int.emod_eq_of_lt (by omega : 0 ≤ o.b) (by omega : o.b < 256), Int.emod_eq_of_lt k2.1 k2.2, Int.emod_eq_of_lt k3.1 k3.2]
      unfold more
      rw [if_neg (by decide), if_pos (by decide), e1, if_pos ⟨hcm.1.2, by omega⟩, e2]
    show runs (encF t o ++ l.flatMap (encF t)) s = _
    rw [runs_app 1 _ _ _ rfl]
    show runs (l.flatMap (encF t)) (more s 5 ((t : Int) % 256) o.op 0 (o.a % 256) (o.b % 256) 0 0) = _
    rw [e]
    have hg : (s.fins.set t (s.fins.getD t [] ++ [o])).getD t [] = s.fins.getD t [] ++ [o] := by simp [List.getD, ht]
    simp only [List.length_cons] at hl
    rw [runs_ops (s := { s with fins := s.fins.set t (s.fins.getD t [] ++ [o]) }) (t := t) (by simpa using ht) (by simpa using h8) l (fun c hc' => hc c (by simp [hc'])) (by show ((s.fins.set t (s.fins.getD t [] ++ [o])).getD t []).length + l.length ≤ 8; rw [hg]; simp only [List.length_append, List.length_cons, List.length_nil]; omega)]
    show ({ s with fins := (s.fins.set t (s.fins.getD t [] ++ [o])).set t ((s.fins.set t (s.fins.getD t [] ++ [o])).getD t [] ++ l) } : Scr) = _
    rw [hg, List.set_set]; simp
theorem runs_picks : ∀ (l : List Int) (s : Scr), (∀ n ∈ l, 0 ≤ n ∧ n ≤ 65535) → s.picks.length + l.length ≤ 4096 → runs (l.flatMap encP) s = { s with picks := s.picks ++ l }
  | [], s, _, _ => by rw [List.append_nil]; rfl
  | n :: l, s, hc, hl => by
    have hn := hc n (by simp)
    simp only [List.length_cons] at hl
    have e : more s 6 0 0 0 (n % 256) (n / 256 % 256) 0 0 = { s with picks := s.picks ++ [n] } := by
      unfold more
      rw [if_neg (by decide), if_neg (by decide), if_pos (by omega)]
      have : num (n % 256) (n / 256 % 256) = n := by unfold num; omega
      rw [this]
    show runs (encP n ++ l.flatMap encP) s = _
    rw [runs_app 1 _ _ _ rfl]
    show runs (l.flatMap encP) (more s 6 0 0 0 (n % 256) (n / 256 % 256) 0 0) = _
    rw [e, runs_picks l _ (fun m hm => hc m (by simp [hm])) (by simp only [List.length_append, List.length_cons, List.length_nil]; omega)]
    simp
theorem flat8 {α : Type} (f : α → List Int) (h : ∀ x, (f x).length = 8) (l : List α) : (l.flatMap f).length = 8 * l.length := flat_const f 8 h l
theorem encR8 {α : Type} (f : Nat → α → List Int) (h : ∀ k x, (f k x).length = 8) (G : List (List α)) (k : Nat) : (encR f k G).length = 8 * (G.map List.length).sum := encR_const f 8 h G k
/-- All programs, from the k-th on. -/
theorem runs_progs : ∀ (G : List (List Call)) (A : List (List Call)) (s : Scr), s.progs = A ++ List.replicate G.length [] → A.length + G.length ≤ 4 → (∀ l ∈ G, l.length ≤ 64 ∧ ∀ c ∈ l, CM c) → runs (encR encC A.length G) s = { s with progs := A ++ G }
  | [], A, s, h, _, _ => by
    simp only [encR, List.append_nil]
    simp only [List.length_nil, List.replicate_zero, List.append_nil] at h
    rw [← h]; rfl
  | g :: G, A, s, h, hl, hg => by
    simp only [List.length_cons] at hl h
    have e1 : s.progs.length = A.length + (G.length + 1) := by rw [h]; simp
    have e2 : s.progs.getD A.length [] = [] := by rw [h]; simp [List.getD, List.replicate_succ]
    rw [encR, runs_app g.length _ _ _ (flat8 _ (fun _ => rfl) g), runs_calls (by omega) (by omega) g (hg g (by simp)).2 (by rw [e2]; simpa using (hg g (by simp)).1), e2, List.nil_append]
    have e3 : s.progs.set A.length g = (A ++ [g]) ++ List.replicate G.length [] := by
      rw [h, List.set_append_right _ _ (Nat.le_refl _), Nat.sub_self, List.replicate_succ, List.set_cons_zero]; simp
    have := runs_progs G (A ++ [g]) { s with progs := s.progs.set A.length g } e3 (by simp; omega) (fun l hl => hg l (by simp [hl]))
    rw [List.length_append, List.length_singleton] at this
    rw [this]; simp
theorem runs_fins : ∀ (G : List (List FOp)) (A : List (List FOp)) (s : Scr), s.fins = A ++ List.replicate G.length [] → A.length + G.length ≤ 8 → (∀ l ∈ G, l.length ≤ 8 ∧ ∀ c ∈ l, OM c) → runs (encR encF A.length G) s = { s with fins := A ++ G }
  | [], A, s, h, _, _ => by
    simp only [encR, List.append_nil]
    simp only [List.length_nil, List.replicate_zero, List.append_nil] at h
    rw [← h]; rfl
  | g :: G, A, s, h, hl, hg => by
    simp only [List.length_cons] at hl h
    have e1 : s.fins.length = A.length + (G.length + 1) := by rw [h]; simp
    have e2 : s.fins.getD A.length [] = [] := by rw [h]; simp [List.getD, List.replicate_succ]
    rw [encR, runs_app g.length _ _ _ (flat8 _ (fun _ => rfl) g), runs_ops (by omega) (by omega) g (hg g (by simp)).2 (by rw [e2]; simpa using (hg g (by simp)).1), e2, List.nil_append]
    have e3 : s.fins.set A.length g = (A ++ [g]) ++ List.replicate G.length [] := by
      rw [h, List.set_append_right _ _ (Nat.le_refl _), Nat.sub_self, List.replicate_succ, List.set_cons_zero]; simp
    have := runs_fins G (A ++ [g]) { s with fins := s.fins.set A.length g } e3 (by simp; omega) (fun l hl => hg l (by simp [hl]))
    rw [List.length_append, List.length_singleton] at this
    rw [this]; simp
theorem enc_drop (s : Scr) (m : List Int) : (enc s ++ m).drop 4 = encR encC 0 s.progs ++ (encR encF 0 s.fins ++ (s.picks.flatMap encP ++ m)) := by
  simp [enc, plan4]
theorem s0_plan {s : Scr} (h : May s) : s0 ((s.sc - 1) % 256) ((s.th - 1) % 256) ((s.im.tdiv 8) % 256) ((s.hp.tdiv 8) % 256) = ⟨s.sc, s.th, s.im, s.hp, List.replicate 8 [], List.replicate s.progs.length [], []⟩ := by
  have h1 := h.sc; have h2 := h.th; have h3 := h.im; have h4 := h.hp; have h5 := h.lg
  rw [Int.tdiv_eq_ediv_of_nonneg h3.1, Int.tdiv_eq_ediv_of_nonneg h4.1]
  unfold s0
  have e1 : 1 + (s.sc - 1) % 256 % 8 = s.sc := by omega
  have e2 : 1 + (s.th - 1) % 256 % 4 = s.th := by omega
  have e3 : 8 * (s.im / 8 % 256 % 64) = s.im := by omega
  have e4 : 8 * (s.hp / 8 % 256 % 128) = s.hp := by omega
  rw [e1, e2, e3, e4]
  congr 2
  omega
/-- What is put, with bytes behind, is the script, and what these say. -/
theorem ofB_enc_app {s : Scr} (h : May s) (m : List Int) : ofB (enc s ++ m) = runs m s := by
  unfold ofB
  rw [enc_drop]
  have e0 : s0 ((enc s ++ m).getD 0 default) ((enc s ++ m).getD 1 default) ((enc s ++ m).getD 2 default) ((enc s ++ m).getD 3 default) = s0 ((s.sc - 1) % 256) ((s.th - 1) % 256) ((s.im.tdiv 8) % 256) ((s.hp.tdiv 8) % 256) := rfl
  rw [e0, s0_plan h]
  have hth := h.th; have hlg := h.lg; have hlf := h.lf
  rw [runs_app _ _ _ _ (encR8 encC (fun _ _ => rfl) s.progs 0), show runs (encR encC 0 s.progs) _ = _ from runs_progs s.progs [] _ (by simp) (by simp; omega) h.g, List.nil_append]
  rw [runs_app _ _ _ _ (encR8 encF (fun _ _ => rfl) s.fins 0), show runs (encR encF 0 s.fins) _ = _ from runs_fins s.fins [] _ (by simp [hlf]) (by simp; omega) h.f, List.nil_append]
  rw [runs_app _ _ _ _ (flat8 encP (fun _ => rfl) s.picks), runs_picks s.picks _ h.p (by simpa using h.lp), List.nil_append]
theorem ofB_enc {s : Scr} (h : May s) : ofB (enc s) = s := by
  have := ofB_enc_app h []
  rw [List.append_nil] at this
  exact this
theorem putB_may {s : Scr} (h : May s) : putB s = enc s := by
  unfold putB; rw [if_pos (ofB_enc h)]
end Go.Proofs.Ytcbppmocgiamiaa
