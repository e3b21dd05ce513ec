/- has -/
import Derived.Test.YtopmocpjgjbdbaaF1
import Derived.Test.YtopmocpjgjbdbaaPvG
namespace Go.Proofs.Ytopmocpjgjbdbaa
open Go.Pv
theorem sz3 : SizeIs Try.prog 3 1 := sizeIs_of (by kernel_rfl)
theorem sz23 : SizeIs Try.prog 23 1 := sizeIs_of (by kernel_rfl)
theorem fnok22 : FnOk Try.prog 22 := ⟨Try.f22, Try.func22, rfl, rfl⟩
theorem fnok32 : FnOk Try.prog 32 := ⟨Try.f32, Try.func32, rfl, rfl⟩
theorem fnok33 : FnOk Try.prog 33 := ⟨Try.f33, Try.func33, rfl, rfl⟩
theorem fnok34 : FnOk Try.prog 34 := ⟨Try.f34, Try.func34, rfl, rfl⟩
def ixl (s l : List Int) (k : Nat) : Int := if h : k < l.length then (if 0 ≤ l.getD k default ∧ l.getD k default < s.length then ixl s l (k + 1) else k) else -1
termination_by l.length - k
theorem dec_congr {p q : Prop} [Decidable p] [Decidable q] (h : p ↔ q) : decide p = decide q := decide_eq_decide.2 h
theorem ixl_next (s l : List Int) (k : Nat) (h : k < l.length) (hq : 0 ≤ l.getD k default ∧ l.getD k default < s.length) : ixl s l k = ixl s l (k + 1) := by
  rw [ixl, dif_pos h, if_pos hq]
theorem ixl_here (s l : List Int) (k : Nat) (h : k < l.length) (hq : ¬ (0 ≤ l.getD k default ∧ l.getD k default < s.length)) : ixl s l k = k := by
  rw [ixl, dif_pos h, if_neg hq]
theorem ixl_end (s l : List Int) (k : Nat) (h : ¬ k < l.length) : ixl s l k = -1 := by
  rw [ixl, dif_neg h]
theorem ixl_from (s l : List Int) : ∀ (n k : Nat), n = l.length - k → (0 ≤ ixl s l k ↔ ((l.drop k).all fun i => decide (0 ≤ i ∧ i < s.length)) = false) := by
  intro n
  induction n with
  | zero => intro k hk; rw [ixl_end s l k (by omega), List.drop_eq_nil_of_le (by omega)]; simp
  | succ n ih =>
    intro k hk
    have hlt : k < l.length := by omega
    rw [List.drop_eq_getElem_cons hlt, List.all_cons]
    have e : l.getD k default = l[k] := by simp [List.getD, hlt]
    by_cases hq : 0 ≤ l.getD k default ∧ l.getD k default < s.length
    · rw [ixl_next s l k hlt hq, ih (k + 1) (by omega), ← e, decide_eq_true hq, Bool.true_and]
    · rw [ixl_here s l k hlt hq, ← e, decide_eq_false hq, Bool.false_and]; simp
theorem ixl_all (s l : List Int) : decide (0 ≤ ixl s l 0) = !l.all fun i => decide (0 ≤ i ∧ i < s.length) := by
  have := ixl_from s l _ 0 rfl
  rw [List.drop_zero] at this
  cases h : l.all fun i => decide (0 ≤ i ∧ i < s.length)
  · rw [h] at this; simpa using this
  · rw [h] at this; simpa using this
set_option maxRecDepth 20000 in
theorem has1_ok (s : List Int) (hs : s.length ≤ 9223372036854775807) (i : Int) : PC Try.prog 33 [(.d (.v (.int .i64 i))), (.ptr 2 0)] ⟨[some (row eU s), some [(.ms 0 0 1 s.length), (.d (.sl 1 true [])), (.d (.v (.bool false))), (.d (.v (.int .i64 0)))], some [(.ptr 1 0)]], []⟩ ⟨[some (row eU s), some [(.ms 0 0 1 s.length), (.d (.sl 1 true [])), (.d (.v (.bool false))), (.d (.v (.int .i64 0)))], some [(.ptr 1 0)]], []⟩ (.d (.v (.bool (!decide (0 ≤ i ∧ i < s.length))))) := by
  refine pc_intro Try.func33 rfl (of_decide_eq_true rfl) (fun g0 w0 hb0 ht0 => ?_)
  refine pw_seq ?_
  refine pw_region ?_
  refine pwl_step 1 rfl (o_assign (p := (.d (.v (.bool false)))) rfl rfl) ?_
  refine pwl_nil ?_
  refine pw_seq ?_
  refine pw_wk (Wk.ofL (n := 13) (l := [(0, (.d (.v (.int .i64 i)))), (1, (.ptr 2 0)), (3, (.d (.v (.bool false))))]) (S := ⟨[some (row eU s), some [(.ms 0 0 1 s.length), (.d (.sl 1 true [])), (.d (.v (.bool false))), (.d (.v (.int .i64 0)))], some [(.ptr 1 0)]], []⟩) rfl rfl (.cons .rfl' (.cons .rfl' (.cons .rfl' .nil)))) ?_
  refine pw_region ?_
  refine pwl_step 1 rfl (o_move (p := (.d (.v (.int .i64 i)))) rfl rfl) ?_
  refine pwl_step 1 rfl (opS_load_box (b := 2) (off := 0) (cs := [(.ptr 1 0)]) (p := (.ptr 1 0)) rfl Try.underlying46 rfl rfl rfl rfl) ?_
  refine pwl_step 1 rfl (o_nilCheck_ptr (b := 1) (off := 0) rfl rfl) ?_
  refine pwl_step 1 rfl (opS_field_ptr (b := 1) (off := 0) rfl Try.underlying48 rfl sz23 (of_decide_eq_true rfl) rfl) ?_
  refine pwl_step 1 rfl (opS_load_box (b := 1) (off := 0) (cs := [(.ms 0 0 1 s.length), (.d (.sl 1 true [])), (.d (.v (.bool false))), (.d (.v (.int .i64 0)))]) (p := (.ms 0 0 1 s.length)) rfl Try.underlying23 rfl rfl rfl rfl) ?_
  refine pwl_step 1 rfl (o_len_ms (b := 0) (off := 0) (sz := 1) (n := s.length) rfl Try.underlying23 rfl) ?_
  refine pwl_step 1 rfl (opS_bin (k := .i64) (m := (((s.length : Nat)) : Int)) (n := 1) rfl rfl rfl (ib_sub (by omega) (by omega))) ?_
  refine pwl_step 1 rfl (opS_call («as» := [(.d (.v (.int .i64 i))), (.d (.v (.int .i64 0))), (.d (.v (.int .i64 ((((s.length : Nat)) : Int) - 1))))]) (r := (.d (.v (.bool (decide (0 ≤ i ∧ i ≤ ((((s.length : Nat)) : Int) - 1))))))) rfl fnok22 rfl (args_ok (by exact .cons (.of_canon rfl) (.cons (.of_canon rfl) (.cons (.of_canon rfl) (.nil))))) (PF.at (within_ok i 0 ((((s.length : Nat)) : Int) - 1)) _)) ?_
  refine pwl_step 1 rfl (opS_not (b := decide (0 ≤ i ∧ i ≤ ((((s.length : Nat)) : Int) - 1))) rfl rfl) ?_
  refine pwl_step 1 rfl (o_assign (p := (.d (.v (.bool (!decide (0 ≤ i ∧ i ≤ ((((s.length : Nat)) : Int) - 1))))))) rfl rfl) ?_
  refine pwl_nil ?_
  refine pw_ret ?_
  exact ⟨.inr rfl, rfl, (okB_row (okB_cons rfl (okB_cons rfl rfl))), rfl, ⟨_, (.cons _ _ _ _ (.tmp (of_decide_eq_true rfl) (PVle.of_canon (p := (.d (.v (.bool (!decide (0 ≤ i ∧ i ≤ ((((s.length : Nat)) : Int) - 1))))))) (by simp only [PV.canon, dec_congr (show (0 ≤ i ∧ i ≤ (s.length : Int) - 1) ↔ (0 ≤ i ∧ i < s.length) by omega)]))) .nil), rfl⟩⟩

set_option maxRecDepth 20000 in
theorem index_ok (s l : List Int) (hs : s.length ≤ 9223372036854775807) : PC Try.prog 34 [(.d (.sl 1 false (l.map eI))), (.fn 33 [] [(.ptr 2 0)])] ⟨[some (row eU s), some [(.ms 0 0 1 s.length), (.d (.sl 1 true [])), (.d (.v (.bool false))), (.d (.v (.int .i64 0)))], some [(.ptr 1 0)]], []⟩ ⟨[some (row eU s), some [(.ms 0 0 1 s.length), (.d (.sl 1 true [])), (.d (.v (.bool false))), (.d (.v (.int .i64 0)))], some [(.ptr 1 0)]], []⟩ (.d (.v (.int .i64 (ixl s l 0)))) := by
  refine pc_intro Try.func34 rfl (of_decide_eq_true rfl) (fun g0 w0 hb0 ht0 => ?_)
  refine pw_len (i := 0) (sz := 1) (es := l.map eI) (of_decide_eq_true rfl) rfl (fun hl0 => ?_)
  simp only [List.length_map] at hl0
  refine pw_seq ?_
  refine pw_region ?_
  refine pwl_step 1 rfl (o_assign (p := (.d (.v (.int .i64 0)))) rfl rfl) ?_
  refine pwl_nil ?_
  refine pw_seq ?_
  refine pw_seq ?_
  refine pw_region ?_
  refine pwl_step 1 rfl (o_move (p := (.d (.sl 1 false (l.map eI)))) rfl rfl) ?_
  refine pwl_step 1 rfl (o_len (sz := 1) (es := (l.map eI)) (n := l.length) rfl Try.underlying28 rfl (by simp)) ?_
  refine pwl_step 1 rfl (o_move (p := (.d (.v (.int .i64 0)))) rfl rfl) ?_
  refine pwl_nil ?_
  refine pw_block ?_
  refine pw_loop' (α := Nat) (fun (x : Nat) => match x with | k => St.ofL 19 [(0, (.d (.sl 1 false (l.map eI)))), (1, (.fn 33 [] [(.ptr 2 0)])), (7, (.d (.v (.int .i64 (((l.length : Nat)) : Int))))), (8, (.d (.v (.int .i64 ((k : Nat) : Int)))))] ⟨[some (row eU s), some [(.ms 0 0 1 s.length), (.d (.sl 1 true [])), (.d (.v (.bool false))), (.d (.v (.int .i64 0)))], some [(.ptr 1 0)]], []⟩) (fun (x : Nat) => match x with | k => k ≤ l.length ∧ ixl s l k = ixl s l 0) (fun (x : Nat) => match x with | k => l.length - k) 0 (⟨Nat.zero_le _, rfl⟩) (Wk.ofL rfl (rfl) (.cons .rfl' (.cons .rfl' (.cons .rfl' (.cons (PVle.of_eq (p := (.d (.v (.int .i64 0)))) (q := _) (by first | rfl | (congr 3; omega))) .nil))))) ?_
  rintro k ⟨hk, hE⟩
  refine pw_seq ?_
  refine pw_region ?_
  refine pwl_step 1 rfl (opS_bin (k := .i64) (m := ((k : Nat) : Int)) (n := (((l.length : Nat)) : Int)) rfl rfl rfl (ib_lt rfl)) ?_
  refine pwl_nil ?_
  refine pw_seq ?_
  refine pw_cond (b := decide (((k : Nat) : Int) < (((l.length : Nat)) : Int))) rfl (fun hb1 => ?_) (fun hb1 => ?_)
  ·
    replace hb1 := of_decide_eq_true hb1
    refine pw_skip ?_
    refine pw_seq ?_
    refine pw_block ?_
    refine pw_seq ?_
    refine pw_region ?_
    refine pwl_step 1 rfl (o_move (p := (.d (.v (.int .i64 ((k : Nat) : Int))))) rfl rfl) ?_
    refine pwl_step 1 rfl (o_assign (p := (.d (.v (.int .i64 ((k : Nat) : Int))))) rfl rfl) ?_
    refine pwl_nil ?_
    refine pw_seq ?_
    refine pw_wk (Wk.ofL (n := 19) (l := [(0, (.d (.sl 1 false (l.map eI)))), (1, (.fn 33 [] [(.ptr 2 0)])), (5, (.d (.v (.int .i64 ((k : Nat) : Int))))), (7, (.d (.v (.int .i64 (((l.length : Nat)) : Int))))), (8, (.d (.v (.int .i64 ((k : Nat) : Int)))))]) (S := ⟨[some (row eU s), some [(.ms 0 0 1 s.length), (.d (.sl 1 true [])), (.d (.v (.bool false))), (.d (.v (.int .i64 0)))], some [(.ptr 1 0)]], []⟩) rfl rfl (.cons .rfl' (.cons .rfl' (.cons .rfl' (.cons .rfl' (.cons .rfl' .nil)))))) ?_
    refine pw_region ?_
    refine pwl_step 1 rfl (o_move (p := (.fn 33 [] [(.ptr 2 0)])) rfl rfl) ?_
    refine pwl_step 1 rfl (o_move (p := (.d (.sl 1 false (l.map eI)))) rfl rfl) ?_
    refine pwl_step 1 rfl (o_move (p := (.d (.v (.int .i64 ((k : Nat) : Int))))) rfl rfl) ?_
    refine pwl_step 1 rfl (opS_index (sz := 1) (es := (l.map eI)) (k := .i64) (n := ((k : Nat) : Int)) (e := [(.v (.int .i64 (l.getD k default)))]) rfl Try.underlying28 sz3 rfl rfl (by omega) (map_get (xs := l) (i := k) (by omega))) ?_
    refine pwl_step 1 rfl (opS_load_rp (c := (.v (.int .i64 (l.getD k default)))) (cs := []) rfl Try.underlying3 rfl rfl) ?_
    refine pwl_step 1 rfl (opS_callv («as» := [(.d (.v (.int .i64 (l.getD k default)))), (.ptr 2 0)]) (r := (.d (.v (.bool (!decide (0 ≤ (l.getD k default) ∧ (l.getD k default) < s.length)))))) rfl fnok33 rfl rfl (argsv_ok (by exact .cons (.of_canon rfl) (.cons (.of_canon rfl) (.nil)))) (PC.frame (has1_ok s hs (l.getD k default)) [] [] rfl rfl rfl (okB_row (okB_cons rfl (okB_cons rfl rfl))))) ?_
    refine pwl_nil ?_
    refine pw_cond (b := !decide (0 ≤ (l.getD k default) ∧ (l.getD k default) < s.length)) rfl (fun hb2 => ?_) (fun hb2 => ?_)
    ·
      replace hb2 := not_dec_true hb2
      refine pw_seq ?_
      refine pw_region ?_
      refine pwl_step 1 rfl (o_move (p := (.d (.v (.int .i64 ((k : Nat) : Int))))) rfl rfl) ?_
      refine pwl_step 1 rfl (o_assign (p := (.d (.v (.int .i64 ((k : Nat) : Int))))) rfl rfl) ?_
      refine pwl_nil ?_
      refine pw_ret ?_
      exact ⟨.inr rfl, rfl, (okB_row (okB_cons rfl (okB_cons rfl rfl))), rfl, ⟨_, (.cons _ _ _ _ (.tmp (of_decide_eq_true rfl) (PVle.of_canon (p := (.d (.v (.int .i64 ((k : Nat) : Int))))) (by simp only [PV.canon]; rw [← hE, ixl_here s l k (by omega) (by simpa using hb2)]))) .nil), rfl⟩⟩
    ·
      replace hb2 := not_dec_false hb2
      refine pw_skip ?_
      refine pw_region ?_
      refine pwl_step 1 rfl (opS_bin (k := .i64) (m := ((k : Nat) : Int)) (n := 1) rfl rfl rfl (ib_add (by omega) (by omega))) ?_
      refine pwl_step 1 rfl (o_move (p := (.d (.v (.int .i64 (((k : Nat) : Int) + 1))))) rfl rfl) ?_
      refine pwl_nil ?_
      exact ⟨k + 1, ⟨by omega, by rw [← hE, ixl_next s l k (by omega) (by simpa using hb2)]⟩, by simp only []; omega, Wk.ofL rfl (rfl) (.cons .rfl' (.cons .rfl' (.cons .rfl' (.cons (PVle.of_eq (p := (.d (.v (.int .i64 (((k : Nat) : Int) + 1))))) (q := _) (by first | rfl | (congr 3; omega))) .nil))))⟩
  ·
    replace hb1 := of_decide_eq_false hb1
    refine pw_exit ?_
    refine pw_seq ?_
    refine pw_region ?_
    refine pwl_step 1 rfl (o_assign (p := (.d (.v (.int .i64 (-1))))) rfl rfl) ?_
    refine pwl_nil ?_
    refine pw_ret ?_
    exact ⟨.inr rfl, rfl, (okB_row (okB_cons rfl (okB_cons rfl rfl))), rfl, ⟨_, (.cons _ _ _ _ (.tmp (of_decide_eq_true rfl) (PVle.of_canon (p := (.d (.v (.int .i64 (-1))))) (by simp only [PV.canon]; rw [← hE, ixl_end s l k (by omega)]))) .nil), rfl⟩⟩

set_option maxRecDepth 20000 in
theorem contains_ok (s l : List Int) (hs : s.length ≤ 9223372036854775807) : PC Try.prog 32 [(.d (.sl 1 false (l.map eI))), (.fn 33 [] [(.ptr 2 0)])] ⟨[some (row eU s), some [(.ms 0 0 1 s.length), (.d (.sl 1 true [])), (.d (.v (.bool false))), (.d (.v (.int .i64 0)))], some [(.ptr 1 0)]], []⟩ ⟨[some (row eU s), some [(.ms 0 0 1 s.length), (.d (.sl 1 true [])), (.d (.v (.bool false))), (.d (.v (.int .i64 0)))], some [(.ptr 1 0)]], []⟩ (.d (.v (.bool (!l.all fun i => decide (0 ≤ i ∧ i < s.length))))) := by
  refine pc_intro Try.func32 rfl (of_decide_eq_true rfl) (fun g0 w0 hb0 ht0 => ?_)
  refine pw_seq ?_
  refine pw_region ?_
  refine pwl_step 1 rfl (o_assign (p := (.d (.v (.bool false)))) rfl rfl) ?_
  refine pwl_nil ?_
  refine pw_seq ?_
  refine pw_wk (Wk.ofL (n := 9) (l := [(0, (.d (.sl 1 false (l.map eI)))), (1, (.fn 33 [] [(.ptr 2 0)])), (4, (.d (.v (.bool false))))]) (S := ⟨[some (row eU s), some [(.ms 0 0 1 s.length), (.d (.sl 1 true [])), (.d (.v (.bool false))), (.d (.v (.int .i64 0)))], some [(.ptr 1 0)]], []⟩) rfl rfl (.cons .rfl' (.cons .rfl' (.cons .rfl' .nil)))) ?_
  refine pw_region ?_
  refine pwl_step 1 rfl (o_move (p := (.d (.sl 1 false (l.map eI)))) rfl rfl) ?_
  refine pwl_step 1 rfl (o_move (p := (.fn 33 [] [(.ptr 2 0)])) rfl rfl) ?_
  refine pwl_step 1 rfl (opS_call («as» := [(.d (.sl 1 false (l.map eI))), (.fn 33 [] [(.ptr 2 0)])]) (r := (.d (.v (.int .i64 (ixl s l 0))))) rfl fnok34 rfl (args_ok (by exact .cons (.of_canon rfl) (.cons (.of_canon rfl) (.nil)))) (PC.frame (index_ok s l hs) [] [] rfl rfl rfl (okB_row (okB_cons rfl (okB_cons rfl rfl))))) ?_
  refine pwl_step 1 rfl (opS_bin (k := .i64) (m := (ixl s l 0)) (n := 0) rfl rfl rfl (ib_ge rfl)) ?_
  refine pwl_step 1 rfl (o_assign (p := (.d (.v (.bool (decide (0 ≤ (ixl s l 0))))))) rfl rfl) ?_
  refine pwl_nil ?_
  refine pw_ret ?_
  exact ⟨.inr rfl, rfl, (okB_row (okB_cons rfl (okB_cons rfl rfl))), rfl, ⟨_, (.cons _ _ _ _ (.tmp (of_decide_eq_true rfl) (PVle.of_canon (p := (.d (.v (.bool (decide (0 ≤ (ixl s l 0))))))) (by simp only [PV.canon]; rw [ixl_all]))) .nil), rfl⟩⟩

set_option maxRecDepth 20000 in
theorem has_ok (s l : List Int) (hs : s.length ≤ 9223372036854775807) : PC Try.prog 27 [(.ptr 1 0), (.d (.sl 1 false (l.map eI)))] ⟨[some (row eU s), some [(.ms 0 0 1 s.length), (.d (.sl 1 true [])), (.d (.v (.bool false))), (.d (.v (.int .i64 0)))]], []⟩ ⟨[some (row eU s), some [(.ms 0 0 1 s.length), (.d (.sl 1 true [])), (.d (.v (.bool false))), (.d (.v (.int .i64 0)))]], []⟩ (.d (.v (.bool (l.all fun i => decide (0 ≤ i ∧ i < s.length))))) := by
  refine pc_intro Try.func27 rfl (of_decide_eq_true rfl) (fun g0 w0 hb0 ht0 => ?_)
  refine pw_seq ?_
  refine pw_region ?_
  refine pwl_step 1 rfl (opS_box (ps := [(.ptr 1 0)]) rfl rfl) ?_
  refine pwl_step 1 rfl (o_assign (p := (.d (.v (.bool false)))) rfl rfl) ?_
  refine pwl_nil ?_
  refine pw_seq ?_
  refine pw_wk (Wk.ofL (n := 9) (l := [(1, (.d (.sl 1 false (l.map eI)))), (2, (.ptr 2 0)), (4, (.d (.v (.bool false))))]) (S := ⟨[some (row eU s), some [(.ms 0 0 1 s.length), (.d (.sl 1 true [])), (.d (.v (.bool false))), (.d (.v (.int .i64 0)))], some [(.ptr 1 0)]], []⟩) rfl rfl (.cons .rfl' (.cons .rfl' (.cons .rfl' .nil)))) ?_
  refine pw_region ?_
  refine pwl_step 1 rfl (o_move (p := (.d (.sl 1 false (l.map eI)))) rfl rfl) ?_
  refine pwl_step 1 rfl (opS_makeFunc rfl) ?_
  refine pwl_step 1 rfl (opS_call («as» := [(.d (.sl 1 false (l.map eI))), (.fn 33 [] [(.ptr 2 0)])]) (r := (.d (.v (.bool (!l.all fun i => decide (0 ≤ i ∧ i < s.length)))))) rfl fnok32 rfl (args_ok (by exact .cons (.of_canon rfl) (.cons (.of_canon rfl) (.nil)))) (PC.frame (contains_ok s l hs) [] [] rfl rfl rfl (okB_row (okB_cons rfl (okB_cons rfl rfl))))) ?_
  refine pwl_step 1 rfl (opS_not (b := (!l.all fun i => decide (0 ≤ i ∧ i < s.length))) rfl rfl) ?_
  refine pwl_step 1 rfl (o_assign (p := (.d (.v (.bool (!(!l.all fun i => decide (0 ≤ i ∧ i < s.length))))))) rfl rfl) ?_
  refine pwl_nil ?_
  refine pw_ret ?_
  exact ⟨.inr rfl, rfl, (okB_row (okB_cons rfl rfl)), rfl, ⟨_, (.cons _ _ _ _ (.tmp (of_decide_eq_true rfl) (PVle.of_canon (p := (.d (.v (.bool (!(!l.all fun i => decide (0 ≤ i ∧ i < s.length))))))) (by simp [PV.canon]))) .nil), rfl⟩⟩
end Go.Proofs.Ytopmocpjgjbdbaa
