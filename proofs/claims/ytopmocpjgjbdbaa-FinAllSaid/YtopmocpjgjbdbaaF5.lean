/- the reference: steps -/
import Derived.Test.YtopmocpjgjbdbaaF4
namespace Go.Proofs.Ytopmocpjgjbdbaa
open Go.Pv

set_option maxRecDepth 20000 in
theorem rstep0 (ops : List FOp) (s : List Int) (k : Nat) (a b : Int) (hs : s.length ≤ 1000) (hops : ops.length ≤ 1000) (hk : k < ops.length) (hb : 0 ≤ b ∧ b ≤ 100) (ho : ops.getD k default = ⟨0, a, b⟩) : PF Try.prog 20 [(.sl 3 false (ops.map eF)), (.v (.int .i64 ((k : Nat) : Int))), (.sl 1 false (s.map eU))] (stepPV (step ops k s)) := by
  refine pc_intro Try.func20 rfl (of_decide_eq_true rfl) (fun g0 w0 hb0 ht0 => ?_)
  have hf0 : ¬ (((k : Nat) : Int) < 0) := by omega
  have hf1 : ¬ ((((ops.length : Nat)) : Int) ≤ ((k : Nat) : Int)) := by omega
  refine pw_seq ?_
  refine pw_wk (Wk.ofL (n := 106) (l := [(0, (.d (.sl 3 false (ops.map eF)))), (1, (.d (.v (.int .i64 ((k : Nat) : Int))))), (2, (.d (.sl 1 false (s.map eU))))]) (S := ⟨[], []⟩) rfl rfl (.cons .rfl' (.cons .rfl' (.cons .rfl' .nil)))) ?_
  refine pw_region ?_
  refine pwl_step 1 rfl (o_assign (p := (.d (.v (.int .i64 0)))) rfl rfl) ?_
  refine pwl_step 1 rfl (o_assign (p := (.d (.sl 1 true []))) rfl rfl) ?_
  refine pwl_step 1 rfl (o_assign (p := (.d (.sl 1 true []))) rfl rfl) ?_
  refine pwl_step 1 rfl (o_assign (p := (.d (.v (.bool false)))) rfl rfl) ?_
  refine pwl_nil ?_
  refine pw_seq ?_
  refine pw_wk (Wk.ofL (n := 106) (l := [(0, (.d (.sl 3 false (ops.map eF)))), (1, (.d (.v (.int .i64 ((k : Nat) : Int))))), (2, (.d (.sl 1 false (s.map eU)))), (6, (.d (.v (.int .i64 0)))), (7, (.d (.sl 1 true []))), (8, (.d (.sl 1 true []))), (9, (.d (.v (.bool false))))]) (S := ⟨[], []⟩) rfl rfl (.cons .rfl' (.cons .rfl' (.cons .rfl' (.cons .rfl' (.cons .rfl' (.cons .rfl' (.cons .rfl' .nil)))))))) ?_
  refine pw_region ?_
  refine pwl_step 1 rfl (o_buildSlice (sz := 1) (es := []) rfl Try.underlying23 ti39 (of_decide_eq_true rfl) (of_decide_eq_true rfl) rfl rfl rfl) ?_
  refine pwl_step 1 rfl (o_move (p := (.d (.sl 1 false (s.map eU)))) rfl rfl) ?_
  refine pwl_step 1 rfl (o_append_row (xs := s) (f := eU) (sz := 1) rfl Try.underlying23 ti39 (of_decide_eq_true rfl) rfl rfl (by omega) (by omega)) ?_
  refine pwl_step 1 rfl (o_assign (p := (.ms 0 0 1 s.length)) rfl rfl) ?_
  refine pwl_nil ?_
  refine pw_seq ?_
  refine pw_seq ?_
  refine pw_wk (Wk.ofL (n := 106) (l := [(0, (.d (.sl 3 false (ops.map eF)))), (1, (.d (.v (.int .i64 ((k : Nat) : Int))))), (6, (.d (.v (.int .i64 0)))), (7, (.d (.sl 1 true []))), (8, (.d (.sl 1 true []))), (9, (.d (.v (.bool false)))), (10, (.ms 0 0 1 s.length))]) (S := ⟨[some (row eU s)], []⟩) rfl rfl (.cons .rfl' (.cons .rfl' (.cons .rfl' (.cons .rfl' (.cons .rfl' (.cons .rfl' (.cons .rfl' .nil)))))))) ?_
  refine pw_region ?_
  refine pwl_step 1 rfl (o_move (p := (.d (.v (.int .i64 ((k : Nat) : Int))))) rfl rfl) ?_
  refine pwl_step 1 rfl (opS_bin (k := .i64) (m := ((k : Nat) : Int)) (n := 0) rfl rfl rfl (ib_lt (decide_eq_false hf0))) ?_
  refine pwl_step 1 rfl (o_move (p := (.d (.v (.bool false)))) rfl rfl) ?_
  refine pwl_step_yes 1 rfl rfl (o_move (p := (.d (.v (.int .i64 ((k : Nat) : Int))))) rfl rfl) ?_
  refine pwl_step_yes 1 rfl rfl (o_move (p := (.d (.sl 3 false (ops.map eF)))) rfl rfl) ?_
  refine pwl_step_yes 1 rfl rfl (o_len (sz := 3) (es := (ops.map eF)) (n := ops.length) rfl Try.underlying22 rfl (by simp)) ?_
  refine pwl_step_yes 1 rfl rfl (opS_bin (k := .i64) (m := ((k : Nat) : Int)) (n := (((ops.length : Nat)) : Int)) rfl rfl rfl (ib_ge (decide_eq_false hf1))) ?_
  refine pwl_step 1 rfl (o_pick_f (p := (.d (.v (.bool false)))) rfl rfl rfl) ?_
  refine pwl_nil ?_
  refine pw_cond (b := false) rfl (fun h => by cases h) (fun _ => ?_)
  refine pw_skip ?_
  refine pw_seq ?_
  refine pw_wk (Wk.ofL (n := 106) (l := [(0, (.d (.sl 3 false (ops.map eF)))), (1, (.d (.v (.int .i64 ((k : Nat) : Int))))), (6, (.d (.v (.int .i64 0)))), (7, (.d (.sl 1 true []))), (8, (.d (.sl 1 true []))), (9, (.d (.v (.bool false)))), (10, (.ms 0 0 1 s.length))]) (S := ⟨[some (row eU s)], []⟩) rfl rfl (.cons .rfl' (.cons .rfl' (.cons .rfl' (.cons .rfl' (.cons .rfl' (.cons .rfl' (.cons .rfl' .nil)))))))) ?_
  refine pw_region ?_
  refine pwl_step 1 rfl (o_move (p := (.d (.sl 3 false (ops.map eF)))) rfl rfl) ?_
  refine pwl_step 1 rfl (o_move (p := (.d (.v (.int .i64 ((k : Nat) : Int))))) rfl rfl) ?_
  refine pwl_step 1 rfl (opS_index (sz := 3) (es := (ops.map eF)) (k := .i64) (n := ((k : Nat) : Int)) (e := [(.v (.int .u8 0)), (.v (.int .i64 a)), (.v (.int .i64 b))]) rfl Try.underlying22 sz32 rfl rfl (by omega) (map_get_eq (by omega) ho)) ?_
  refine pwl_step 1 rfl (opS_load_rp_agg (cs := [(.v (.int .u8 0)), (.v (.int .i64 a)), (.v (.int .i64 b))]) rfl Try.underlying32 rfl sz32 rfl (of_decide_eq_true rfl)) ?_
  refine pwl_step 1 rfl (o_alloc rfl ti32 zs32) ?_
  refine pwl_step 1 rfl (opS_store (b := 1) (off := 0) (cs := [(.d (.v (.int .u8 0))), (.d (.v (.int .i64 0))), (.d (.v (.int .i64 0)))]) (ps := [(.d (.v (.int .u8 0))), (.d (.v (.int .i64 a))), (.d (.v (.int .i64 b)))]) rfl sz32 rfl rfl rfl rfl (of_decide_eq_true rfl) (List.cons_ne_nil _ _)) ?_
  refine pwl_nil ?_
  refine pw_seq ?_
  refine pw_wk (Wk.ofL (n := 106) (l := [(1, (.d (.v (.int .i64 ((k : Nat) : Int))))), (6, (.d (.v (.int .i64 0)))), (7, (.d (.sl 1 true []))), (8, (.d (.sl 1 true []))), (9, (.d (.v (.bool false)))), (10, (.ms 0 0 1 s.length)), (11, (.ptr 1 0))]) (S := ⟨[some (row eU s), some [(.d (.v (.int .u8 0))), (.d (.v (.int .i64 a))), (.d (.v (.int .i64 b)))]], []⟩) rfl rfl (.cons .rfl' (.cons .rfl' (.cons .rfl' (.cons .rfl' (.cons .rfl' (.cons .rfl' (.cons .rfl' .nil)))))))) ?_
  by_cases hc1 : 0 ≤ a
  ·
    refine pw_region ?_
    refine pwl_step 1 rfl (opS_field_ptr (b := 1) (off := 0) rfl Try.underlying32 rfl sz3 (of_decide_eq_true rfl) rfl) ?_
    refine pwl_step 1 rfl (opS_load_box (b := 1) (off := 1) (cs := [(.d (.v (.int .u8 0))), (.d (.v (.int .i64 a))), (.d (.v (.int .i64 b)))]) (p := (.d (.v (.int .i64 a)))) rfl Try.underlying3 rfl rfl rfl rfl) ?_
    refine pwl_step 1 rfl (opS_bin (k := .i64) (m := a) (n := 0) rfl rfl rfl (ib_ge (decide_eq_true hc1))) ?_
    refine pwl_step 1 rfl (o_move (p := (.d (.v (.bool true)))) rfl rfl) ?_
    refine pwl_step_yes 1 rfl rfl (opS_field_ptr (b := 1) (off := 0) rfl Try.underlying32 rfl sz3 (of_decide_eq_true rfl) rfl) ?_
    refine pwl_step_yes 1 rfl rfl (opS_load_box (b := 1) (off := 1) (cs := [(.d (.v (.int .u8 0))), (.d (.v (.int .i64 a))), (.d (.v (.int .i64 b)))]) (p := (.d (.v (.int .i64 a)))) rfl Try.underlying3 rfl rfl rfl rfl) ?_
    refine pwl_step_yes 1 rfl rfl (o_move (p := (.ms 0 0 1 s.length)) rfl rfl) ?_
    refine pwl_step_yes 1 rfl rfl (o_len_ms (b := 0) (off := 0) (sz := 1) (n := s.length) rfl Try.underlying23 rfl) ?_
    refine pwl_step_yes 1 rfl rfl (opS_bin (k := .i64) (m := a) (n := (((s.length : Nat)) : Int)) rfl rfl rfl (ib_lt rfl)) ?_
    refine pwl_step 1 rfl (o_pick_t (p := (.d (.v (.bool (decide (a < (((s.length : Nat)) : Int))))))) rfl rfl rfl) ?_
    refine pwl_step 1 rfl (o_assign (p := (.d (.v (.bool (decide (a < (((s.length : Nat)) : Int))))))) rfl rfl) ?_
    refine pwl_nil ?_
    refine pw_seq ?_
    refine pw_wk (Wk.ofL (n := 106) (l := [(1, (.d (.v (.int .i64 ((k : Nat) : Int))))), (6, (.d (.v (.int .i64 0)))), (7, (.d (.sl 1 true []))), (8, (.d (.sl 1 true []))), (9, (.d (.v (.bool false)))), (10, (.ms 0 0 1 s.length)), (11, (.ptr 1 0)), (12, (.d (.v (.bool (decide (a < (((s.length : Nat)) : Int)))))))]) (S := ⟨[some (row eU s), some [(.d (.v (.int .u8 0))), (.d (.v (.int .i64 a))), (.d (.v (.int .i64 b)))]], []⟩) rfl rfl (.cons .rfl' (.cons .rfl' (.cons .rfl' (.cons .rfl' (.cons .rfl' (.cons .rfl' (.cons .rfl' (.cons .rfl' .nil))))))))) ?_
    by_cases hc2 : 0 ≤ b
    ·
      refine pw_region ?_
      refine pwl_step 1 rfl (opS_field_ptr (b := 1) (off := 0) rfl Try.underlying32 rfl sz3 (of_decide_eq_true rfl) rfl) ?_
      refine pwl_step 1 rfl (opS_load_box (b := 1) (off := 2) (cs := [(.d (.v (.int .u8 0))), (.d (.v (.int .i64 a))), (.d (.v (.int .i64 b)))]) (p := (.d (.v (.int .i64 b)))) rfl Try.underlying3 rfl rfl rfl rfl) ?_
      refine pwl_step 1 rfl (opS_bin (k := .i64) (m := b) (n := 0) rfl rfl rfl (ib_ge (decide_eq_true hc2))) ?_
      refine pwl_step 1 rfl (o_move (p := (.d (.v (.bool true)))) rfl rfl) ?_
      refine pwl_step_yes 1 rfl rfl (opS_field_ptr (b := 1) (off := 0) rfl Try.underlying32 rfl sz3 (of_decide_eq_true rfl) rfl) ?_
      refine pwl_step_yes 1 rfl rfl (opS_load_box (b := 1) (off := 2) (cs := [(.d (.v (.int .u8 0))), (.d (.v (.int .i64 a))), (.d (.v (.int .i64 b)))]) (p := (.d (.v (.int .i64 b)))) rfl Try.underlying3 rfl rfl rfl rfl) ?_
      refine pwl_step_yes 1 rfl rfl (o_move (p := (.ms 0 0 1 s.length)) rfl rfl) ?_
      refine pwl_step_yes 1 rfl rfl (o_len_ms (b := 0) (off := 0) (sz := 1) (n := s.length) rfl Try.underlying23 rfl) ?_
      refine pwl_step_yes 1 rfl rfl (opS_bin (k := .i64) (m := b) (n := (((s.length : Nat)) : Int)) rfl rfl rfl (ib_lt rfl)) ?_
      refine pwl_step 1 rfl (o_pick_t (p := (.d (.v (.bool (decide (b < (((s.length : Nat)) : Int))))))) rfl rfl rfl) ?_
      refine pwl_step 1 rfl (o_assign (p := (.d (.v (.bool (decide (b < (((s.length : Nat)) : Int))))))) rfl rfl) ?_
      refine pwl_nil ?_
      refine pw_seq ?_
      refine pw_seq ?_
      refine pw_region ?_
      refine pwl_step 1 rfl (opS_field_ptr (b := 1) (off := 0) rfl Try.underlying32 rfl sz5 (of_decide_eq_true rfl) rfl) ?_
      refine pwl_step 1 rfl (opS_load_box (b := 1) (off := 0) (cs := [(.d (.v (.int .u8 0))), (.d (.v (.int .i64 a))), (.d (.v (.int .i64 b)))]) (p := (.d (.v (.int .u8 0)))) rfl Try.underlying5 rfl rfl rfl rfl) ?_
      refine pwl_nil ?_
      refine pw_block ?_
      refine pw_seq ?_
      refine pw_region ?_
      refine pwl_step 1 rfl (opS_bin (k := .u8) (m := 0) (n := 0) rfl rfl rfl (ib_eq (c := true) rfl)) ?_
      refine pwl_step 1 rfl (o_assign (p := (.d (.v (.bool true)))) rfl rfl) ?_
      refine pwl_nil ?_
      refine pw_cond (b := true) rfl (fun _ => ?_) (fun h => by cases h)
      refine pw_seq ?_
      refine pw_wk (Wk.ofL (n := 106) (l := [(1, (.d (.v (.int .i64 ((k : Nat) : Int))))), (6, (.d (.v (.int .i64 0)))), (7, (.d (.sl 1 true []))), (8, (.d (.sl 1 true []))), (9, (.d (.v (.bool false)))), (10, (.ms 0 0 1 s.length)), (11, (.ptr 1 0))]) (S := ⟨[some (row eU s), some [(.d (.v (.int .u8 0))), (.d (.v (.int .i64 a))), (.d (.v (.int .i64 b)))]], []⟩) rfl rfl (.cons .rfl' (.cons .rfl' (.cons .rfl' (.cons .rfl' (.cons .rfl' (.cons .rfl' (.cons .rfl' .nil)))))))) ?_
      refine pw_quiet Trymixed (by kernel_rfl) ?_
      refine q_step 1 rfl (o_move (p := (.d (.v (.int .i64 ((k : Nat) : Int))))) rfl rfl) ?_
      refine q_step 1 rfl (opS_bin (k := .i64) (m := ((k : Nat) : Int)) (n := 1) rfl rfl rfl (ib_add (by omega) (by omega))) ?_
      refine q_step 1 rfl (o_move (p := (.ms 0 0 1 s.length)) rfl rfl) ?_
      refine q_step 1 rfl (opS_field_ptr (b := 1) (off := 0) rfl Try.underlying32 rfl sz3 (of_decide_eq_true rfl) rfl) ?_
      refine q_step 1 rfl (opS_load_box (b := 1) (off := 1) (cs := [(.d (.v (.int .u8 0))), (.d (.v (.int .i64 a))), (.d (.v (.int .i64 b)))]) (p := (.d (.v (.int .i64 a)))) rfl Try.underlying3 rfl rfl rfl rfl) ?_
      refine q_step 1 rfl (o_buildSlice (sz := 1) (es := [([(.v (.int .i64 a))] : List D)]) rfl Try.underlying28 ti3 (of_decide_eq_true rfl) (of_decide_eq_true rfl) rfl rfl rfl) ?_
      refine q_step 1 rfl (o_assign (p := (.d (.v (.int .i64 (((k : Nat) : Int) + 1))))) rfl rfl) ?_
      refine q_step 1 rfl (o_assign (p := (.ms 0 0 1 s.length)) rfl rfl) ?_
      refine q_step 1 rfl (o_assign (p := (.d (.sl 1 true [([(.v (.int .i64 a))] : List D)]))) rfl rfl) ?_
      refine q_step 1 rfl (o_assign (p := (.d (.v (.bool false)))) rfl rfl) ?_
      refine q_nil ?_
      refine pw_wk (Wk.freeze_row (f := eU) (xs := s) (b := 0) (sz := 1) (n := 106) (l := [(6, (.d (.v (.int .i64 (((k : Nat) : Int) + 1))))), (7, (.d (.sl 1 false (s.map eU)))), (8, (.d (.sl 1 true [([(.v (.int .i64 a))] : List D)]))), (9, (.d (.v (.bool false))))]) (S' := ⟨[none, some [(.d (.v (.int .u8 0))), (.d (.v (.int .i64 a))), (.d (.v (.int .i64 b)))]], []⟩) (by rw [hb0]; decide) rfl rfl (fun _ => rfl) (nobB_self (nobB_cons rfl rfl)) (.keep .rfl' rfl (.row' rfl (by simp) (.keep .rfl' rfl (.keep .rfl' rfl .nil)))) rfl) ?_
      refine pw_ret ?_
      exact ⟨.inr rfl, rfl, rfl, rfl, ⟨_, (.cons _ _ _ _ (.tmp (of_decide_eq_true rfl) (PVle.of_canon (p := (.d (.v (.int .i64 (((k : Nat) : Int) + 1))))) (by rw [st0 hk ho]; first | rfl | (simp only [PV.canon]; first | rfl | (split <;> first | rfl | (simp; done) | (exfalso; omega)))))) (.cons _ _ _ _ (.tmp (of_decide_eq_true rfl) (PVle.of_canon (p := (.d (.sl 1 false (s.map eU)))) (by rw [st0 hk ho]; first | rfl | (simp only [PV.canon]; first | rfl | (split <;> first | rfl | (simp; done) | (exfalso; omega)))))) (.cons _ _ _ _ (.tmp (of_decide_eq_true rfl) (PVle.of_canon (p := (.d (.sl 1 true [([(.v (.int .i64 a))] : List D)]))) (by rw [st0 hk ho]; first | rfl | (simp only [PV.canon]; first | rfl | (split <;> first | rfl | (simp; done) | (exfalso; omega)))))) (.cons _ _ _ _ (.tmp (of_decide_eq_true rfl) (PVle.of_canon (p := (.d (.v (.bool false)))) (by rw [st0 hk ho]; first | rfl | (simp only [PV.canon]; first | rfl | (split <;> first | rfl | (simp; done) | (exfalso; omega)))))) .nil)))), rfl⟩⟩
    ·
      refine pw_region ?_
      refine pwl_step 1 rfl (opS_field_ptr (b := 1) (off := 0) rfl Try.underlying32 rfl sz3 (of_decide_eq_true rfl) rfl) ?_
      refine pwl_step 1 rfl (opS_load_box (b := 1) (off := 2) (cs := [(.d (.v (.int .u8 0))), (.d (.v (.int .i64 a))), (.d (.v (.int .i64 b)))]) (p := (.d (.v (.int .i64 b)))) rfl Try.underlying3 rfl rfl rfl rfl) ?_
      refine pwl_step 1 rfl (opS_bin (k := .i64) (m := b) (n := 0) rfl rfl rfl (ib_ge (decide_eq_false hc2))) ?_
      refine pwl_step 1 rfl (o_move (p := (.d (.v (.bool false)))) rfl rfl) ?_
      refine pwl_step_no rfl rfl ?_
      refine pwl_step_no rfl rfl ?_
      refine pwl_step_no rfl rfl ?_
      refine pwl_step_no rfl rfl ?_
      refine pwl_step_no rfl rfl ?_
      refine pwl_step 1 rfl (o_pick_f (p := (.d (.v (.bool false)))) rfl rfl rfl) ?_
      refine pwl_step 1 rfl (o_assign (p := (.d (.v (.bool false)))) rfl rfl) ?_
      refine pwl_nil ?_
      refine pw_seq ?_
      refine pw_seq ?_
      refine pw_region ?_
      refine pwl_step 1 rfl (opS_field_ptr (b := 1) (off := 0) rfl Try.underlying32 rfl sz5 (of_decide_eq_true rfl) rfl) ?_
      refine pwl_step 1 rfl (opS_load_box (b := 1) (off := 0) (cs := [(.d (.v (.int .u8 0))), (.d (.v (.int .i64 a))), (.d (.v (.int .i64 b)))]) (p := (.d (.v (.int .u8 0)))) rfl Try.underlying5 rfl rfl rfl rfl) ?_
      refine pwl_nil ?_
      refine pw_block ?_
      refine pw_seq ?_
      refine pw_region ?_
      refine pwl_step 1 rfl (opS_bin (k := .u8) (m := 0) (n := 0) rfl rfl rfl (ib_eq (c := true) rfl)) ?_
      refine pwl_step 1 rfl (o_assign (p := (.d (.v (.bool true)))) rfl rfl) ?_
      refine pwl_nil ?_
      refine pw_cond (b := true) rfl (fun _ => ?_) (fun h => by cases h)
      refine pw_seq ?_
      refine pw_wk (Wk.ofL (n := 106) (l := [(1, (.d (.v (.int .i64 ((k : Nat) : Int))))), (6, (.d (.v (.int .i64 0)))), (7, (.d (.sl 1 true []))), (8, (.d (.sl 1 true []))), (9, (.d (.v (.bool false)))), (10, (.ms 0 0 1 s.length)), (11, (.ptr 1 0))]) (S := ⟨[some (row eU s), some [(.d (.v (.int .u8 0))), (.d (.v (.int .i64 a))), (.d (.v (.int .i64 b)))]], []⟩) rfl rfl (.cons .rfl' (.cons .rfl' (.cons .rfl' (.cons .rfl' (.cons .rfl' (.cons .rfl' (.cons .rfl' .nil)))))))) ?_
      refine pw_quiet Trymixed (by kernel_rfl) ?_
      refine q_step 1 rfl (o_move (p := (.d (.v (.int .i64 ((k : Nat) : Int))))) rfl rfl) ?_
      refine q_step 1 rfl (opS_bin (k := .i64) (m := ((k : Nat) : Int)) (n := 1) rfl rfl rfl (ib_add (by omega) (by omega))) ?_
      refine q_step 1 rfl (o_move (p := (.ms 0 0 1 s.length)) rfl rfl) ?_
      refine q_step 1 rfl (opS_field_ptr (b := 1) (off := 0) rfl Try.underlying32 rfl sz3 (of_decide_eq_true rfl) rfl) ?_
      refine q_step 1 rfl (opS_load_box (b := 1) (off := 1) (cs := [(.d (.v (.int .u8 0))), (.d (.v (.int .i64 a))), (.d (.v (.int .i64 b)))]) (p := (.d (.v (.int .i64 a)))) rfl Try.underlying3 rfl rfl rfl rfl) ?_
      refine q_step 1 rfl (o_buildSlice (sz := 1) (es := [([(.v (.int .i64 a))] : List D)]) rfl Try.underlying28 ti3 (of_decide_eq_true rfl) (of_decide_eq_true rfl) rfl rfl rfl) ?_
      refine q_step 1 rfl (o_assign (p := (.d (.v (.int .i64 (((k : Nat) : Int) + 1))))) rfl rfl) ?_
      refine q_step 1 rfl (o_assign (p := (.ms 0 0 1 s.length)) rfl rfl) ?_
      refine q_step 1 rfl (o_assign (p := (.d (.sl 1 true [([(.v (.int .i64 a))] : List D)]))) rfl rfl) ?_
      refine q_step 1 rfl (o_assign (p := (.d (.v (.bool false)))) rfl rfl) ?_
      refine q_nil ?_
      refine pw_wk (Wk.freeze_row (f := eU) (xs := s) (b := 0) (sz := 1) (n := 106) (l := [(6, (.d (.v (.int .i64 (((k : Nat) : Int) + 1))))), (7, (.d (.sl 1 false (s.map eU)))), (8, (.d (.sl 1 true [([(.v (.int .i64 a))] : List D)]))), (9, (.d (.v (.bool false))))]) (S' := ⟨[none, some [(.d (.v (.int .u8 0))), (.d (.v (.int .i64 a))), (.d (.v (.int .i64 b)))]], []⟩) (by rw [hb0]; decide) rfl rfl (fun _ => rfl) (nobB_self (nobB_cons rfl rfl)) (.keep .rfl' rfl (.row' rfl (by simp) (.keep .rfl' rfl (.keep .rfl' rfl .nil)))) rfl) ?_
      refine pw_ret ?_
      exact ⟨.inr rfl, rfl, rfl, rfl, ⟨_, (.cons _ _ _ _ (.tmp (of_decide_eq_true rfl) (PVle.of_canon (p := (.d (.v (.int .i64 (((k : Nat) : Int) + 1))))) (by rw [st0 hk ho]; first | rfl | (simp only [PV.canon]; first | rfl | (split <;> first | rfl | (simp; done) | (exfalso; omega)))))) (.cons _ _ _ _ (.tmp (of_decide_eq_true rfl) (PVle.of_canon (p := (.d (.sl 1 false (s.map eU)))) (by rw [st0 hk ho]; first | rfl | (simp only [PV.canon]; first | rfl | (split <;> first | rfl | (simp; done) | (exfalso; omega)))))) (.cons _ _ _ _ (.tmp (of_decide_eq_true rfl) (PVle.of_canon (p := (.d (.sl 1 true [([(.v (.int .i64 a))] : List D)]))) (by rw [st0 hk ho]; first | rfl | (simp only [PV.canon]; first | rfl | (split <;> first | rfl | (simp; done) | (exfalso; omega)))))) (.cons _ _ _ _ (.tmp (of_decide_eq_true rfl) (PVle.of_canon (p := (.d (.v (.bool false)))) (by rw [st0 hk ho]; first | rfl | (simp only [PV.canon]; first | rfl | (split <;> first | rfl | (simp; done) | (exfalso; omega)))))) .nil)))), rfl⟩⟩
  ·
    refine pw_region ?_
    refine pwl_step 1 rfl (opS_field_ptr (b := 1) (off := 0) rfl Try.underlying32 rfl sz3 (of_decide_eq_true rfl) rfl) ?_
    refine pwl_step 1 rfl (opS_load_box (b := 1) (off := 1) (cs := [(.d (.v (.int .u8 0))), (.d (.v (.int .i64 a))), (.d (.v (.int .i64 b)))]) (p := (.d (.v (.int .i64 a)))) rfl Try.underlying3 rfl rfl rfl rfl) ?_
    refine pwl_step 1 rfl (opS_bin (k := .i64) (m := a) (n := 0) rfl rfl rfl (ib_ge (decide_eq_false hc1))) ?_
    refine pwl_step 1 rfl (o_move (p := (.d (.v (.bool false)))) rfl rfl) ?_
    refine pwl_step_no rfl rfl ?_
    refine pwl_step_no rfl rfl ?_
    refine pwl_step_no rfl rfl ?_
    refine pwl_step_no rfl rfl ?_
    refine pwl_step_no rfl rfl ?_
    refine pwl_step 1 rfl (o_pick_f (p := (.d (.v (.bool false)))) rfl rfl rfl) ?_
    refine pwl_step 1 rfl (o_assign (p := (.d (.v (.bool false)))) rfl rfl) ?_
    refine pwl_nil ?_
    refine pw_seq ?_
    refine pw_wk (Wk.ofL (n := 106) (l := [(1, (.d (.v (.int .i64 ((k : Nat) : Int))))), (6, (.d (.v (.int .i64 0)))), (7, (.d (.sl 1 true []))), (8, (.d (.sl 1 true []))), (9, (.d (.v (.bool false)))), (10, (.ms 0 0 1 s.length)), (11, (.ptr 1 0)), (12, (.d (.v (.bool false))))]) (S := ⟨[some (row eU s), some [(.d (.v (.int .u8 0))), (.d (.v (.int .i64 a))), (.d (.v (.int .i64 b)))]], []⟩) rfl rfl (.cons .rfl' (.cons .rfl' (.cons .rfl' (.cons .rfl' (.cons .rfl' (.cons .rfl' (.cons .rfl' (.cons .rfl' .nil))))))))) ?_
    by_cases hc3 : 0 ≤ b
    ·
      refine pw_region ?_
      refine pwl_step 1 rfl (opS_field_ptr (b := 1) (off := 0) rfl Try.underlying32 rfl sz3 (of_decide_eq_true rfl) rfl) ?_
      refine pwl_step 1 rfl (opS_load_box (b := 1) (off := 2) (cs := [(.d (.v (.int .u8 0))), (.d (.v (.int .i64 a))), (.d (.v (.int .i64 b)))]) (p := (.d (.v (.int .i64 b)))) rfl Try.underlying3 rfl rfl rfl rfl) ?_
      refine pwl_step 1 rfl (opS_bin (k := .i64) (m := b) (n := 0) rfl rfl rfl (ib_ge (decide_eq_true hc3))) ?_
      refine pwl_step 1 rfl (o_move (p := (.d (.v (.bool true)))) rfl rfl) ?_
      refine pwl_step_yes 1 rfl rfl (opS_field_ptr (b := 1) (off := 0) rfl Try.underlying32 rfl sz3 (of_decide_eq_true rfl) rfl) ?_
      refine pwl_step_yes 1 rfl rfl (opS_load_box (b := 1) (off := 2) (cs := [(.d (.v (.int .u8 0))), (.d (.v (.int .i64 a))), (.d (.v (.int .i64 b)))]) (p := (.d (.v (.int .i64 b)))) rfl Try.underlying3 rfl rfl rfl rfl) ?_
      refine pwl_step_yes 1 rfl rfl (o_move (p := (.ms 0 0 1 s.length)) rfl rfl) ?_
      refine pwl_step_yes 1 rfl rfl (o_len_ms (b := 0) (off := 0) (sz := 1) (n := s.length) rfl Try.underlying23 rfl) ?_
      refine pwl_step_yes 1 rfl rfl (opS_bin (k := .i64) (m := b) (n := (((s.length : Nat)) : Int)) rfl rfl rfl (ib_lt rfl)) ?_
      refine pwl_step 1 rfl (o_pick_t (p := (.d (.v (.bool (decide (b < (((s.length : Nat)) : Int))))))) rfl rfl rfl) ?_
      refine pwl_step 1 rfl (o_assign (p := (.d (.v (.bool (decide (b < (((s.length : Nat)) : Int))))))) rfl rfl) ?_
      refine pwl_nil ?_
      refine pw_seq ?_
      refine pw_seq ?_
      refine pw_region ?_
      refine pwl_step 1 rfl (opS_field_ptr (b := 1) (off := 0) rfl Try.underlying32 rfl sz5 (of_decide_eq_true rfl) rfl) ?_
      refine pwl_step 1 rfl (opS_load_box (b := 1) (off := 0) (cs := [(.d (.v (.int .u8 0))), (.d (.v (.int .i64 a))), (.d (.v (.int .i64 b)))]) (p := (.d (.v (.int .u8 0)))) rfl Try.underlying5 rfl rfl rfl rfl) ?_
      refine pwl_nil ?_
      refine pw_block ?_
      refine pw_seq ?_
      refine pw_region ?_
      refine pwl_step 1 rfl (opS_bin (k := .u8) (m := 0) (n := 0) rfl rfl rfl (ib_eq (c := true) rfl)) ?_
      refine pwl_step 1 rfl (o_assign (p := (.d (.v (.bool true)))) rfl rfl) ?_
      refine pwl_nil ?_
      refine pw_cond (b := true) rfl (fun _ => ?_) (fun h => by cases h)
      refine pw_seq ?_
      refine pw_wk (Wk.ofL (n := 106) (l := [(1, (.d (.v (.int .i64 ((k : Nat) : Int))))), (6, (.d (.v (.int .i64 0)))), (7, (.d (.sl 1 true []))), (8, (.d (.sl 1 true []))), (9, (.d (.v (.bool false)))), (10, (.ms 0 0 1 s.length)), (11, (.ptr 1 0))]) (S := ⟨[some (row eU s), some [(.d (.v (.int .u8 0))), (.d (.v (.int .i64 a))), (.d (.v (.int .i64 b)))]], []⟩) rfl rfl (.cons .rfl' (.cons .rfl' (.cons .rfl' (.cons .rfl' (.cons .rfl' (.cons .rfl' (.cons .rfl' .nil)))))))) ?_
      refine pw_quiet Trymixed (by kernel_rfl) ?_
      refine q_step 1 rfl (o_move (p := (.d (.v (.int .i64 ((k : Nat) : Int))))) rfl rfl) ?_
      refine q_step 1 rfl (opS_bin (k := .i64) (m := ((k : Nat) : Int)) (n := 1) rfl rfl rfl (ib_add (by omega) (by omega))) ?_
      refine q_step 1 rfl (o_move (p := (.ms 0 0 1 s.length)) rfl rfl) ?_
      refine q_step 1 rfl (opS_field_ptr (b := 1) (off := 0) rfl Try.underlying32 rfl sz3 (of_decide_eq_true rfl) rfl) ?_
      refine q_step 1 rfl (opS_load_box (b := 1) (off := 1) (cs := [(.d (.v (.int .u8 0))), (.d (.v (.int .i64 a))), (.d (.v (.int .i64 b)))]) (p := (.d (.v (.int .i64 a)))) rfl Try.underlying3 rfl rfl rfl rfl) ?_
      refine q_step 1 rfl (o_buildSlice (sz := 1) (es := [([(.v (.int .i64 a))] : List D)]) rfl Try.underlying28 ti3 (of_decide_eq_true rfl) (of_decide_eq_true rfl) rfl rfl rfl) ?_
      refine q_step 1 rfl (o_assign (p := (.d (.v (.int .i64 (((k : Nat) : Int) + 1))))) rfl rfl) ?_
      refine q_step 1 rfl (o_assign (p := (.ms 0 0 1 s.length)) rfl rfl) ?_
      refine q_step 1 rfl (o_assign (p := (.d (.sl 1 true [([(.v (.int .i64 a))] : List D)]))) rfl rfl) ?_
      refine q_step 1 rfl (o_assign (p := (.d (.v (.bool false)))) rfl rfl) ?_
      refine q_nil ?_
      refine pw_wk (Wk.freeze_row (f := eU) (xs := s) (b := 0) (sz := 1) (n := 106) (l := [(6, (.d (.v (.int .i64 (((k : Nat) : Int) + 1))))), (7, (.d (.sl 1 false (s.map eU)))), (8, (.d (.sl 1 true [([(.v (.int .i64 a))] : List D)]))), (9, (.d (.v (.bool false))))]) (S' := ⟨[none, some [(.d (.v (.int .u8 0))), (.d (.v (.int .i64 a))), (.d (.v (.int .i64 b)))]], []⟩) (by rw [hb0]; decide) rfl rfl (fun _ => rfl) (nobB_self (nobB_cons rfl rfl)) (.keep .rfl' rfl (.row' rfl (by simp) (.keep .rfl' rfl (.keep .rfl' rfl .nil)))) rfl) ?_
      refine pw_ret ?_
      exact ⟨.inr rfl, rfl, rfl, rfl, ⟨_, (.cons _ _ _ _ (.tmp (of_decide_eq_true rfl) (PVle.of_canon (p := (.d (.v (.int .i64 (((k : Nat) : Int) + 1))))) (by rw [st0 hk ho]; first | rfl | (simp only [PV.canon]; first | rfl | (split <;> first | rfl | (simp; done) | (exfalso; omega)))))) (.cons _ _ _ _ (.tmp (of_decide_eq_true rfl) (PVle.of_canon (p := (.d (.sl 1 false (s.map eU)))) (by rw [st0 hk ho]; first | rfl | (simp only [PV.canon]; first | rfl | (split <;> first | rfl | (simp; done) | (exfalso; omega)))))) (.cons _ _ _ _ (.tmp (of_decide_eq_true rfl) (PVle.of_canon (p := (.d (.sl 1 true [([(.v (.int .i64 a))] : List D)]))) (by rw [st0 hk ho]; first | rfl | (simp only [PV.canon]; first | rfl | (split <;> first | rfl | (simp; done) | (exfalso; omega)))))) (.cons _ _ _ _ (.tmp (of_decide_eq_true rfl) (PVle.of_canon (p := (.d (.v (.bool false)))) (by rw [st0 hk ho]; first | rfl | (simp only [PV.canon]; first | rfl | (split <;> first | rfl | (simp; done) | (exfalso; omega)))))) .nil)))), rfl⟩⟩
    ·
      refine pw_region ?_
      refine pwl_step 1 rfl (opS_field_ptr (b := 1) (off := 0) rfl Try.underlying32 rfl sz3 (of_decide_eq_true rfl) rfl) ?_
      refine pwl_step 1 rfl (opS_load_box (b := 1) (off := 2) (cs := [(.d (.v (.int .u8 0))), (.d (.v (.int .i64 a))), (.d (.v (.int .i64 b)))]) (p := (.d (.v (.int .i64 b)))) rfl Try.underlying3 rfl rfl rfl rfl) ?_
      refine pwl_step 1 rfl (opS_bin (k := .i64) (m := b) (n := 0) rfl rfl rfl (ib_ge (decide_eq_false hc3))) ?_
      refine pwl_step 1 rfl (o_move (p := (.d (.v (.bool false)))) rfl rfl) ?_
      refine pwl_step_no rfl rfl ?_
      refine pwl_step_no rfl rfl ?_
      refine pwl_step_no rfl rfl ?_
      refine pwl_step_no rfl rfl ?_
      refine pwl_step_no rfl rfl ?_
      refine pwl_step 1 rfl (o_pick_f (p := (.d (.v (.bool false)))) rfl rfl rfl) ?_
      refine pwl_step 1 rfl (o_assign (p := (.d (.v (.bool false)))) rfl rfl) ?_
      refine pwl_nil ?_
      refine pw_seq ?_
      refine pw_seq ?_
      refine pw_region ?_
      refine pwl_step 1 rfl (opS_field_ptr (b := 1) (off := 0) rfl Try.underlying32 rfl sz5 (of_decide_eq_true rfl) rfl) ?_
      refine pwl_step 1 rfl (opS_load_box (b := 1) (off := 0) (cs := [(.d (.v (.int .u8 0))), (.d (.v (.int .i64 a))), (.d (.v (.int .i64 b)))]) (p := (.d (.v (.int .u8 0)))) rfl Try.underlying5 rfl rfl rfl rfl) ?_
      refine pwl_nil ?_
      refine pw_block ?_
      refine pw_seq ?_
      refine pw_region ?_
      refine pwl_step 1 rfl (opS_bin (k := .u8) (m := 0) (n := 0) rfl rfl rfl (ib_eq (c := true) rfl)) ?_
      refine pwl_step 1 rfl (o_assign (p := (.d (.v (.bool true)))) rfl rfl) ?_
      refine pwl_nil ?_
      refine pw_cond (b := true) rfl (fun _ => ?_) (fun h => by cases h)
      refine pw_seq ?_
      refine pw_wk (Wk.ofL (n := 106) (l := [(1, (.d (.v (.int .i64 ((k : Nat) : Int))))), (6, (.d (.v (.int .i64 0)))), (7, (.d (.sl 1 true []))), (8, (.d (.sl 1 true []))), (9, (.d (.v (.bool false)))), (10, (.ms 0 0 1 s.length)), (11, (.ptr 1 0))]) (S := ⟨[some (row eU s), some [(.d (.v (.int .u8 0))), (.d (.v (.int .i64 a))), (.d (.v (.int .i64 b)))]], []⟩) rfl rfl (.cons .rfl' (.cons .rfl' (.cons .rfl' (.cons .rfl' (.cons .rfl' (.cons .rfl' (.cons .rfl' .nil)))))))) ?_
      refine pw_quiet Trymixed (by kernel_rfl) ?_
      refine q_step 1 rfl (o_move (p := (.d (.v (.int .i64 ((k : Nat) : Int))))) rfl rfl) ?_
      refine q_step 1 rfl (opS_bin (k := .i64) (m := ((k : Nat) : Int)) (n := 1) rfl rfl rfl (ib_add (by omega) (by omega))) ?_
      refine q_step 1 rfl (o_move (p := (.ms 0 0 1 s.length)) rfl rfl) ?_
      refine q_step 1 rfl (opS_field_ptr (b := 1) (off := 0) rfl Try.underlying32 rfl sz3 (of_decide_eq_true rfl) rfl) ?_
      refine q_step 1 rfl (opS_load_box (b := 1) (off := 1) (cs := [(.d (.v (.int .u8 0))), (.d (.v (.int .i64 a))), (.d (.v (.int .i64 b)))]) (p := (.d (.v (.int .i64 a)))) rfl Try.underlying3 rfl rfl rfl rfl) ?_
      refine q_step 1 rfl (o_buildSlice (sz := 1) (es := [([(.v (.int .i64 a))] : List D)]) rfl Try.underlying28 ti3 (of_decide_eq_true rfl) (of_decide_eq_true rfl) rfl rfl rfl) ?_
      refine q_step 1 rfl (o_assign (p := (.d (.v (.int .i64 (((k : Nat) : Int) + 1))))) rfl rfl) ?_
      refine q_step 1 rfl (o_assign (p := (.ms 0 0 1 s.length)) rfl rfl) ?_
      refine q_step 1 rfl (o_assign (p := (.d (.sl 1 true [([(.v (.int .i64 a))] : List D)]))) rfl rfl) ?_
      refine q_step 1 rfl (o_assign (p := (.d (.v (.bool false)))) rfl rfl) ?_
      refine q_nil ?_
      refine pw_wk (Wk.freeze_row (f := eU) (xs := s) (b := 0) (sz := 1) (n := 106) (l := [(6, (.d (.v (.int .i64 (((k : Nat) : Int) + 1))))), (7, (.d (.sl 1 false (s.map eU)))), (8, (.d (.sl 1 true [([(.v (.int .i64 a))] : List D)]))), (9, (.d (.v (.bool false))))]) (S' := ⟨[none, some [(.d (.v (.int .u8 0))), (.d (.v (.int .i64 a))), (.d (.v (.int .i64 b)))]], []⟩) (by rw [hb0]; decide) rfl rfl (fun _ => rfl) (nobB_self (nobB_cons rfl rfl)) (.keep .rfl' rfl (.row' rfl (by simp) (.keep .rfl' rfl (.keep .rfl' rfl .nil)))) rfl) ?_
      refine pw_ret ?_
      exact ⟨.inr rfl, rfl, rfl, rfl, ⟨_, (.cons _ _ _ _ (.tmp (of_decide_eq_true rfl) (PVle.of_canon (p := (.d (.v (.int .i64 (((k : Nat) : Int) + 1))))) (by rw [st0 hk ho]; first | rfl | (simp only [PV.canon]; first | rfl | (split <;> first | rfl | (simp; done) | (exfalso; omega)))))) (.cons _ _ _ _ (.tmp (of_decide_eq_true rfl) (PVle.of_canon (p := (.d (.sl 1 false (s.map eU)))) (by rw [st0 hk ho]; first | rfl | (simp only [PV.canon]; first | rfl | (split <;> first | rfl | (simp; done) | (exfalso; omega)))))) (.cons _ _ _ _ (.tmp (of_decide_eq_true rfl) (PVle.of_canon (p := (.d (.sl 1 true [([(.v (.int .i64 a))] : List D)]))) (by rw [st0 hk ho]; first | rfl | (simp only [PV.canon]; first | rfl | (split <;> first | rfl | (simp; done) | (exfalso; omega)))))) (.cons _ _ _ _ (.tmp (of_decide_eq_true rfl) (PVle.of_canon (p := (.d (.v (.bool false)))) (by rw [st0 hk ho]; first | rfl | (simp only [PV.canon]; first | rfl | (split <;> first | rfl | (simp; done) | (exfalso; omega)))))) .nil)))), rfl⟩⟩

set_option maxRecDepth 20000 in
theorem rstep1 (ops : List FOp) (s : List Int) (k : Nat) (a b : Int) (hs : s.length ≤ 1000) (hops : ops.length ≤ 1000) (hk : k < ops.length) (hb : 0 ≤ b ∧ b ≤ 100) (ho : ops.getD k default = ⟨1, a, b⟩) : PF Try.prog 20 [(.sl 3 false (ops.map eF)), (.v (.int .i64 ((k : Nat) : Int))), (.sl 1 false (s.map eU))] (stepPV (step ops k s)) := by
  refine pc_intro Try.func20 rfl (of_decide_eq_true rfl) (fun g0 w0 hb0 ht0 => ?_)
  have hf0 : ¬ (((k : Nat) : Int) < 0) := by omega
  have hf1 : ¬ ((((ops.length : Nat)) : Int) ≤ ((k : Nat) : Int)) := by omega
  refine pw_seq ?_
  refine pw_wk (Wk.ofL (n := 106) (l := [(0, (.d (.sl 3 false (ops.map eF)))), (1, (.d (.v (.int .i64 ((k : Nat) : Int))))), (2, (.d (.sl 1 false (s.map eU))))]) (S := ⟨[], []⟩) rfl rfl (.cons .rfl' (.cons .rfl' (.cons .rfl' .nil)))) ?_
  refine pw_region ?_
  refine pwl_step 1 rfl (o_assign (p := (.d (.v (.int .i64 0)))) rfl rfl) ?_
  refine pwl_step 1 rfl (o_assign (p := (.d (.sl 1 true []))) rfl rfl) ?_
  refine pwl_step 1 rfl (o_assign (p := (.d (.sl 1 true []))) rfl rfl) ?_
  refine pwl_step 1 rfl (o_assign (p := (.d (.v (.bool false)))) rfl rfl) ?_
  refine pwl_nil ?_
  refine pw_seq ?_
  refine pw_wk (Wk.ofL (n := 106) (l := [(0, (.d (.sl 3 false (ops.map eF)))), (1, (.d (.v (.int .i64 ((k : Nat) : Int))))), (2, (.d (.sl 1 false (s.map eU)))), (6, (.d (.v (.int .i64 0)))), (7, (.d (.sl 1 true []))), (8, (.d (.sl 1 true []))), (9, (.d (.v (.bool false))))]) (S := ⟨[], []⟩) rfl rfl (.cons .rfl' (.cons .rfl' (.cons .rfl' (.cons .rfl' (.cons .rfl' (.cons .rfl' (.cons .rfl' .nil)))))))) ?_
  refine pw_region ?_
  refine pwl_step 1 rfl (o_buildSlice (sz := 1) (es := []) rfl Try.underlying23 ti39 (of_decide_eq_true rfl) (of_decide_eq_true rfl) rfl rfl rfl) ?_
  refine pwl_step 1 rfl (o_move (p := (.d (.sl 1 false (s.map eU)))) rfl rfl) ?_
  refine pwl_step 1 rfl (o_append_row (xs := s) (f := eU) (sz := 1) rfl Try.underlying23 ti39 (of_decide_eq_true rfl) rfl rfl (by omega) (by omega)) ?_
  refine pwl_step 1 rfl (o_assign (p := (.ms 0 0 1 s.length)) rfl rfl) ?_
  refine pwl_nil ?_
  refine pw_seq ?_
  refine pw_seq ?_
  refine pw_wk (Wk.ofL (n := 106) (l := [(0, (.d (.sl 3 false (ops.map eF)))), (1, (.d (.v (.int .i64 ((k : Nat) : Int))))), (6, (.d (.v (.int .i64 0)))), (7, (.d (.sl 1 true []))), (8, (.d (.sl 1 true []))), (9, (.d (.v (.bool false)))), (10, (.ms 0 0 1 s.length))]) (S := ⟨[some (row eU s)], []⟩) rfl rfl (.cons .rfl' (.cons .rfl' (.cons .rfl' (.cons .rfl' (.cons .rfl' (.cons .rfl' (.cons .rfl' .nil)))))))) ?_
  refine pw_region ?_
  refine pwl_step 1 rfl (o_move (p := (.d (.v (.int .i64 ((k : Nat) : Int))))) rfl rfl) ?_
  refine pwl_step 1 rfl (opS_bin (k := .i64) (m := ((k : Nat) : Int)) (n := 0) rfl rfl rfl (ib_lt (decide_eq_false hf0))) ?_
  refine pwl_step 1 rfl (o_move (p := (.d (.v (.bool false)))) rfl rfl) ?_
  refine pwl_step_yes 1 rfl rfl (o_move (p := (.d (.v (.int .i64 ((k : Nat) : Int))))) rfl rfl) ?_
  refine pwl_step_yes 1 rfl rfl (o_move (p := (.d (.sl 3 false (ops.map eF)))) rfl rfl) ?_
  refine pwl_step_yes 1 rfl rfl (o_len (sz := 3) (es := (ops.map eF)) (n := ops.length) rfl Try.underlying22 rfl (by simp)) ?_
  refine pwl_step_yes 1 rfl rfl (opS_bin (k := .i64) (m := ((k : Nat) : Int)) (n := (((ops.length : Nat)) : Int)) rfl rfl rfl (ib_ge (decide_eq_false hf1))) ?_
  refine pwl_step 1 rfl (o_pick_f (p := (.d (.v (.bool false)))) rfl rfl rfl) ?_
  refine pwl_nil ?_
  refine pw_cond (b := false) rfl (fun h => by cases h) (fun _ => ?_)
  refine pw_skip ?_
  refine pw_seq ?_
  refine pw_wk (Wk.ofL (n := 106) (l := [(0, (.d (.sl 3 false (ops.map eF)))), (1, (.d (.v (.int .i64 ((k : Nat) : Int))))), (6, (.d (.v (.int .i64 0)))), (7, (.d (.sl 1 true []))), (8, (.d (.sl 1 true []))), (9, (.d (.v (.bool false)))), (10, (.ms 0 0 1 s.length))]) (S := ⟨[some (row eU s)], []⟩) rfl rfl (.cons .rfl' (.cons .rfl' (.cons .rfl' (.cons .rfl' (.cons .rfl' (.cons .rfl' (.cons .rfl' .nil)))))))) ?_
  refine pw_region ?_
  refine pwl_step 1 rfl (o_move (p := (.d (.sl 3 false (ops.map eF)))) rfl rfl) ?_
  refine pwl_step 1 rfl (o_move (p := (.d (.v (.int .i64 ((k : Nat) : Int))))) rfl rfl) ?_
  refine pwl_step 1 rfl (opS_index (sz := 3) (es := (ops.map eF)) (k := .i64) (n := ((k : Nat) : Int)) (e := [(.v (.int .u8 1)), (.v (.int .i64 a)), (.v (.int .i64 b))]) rfl Try.underlying22 sz32 rfl rfl (by omega) (map_get_eq (by omega) ho)) ?_
  refine pwl_step 1 rfl (opS_load_rp_agg (cs := [(.v (.int .u8 1)), (.v (.int .i64 a)), (.v (.int .i64 b))]) rfl Try.underlying32 rfl sz32 rfl (of_decide_eq_true rfl)) ?_
  refine pwl_step 1 rfl (o_alloc rfl ti32 zs32) ?_
  refine pwl_step 1 rfl (opS_store (b := 1) (off := 0) (cs := [(.d (.v (.int .u8 0))), (.d (.v (.int .i64 0))), (.d (.v (.int .i64 0)))]) (ps := [(.d (.v (.int .u8 1))), (.d (.v (.int .i64 a))), (.d (.v (.int .i64 b)))]) rfl sz32 rfl rfl rfl rfl (of_decide_eq_true rfl) (List.cons_ne_nil _ _)) ?_
  refine pwl_nil ?_
  refine pw_seq ?_
  refine pw_wk (Wk.ofL (n := 106) (l := [(1, (.d (.v (.int .i64 ((k : Nat) : Int))))), (6, (.d (.v (.int .i64 0)))), (7, (.d (.sl 1 true []))), (8, (.d (.sl 1 true []))), (9, (.d (.v (.bool false)))), (10, (.ms 0 0 1 s.length)), (11, (.ptr 1 0))]) (S := ⟨[some (row eU s), some [(.d (.v (.int .u8 1))), (.d (.v (.int .i64 a))), (.d (.v (.int .i64 b)))]], []⟩) rfl rfl (.cons .rfl' (.cons .rfl' (.cons .rfl' (.cons .rfl' (.cons .rfl' (.cons .rfl' (.cons .rfl' .nil)))))))) ?_
  by_cases hc1 : 0 ≤ a
  ·
    refine pw_region ?_
    refine pwl_step 1 rfl (opS_field_ptr (b := 1) (off := 0) rfl Try.underlying32 rfl sz3 (of_decide_eq_true rfl) rfl) ?_
    refine pwl_step 1 rfl (opS_load_box (b := 1) (off := 1) (cs := [(.d (.v (.int .u8 1))), (.d (.v (.int .i64 a))), (.d (.v (.int .i64 b)))]) (p := (.d (.v (.int .i64 a)))) rfl Try.underlying3 rfl rfl rfl rfl) ?_
    refine pwl_step 1 rfl (opS_bin (k := .i64) (m := a) (n := 0) rfl rfl rfl (ib_ge (decide_eq_true hc1))) ?_
    refine pwl_step 1 rfl (o_move (p := (.d (.v (.bool true)))) rfl rfl) ?_
    refine pwl_step_yes 1 rfl rfl (opS_field_ptr (b := 1) (off := 0) rfl Try.underlying32 rfl sz3 (of_decide_eq_true rfl) rfl) ?_
    refine pwl_step_yes 1 rfl rfl (opS_load_box (b := 1) (off := 1) (cs := [(.d (.v (.int .u8 1))), (.d (.v (.int .i64 a))), (.d (.v (.int .i64 b)))]) (p := (.d (.v (.int .i64 a)))) rfl Try.underlying3 rfl rfl rfl rfl) ?_
    refine pwl_step_yes 1 rfl rfl (o_move (p := (.ms 0 0 1 s.length)) rfl rfl) ?_
    refine pwl_step_yes 1 rfl rfl (o_len_ms (b := 0) (off := 0) (sz := 1) (n := s.length) rfl Try.underlying23 rfl) ?_
    refine pwl_step_yes 1 rfl rfl (opS_bin (k := .i64) (m := a) (n := (((s.length : Nat)) : Int)) rfl rfl rfl (ib_lt rfl)) ?_
    refine pwl_step 1 rfl (o_pick_t (p := (.d (.v (.bool (decide (a < (((s.length : Nat)) : Int))))))) rfl rfl rfl) ?_
    refine pwl_step 1 rfl (o_assign (p := (.d (.v (.bool (decide (a < (((s.length : Nat)) : Int))))))) rfl rfl) ?_
    refine pwl_nil ?_
    refine pw_seq ?_
    refine pw_wk (Wk.ofL (n := 106) (l := [(1, (.d (.v (.int .i64 ((k : Nat) : Int))))), (6, (.d (.v (.int .i64 0)))), (7, (.d (.sl 1 true []))), (8, (.d (.sl 1 true []))), (9, (.d (.v (.bool false)))), (10, (.ms 0 0 1 s.length)), (11, (.ptr 1 0)), (12, (.d (.v (.bool (decide (a < (((s.length : Nat)) : Int)))))))]) (S := ⟨[some (row eU s), some [(.d (.v (.int .u8 1))), (.d (.v (.int .i64 a))), (.d (.v (.int .i64 b)))]], []⟩) rfl rfl (.cons .rfl' (.cons .rfl' (.cons .rfl' (.cons .rfl' (.cons .rfl' (.cons .rfl' (.cons .rfl' (.cons .rfl' .nil))))))))) ?_
    by_cases hc2 : 0 ≤ b
    ·
      refine pw_region ?_
      refine pwl_step 1 rfl (opS_field_ptr (b := 1) (off := 0) rfl Try.underlying32 rfl sz3 (of_decide_eq_true rfl) rfl) ?_
      refine pwl_step 1 rfl (opS_load_box (b := 1) (off := 2) (cs := [(.d (.v (.int .u8 1))), (.d (.v (.int .i64 a))), (.d (.v (.int .i64 b)))]) (p := (.d (.v (.int .i64 b)))) rfl Try.underlying3 rfl rfl rfl rfl) ?_
      refine pwl_step 1 rfl (opS_bin (k := .i64) (m := b) (n := 0) rfl rfl rfl (ib_ge (decide_eq_true hc2))) ?_
      refine pwl_step 1 rfl (o_move (p := (.d (.v (.bool true)))) rfl rfl) ?_
      refine pwl_step_yes 1 rfl rfl (opS_field_ptr (b := 1) (off := 0) rfl Try.underlying32 rfl sz3 (of_decide_eq_true rfl) rfl) ?_
      refine pwl_step_yes 1 rfl rfl (opS_load_box (b := 1) (off := 2) (cs := [(.d (.v (.int .u8 1))), (.d (.v (.int .i64 a))), (.d (.v (.int .i64 b)))]) (p := (.d (.v (.int .i64 b)))) rfl Try.underlying3 rfl rfl rfl rfl) ?_
      refine pwl_step_yes 1 rfl rfl (o_move (p := (.ms 0 0 1 s.length)) rfl rfl) ?_
      refine pwl_step_yes 1 rfl rfl (o_len_ms (b := 0) (off := 0) (sz := 1) (n := s.length) rfl Try.underlying23 rfl) ?_
      refine pwl_step_yes 1 rfl rfl (opS_bin (k := .i64) (m := b) (n := (((s.length : Nat)) : Int)) rfl rfl rfl (ib_lt rfl)) ?_
      refine pwl_step 1 rfl (o_pick_t (p := (.d (.v (.bool (decide (b < (((s.length : Nat)) : Int))))))) rfl rfl rfl) ?_
      refine pwl_step 1 rfl (o_assign (p := (.d (.v (.bool (decide (b < (((s.length : Nat)) : Int))))))) rfl rfl) ?_
      refine pwl_nil ?_
      refine pw_seq ?_
      refine pw_seq ?_
      refine pw_region ?_
      refine pwl_step 1 rfl (opS_field_ptr (b := 1) (off := 0) rfl Try.underlying32 rfl sz5 (of_decide_eq_true rfl) rfl) ?_
      refine pwl_step 1 rfl (opS_load_box (b := 1) (off := 0) (cs := [(.d (.v (.int .u8 1))), (.d (.v (.int .i64 a))), (.d (.v (.int .i64 b)))]) (p := (.d (.v (.int .u8 1)))) rfl Try.underlying5 rfl rfl rfl rfl) ?_
      refine pwl_nil ?_
      refine pw_block ?_
      refine pw_seq ?_
      refine pw_region ?_
      refine pwl_step 1 rfl (opS_bin (k := .u8) (m := 1) (n := 0) rfl rfl rfl (ib_eq (c := false) rfl)) ?_
      refine pwl_step 1 rfl (o_assign (p := (.d (.v (.bool false)))) rfl rfl) ?_
      refine pwl_nil ?_
      refine pw_cond (b := false) rfl (fun h => by cases h) (fun _ => ?_)
      refine pw_seq ?_
      refine pw_region ?_
      refine pwl_step 1 rfl (opS_bin (k := .u8) (m := 1) (n := 1) rfl rfl rfl (ib_eq (c := true) rfl)) ?_
      refine pwl_step 1 rfl (o_assign (p := (.d (.v (.bool true)))) rfl rfl) ?_
      refine pwl_nil ?_
      refine pw_cond (b := true) rfl (fun _ => ?_) (fun h => by cases h)
      refine pw_seq ?_
      refine pw_region ?_
      refine pwl_step 1 rfl (o_move (p := (.d (.v (.bool (decide (a < (((s.length : Nat)) : Int))))))) rfl rfl) ?_
      refine pwl_nil ?_
      refine pw_cond (b := decide (a < (((s.length : Nat)) : Int))) rfl (fun hb3 => ?_) (fun hb3 => ?_)
      ·
        replace hb3 := of_decide_eq_true hb3
        refine pw_wk (Wk.ofL (n := 106) (l := [(1, (.d (.v (.int .i64 ((k : Nat) : Int))))), (6, (.d (.v (.int .i64 0)))), (7, (.d (.sl 1 true []))), (8, (.d (.sl 1 true []))), (9, (.d (.v (.bool false)))), (10, (.ms 0 0 1 s.length)), (11, (.ptr 1 0))]) (S := ⟨[some (row eU s), some [(.d (.v (.int .u8 1))), (.d (.v (.int .i64 a))), (.d (.v (.int .i64 b)))]], []⟩) rfl rfl (.cons .rfl' (.cons .rfl' (.cons .rfl' (.cons .rfl' (.cons .rfl' (.cons .rfl' (.cons .rfl' .nil)))))))) ?_
        refine pw_region ?_
        refine pwl_step 1 rfl (o_move (p := (.ms 0 0 1 s.length)) rfl rfl) ?_
        refine pwl_step 1 rfl (opS_field_ptr (b := 1) (off := 0) rfl Try.underlying32 rfl sz3 (of_decide_eq_true rfl) rfl) ?_
        refine pwl_step 1 rfl (opS_load_box (b := 1) (off := 1) (cs := [(.d (.v (.int .u8 1))), (.d (.v (.int .i64 a))), (.d (.v (.int .i64 b)))]) (p := (.d (.v (.int .i64 a)))) rfl Try.underlying3 rfl rfl rfl rfl) ?_
        refine pwl_step 1 rfl (o_index_row (b := 0) (sz := 1) (n := s.length) (j := a.toNat) (k := .i64) (i := a) rfl Try.underlying23 sz39 rfl rfl (by omega) (by omega)) ?_
        refine pwl_step 1 rfl (o_store_row (f := eU) (xs := s) (b := 0) (n := 1) (m := 1) (i := a.toNat) (k := 0) (x' := 0) (ps := [(.d (.v (.int .u64 0)))]) (ds := [(.v (.int .u64 0))]) rfl sz39 rfl rfl rfl rfl rfl (fun _ => rfl) (by omega) (of_decide_eq_true rfl) (of_decide_eq_true rfl) rfl) ?_
        refine pwl_nil ?_
        refine pw_seq ?_
        refine pw_wk (Wk.ofL (n := 106) (l := [(1, (.d (.v (.int .i64 ((k : Nat) : Int))))), (6, (.d (.v (.int .i64 0)))), (7, (.d (.sl 1 true []))), (8, (.d (.sl 1 true []))), (9, (.d (.v (.bool false)))), (10, (.ms 0 0 1 s.length)), (11, (.ptr 1 0))]) (S := ⟨[some (row eU (s.set a.toNat 0)), some [(.d (.v (.int .u8 1))), (.d (.v (.int .i64 a))), (.d (.v (.int .i64 b)))]], []⟩) rfl rfl (.cons .rfl' (.cons .rfl' (.cons .rfl' (.cons .rfl' (.cons .rfl' (.cons .rfl' (.cons .rfl' .nil)))))))) ?_
        refine pw_quiet Trymixed (by kernel_rfl) ?_
        refine q_step 1 rfl (o_move (p := (.d (.v (.int .i64 ((k : Nat) : Int))))) rfl rfl) ?_
        refine q_step 1 rfl (opS_bin (k := .i64) (m := ((k : Nat) : Int)) (n := 1) rfl rfl rfl (ib_add (by omega) (by omega))) ?_
        refine q_step 1 rfl (o_move (p := (.ms 0 0 1 s.length)) rfl rfl) ?_
        refine q_step 1 rfl (opS_field_ptr (b := 1) (off := 0) rfl Try.underlying32 rfl sz5 (of_decide_eq_true rfl) rfl) ?_
        refine q_step 1 rfl (opS_load_box (b := 1) (off := 0) (cs := [(.d (.v (.int .u8 1))), (.d (.v (.int .i64 a))), (.d (.v (.int .i64 b)))]) (p := (.d (.v (.int .u8 1)))) rfl Try.underlying5 rfl rfl rfl rfl) ?_
        refine q_step 1 rfl (opS_bin (k := .u8) (m := 1) (n := 4) rfl rfl rfl (ib_eq (c := false) rfl)) ?_
        refine q_step 1 rfl (o_assign (p := (.d (.v (.int .i64 (((k : Nat) : Int) + 1))))) rfl rfl) ?_
        refine q_step 1 rfl (o_assign (p := (.ms 0 0 1 s.length)) rfl rfl) ?_
        refine q_step 1 rfl (o_assign (p := (.d (.sl 1 true []))) rfl rfl) ?_
        refine q_step 1 rfl (o_assign (p := (.d (.v (.bool false)))) rfl rfl) ?_
        refine q_nil ?_
        refine pw_wk (Wk.freeze_row (f := eU) (xs := (s.set a.toNat 0)) (b := 0) (sz := 1) (n := 106) (l := [(6, (.d (.v (.int .i64 (((k : Nat) : Int) + 1))))), (7, (.d (.sl 1 false ((s.set a.toNat 0).map eU)))), (8, (.d (.sl 1 true []))), (9, (.d (.v (.bool false))))]) (S' := ⟨[none, some [(.d (.v (.int .u8 1))), (.d (.v (.int .i64 a))), (.d (.v (.int .i64 b)))]], []⟩) (by rw [hb0]; decide) rfl rfl (fun _ => rfl) (nobB_self (nobB_cons rfl rfl)) (.keep .rfl' rfl (.row' rfl (by simp) (.keep .rfl' rfl (.keep .rfl' rfl .nil)))) rfl) ?_
        refine pw_ret ?_
        exact ⟨.inr rfl, rfl, rfl, rfl, ⟨_, (.cons _ _ _ _ (.tmp (of_decide_eq_true rfl) (PVle.of_canon (p := (.d (.v (.int .i64 (((k : Nat) : Int) + 1))))) (by rw [st1 hk ho]; first | rfl | (simp only [PV.canon, clr]; first | rfl | (split <;> first | rfl | (simp; done) | (exfalso; omega)))))) (.cons _ _ _ _ (.tmp (of_decide_eq_true rfl) (PVle.of_canon (p := (.d (.sl 1 false ((s.set a.toNat 0).map eU)))) (by rw [st1 hk ho]; first | rfl | (simp only [PV.canon, clr]; first | rfl | (split <;> first | rfl | (simp; done) | (exfalso; omega)))))) (.cons _ _ _ _ (.tmp (of_decide_eq_true rfl) (PVle.of_canon (p := (.d (.sl 1 true []))) (by rw [st1 hk ho]; first | rfl | (simp only [PV.canon, clr]; first | rfl | (split <;> first | rfl | (simp; done) | (exfalso; omega)))))) (.cons _ _ _ _ (.tmp (of_decide_eq_true rfl) (PVle.of_canon (p := (.d (.v (.bool false)))) (by rw [st1 hk ho]; first | rfl | (simp only [PV.canon, clr]; first | rfl | (split <;> first | rfl | (simp; done) | (exfalso; omega)))))) .nil)))), rfl⟩⟩
      ·
        replace hb3 := of_decide_eq_false hb3
        refine pw_skip ?_
        refine pw_seq ?_
        refine pw_wk (Wk.ofL (n := 106) (l := [(1, (.d (.v (.int .i64 ((k : Nat) : Int))))), (6, (.d (.v (.int .i64 0)))), (7, (.d (.sl 1 true []))), (8, (.d (.sl 1 true []))), (9, (.d (.v (.bool false)))), (10, (.ms 0 0 1 s.length)), (11, (.ptr 1 0))]) (S := ⟨[some (row eU s), some [(.d (.v (.int .u8 1))), (.d (.v (.int .i64 a))), (.d (.v (.int .i64 b)))]], []⟩) rfl rfl (.cons .rfl' (.cons .rfl' (.cons .rfl' (.cons .rfl' (.cons .rfl' (.cons .rfl' (.cons .rfl' .nil)))))))) ?_
        refine pw_quiet Trymixed (by kernel_rfl) ?_
        refine q_step 1 rfl (o_move (p := (.d (.v (.int .i64 ((k : Nat) : Int))))) rfl rfl) ?_
        refine q_step 1 rfl (opS_bin (k := .i64) (m := ((k : Nat) : Int)) (n := 1) rfl rfl rfl (ib_add (by omega) (by omega))) ?_
        refine q_step 1 rfl (o_move (p := (.ms 0 0 1 s.length)) rfl rfl) ?_
        refine q_step 1 rfl (opS_field_ptr (b := 1) (off := 0) rfl Try.underlying32 rfl sz5 (of_decide_eq_true rfl) rfl) ?_
        refine q_step 1 rfl (opS_load_box (b := 1) (off := 0) (cs := [(.d (.v (.int .u8 1))), (.d (.v (.int .i64 a))), (.d (.v (.int .i64 b)))]) (p := (.d (.v (.int .u8 1)))) rfl Try.underlying5 rfl rfl rfl rfl) ?_
        refine q_step 1 rfl (opS_bin (k := .u8) (m := 1) (n := 4) rfl rfl rfl (ib_eq (c := false) rfl)) ?_
        refine q_step 1 rfl (o_assign (p := (.d (.v (.int .i64 (((k : Nat) : Int) + 1))))) rfl rfl) ?_
        refine q_step 1 rfl (o_assign (p := (.ms 0 0 1 s.length)) rfl rfl) ?_
        refine q_step 1 rfl (o_assign (p := (.d (.sl 1 true []))) rfl rfl) ?_
        refine q_step 1 rfl (o_assign (p := (.d (.v (.bool false)))) rfl rfl) ?_
        refine q_nil ?_
        refine pw_wk (Wk.freeze_row (f := eU) (xs := s) (b := 0) (sz := 1) (n := 106) (l := [(6, (.d (.v (.int .i64 (((k : Nat) : Int) + 1))))), (7, (.d (.sl 1 false (s.map eU)))), (8, (.d (.sl 1 true []))), (9, (.d (.v (.bool false))))]) (S' := ⟨[none, some [(.d (.v (.int .u8 1))), (.d (.v (.int .i64 a))), (.d (.v (.int .i64 b)))]], []⟩) (by rw [hb0]; decide) rfl rfl (fun _ => rfl) (nobB_self (nobB_cons rfl rfl)) (.keep .rfl' rfl (.row' rfl (by simp) (.keep .rfl' rfl (.keep .rfl' rfl .nil)))) rfl) ?_
        refine pw_ret ?_
        exact ⟨.inr rfl, rfl, rfl, rfl, ⟨_, (.cons _ _ _ _ (.tmp (of_decide_eq_true rfl) (PVle.of_canon (p := (.d (.v (.int .i64 (((k : Nat) : Int) + 1))))) (by rw [st1 hk ho]; first | rfl | (simp only [PV.canon, clr]; first | rfl | (split <;> first | rfl | (simp; done) | (exfalso; omega)))))) (.cons _ _ _ _ (.tmp (of_decide_eq_true rfl) (PVle.of_canon (p := (.d (.sl 1 false (s.map eU)))) (by rw [st1 hk ho]; first | rfl | (simp only [PV.canon, clr]; first | rfl | (split <;> first | rfl | (simp; done) | (exfalso; omega)))))) (.cons _ _ _ _ (.tmp (of_decide_eq_true rfl) (PVle.of_canon (p := (.d (.sl 1 true []))) (by rw [st1 hk ho]; first | rfl | (simp only [PV.canon, clr]; first | rfl | (split <;> first | rfl | (simp; done) | (exfalso; omega)))))) (.cons _ _ _ _ (.tmp (of_decide_eq_true rfl) (PVle.of_canon (p := (.d (.v (.bool false)))) (by rw [st1 hk ho]; first | rfl | (simp only [PV.canon, clr]; first | rfl | (split <;> first | rfl | (simp; done) | (exfalso; omega)))))) .nil)))), rfl⟩⟩
    ·
      refine pw_region ?_
      refine pwl_step 1 rfl (opS_field_ptr (b := 1) (off := 0) rfl Try.underlying32 rfl sz3 (of_decide_eq_true rfl) rfl) ?_
      refine pwl_step 1 rfl (opS_load_box (b := 1) (off := 2) (cs := [(.d (.v (.int .u8 1))), (.d (.v (.int .i64 a))), (.d (.v (.int .i64 b)))]) (p := (.d (.v (.int .i64 b)))) rfl Try.underlying3 rfl rfl rfl rfl) ?_
      refine pwl_step 1 rfl (opS_bin (k := .i64) (m := b) (n := 0) rfl rfl rfl (ib_ge (decide_eq_false hc2))) ?_
      refine pwl_step 1 rfl (o_move (p := (.d (.v (.bool false)))) rfl rfl) ?_
      refine pwl_step_no rfl rfl ?_
      refine pwl_step_no rfl rfl ?_
      refine pwl_step_no rfl rfl ?_
      refine pwl_step_no rfl rfl ?_
      refine pwl_step_no rfl rfl ?_
      refine pwl_step 1 rfl (o_pick_f (p := (.d (.v (.bool false)))) rfl rfl rfl) ?_
      refine pwl_step 1 rfl (o_assign (p := (.d (.v (.bool false)))) rfl rfl) ?_
      refine pwl_nil ?_
      refine pw_seq ?_
      refine pw_seq ?_
      refine pw_region ?_
      refine pwl_step 1 rfl (opS_field_ptr (b := 1) (off := 0) rfl Try.underlying32 rfl sz5 (of_decide_eq_true rfl) rfl) ?_
      refine pwl_step 1 rfl (opS_load_box (b := 1) (off := 0) (cs := [(.d (.v (.int .u8 1))), (.d (.v (.int .i64 a))), (.d (.v (.int .i64 b)))]) (p := (.d (.v (.int .u8 1)))) rfl Try.underlying5 rfl rfl rfl rfl) ?_
      refine pwl_nil ?_
      refine pw_block ?_
      refine pw_seq ?_
      refine pw_region ?_
      refine pwl_step 1 rfl (opS_bin (k := .u8) (m := 1) (n := 0) rfl rfl rfl (ib_eq (c := false) rfl)) ?_
      refine pwl_step 1 rfl (o_assign (p := (.d (.v (.bool false)))) rfl rfl) ?_
      refine pwl_nil ?_
      refine pw_cond (b := false) rfl (fun h => by cases h) (fun _ => ?_)
      refine pw_seq ?_
      refine pw_region ?_
      refine pwl_step 1 rfl (opS_bin (k := .u8) (m := 1) (n := 1) rfl rfl rfl (ib_eq (c := true) rfl)) ?_
      refine pwl_step 1 rfl (o_assign (p := (.d (.v (.bool true)))) rfl rfl) ?_
      refine pwl_nil ?_
      refine pw_cond (b := true) rfl (fun _ => ?_) (fun h => by cases h)
      refine pw_seq ?_
      refine pw_region ?_
      refine pwl_step 1 rfl (o_move (p := (.d (.v (.bool (decide (a < (((s.length : Nat)) : Int))))))) rfl rfl) ?_
      refine pwl_nil ?_
      refine pw_cond (b := decide (a < (((s.length : Nat)) : Int))) rfl (fun hb4 => ?_) (fun hb4 => ?_)
      ·
        replace hb4 := of_decide_eq_true hb4
        refine pw_wk (Wk.ofL (n := 106) (l := [(1, (.d (.v (.int .i64 ((k : Nat) : Int))))), (6, (.d (.v (.int .i64 0)))), (7, (.d (.sl 1 true []))), (8, (.d (.sl 1 true []))), (9, (.d (.v (.bool false)))), (10, (.ms 0 0 1 s.length)), (11, (.ptr 1 0))]) (S := ⟨[some (row eU s), some [(.d (.v (.int .u8 1))), (.d (.v (.int .i64 a))), (.d (.v (.int .i64 b)))]], []⟩) rfl rfl (.cons .rfl' (.cons .rfl' (.cons .rfl' (.cons .rfl' (.cons .rfl' (.cons .rfl' (.cons .rfl' .nil)))))))) ?_
        refine pw_region ?_
        refine pwl_step 1 rfl (o_move (p := (.ms 0 0 1 s.length)) rfl rfl) ?_
        refine pwl_step 1 rfl (opS_field_ptr (b := 1) (off := 0) rfl Try.underlying32 rfl sz3 (of_decide_eq_true rfl) rfl) ?_
        refine pwl_step 1 rfl (opS_load_box (b := 1) (off := 1) (cs := [(.d (.v (.int .u8 1))), (.d (.v (.int .i64 a))), (.d (.v (.int .i64 b)))]) (p := (.d (.v (.int .i64 a)))) rfl Try.underlying3 rfl rfl rfl rfl) ?_
        refine pwl_step 1 rfl (o_index_row (b := 0) (sz := 1) (n := s.length) (j := a.toNat) (k := .i64) (i := a) rfl Try.underlying23 sz39 rfl rfl (by omega) (by omega)) ?_
        refine pwl_step 1 rfl (o_store_row (f := eU) (xs := s) (b := 0) (n := 1) (m := 1) (i := a.toNat) (k := 0) (x' := 0) (ps := [(.d (.v (.int .u64 0)))]) (ds := [(.v (.int .u64 0))]) rfl sz39 rfl rfl rfl rfl rfl (fun _ => rfl) (by omega) (of_decide_eq_true rfl) (of_decide_eq_true rfl) rfl) ?_
        refine pwl_nil ?_
        refine pw_seq ?_
        refine pw_wk (Wk.ofL (n := 106) (l := [(1, (.d (.v (.int .i64 ((k : Nat) : Int))))), (6, (.d (.v (.int .i64 0)))), (7, (.d (.sl 1 true []))), (8, (.d (.sl 1 true []))), (9, (.d (.v (.bool false)))), (10, (.ms 0 0 1 s.length)), (11, (.ptr 1 0))]) (S := ⟨[some (row eU (s.set a.toNat 0)), some [(.d (.v (.int .u8 1))), (.d (.v (.int .i64 a))), (.d (.v (.int .i64 b)))]], []⟩) rfl rfl (.cons .rfl' (.cons .rfl' (.cons .rfl' (.cons .rfl' (.cons .rfl' (.cons .rfl' (.cons .rfl' .nil)))))))) ?_
        refine pw_quiet Trymixed (by kernel_rfl) ?_
        refine q_step 1 rfl (o_move (p := (.d (.v (.int .i64 ((k : Nat) : Int))))) rfl rfl) ?_
        refine q_step 1 rfl (opS_bin (k := .i64) (m := ((k : Nat) : Int)) (n := 1) rfl rfl rfl (ib_add (by omega) (by omega))) ?_
        refine q_step 1 rfl (o_move (p := (.ms 0 0 1 s.length)) rfl rfl) ?_
        refine q_step 1 rfl (opS_field_ptr (b := 1) (off := 0) rfl Try.underlying32 rfl sz5 (of_decide_eq_true rfl) rfl) ?_
        refine q_step 1 rfl (opS_load_box (b := 1) (off := 0) (cs := [(.d (.v (.int .u8 1))), (.d (.v (.int .i64 a))), (.d (.v (.int .i64 b)))]) (p := (.d (.v (.int .u8 1)))) rfl Try.underlying5 rfl rfl rfl rfl) ?_
        refine q_step 1 rfl (opS_bin (k := .u8) (m := 1) (n := 4) rfl rfl rfl (ib_eq (c := false) rfl)) ?_
        refine q_step 1 rfl (o_assign (p := (.d (.v (.int .i64 (((k : Nat) : Int) + 1))))) rfl rfl) ?_
        refine q_step 1 rfl (o_assign (p := (.ms 0 0 1 s.length)) rfl rfl) ?_
        refine q_step 1 rfl (o_assign (p := (.d (.sl 1 true []))) rfl rfl) ?_
        refine q_step 1 rfl (o_assign (p := (.d (.v (.bool false)))) rfl rfl) ?_
        refine q_nil ?_
        refine pw_wk (Wk.freeze_row (f := eU) (xs := (s.set a.toNat 0)) (b := 0) (sz := 1) (n := 106) (l := [(6, (.d (.v (.int .i64 (((k : Nat) : Int) + 1))))), (7, (.d (.sl 1 false ((s.set a.toNat 0).map eU)))), (8, (.d (.sl 1 true []))), (9, (.d (.v (.bool false))))]) (S' := ⟨[none, some [(.d (.v (.int .u8 1))), (.d (.v (.int .i64 a))), (.d (.v (.int .i64 b)))]], []⟩) (by rw [hb0]; decide) rfl rfl (fun _ => rfl) (nobB_self (nobB_cons rfl rfl)) (.keep .rfl' rfl (.row' rfl (by simp) (.keep .rfl' rfl (.keep .rfl' rfl .nil)))) rfl) ?_
        refine pw_ret ?_
        exact ⟨.inr rfl, rfl, rfl, rfl, ⟨_, (.cons _ _ _ _ (.tmp (of_decide_eq_true rfl) (PVle.of_canon (p := (.d (.v (.int .i64 (((k : Nat) : Int) + 1))))) (by rw [st1 hk ho]; first | rfl | (simp only [PV.canon, clr]; first | rfl | (split <;> first | rfl | (simp; done) | (exfalso; omega)))))) (.cons _ _ _ _ (.tmp (of_decide_eq_true rfl) (PVle.of_canon (p := (.d (.sl 1 false ((s.set a.toNat 0).map eU)))) (by rw [st1 hk ho]; first | rfl | (simp only [PV.canon, clr]; first | rfl | (split <;> first | rfl | (simp; done) | (exfalso; omega)))))) (.cons _ _ _ _ (.tmp (of_decide_eq_true rfl) (PVle.of_canon (p := (.d (.sl 1 true []))) (by rw [st1 hk ho]; first | rfl | (simp only [PV.canon, clr]; first | rfl | (split <;> first | rfl | (simp; done) | (exfalso; omega)))))) (.cons _ _ _ _ (.tmp (of_decide_eq_true rfl) (PVle.of_canon (p := (.d (.v (.bool false)))) (by rw [st1 hk ho]; first | rfl | (simp only [PV.canon, clr]; first | rfl | (split <;> first | rfl | (simp; done) | (exfalso; omega)))))) .nil)))), rfl⟩⟩
      ·
        replace hb4 := of_decide_eq_false hb4
        refine pw_skip ?_
        refine pw_seq ?_
        refine pw_wk (Wk.ofL (n := 106) (l := [(1, (.d (.v (.int .i64 ((k : Nat) : Int))))), (6, (.d (.v (.int .i64 0)))), (7, (.d (.sl 1 true []))), (8, (.d (.sl 1 true []))), (9, (.d (.v (.bool false)))), (10, (.ms 0 0 1 s.length)), (11, (.ptr 1 0))]) (S := ⟨[some (row eU s), some [(.d (.v (.int .u8 1))), (.d (.v (.int .i64 a))), (.d (.v (.int .i64 b)))]], []⟩) rfl rfl (.cons .rfl' (.cons .rfl' (.cons .rfl' (.cons .rfl' (.cons .rfl' (.cons .rfl' (.cons .rfl' .nil)))))))) ?_
        refine pw_quiet Trymixed (by kernel_rfl) ?_
        refine q_step 1 rfl (o_move (p := (.d (.v (.int .i64 ((k : Nat) : Int))))) rfl rfl) ?_
        refine q_step 1 rfl (opS_bin (k := .i64) (m := ((k : Nat) : Int)) (n := 1) rfl rfl rfl (ib_add (by omega) (by omega))) ?_
        refine q_step 1 rfl (o_move (p := (.ms 0 0 1 s.length)) rfl rfl) ?_
        refine q_step 1 rfl (opS_field_ptr (b := 1) (off := 0) rfl Try.underlying32 rfl sz5 (of_decide_eq_true rfl) rfl) ?_
        refine q_step 1 rfl (opS_load_box (b := 1) (off := 0) (cs := [(.d (.v (.int .u8 1))), (.d (.v (.int .i64 a))), (.d (.v (.int .i64 b)))]) (p := (.d (.v (.int .u8 1)))) rfl Try.underlying5 rfl rfl rfl rfl) ?_
        refine q_step 1 rfl (opS_bin (k := .u8) (m := 1) (n := 4) rfl rfl rfl (ib_eq (c := false) rfl)) ?_
        refine q_step 1 rfl (o_assign (p := (.d (.v (.int .i64 (((k : Nat) : Int) + 1))))) rfl rfl) ?_
        refine q_step 1 rfl (o_assign (p := (.ms 0 0 1 s.length)) rfl rfl) ?_
        refine q_step 1 rfl (o_assign (p := (.d (.sl 1 true []))) rfl rfl) ?_
        refine q_step 1 rfl (o_assign (p := (.d (.v (.bool false)))) rfl rfl) ?_
        refine q_nil ?_
        refine pw_wk (Wk.freeze_row (f := eU) (xs := s) (b := 0) (sz := 1) (n := 106) (l := [(6, (.d (.v (.int .i64 (((k : Nat) : Int) + 1))))), (7, (.d (.sl 1 false (s.map eU)))), (8, (.d (.sl 1 true []))), (9, (.d (.v (.bool false))))]) (S' := ⟨[none, some [(.d (.v (.int .u8 1))), (.d (.v (.int .i64 a))), (.d (.v (.int .i64 b)))]], []⟩) (by rw [hb0]; decide) rfl rfl (fun _ => rfl) (nobB_self (nobB_cons rfl rfl)) (.keep .rfl' rfl (.row' rfl (by simp) (.keep .rfl' rfl (.keep .rfl' rfl .nil)))) rfl) ?_
        refine pw_ret ?_
        exact ⟨.inr rfl, rfl, rfl, rfl, ⟨_, (.cons _ _ _ _ (.tmp (of_decide_eq_true rfl) (PVle.of_canon (p := (.d (.v (.int .i64 (((k : Nat) : Int) + 1))))) (by rw [st1 hk ho]; first | rfl | (simp only [PV.canon, clr]; first | rfl | (split <;> first | rfl | (simp; done) | (exfalso; omega)))))) (.cons _ _ _ _ (.tmp (of_decide_eq_true rfl) (PVle.of_canon (p := (.d (.sl 1 false (s.map eU)))) (by rw [st1 hk ho]; first | rfl | (simp only [PV.canon, clr]; first | rfl | (split <;> first | rfl | (simp; done) | (exfalso; omega)))))) (.cons _ _ _ _ (.tmp (of_decide_eq_true rfl) (PVle.of_canon (p := (.d (.sl 1 true []))) (by rw [st1 hk ho]; first | rfl | (simp only [PV.canon, clr]; first | rfl | (split <;> first | rfl | (simp; done) | (exfalso; omega)))))) (.cons _ _ _ _ (.tmp (of_decide_eq_true rfl) (PVle.of_canon (p := (.d (.v (.bool false)))) (by rw [st1 hk ho]; first | rfl | (simp only [PV.canon, clr]; first | rfl | (split <;> first | rfl | (simp; done) | (exfalso; omega)))))) .nil)))), rfl⟩⟩
  ·
    refine pw_region ?_
    refine pwl_step 1 rfl (opS_field_ptr (b := 1) (off := 0) rfl Try.underlying32 rfl sz3 (of_decide_eq_true rfl) rfl) ?_
    refine pwl_step 1 rfl (opS_load_box (b := 1) (off := 1) (cs := [(.d (.v (.int .u8 1))), (.d (.v (.int .i64 a))), (.d (.v (.int .i64 b)))]) (p := (.d (.v (.int .i64 a)))) rfl Try.underlying3 rfl rfl rfl rfl) ?_
    refine pwl_step 1 rfl (opS_bin (k := .i64) (m := a) (n := 0) rfl rfl rfl (ib_ge (decide_eq_false hc1))) ?_
    refine pwl_step 1 rfl (o_move (p := (.d (.v (.bool false)))) rfl rfl) ?_
    refine pwl_step_no rfl rfl ?_
    refine pwl_step_no rfl rfl ?_
    refine pwl_step_no rfl rfl ?_
    refine pwl_step_no rfl rfl ?_
    refine pwl_step_no rfl rfl ?_
    refine pwl_step 1 rfl (o_pick_f (p := (.d (.v (.bool false)))) rfl rfl rfl) ?_
    refine pwl_step 1 rfl (o_assign (p := (.d (.v (.bool false)))) rfl rfl) ?_
    refine pwl_nil ?_
    refine pw_seq ?_
    refine pw_wk (Wk.ofL (n := 106) (l := [(1, (.d (.v (.int .i64 ((k : Nat) : Int))))), (6, (.d (.v (.int .i64 0)))), (7, (.d (.sl 1 true []))), (8, (.d (.sl 1 true []))), (9, (.d (.v (.bool false)))), (10, (.ms 0 0 1 s.length)), (11, (.ptr 1 0)), (12, (.d (.v (.bool false))))]) (S := ⟨[some (row eU s), some [(.d (.v (.int .u8 1))), (.d (.v (.int .i64 a))), (.d (.v (.int .i64 b)))]], []⟩) rfl rfl (.cons .rfl' (.cons .rfl' (.cons .rfl' (.cons .rfl' (.cons .rfl' (.cons .rfl' (.cons .rfl' (.cons .rfl' .nil))))))))) ?_
    by_cases hc5 : 0 ≤ b
    ·
      refine pw_region ?_
      refine pwl_step 1 rfl (opS_field_ptr (b := 1) (off := 0) rfl Try.underlying32 rfl sz3 (of_decide_eq_true rfl) rfl) ?_
      refine pwl_step 1 rfl (opS_load_box (b := 1) (off := 2) (cs := [(.d (.v (.int .u8 1))), (.d (.v (.int .i64 a))), (.d (.v (.int .i64 b)))]) (p := (.d (.v (.int .i64 b)))) rfl Try.underlying3 rfl rfl rfl rfl) ?_
      refine pwl_step 1 rfl (opS_bin (k := .i64) (m := b) (n := 0) rfl rfl rfl (ib_ge (decide_eq_true hc5))) ?_
      refine pwl_step 1 rfl (o_move (p := (.d (.v (.bool true)))) rfl rfl) ?_
      refine pwl_step_yes 1 rfl rfl (opS_field_ptr (b := 1) (off := 0) rfl Try.underlying32 rfl sz3 (of_decide_eq_true rfl) rfl) ?_
      refine pwl_step_yes 1 rfl rfl (opS_load_box (b := 1) (off := 2) (cs := [(.d (.v (.int .u8 1))), (.d (.v (.int .i64 a))), (.d (.v (.int .i64 b)))]) (p := (.d (.v (.int .i64 b)))) rfl Try.underlying3 rfl rfl rfl rfl) ?_
      refine pwl_step_yes 1 rfl rfl (o_move (p := (.ms 0 0 1 s.length)) rfl rfl) ?_
      refine pwl_step_yes 1 rfl rfl (o_len_ms (b := 0) (off := 0) (sz := 1) (n := s.length) rfl Try.underlying23 rfl) ?_
      refine pwl_step_yes 1 rfl rfl (opS_bin (k := .i64) (m := b) (n := (((s.length : Nat)) : Int)) rfl rfl rfl (ib_lt rfl)) ?_
      refine pwl_step 1 rfl (o_pick_t (p := (.d (.v (.bool (decide (b < (((s.length : Nat)) : Int))))))) rfl rfl rfl) ?_
      refine pwl_step 1 rfl (o_assign (p := (.d (.v (.bool (decide (b < (((s.length : Nat)) : Int))))))) rfl rfl) ?_
      refine pwl_nil ?_
      refine pw_seq ?_
      refine pw_seq ?_
      refine pw_region ?_
      refine pwl_step 1 rfl (opS_field_ptr (b := 1) (off := 0) rfl Try.underlying32 rfl sz5 (of_decide_eq_true rfl) rfl) ?_
      refine pwl_step 1 rfl (opS_load_box (b := 1) (off := 0) (cs := [(.d (.v (.int .u8 1))), (.d (.v (.int .i64 a))), (.d (.v (.int .i64 b)))]) (p := (.d (.v (.int .u8 1)))) rfl Try.underlying5 rfl rfl rfl rfl) ?_
      refine pwl_nil ?_
      refine pw_block ?_
      refine pw_seq ?_
      refine pw_region ?_
      refine pwl_step 1 rfl (opS_bin (k := .u8) (m := 1) (n := 0) rfl rfl rfl (ib_eq (c := false) rfl)) ?_
      refine pwl_step 1 rfl (o_assign (p := (.d (.v (.bool false)))) rfl rfl) ?_
      refine pwl_nil ?_
      refine pw_cond (b := false) rfl (fun h => by cases h) (fun _ => ?_)
      refine pw_seq ?_
      refine pw_region ?_
      refine pwl_step 1 rfl (opS_bin (k := .u8) (m := 1) (n := 1) rfl rfl rfl (ib_eq (c := true) rfl)) ?_
      refine pwl_step 1 rfl (o_assign (p := (.d (.v (.bool true)))) rfl rfl) ?_
      refine pwl_nil ?_
      refine pw_cond (b := true) rfl (fun _ => ?_) (fun h => by cases h)
      refine pw_seq ?_
      refine pw_region ?_
      refine pwl_step 1 rfl (o_move (p := (.d (.v (.bool false)))) rfl rfl) ?_
      refine pwl_nil ?_
      refine pw_cond (b := false) rfl (fun h => by cases h) (fun _ => ?_)
      refine pw_skip ?_
      refine pw_seq ?_
      refine pw_wk (Wk.ofL (n := 106) (l := [(1, (.d (.v (.int .i64 ((k : Nat) : Int))))), (6, (.d (.v (.int .i64 0)))), (7, (.d (.sl 1 true []))), (8, (.d (.sl 1 true []))), (9, (.d (.v (.bool false)))), (10, (.ms 0 0 1 s.length)), (11, (.ptr 1 0))]) (S := ⟨[some (row eU s), some [(.d (.v (.int .u8 1))), (.d (.v (.int .i64 a))), (.d (.v (.int .i64 b)))]], []⟩) rfl rfl (.cons .rfl' (.cons .rfl' (.cons .rfl' (.cons .rfl' (.cons .rfl' (.cons .rfl' (.cons .rfl' .nil)))))))) ?_
      refine pw_quiet Trymixed (by kernel_rfl) ?_
      refine q_step 1 rfl (o_move (p := (.d (.v (.int .i64 ((k : Nat) : Int))))) rfl rfl) ?_
      refine q_step 1 rfl (opS_bin (k := .i64) (m := ((k : Nat) : Int)) (n := 1) rfl rfl rfl (ib_add (by omega) (by omega))) ?_
      refine q_step 1 rfl (o_move (p := (.ms 0 0 1 s.length)) rfl rfl) ?_
      refine q_step 1 rfl (opS_field_ptr (b := 1) (off := 0) rfl Try.underlying32 rfl sz5 (of_decide_eq_true rfl) rfl) ?_
      refine q_step 1 rfl (opS_load_box (b := 1) (off := 0) (cs := [(.d (.v (.int .u8 1))), (.d (.v (.int .i64 a))), (.d (.v (.int .i64 b)))]) (p := (.d (.v (.int .u8 1)))) rfl Try.underlying5 rfl rfl rfl rfl) ?_
      refine q_step 1 rfl (opS_bin (k := .u8) (m := 1) (n := 4) rfl rfl rfl (ib_eq (c := false) rfl)) ?_
      refine q_step 1 rfl (o_assign (p := (.d (.v (.int .i64 (((k : Nat) : Int) + 1))))) rfl rfl) ?_
      refine q_step 1 rfl (o_assign (p := (.ms 0 0 1 s.length)) rfl rfl) ?_
      refine q_step 1 rfl (o_assign (p := (.d (.sl 1 true []))) rfl rfl) ?_
      refine q_step 1 rfl (o_assign (p := (.d (.v (.bool false)))) rfl rfl) ?_
      refine q_nil ?_
      refine pw_wk (Wk.freeze_row (f := eU) (xs := s) (b := 0) (sz := 1) (n := 106) (l := [(6, (.d (.v (.int .i64 (((k : Nat) : Int) + 1))))), (7, (.d (.sl 1 false (s.map eU)))), (8, (.d (.sl 1 true []))), (9, (.d (.v (.bool false))))]) (S' := ⟨[none, some [(.d (.v (.int .u8 1))), (.d (.v (.int .i64 a))), (.d (.v (.int .i64 b)))]], []⟩) (by rw [hb0]; decide) rfl rfl (fun _ => rfl) (nobB_self (nobB_cons rfl rfl)) (.keep .rfl' rfl (.row' rfl (by simp) (.keep .rfl' rfl (.keep .rfl' rfl .nil)))) rfl) ?_
      refine pw_ret ?_
      exact ⟨.inr rfl, rfl, rfl, rfl, ⟨_, (.cons _ _ _ _ (.tmp (of_decide_eq_true rfl) (PVle.of_canon (p := (.d (.v (.int .i64 (((k : Nat) : Int) + 1))))) (by rw [st1 hk ho]; first | rfl | (simp only [PV.canon, clr]; first | rfl | (split <;> first | rfl | (simp; done) | (exfalso; omega)))))) (.cons _ _ _ _ (.tmp (of_decide_eq_true rfl) (PVle.of_canon (p := (.d (.sl 1 false (s.map eU)))) (by rw [st1 hk ho]; first | rfl | (simp only [PV.canon, clr]; first | rfl | (split <;> first | rfl | (simp; done) | (exfalso; omega)))))) (.cons _ _ _ _ (.tmp (of_decide_eq_true rfl) (PVle.of_canon (p := (.d (.sl 1 true []))) (by rw [st1 hk ho]; first | rfl | (simp only [PV.canon, clr]; first | rfl | (split <;> first | rfl | (simp; done) | (exfalso; omega)))))) (.cons _ _ _ _ (.tmp (of_decide_eq_true rfl) (PVle.of_canon (p := (.d (.v (.bool false)))) (by rw [st1 hk ho]; first | rfl | (simp only [PV.canon, clr]; first | rfl | (split <;> first | rfl | (simp; done) | (exfalso; omega)))))) .nil)))), rfl⟩⟩
    ·
      refine pw_region ?_
      refine pwl_step 1 rfl (opS_field_ptr (b := 1) (off := 0) rfl Try.underlying32 rfl sz3 (of_decide_eq_true rfl) rfl) ?_
      refine pwl_step 1 rfl (opS_load_box (b := 1) (off := 2) (cs := [(.d (.v (.int .u8 1))), (.d (.v (.int .i64 a))), (.d (.v (.int .i64 b)))]) (p := (.d (.v (.int .i64 b)))) rfl Try.underlying3 rfl rfl rfl rfl) ?_
      refine pwl_step 1 rfl (opS_bin (k := .i64) (m := b) (n := 0) rfl rfl rfl (ib_ge (decide_eq_false hc5))) ?_
      refine pwl_step 1 rfl (o_move (p := (.d (.v (.bool false)))) rfl rfl) ?_
      refine pwl_step_no rfl rfl ?_
      refine pwl_step_no rfl rfl ?_
      refine pwl_step_no rfl rfl ?_
      refine pwl_step_no rfl rfl ?_
      refine pwl_step_no rfl rfl ?_
      refine pwl_step 1 rfl (o_pick_f (p := (.d (.v (.bool false)))) rfl rfl rfl) ?_
      refine pwl_step 1 rfl (o_assign (p := (.d (.v (.bool false)))) rfl rfl) ?_
      refine pwl_nil ?_
      refine pw_seq ?_
      refine pw_seq ?_
      refine pw_region ?_
      refine pwl_step 1 rfl (opS_field_ptr (b := 1) (off := 0) rfl Try.underlying32 rfl sz5 (of_decide_eq_true rfl) rfl) ?_
      refine pwl_step 1 rfl (opS_load_box (b := 1) (off := 0) (cs := [(.d (.v (.int .u8 1))), (.d (.v (.int .i64 a))), (.d (.v (.int .i64 b)))]) (p := (.d (.v (.int .u8 1)))) rfl Try.underlying5 rfl rfl rfl rfl) ?_
      refine pwl_nil ?_
      refine pw_block ?_
      refine pw_seq ?_
      refine pw_region ?_
      refine pwl_step 1 rfl (opS_bin (k := .u8) (m := 1) (n := 0) rfl rfl rfl (ib_eq (c := false) rfl)) ?_
      refine pwl_step 1 rfl (o_assign (p := (.d (.v (.bool false)))) rfl rfl) ?_
      refine pwl_nil ?_
      refine pw_cond (b := false) rfl (fun h => by cases h) (fun _ => ?_)
      refine pw_seq ?_
      refine pw_region ?_
      refine pwl_step 1 rfl (opS_bin (k := .u8) (m := 1) (n := 1) rfl rfl rfl (ib_eq (c := true) rfl)) ?_
      refine pwl_step 1 rfl (o_assign (p := (.d (.v (.bool true)))) rfl rfl) ?_
      refine pwl_nil ?_
      refine pw_cond (b := true) rfl (fun _ => ?_) (fun h => by cases h)
      refine pw_seq ?_
      refine pw_region ?_
      refine pwl_step 1 rfl (o_move (p := (.d (.v (.bool false)))) rfl rfl) ?_
      refine pwl_nil ?_
      refine pw_cond (b := false) rfl (fun h => by cases h) (fun _ => ?_)
      refine pw_skip ?_
      refine pw_seq ?_
      refine pw_wk (Wk.ofL (n := 106) (l := [(1, (.d (.v (.int .i64 ((k : Nat) : Int))))), (6, (.d (.v (.int .i64 0)))), (7, (.d (.sl 1 true []))), (8, (.d (.sl 1 true []))), (9, (.d (.v (.bool false)))), (10, (.ms 0 0 1 s.length)), (11, (.ptr 1 0))]) (S := ⟨[some (row eU s), some [(.d (.v (.int .u8 1))), (.d (.v (.int .i64 a))), (.d (.v (.int .i64 b)))]], []⟩) rfl rfl (.cons .rfl' (.cons .rfl' (.cons .rfl' (.cons .rfl' (.cons .rfl' (.cons .rfl' (.cons .rfl' .nil)))))))) ?_
      refine pw_quiet Trymixed (by kernel_rfl) ?_
      refine q_step 1 rfl (o_move (p := (.d (.v (.int .i64 ((k : Nat) : Int))))) rfl rfl) ?_
      refine q_step 1 rfl (opS_bin (k := .i64) (m := ((k : Nat) : Int)) (n := 1) rfl rfl rfl (ib_add (by omega) (by omega))) ?_
      refine q_step 1 rfl (o_move (p := (.ms 0 0 1 s.length)) rfl rfl) ?_
      refine q_step 1 rfl (opS_field_ptr (b := 1) (off := 0) rfl Try.underlying32 rfl sz5 (of_decide_eq_true rfl) rfl) ?_
      refine q_step 1 rfl (opS_load_box (b := 1) (off := 0) (cs := [(.d (.v (.int .u8 1))), (.d (.v (.int .i64 a))), (.d (.v (.int .i64 b)))]) (p := (.d (.v (.int .u8 1)))) rfl Try.underlying5 rfl rfl rfl rfl) ?_
      refine q_step 1 rfl (opS_bin (k := .u8) (m := 1) (n := 4) rfl rfl rfl (ib_eq (c := false) rfl)) ?_
      refine q_step 1 rfl (o_assign (p := (.d (.v (.int .i64 (((k : Nat) : Int) + 1))))) rfl rfl) ?_
      refine q_step 1 rfl (o_assign (p := (.ms 0 0 1 s.length)) rfl rfl) ?_
      refine q_step 1 rfl (o_assign (p := (.d (.sl 1 true []))) rfl rfl) ?_
      refine q_step 1 rfl (o_assign (p := (.d (.v (.bool false)))) rfl rfl) ?_
      refine q_nil ?_
      refine pw_wk (Wk.freeze_row (f := eU) (xs := s) (b := 0) (sz := 1) (n := 106) (l := [(6, (.d (.v (.int .i64 (((k : Nat) : Int) + 1))))), (7, (.d (.sl 1 false (s.map eU)))), (8, (.d (.sl 1 true []))), (9, (.d (.v (.bool false))))]) (S' := ⟨[none, some [(.d (.v (.int .u8 1))), (.d (.v (.int .i64 a))), (.d (.v (.int .i64 b)))]], []⟩) (by rw [hb0]; decide) rfl rfl (fun _ => rfl) (nobB_self (nobB_cons rfl rfl)) (.keep .rfl' rfl (.row' rfl (by simp) (.keep .rfl' rfl (.keep .rfl' rfl .nil)))) rfl) ?_
      refine pw_ret ?_
      exact ⟨.inr rfl, rfl, rfl, rfl, ⟨_, (.cons _ _ _ _ (.tmp (of_decide_eq_true rfl) (PVle.of_canon (p := (.d (.v (.int .i64 (((k : Nat) : Int) + 1))))) (by rw [st1 hk ho]; first | rfl | (simp only [PV.canon, clr]; first | rfl | (split <;> first | rfl | (simp; done) | (exfalso; omega)))))) (.cons _ _ _ _ (.tmp (of_decide_eq_true rfl) (PVle.of_canon (p := (.d (.sl 1 false (s.map eU)))) (by rw [st1 hk ho]; first | rfl | (simp only [PV.canon, clr]; first | rfl | (split <;> first | rfl | (simp; done) | (exfalso; omega)))))) (.cons _ _ _ _ (.tmp (of_decide_eq_true rfl) (PVle.of_canon (p := (.d (.sl 1 true []))) (by rw [st1 hk ho]; first | rfl | (simp only [PV.canon, clr]; first | rfl | (split <;> first | rfl | (simp; done) | (exfalso; omega)))))) (.cons _ _ _ _ (.tmp (of_decide_eq_true rfl) (PVle.of_canon (p := (.d (.v (.bool false)))) (by rw [st1 hk ho]; first | rfl | (simp only [PV.canon, clr]; first | rfl | (split <;> first | rfl | (simp; done) | (exfalso; omega)))))) .nil)))), rfl⟩⟩

set_option maxRecDepth 20000 in
theorem rstep2 (ops : List FOp) (s : List Int) (k : Nat) (a b : Int) (hs : s.length ≤ 1000) (hops : ops.length ≤ 1000) (hk : k < ops.length) (hb : 0 ≤ b ∧ b ≤ 100) (ho : ops.getD k default = ⟨2, a, b⟩) : PF Try.prog 20 [(.sl 3 false (ops.map eF)), (.v (.int .i64 ((k : Nat) : Int))), (.sl 1 false (s.map eU))] (stepPV (step ops k s)) := by
  refine pc_intro Try.func20 rfl (of_decide_eq_true rfl) (fun g0 w0 hb0 ht0 => ?_)
  have hf0 : ¬ (((k : Nat) : Int) < 0) := by omega
  have hf1 : ¬ ((((ops.length : Nat)) : Int) ≤ ((k : Nat) : Int)) := by omega
  refine pw_seq ?_
  refine pw_wk (Wk.ofL (n := 106) (l := [(0, (.d (.sl 3 false (ops.map eF)))), (1, (.d (.v (.int .i64 ((k : Nat) : Int))))), (2, (.d (.sl 1 false (s.map eU))))]) (S := ⟨[], []⟩) rfl rfl (.cons .rfl' (.cons .rfl' (.cons .rfl' .nil)))) ?_
  refine pw_region ?_
  refine pwl_step 1 rfl (o_assign (p := (.d (.v (.int .i64 0)))) rfl rfl) ?_
  refine pwl_step 1 rfl (o_assign (p := (.d (.sl 1 true []))) rfl rfl) ?_
  refine pwl_step 1 rfl (o_assign (p := (.d (.sl 1 true []))) rfl rfl) ?_
  refine pwl_step 1 rfl (o_assign (p := (.d (.v (.bool false)))) rfl rfl) ?_
  refine pwl_nil ?_
  refine pw_seq ?_
  refine pw_wk (Wk.ofL (n := 106) (l := [(0, (.d (.sl 3 false (ops.map eF)))), (1, (.d (.v (.int .i64 ((k : Nat) : Int))))), (2, (.d (.sl 1 false (s.map eU)))), (6, (.d (.v (.int .i64 0)))), (7, (.d (.sl 1 true []))), (8, (.d (.sl 1 true []))), (9, (.d (.v (.bool false))))]) (S := ⟨[], []⟩) rfl rfl (.cons .rfl' (.cons .rfl' (.cons .rfl' (.cons .rfl' (.cons .rfl' (.cons .rfl' (.cons .rfl' .nil)))))))) ?_
  refine pw_region ?_
  refine pwl_step 1 rfl (o_buildSlice (sz := 1) (es := []) rfl Try.underlying23 ti39 (of_decide_eq_true rfl) (of_decide_eq_true rfl) rfl rfl rfl) ?_
  refine pwl_step 1 rfl (o_move (p := (.d (.sl 1 false (s.map eU)))) rfl rfl) ?_
  refine pwl_step 1 rfl (o_append_row (xs := s) (f := eU) (sz := 1) rfl Try.underlying23 ti39 (of_decide_eq_true rfl) rfl rfl (by omega) (by omega)) ?_
  refine pwl_step 1 rfl (o_assign (p := (.ms 0 0 1 s.length)) rfl rfl) ?_
  refine pwl_nil ?_
  refine pw_seq ?_
  refine pw_seq ?_
  refine pw_wk (Wk.ofL (n := 106) (l := [(0, (.d (.sl 3 false (ops.map eF)))), (1, (.d (.v (.int .i64 ((k : Nat) : Int))))), (6, (.d (.v (.int .i64 0)))), (7, (.d (.sl 1 true []))), (8, (.d (.sl 1 true []))), (9, (.d (.v (.bool false)))), (10, (.ms 0 0 1 s.length))]) (S := ⟨[some (row eU s)], []⟩) rfl rfl (.cons .rfl' (.cons .rfl' (.cons .rfl' (.cons .rfl' (.cons .rfl' (.cons .rfl' (.cons .rfl' .nil)))))))) ?_
  refine pw_region ?_
  refine pwl_step 1 rfl (o_move (p := (.d (.v (.int .i64 ((k : Nat) : Int))))) rfl rfl) ?_
  refine pwl_step 1 rfl (opS_bin (k := .i64) (m := ((k : Nat) : Int)) (n := 0) rfl rfl rfl (ib_lt (decide_eq_false hf0))) ?_
  refine pwl_step 1 rfl (o_move (p := (.d (.v (.bool false)))) rfl rfl) ?_
  refine pwl_step_yes 1 rfl rfl (o_move (p := (.d (.v (.int .i64 ((k : Nat) : Int))))) rfl rfl) ?_
  refine pwl_step_yes 1 rfl rfl (o_move (p := (.d (.sl 3 false (ops.map eF)))) rfl rfl) ?_
  refine pwl_step_yes 1 rfl rfl (o_len (sz := 3) (es := (ops.map eF)) (n := ops.length) rfl Try.underlying22 rfl (by simp)) ?_
  refine pwl_step_yes 1 rfl rfl (opS_bin (k := .i64) (m := ((k : Nat) : Int)) (n := (((ops.length : Nat)) : Int)) rfl rfl rfl (ib_ge (decide_eq_false hf1))) ?_
  refine pwl_step 1 rfl (o_pick_f (p := (.d (.v (.bool false)))) rfl rfl rfl) ?_
  refine pwl_nil ?_
  refine pw_cond (b := false) rfl (fun h => by cases h) (fun _ => ?_)
  refine pw_skip ?_
  refine pw_seq ?_
  refine pw_wk (Wk.ofL (n := 106) (l := [(0, (.d (.sl 3 false (ops.map eF)))), (1, (.d (.v (.int .i64 ((k : Nat) : Int))))), (6, (.d (.v (.int .i64 0)))), (7, (.d (.sl 1 true []))), (8, (.d (.sl 1 true []))), (9, (.d (.v (.bool false)))), (10, (.ms 0 0 1 s.length))]) (S := ⟨[some (row eU s)], []⟩) rfl rfl (.cons .rfl' (.cons .rfl' (.cons .rfl' (.cons .rfl' (.cons .rfl' (.cons .rfl' (.cons .rfl' .nil)))))))) ?_
  refine pw_region ?_
  refine pwl_step 1 rfl (o_move (p := (.d (.sl 3 false (ops.map eF)))) rfl rfl) ?_
  refine pwl_step 1 rfl (o_move (p := (.d (.v (.int .i64 ((k : Nat) : Int))))) rfl rfl) ?_
  refine pwl_step 1 rfl (opS_index (sz := 3) (es := (ops.map eF)) (k := .i64) (n := ((k : Nat) : Int)) (e := [(.v (.int .u8 2)), (.v (.int .i64 a)), (.v (.int .i64 b))]) rfl Try.underlying22 sz32 rfl rfl (by omega) (map_get_eq (by omega) ho)) ?_
  refine pwl_step 1 rfl (opS_load_rp_agg (cs := [(.v (.int .u8 2)), (.v (.int .i64 a)), (.v (.int .i64 b))]) rfl Try.underlying32 rfl sz32 rfl (of_decide_eq_true rfl)) ?_
  refine pwl_step 1 rfl (o_alloc rfl ti32 zs32) ?_
  refine pwl_step 1 rfl (opS_store (b := 1) (off := 0) (cs := [(.d (.v (.int .u8 0))), (.d (.v (.int .i64 0))), (.d (.v (.int .i64 0)))]) (ps := [(.d (.v (.int .u8 2))), (.d (.v (.int .i64 a))), (.d (.v (.int .i64 b)))]) rfl sz32 rfl rfl rfl rfl (of_decide_eq_true rfl) (List.cons_ne_nil _ _)) ?_
  refine pwl_nil ?_
  refine pw_seq ?_
  refine pw_wk (Wk.ofL (n := 106) (l := [(1, (.d (.v (.int .i64 ((k : Nat) : Int))))), (6, (.d (.v (.int .i64 0)))), (7, (.d (.sl 1 true []))), (8, (.d (.sl 1 true []))), (9, (.d (.v (.bool false)))), (10, (.ms 0 0 1 s.length)), (11, (.ptr 1 0))]) (S := ⟨[some (row eU s), some [(.d (.v (.int .u8 2))), (.d (.v (.int .i64 a))), (.d (.v (.int .i64 b)))]], []⟩) rfl rfl (.cons .rfl' (.cons .rfl' (.cons .rfl' (.cons .rfl' (.cons .rfl' (.cons .rfl' (.cons .rfl' .nil)))))))) ?_
  by_cases hc1 : 0 ≤ a
  ·
    refine pw_region ?_
    refine pwl_step 1 rfl (opS_field_ptr (b := 1) (off := 0) rfl Try.underlying32 rfl sz3 (of_decide_eq_true rfl) rfl) ?_
    refine pwl_step 1 rfl (opS_load_box (b := 1) (off := 1) (cs := [(.d (.v (.int .u8 2))), (.d (.v (.int .i64 a))), (.d (.v (.int .i64 b)))]) (p := (.d (.v (.int .i64 a)))) rfl Try.underlying3 rfl rfl rfl rfl) ?_
    refine pwl_step 1 rfl (opS_bin (k := .i64) (m := a) (n := 0) rfl rfl rfl (ib_ge (decide_eq_true hc1))) ?_
    refine pwl_step 1 rfl (o_move (p := (.d (.v (.bool true)))) rfl rfl) ?_
    refine pwl_step_yes 1 rfl rfl (opS_field_ptr (b := 1) (off := 0) rfl Try.underlying32 rfl sz3 (of_decide_eq_true rfl) rfl) ?_
    refine pwl_step_yes 1 rfl rfl (opS_load_box (b := 1) (off := 1) (cs := [(.d (.v (.int .u8 2))), (.d (.v (.int .i64 a))), (.d (.v (.int .i64 b)))]) (p := (.d (.v (.int .i64 a)))) rfl Try.underlying3 rfl rfl rfl rfl) ?_
    refine pwl_step_yes 1 rfl rfl (o_move (p := (.ms 0 0 1 s.length)) rfl rfl) ?_
    refine pwl_step_yes 1 rfl rfl (o_len_ms (b := 0) (off := 0) (sz := 1) (n := s.length) rfl Try.underlying23 rfl) ?_
    refine pwl_step_yes 1 rfl rfl (opS_bin (k := .i64) (m := a) (n := (((s.length : Nat)) : Int)) rfl rfl rfl (ib_lt rfl)) ?_
    refine pwl_step 1 rfl (o_pick_t (p := (.d (.v (.bool (decide (a < (((s.length : Nat)) : Int))))))) rfl rfl rfl) ?_
    refine pwl_step 1 rfl (o_assign (p := (.d (.v (.bool (decide (a < (((s.length : Nat)) : Int))))))) rfl rfl) ?_
    refine pwl_nil ?_
    refine pw_seq ?_
    refine pw_wk (Wk.ofL (n := 106) (l := [(1, (.d (.v (.int .i64 ((k : Nat) : Int))))), (6, (.d (.v (.int .i64 0)))), (7, (.d (.sl 1 true []))), (8, (.d (.sl 1 true []))), (9, (.d (.v (.bool false)))), (10, (.ms 0 0 1 s.length)), (11, (.ptr 1 0)), (12, (.d (.v (.bool (decide (a < (((s.length : Nat)) : Int)))))))]) (S := ⟨[some (row eU s), some [(.d (.v (.int .u8 2))), (.d (.v (.int .i64 a))), (.d (.v (.int .i64 b)))]], []⟩) rfl rfl (.cons .rfl' (.cons .rfl' (.cons .rfl' (.cons .rfl' (.cons .rfl' (.cons .rfl' (.cons .rfl' (.cons .rfl' .nil))))))))) ?_
    by_cases hc2 : 0 ≤ b
    ·
      refine pw_region ?_
      refine pwl_step 1 rfl (opS_field_ptr (b := 1) (off := 0) rfl Try.underlying32 rfl sz3 (of_decide_eq_true rfl) rfl) ?_
      refine pwl_step 1 rfl (opS_load_box (b := 1) (off := 2) (cs := [(.d (.v (.int .u8 2))), (.d (.v (.int .i64 a))), (.d (.v (.int .i64 b)))]) (p := (.d (.v (.int .i64 b)))) rfl Try.underlying3 rfl rfl rfl rfl) ?_
      refine pwl_step 1 rfl (opS_bin (k := .i64) (m := b) (n := 0) rfl rfl rfl (ib_ge (decide_eq_true hc2))) ?_
      refine pwl_step 1 rfl (o_move (p := (.d (.v (.bool true)))) rfl rfl) ?_
      refine pwl_step_yes 1 rfl rfl (opS_field_ptr (b := 1) (off := 0) rfl Try.underlying32 rfl sz3 (of_decide_eq_true rfl) rfl) ?_
      refine pwl_step_yes 1 rfl rfl (opS_load_box (b := 1) (off := 2) (cs := [(.d (.v (.int .u8 2))), (.d (.v (.int .i64 a))), (.d (.v (.int .i64 b)))]) (p := (.d (.v (.int .i64 b)))) rfl Try.underlying3 rfl rfl rfl rfl) ?_
      refine pwl_step_yes 1 rfl rfl (o_move (p := (.ms 0 0 1 s.length)) rfl rfl) ?_
      refine pwl_step_yes 1 rfl rfl (o_len_ms (b := 0) (off := 0) (sz := 1) (n := s.length) rfl Try.underlying23 rfl) ?_
      refine pwl_step_yes 1 rfl rfl (opS_bin (k := .i64) (m := b) (n := (((s.length : Nat)) : Int)) rfl rfl rfl (ib_lt rfl)) ?_
      refine pwl_step 1 rfl (o_pick_t (p := (.d (.v (.bool (decide (b < (((s.length : Nat)) : Int))))))) rfl rfl rfl) ?_
      refine pwl_step 1 rfl (o_assign (p := (.d (.v (.bool (decide (b < (((s.length : Nat)) : Int))))))) rfl rfl) ?_
      refine pwl_nil ?_
      refine pw_seq ?_
      refine pw_seq ?_
      refine pw_region ?_
      refine pwl_step 1 rfl (opS_field_ptr (b := 1) (off := 0) rfl Try.underlying32 rfl sz5 (of_decide_eq_true rfl) rfl) ?_
      refine pwl_step 1 rfl (opS_load_box (b := 1) (off := 0) (cs := [(.d (.v (.int .u8 2))), (.d (.v (.int .i64 a))), (.d (.v (.int .i64 b)))]) (p := (.d (.v (.int .u8 2)))) rfl Try.underlying5 rfl rfl rfl rfl) ?_
      refine pwl_nil ?_
      refine pw_block ?_
      refine pw_seq ?_
      refine pw_region ?_
      refine pwl_step 1 rfl (opS_bin (k := .u8) (m := 2) (n := 0) rfl rfl rfl (ib_eq (c := false) rfl)) ?_
      refine pwl_step 1 rfl (o_assign (p := (.d (.v (.bool false)))) rfl rfl) ?_
      refine pwl_nil ?_
      refine pw_cond (b := false) rfl (fun h => by cases h) (fun _ => ?_)
      refine pw_seq ?_
      refine pw_region ?_
      refine pwl_step 1 rfl (opS_bin (k := .u8) (m := 2) (n := 1) rfl rfl rfl (ib_eq (c := false) rfl)) ?_
      refine pwl_step 1 rfl (o_assign (p := (.d (.v (.bool false)))) rfl rfl) ?_
      refine pwl_nil ?_
      refine pw_cond (b := false) rfl (fun h => by cases h) (fun _ => ?_)
      refine pw_seq ?_
      refine pw_region ?_
      refine pwl_step 1 rfl (opS_bin (k := .u8) (m := 2) (n := 2) rfl rfl rfl (ib_eq (c := true) rfl)) ?_
      refine pwl_step 1 rfl (o_assign (p := (.d (.v (.bool true)))) rfl rfl) ?_
      refine pwl_nil ?_
      refine pw_cond (b := true) rfl (fun _ => ?_) (fun h => by cases h)
      refine pw_seq ?_
      refine pw_wk (Wk.ofL (n := 106) (l := [(1, (.d (.v (.int .i64 ((k : Nat) : Int))))), (6, (.d (.v (.int .i64 0)))), (7, (.d (.sl 1 true []))), (8, (.d (.sl 1 true []))), (9, (.d (.v (.bool false)))), (10, (.ms 0 0 1 s.length)), (11, (.ptr 1 0)), (12, (.d (.v (.bool (decide (a < (((s.length : Nat)) : Int))))))), (13, (.d (.v (.bool (decide (b < (((s.length : Nat)) : Int)))))))]) (S := ⟨[some (row eU s), some [(.d (.v (.int .u8 2))), (.d (.v (.int .i64 a))), (.d (.v (.int .i64 b)))]], []⟩) rfl rfl (.cons .rfl' (.cons .rfl' (.cons .rfl' (.cons .rfl' (.cons .rfl' (.cons .rfl' (.cons .rfl' (.cons .rfl' (.cons .rfl' .nil)))))))))) ?_
      by_cases hc3 : a < (((s.length : Nat)) : Int)
      ·
        refine pw_wk (Wk.ofL (n := 106) (l := [(1, (.d (.v (.int .i64 ((k : Nat) : Int))))), (6, (.d (.v (.int .i64 0)))), (7, (.d (.sl 1 true []))), (8, (.d (.sl 1 true []))), (9, (.d (.v (.bool false)))), (10, (.ms 0 0 1 s.length)), (11, (.ptr 1 0)), (12, (.d (.v (.bool true)))), (13, (.d (.v (.bool (decide (b < (((s.length : Nat)) : Int)))))))]) (S := ⟨[some (row eU s), some [(.d (.v (.int .u8 2))), (.d (.v (.int .i64 a))), (.d (.v (.int .i64 b)))]], []⟩) rfl rfl (.cons .rfl' (.cons .rfl' (.cons .rfl' (.cons .rfl' (.cons .rfl' (.cons .rfl' (.cons .rfl' (.cons (.of_eq (congrArg (fun x => PV.d (.v (.bool x))) (decide_eq_true hc3))) (.cons .rfl' .nil)))))))))) ?_
        refine pw_region ?_
        refine pwl_step 1 rfl (o_move (p := (.d (.v (.bool true)))) rfl rfl) ?_
        refine pwl_step 1 rfl (o_move (p := (.d (.v (.bool true)))) rfl rfl) ?_
        refine pwl_step_yes 1 rfl rfl (o_move (p := (.d (.v (.bool (decide (b < (((s.length : Nat)) : Int))))))) rfl rfl) ?_
        refine pwl_step 1 rfl (o_pick_t (p := (.d (.v (.bool (decide (b < (((s.length : Nat)) : Int))))))) rfl rfl rfl) ?_
        refine pwl_nil ?_
        refine pw_cond (b := decide (b < (((s.length : Nat)) : Int))) rfl (fun hb4 => ?_) (fun hb4 => ?_)
        ·
          replace hb4 := of_decide_eq_true hb4
          refine pw_wk (Wk.ofL (n := 106) (l := [(1, (.d (.v (.int .i64 ((k : Nat) : Int))))), (6, (.d (.v (.int .i64 0)))), (7, (.d (.sl 1 true []))), (8, (.d (.sl 1 true []))), (9, (.d (.v (.bool false)))), (10, (.ms 0 0 1 s.length)), (11, (.ptr 1 0))]) (S := ⟨[some (row eU s), some [(.d (.v (.int .u8 2))), (.d (.v (.int .i64 a))), (.d (.v (.int .i64 b)))]], []⟩) rfl rfl (.cons .rfl' (.cons .rfl' (.cons .rfl' (.cons .rfl' (.cons .rfl' (.cons .rfl' (.cons .rfl' .nil)))))))) ?_
          refine pw_draw (fun L => ⟨[cond (L 9) (some (row eU (s.set a.toNat (s.getD b.toNat default)))) (some (row eU s)), some [(.d (.v (.int .u8 2))), (.d (.v (.int .i64 a))), (.d (.v (.int .i64 b)))]], []⟩) Trymixed (by kernel_rfl) rfl ?_
          refine d_step 1 rfl (fun _ _ => (o_move (p := (.ms 0 0 1 s.length)) rfl rfl)) ?_
          refine d_step 1 rfl (fun _ _ => (opS_field_ptr (b := 1) (off := 0) rfl Try.underlying32 rfl sz3 (of_decide_eq_true rfl) rfl)) ?_
          refine d_step 1 rfl (fun _ _ => (opS_load_box (b := 1) (off := 1) (cs := [(.d (.v (.int .u8 2))), (.d (.v (.int .i64 a))), (.d (.v (.int .i64 b)))]) (p := (.d (.v (.int .i64 a)))) rfl Try.underlying3 rfl rfl rfl rfl)) ?_
          refine d_step 1 rfl (fun _ _ => (o_move (p := (.ms 0 0 1 s.length)) rfl rfl)) ?_
          refine d_step 1 rfl (fun _ _ => (opS_field_ptr (b := 1) (off := 0) rfl Try.underlying32 rfl sz3 (of_decide_eq_true rfl) rfl)) ?_
          refine d_step 1 rfl (fun _ _ => (opS_load_box (b := 1) (off := 2) (cs := [(.d (.v (.int .u8 2))), (.d (.v (.int .i64 a))), (.d (.v (.int .i64 b)))]) (p := (.d (.v (.int .i64 b)))) rfl Try.underlying3 rfl rfl rfl rfl)) ?_
          refine d_step 1 rfl (fun _ _ => (o_index_row (b := 0) (sz := 1) (n := s.length) (j := b.toNat) (k := .i64) (i := b) rfl Try.underlying23 sz39 rfl rfl (by omega) (by omega))) ?_
          refine d_step 1 rfl (fun L hL => by have b9 : L 9 = false := hL.later (j := 9) (by kernel_rfl); (exact o_cast (S := ⟨[some (row eU s), some [(.d (.v (.int .u8 2))), (.d (.v (.int .i64 a))), (.d (.v (.int .i64 b)))]], []⟩) (by show Sx.mk _ _ = _; rw [b9]; try rfl) (by have c9 : ins L 7 9 = false := (by show (9 == 7 || L 9) = _; rw [b9]; try rfl); show Sx.mk _ _ = _; rw [c9]; try rfl) (o_load_row (f := eU) (xs := s) (b := 0) (n := 1) (i := b.toNat) (k := 0) (c := (.v (.int .u64 (s.getD b.toNat default)))) rfl Try.underlying39 rfl rfl rfl (fun _ => rfl) (by omega) (of_decide_eq_true rfl) rfl))) ?_
          refine d_step 1 rfl (fun _ _ => (o_index_row (b := 0) (sz := 1) (n := s.length) (j := a.toNat) (k := .i64) (i := a) rfl Try.underlying23 sz39 rfl rfl (by omega) (by omega))) ?_
          refine d_step 1 rfl (fun L hL => by have b9 : L 9 = false := hL.new; (exact o_cast (S := ⟨[some (row eU s), some [(.d (.v (.int .u8 2))), (.d (.v (.int .i64 a))), (.d (.v (.int .i64 b)))]], []⟩) (by show Sx.mk _ _ = _; rw [b9]; try rfl) (by have c9 : ins L 9 9 = true := (by show (9 == 9 || L 9) = _; rw [b9]; try rfl); show Sx.mk _ _ = _; rw [c9]; try rfl) (o_store_row (f := eU) (xs := s) (b := 0) (n := 1) (m := 1) (i := a.toNat) (k := 0) (x' := (s.getD b.toNat default)) (ps := [(.d (.v (.int .u64 (s.getD b.toNat default))))]) (ds := [(.v (.int .u64 (s.getD b.toNat default)))]) rfl sz39 rfl rfl rfl rfl rfl (fun _ => rfl) (by omega) (of_decide_eq_true rfl) (of_decide_eq_true rfl) rfl))) ?_
          refine d_nil ?_
          refine pw_seq ?_
          refine pw_wk (Wk.ofL (n := 106) (l := [(1, (.d (.v (.int .i64 ((k : Nat) : Int))))), (6, (.d (.v (.int .i64 0)))), (7, (.d (.sl 1 true []))), (8, (.d (.sl 1 true []))), (9, (.d (.v (.bool false)))), (10, (.ms 0 0 1 s.length)), (11, (.ptr 1 0))]) (S := ⟨[some (row eU (s.set a.toNat (s.getD b.toNat default))), some [(.d (.v (.int .u8 2))), (.d (.v (.int .i64 a))), (.d (.v (.int .i64 b)))]], []⟩) rfl rfl (.cons .rfl' (.cons .rfl' (.cons .rfl' (.cons .rfl' (.cons .rfl' (.cons .rfl' (.cons .rfl' .nil)))))))) ?_
          refine pw_quiet Trymixed (by kernel_rfl) ?_
          refine q_step 1 rfl (o_move (p := (.d (.v (.int .i64 ((k : Nat) : Int))))) rfl rfl) ?_
          refine q_step 1 rfl (opS_bin (k := .i64) (m := ((k : Nat) : Int)) (n := 1) rfl rfl rfl (ib_add (by omega) (by omega))) ?_
          refine q_step 1 rfl (o_move (p := (.ms 0 0 1 s.length)) rfl rfl) ?_
          refine q_step 1 rfl (opS_field_ptr (b := 1) (off := 0) rfl Try.underlying32 rfl sz5 (of_decide_eq_true rfl) rfl) ?_
          refine q_step 1 rfl (opS_load_box (b := 1) (off := 0) (cs := [(.d (.v (.int .u8 2))), (.d (.v (.int .i64 a))), (.d (.v (.int .i64 b)))]) (p := (.d (.v (.int .u8 2)))) rfl Try.underlying5 rfl rfl rfl rfl) ?_
          refine q_step 1 rfl (opS_bin (k := .u8) (m := 2) (n := 4) rfl rfl rfl (ib_eq (c := false) rfl)) ?_
          refine q_step 1 rfl (o_assign (p := (.d (.v (.int .i64 (((k : Nat) : Int) + 1))))) rfl rfl) ?_
          refine q_step 1 rfl (o_assign (p := (.ms 0 0 1 s.length)) rfl rfl) ?_
          refine q_step 1 rfl (o_assign (p := (.d (.sl 1 true []))) rfl rfl) ?_
          refine q_step 1 rfl (o_assign (p := (.d (.v (.bool false)))) rfl rfl) ?_
          refine q_nil ?_
          refine pw_wk (Wk.freeze_row (f := eU) (xs := (s.set a.toNat (s.getD b.toNat default))) (b := 0) (sz := 1) (n := 106) (l := [(6, (.d (.v (.int .i64 (((k : Nat) : Int) + 1))))), (7, (.d (.sl 1 false ((s.set a.toNat (s.getD b.toNat default)).map eU)))), (8, (.d (.sl 1 true []))), (9, (.d (.v (.bool false))))]) (S' := ⟨[none, some [(.d (.v (.int .u8 2))), (.d (.v (.int .i64 a))), (.d (.v (.int .i64 b)))]], []⟩) (by rw [hb0]; decide) rfl rfl (fun _ => rfl) (nobB_self (nobB_cons rfl rfl)) (.keep .rfl' rfl (.row' rfl (by simp) (.keep .rfl' rfl (.keep .rfl' rfl .nil)))) rfl) ?_
          refine pw_ret ?_
          exact ⟨.inr rfl, rfl, rfl, rfl, ⟨_, (.cons _ _ _ _ (.tmp (of_decide_eq_true rfl) (PVle.of_canon (p := (.d (.v (.int .i64 (((k : Nat) : Int) + 1))))) (by rw [st2 hk ho]; first | rfl | (simp only [PV.canon, mov]; first | rfl | (split <;> first | rfl | (simp; done) | (exfalso; omega)))))) (.cons _ _ _ _ (.tmp (of_decide_eq_true rfl) (PVle.of_canon (p := (.d (.sl 1 false ((s.set a.toNat (s.getD b.toNat default)).map eU)))) (by rw [st2 hk ho]; first | rfl | (simp only [PV.canon, mov]; first | rfl | (split <;> first | rfl | (simp; done) | (exfalso; omega)))))) (.cons _ _ _ _ (.tmp (of_decide_eq_true rfl) (PVle.of_canon (p := (.d (.sl 1 true []))) (by rw [st2 hk ho]; first | rfl | (simp only [PV.canon, mov]; first | rfl | (split <;> first | rfl | (simp; done) | (exfalso; omega)))))) (.cons _ _ _ _ (.tmp (of_decide_eq_true rfl) (PVle.of_canon (p := (.d (.v (.bool false)))) (by rw [st2 hk ho]; first | rfl | (simp only [PV.canon, mov]; first | rfl | (split <;> first | rfl | (simp; done) | (exfalso; omega)))))) .nil)))), rfl⟩⟩
        ·
          replace hb4 := of_decide_eq_false hb4
          refine pw_skip ?_
          refine pw_seq ?_
          refine pw_wk (Wk.ofL (n := 106) (l := [(1, (.d (.v (.int .i64 ((k : Nat) : Int))))), (6, (.d (.v (.int .i64 0)))), (7, (.d (.sl 1 true []))), (8, (.d (.sl 1 true []))), (9, (.d (.v (.bool false)))), (10, (.ms 0 0 1 s.length)), (11, (.ptr 1 0))]) (S := ⟨[some (row eU s), some [(.d (.v (.int .u8 2))), (.d (.v (.int .i64 a))), (.d (.v (.int .i64 b)))]], []⟩) rfl rfl (.cons .rfl' (.cons .rfl' (.cons .rfl' (.cons .rfl' (.cons .rfl' (.cons .rfl' (.cons .rfl' .nil)))))))) ?_
          refine pw_quiet Trymixed (by kernel_rfl) ?_
          refine q_step 1 rfl (o_move (p := (.d (.v (.int .i64 ((k : Nat) : Int))))) rfl rfl) ?_
          refine q_step 1 rfl (opS_bin (k := .i64) (m := ((k : Nat) : Int)) (n := 1) rfl rfl rfl (ib_add (by omega) (by omega))) ?_
          refine q_step 1 rfl (o_move (p := (.ms 0 0 1 s.length)) rfl rfl) ?_
          refine q_step 1 rfl (opS_field_ptr (b := 1) (off := 0) rfl Try.underlying32 rfl sz5 (of_decide_eq_true rfl) rfl) ?_
          refine q_step 1 rfl (opS_load_box (b := 1) (off := 0) (cs := [(.d (.v (.int .u8 2))), (.d (.v (.int .i64 a))), (.d (.v (.int .i64 b)))]) (p := (.d (.v (.int .u8 2)))) rfl Try.underlying5 rfl rfl rfl rfl) ?_
          refine q_step 1 rfl (opS_bin (k := .u8) (m := 2) (n := 4) rfl rfl rfl (ib_eq (c := false) rfl)) ?_
          refine q_step 1 rfl (o_assign (p := (.d (.v (.int .i64 (((k : Nat) : Int) + 1))))) rfl rfl) ?_
          refine q_step 1 rfl (o_assign (p := (.ms 0 0 1 s.length)) rfl rfl) ?_
          refine q_step 1 rfl (o_assign (p := (.d (.sl 1 true []))) rfl rfl) ?_
          refine q_step 1 rfl (o_assign (p := (.d (.v (.bool false)))) rfl rfl) ?_
          refine q_nil ?_
          refine pw_wk (Wk.freeze_row (f := eU) (xs := s) (b := 0) (sz := 1) (n := 106) (l := [(6, (.d (.v (.int .i64 (((k : Nat) : Int) + 1))))), (7, (.d (.sl 1 false (s.map eU)))), (8, (.d (.sl 1 true []))), (9, (.d (.v (.bool false))))]) (S' := ⟨[none, some [(.d (.v (.int .u8 2))), (.d (.v (.int .i64 a))), (.d (.v (.int .i64 b)))]], []⟩) (by rw [hb0]; decide) rfl rfl (fun _ => rfl) (nobB_self (nobB_cons rfl rfl)) (.keep .rfl' rfl (.row' rfl (by simp) (.keep .rfl' rfl (.keep .rfl' rfl .nil)))) rfl) ?_
          refine pw_ret ?_
          exact ⟨.inr rfl, rfl, rfl, rfl, ⟨_, (.cons _ _ _ _ (.tmp (of_decide_eq_true rfl) (PVle.of_canon (p := (.d (.v (.int .i64 (((k : Nat) : Int) + 1))))) (by rw [st2 hk ho]; first | rfl | (simp only [PV.canon, mov]; first | rfl | (split <;> first | rfl | (simp; done) | (exfalso; omega)))))) (.cons _ _ _ _ (.tmp (of_decide_eq_true rfl) (PVle.of_canon (p := (.d (.sl 1 false (s.map eU)))) (by rw [st2 hk ho]; first | rfl | (simp only [PV.canon, mov]; first | rfl | (split <;> first | rfl | (simp; done) | (exfalso; omega)))))) (.cons _ _ _ _ (.tmp (of_decide_eq_true rfl) (PVle.of_canon (p := (.d (.sl 1 true []))) (by rw [st2 hk ho]; first | rfl | (simp only [PV.canon, mov]; first | rfl | (split <;> first | rfl | (simp; done) | (exfalso; omega)))))) (.cons _ _ _ _ (.tmp (of_decide_eq_true rfl) (PVle.of_canon (p := (.d (.v (.bool false)))) (by rw [st2 hk ho]; first | rfl | (simp only [PV.canon, mov]; first | rfl | (split <;> first | rfl | (simp; done) | (exfalso; omega)))))) .nil)))), rfl⟩⟩
      ·
        refine pw_wk (Wk.ofL (n := 106) (l := [(1, (.d (.v (.int .i64 ((k : Nat) : Int))))), (6, (.d (.v (.int .i64 0)))), (7, (.d (.sl 1 true []))), (8, (.d (.sl 1 true []))), (9, (.d (.v (.bool false)))), (10, (.ms 0 0 1 s.length)), (11, (.ptr 1 0)), (12, (.d (.v (.bool false)))), (13, (.d (.v (.bool (decide (b < (((s.length : Nat)) : Int)))))))]) (S := ⟨[some (row eU s), some [(.d (.v (.int .u8 2))), (.d (.v (.int .i64 a))), (.d (.v (.int .i64 b)))]], []⟩) rfl rfl (.cons .rfl' (.cons .rfl' (.cons .rfl' (.cons .rfl' (.cons .rfl' (.cons .rfl' (.cons .rfl' (.cons (.of_eq (congrArg (fun x => PV.d (.v (.bool x))) (decide_eq_false hc3))) (.cons .rfl' .nil)))))))))) ?_
        refine pw_region ?_
        refine pwl_step 1 rfl (o_move (p := (.d (.v (.bool false)))) rfl rfl) ?_
        refine pwl_step 1 rfl (o_move (p := (.d (.v (.bool false)))) rfl rfl) ?_
        refine pwl_step_no rfl rfl ?_
        refine pwl_step 1 rfl (o_pick_f (p := (.d (.v (.bool false)))) rfl rfl rfl) ?_
        refine pwl_nil ?_
        refine pw_cond (b := false) rfl (fun h => by cases h) (fun _ => ?_)
        refine pw_skip ?_
        refine pw_seq ?_
        refine pw_wk (Wk.ofL (n := 106) (l := [(1, (.d (.v (.int .i64 ((k : Nat) : Int))))), (6, (.d (.v (.int .i64 0)))), (7, (.d (.sl 1 true []))), (8, (.d (.sl 1 true []))), (9, (.d (.v (.bool false)))), (10, (.ms 0 0 1 s.length)), (11, (.ptr 1 0))]) (S := ⟨[some (row eU s), some [(.d (.v (.int .u8 2))), (.d (.v (.int .i64 a))), (.d (.v (.int .i64 b)))]], []⟩) rfl rfl (.cons .rfl' (.cons .rfl' (.cons .rfl' (.cons .rfl' (.cons .rfl' (.cons .rfl' (.cons .rfl' .nil)))))))) ?_
        refine pw_quiet Trymixed (by kernel_rfl) ?_
        refine q_step 1 rfl (o_move (p := (.d (.v (.int .i64 ((k : Nat) : Int))))) rfl rfl) ?_
        refine q_step 1 rfl (opS_bin (k := .i64) (m := ((k : Nat) : Int)) (n := 1) rfl rfl rfl (ib_add (by omega) (by omega))) ?_
        refine q_step 1 rfl (o_move (p := (.ms 0 0 1 s.length)) rfl rfl) ?_
        refine q_step 1 rfl (opS_field_ptr (b := 1) (off := 0) rfl Try.underlying32 rfl sz5 (of_decide_eq_true rfl) rfl) ?_
        refine q_step 1 rfl (opS_load_box (b := 1) (off := 0) (cs := [(.d (.v (.int .u8 2))), (.d (.v (.int .i64 a))), (.d (.v (.int .i64 b)))]) (p := (.d (.v (.int .u8 2)))) rfl Try.underlying5 rfl rfl rfl rfl) ?_
        refine q_step 1 rfl (opS_bin (k := .u8) (m := 2) (n := 4) rfl rfl rfl (ib_eq (c := false) rfl)) ?_
        refine q_step 1 rfl (o_assign (p := (.d (.v (.int .i64 (((k : Nat) : Int) + 1))))) rfl rfl) ?_
        refine q_step 1 rfl (o_assign (p := (.ms 0 0 1 s.length)) rfl rfl) ?_
        refine q_step 1 rfl (o_assign (p := (.d (.sl 1 true []))) rfl rfl) ?_
        refine q_step 1 rfl (o_assign (p := (.d (.v (.bool false)))) rfl rfl) ?_
        refine q_nil ?_
        refine pw_wk (Wk.freeze_row (f := eU) (xs := s) (b := 0) (sz := 1) (n := 106) (l := [(6, (.d (.v (.int .i64 (((k : Nat) : Int) + 1))))), (7, (.d (.sl 1 false (s.map eU)))), (8, (.d (.sl 1 true []))), (9, (.d (.v (.bool false))))]) (S' := ⟨[none, some [(.d (.v (.int .u8 2))), (.d (.v (.int .i64 a))), (.d (.v (.int .i64 b)))]], []⟩) (by rw [hb0]; decide) rfl rfl (fun _ => rfl) (nobB_self (nobB_cons rfl rfl)) (.keep .rfl' rfl (.row' rfl (by simp) (.keep .rfl' rfl (.keep .rfl' rfl .nil)))) rfl) ?_
        refine pw_ret ?_
        exact ⟨.inr rfl, rfl, rfl, rfl, ⟨_, (.cons _ _ _ _ (.tmp (of_decide_eq_true rfl) (PVle.of_canon (p := (.d (.v (.int .i64 (((k : Nat) : Int) + 1))))) (by rw [st2 hk ho]; first | rfl | (simp only [PV.canon, mov]; first | rfl | (split <;> first | rfl | (simp; done) | (exfalso; omega)))))) (.cons _ _ _ _ (.tmp (of_decide_eq_true rfl) (PVle.of_canon (p := (.d (.sl 1 false (s.map eU)))) (by rw [st2 hk ho]; first | rfl | (simp only [PV.canon, mov]; first | rfl | (split <;> first | rfl | (simp; done) | (exfalso; omega)))))) (.cons _ _ _ _ (.tmp (of_decide_eq_true rfl) (PVle.of_canon (p := (.d (.sl 1 true []))) (by rw [st2 hk ho]; first | rfl | (simp only [PV.canon, mov]; first | rfl | (split <;> first | rfl | (simp; done) | (exfalso; omega)))))) (.cons _ _ _ _ (.tmp (of_decide_eq_true rfl) (PVle.of_canon (p := (.d (.v (.bool false)))) (by rw [st2 hk ho]; first | rfl | (simp only [PV.canon, mov]; first | rfl | (split <;> first | rfl | (simp; done) | (exfalso; omega)))))) .nil)))), rfl⟩⟩
    ·
      refine pw_region ?_
      refine pwl_step 1 rfl (opS_field_ptr (b := 1) (off := 0) rfl Try.underlying32 rfl sz3 (of_decide_eq_true rfl) rfl) ?_
      refine pwl_step 1 rfl (opS_load_box (b := 1) (off := 2) (cs := [(.d (.v (.int .u8 2))), (.d (.v (.int .i64 a))), (.d (.v (.int .i64 b)))]) (p := (.d (.v (.int .i64 b)))) rfl Try.underlying3 rfl rfl rfl rfl) ?_
      refine pwl_step 1 rfl (opS_bin (k := .i64) (m := b) (n := 0) rfl rfl rfl (ib_ge (decide_eq_false hc2))) ?_
      refine pwl_step 1 rfl (o_move (p := (.d (.v (.bool false)))) rfl rfl) ?_
      refine pwl_step_no rfl rfl ?_
      refine pwl_step_no rfl rfl ?_
      refine pwl_step_no rfl rfl ?_
      refine pwl_step_no rfl rfl ?_
      refine pwl_step_no rfl rfl ?_
      refine pwl_step 1 rfl (o_pick_f (p := (.d (.v (.bool false)))) rfl rfl rfl) ?_
      refine pwl_step 1 rfl (o_assign (p := (.d (.v (.bool false)))) rfl rfl) ?_
      refine pwl_nil ?_
      refine pw_seq ?_
      refine pw_seq ?_
      refine pw_region ?_
      refine pwl_step 1 rfl (opS_field_ptr (b := 1) (off := 0) rfl Try.underlying32 rfl sz5 (of_decide_eq_true rfl) rfl) ?_
      refine pwl_step 1 rfl (opS_load_box (b := 1) (off := 0) (cs := [(.d (.v (.int .u8 2))), (.d (.v (.int .i64 a))), (.d (.v (.int .i64 b)))]) (p := (.d (.v (.int .u8 2)))) rfl Try.underlying5 rfl rfl rfl rfl) ?_
      refine pwl_nil ?_
      refine pw_block ?_
      refine pw_seq ?_
      refine pw_region ?_
      refine pwl_step 1 rfl (opS_bin (k := .u8) (m := 2) (n := 0) rfl rfl rfl (ib_eq (c := false) rfl)) ?_
      refine pwl_step 1 rfl (o_assign (p := (.d (.v (.bool false)))) rfl rfl) ?_
      refine pwl_nil ?_
      refine pw_cond (b := false) rfl (fun h => by cases h) (fun _ => ?_)
      refine pw_seq ?_
      refine pw_region ?_
      refine pwl_step 1 rfl (opS_bin (k := .u8) (m := 2) (n := 1) rfl rfl rfl (ib_eq (c := false) rfl)) ?_
      refine pwl_step 1 rfl (o_assign (p := (.d (.v (.bool false)))) rfl rfl) ?_
      refine pwl_nil ?_
      refine pw_cond (b := false) rfl (fun h => by cases h) (fun _ => ?_)
      refine pw_seq ?_
      refine pw_region ?_
      refine pwl_step 1 rfl (opS_bin (k := .u8) (m := 2) (n := 2) rfl rfl rfl (ib_eq (c := true) rfl)) ?_
      refine pwl_step 1 rfl (o_assign (p := (.d (.v (.bool true)))) rfl rfl) ?_
      refine pwl_nil ?_
      refine pw_cond (b := true) rfl (fun _ => ?_) (fun h => by cases h)
      refine pw_seq ?_
      refine pw_wk (Wk.ofL (n := 106) (l := [(1, (.d (.v (.int .i64 ((k : Nat) : Int))))), (6, (.d (.v (.int .i64 0)))), (7, (.d (.sl 1 true []))), (8, (.d (.sl 1 true []))), (9, (.d (.v (.bool false)))), (10, (.ms 0 0 1 s.length)), (11, (.ptr 1 0)), (12, (.d (.v (.bool (decide (a < (((s.length : Nat)) : Int))))))), (13, (.d (.v (.bool false))))]) (S := ⟨[some (row eU s), some [(.d (.v (.int .u8 2))), (.d (.v (.int .i64 a))), (.d (.v (.int .i64 b)))]], []⟩) rfl rfl (.cons .rfl' (.cons .rfl' (.cons .rfl' (.cons .rfl' (.cons .rfl' (.cons .rfl' (.cons .rfl' (.cons .rfl' (.cons .rfl' .nil)))))))))) ?_
      by_cases hc5 : a < (((s.length : Nat)) : Int)
      ·
        refine pw_wk (Wk.ofL (n := 106) (l := [(1, (.d (.v (.int .i64 ((k : Nat) : Int))))), (6, (.d (.v (.int .i64 0)))), (7, (.d (.sl 1 true []))), (8, (.d (.sl 1 true []))), (9, (.d (.v (.bool false)))), (10, (.ms 0 0 1 s.length)), (11, (.ptr 1 0)), (12, (.d (.v (.bool true)))), (13, (.d (.v (.bool false))))]) (S := ⟨[some (row eU s), some [(.d (.v (.int .u8 2))), (.d (.v (.int .i64 a))), (.d (.v (.int .i64 b)))]], []⟩) rfl rfl (.cons .rfl' (.cons .rfl' (.cons .rfl' (.cons .rfl' (.cons .rfl' (.cons .rfl' (.cons .rfl' (.cons (.of_eq (congrArg (fun x => PV.d (.v (.bool x))) (decide_eq_true hc5))) (.cons .rfl' .nil)))))))))) ?_
        refine pw_region ?_
        refine pwl_step 1 rfl (o_move (p := (.d (.v (.bool true)))) rfl rfl) ?_
        refine pwl_step 1 rfl (o_move (p := (.d (.v (.bool true)))) rfl rfl) ?_
        refine pwl_step_yes 1 rfl rfl (o_move (p := (.d (.v (.bool false)))) rfl rfl) ?_
        refine pwl_step 1 rfl (o_pick_t (p := (.d (.v (.bool false)))) rfl rfl rfl) ?_
        refine pwl_nil ?_
        refine pw_cond (b := false) rfl (fun h => by cases h) (fun _ => ?_)
        refine pw_skip ?_
        refine pw_seq ?_
        refine pw_wk (Wk.ofL (n := 106) (l := [(1, (.d (.v (.int .i64 ((k : Nat) : Int))))), (6, (.d (.v (.int .i64 0)))), (7, (.d (.sl 1 true []))), (8, (.d (.sl 1 true []))), (9, (.d (.v (.bool false)))), (10, (.ms 0 0 1 s.length)), (11, (.ptr 1 0))]) (S := ⟨[some (row eU s), some [(.d (.v (.int .u8 2))), (.d (.v (.int .i64 a))), (.d (.v (.int .i64 b)))]], []⟩) rfl rfl (.cons .rfl' (.cons .rfl' (.cons .rfl' (.cons .rfl' (.cons .rfl' (.cons .rfl' (.cons .rfl' .nil)))))))) ?_
        refine pw_quiet Trymixed (by kernel_rfl) ?_
        refine q_step 1 rfl (o_move (p := (.d (.v (.int .i64 ((k : Nat) : Int))))) rfl rfl) ?_
        refine q_step 1 rfl (opS_bin (k := .i64) (m := ((k : Nat) : Int)) (n := 1) rfl rfl rfl (ib_add (by omega) (by omega))) ?_
        refine q_step 1 rfl (o_move (p := (.ms 0 0 1 s.length)) rfl rfl) ?_
        refine q_step 1 rfl (opS_field_ptr (b := 1) (off := 0) rfl Try.underlying32 rfl sz5 (of_decide_eq_true rfl) rfl) ?_
        refine q_step 1 rfl (opS_load_box (b := 1) (off := 0) (cs := [(.d (.v (.int .u8 2))), (.d (.v (.int .i64 a))), (.d (.v (.int .i64 b)))]) (p := (.d (.v (.int .u8 2)))) rfl Try.underlying5 rfl rfl rfl rfl) ?_
        refine q_step 1 rfl (opS_bin (k := .u8) (m := 2) (n := 4) rfl rfl rfl (ib_eq (c := false) rfl)) ?_
        refine q_step 1 rfl (o_assign (p := (.d (.v (.int .i64 (((k : Nat) : Int) + 1))))) rfl rfl) ?_
        refine q_step 1 rfl (o_assign (p := (.ms 0 0 1 s.length)) rfl rfl) ?_
        refine q_step 1 rfl (o_assign (p := (.d (.sl 1 true []))) rfl rfl) ?_
        refine q_step 1 rfl (o_assign (p := (.d (.v (.bool false)))) rfl rfl) ?_
        refine q_nil ?_
        refine pw_wk (Wk.freeze_row (f := eU) (xs := s) (b := 0) (sz := 1) (n := 106) (l := [(6, (.d (.v (.int .i64 (((k : Nat) : Int) + 1))))), (7, (.d (.sl 1 false (s.map eU)))), (8, (.d (.sl 1 true []))), (9, (.d (.v (.bool false))))]) (S' := ⟨[none, some [(.d (.v (.int .u8 2))), (.d (.v (.int .i64 a))), (.d (.v (.int .i64 b)))]], []⟩) (by rw [hb0]; decide) rfl rfl (fun _ => rfl) (nobB_self (nobB_cons rfl rfl)) (.keep .rfl' rfl (.row' rfl (by simp) (.keep .rfl' rfl (.keep .rfl' rfl .nil)))) rfl) ?_
        refine pw_ret ?_
        exact ⟨.inr rfl, rfl, rfl, rfl, ⟨_, (.cons _ _ _ _ (.tmp (of_decide_eq_true rfl) (PVle.of_canon (p := (.d (.v (.int .i64 (((k : Nat) : Int) + 1))))) (by rw [st2 hk ho]; first | rfl | (simp only [PV.canon, mov]; first | rfl | (split <;> first | rfl | (simp; done) | (exfalso; omega)))))) (.cons _ _ _ _ (.tmp (of_decide_eq_true rfl) (PVle.of_canon (p := (.d (.sl 1 false (s.map eU)))) (by rw [st2 hk ho]; first | rfl | (simp only [PV.canon, mov]; first | rfl | (split <;> first | rfl | (simp; done) | (exfalso; omega)))))) (.cons _ _ _ _ (.tmp (of_decide_eq_true rfl) (PVle.of_canon (p := (.d (.sl 1 true []))) (by rw [st2 hk ho]; first | rfl | (simp only [PV.canon, mov]; first | rfl | (split <;> first | rfl | (simp; done) | (exfalso; omega)))))) (.cons _ _ _ _ (.tmp (of_decide_eq_true rfl) (PVle.of_canon (p := (.d (.v (.bool false)))) (by rw [st2 hk ho]; first | rfl | (simp only [PV.canon, mov]; first | rfl | (split <;> first | rfl | (simp; done) | (exfalso; omega)))))) .nil)))), rfl⟩⟩
      ·
        refine pw_wk (Wk.ofL (n := 106) (l := [(1, (.d (.v (.int .i64 ((k : Nat) : Int))))), (6, (.d (.v (.int .i64 0)))), (7, (.d (.sl 1 true []))), (8, (.d (.sl 1 true []))), (9, (.d (.v (.bool false)))), (10, (.ms 0 0 1 s.length)), (11, (.ptr 1 0)), (12, (.d (.v (.bool false)))), (13, (.d (.v (.bool false))))]) (S := ⟨[some (row eU s), some [(.d (.v (.int .u8 2))), (.d (.v (.int .i64 a))), (.d (.v (.int .i64 b)))]], []⟩) rfl rfl (.cons .rfl' (.cons .rfl' (.cons .rfl' (.cons .rfl' (.cons .rfl' (.cons .rfl' (.cons .rfl' (.cons (.of_eq (congrArg (fun x => PV.d (.v (.bool x))) (decide_eq_false hc5))) (.cons .rfl' .nil)))))))))) ?_
        refine pw_region ?_
        refine pwl_step 1 rfl (o_move (p := (.d (.v (.bool false)))) rfl rfl) ?_
        refine pwl_step 1 rfl (o_move (p := (.d (.v (.bool false)))) rfl rfl) ?_
        refine pwl_step_no rfl rfl ?_
        refine pwl_step 1 rfl (o_pick_f (p := (.d (.v (.bool false)))) rfl rfl rfl) ?_
        refine pwl_nil ?_
        refine pw_cond (b := false) rfl (fun h => by cases h) (fun _ => ?_)
        refine pw_skip ?_
        refine pw_seq ?_
        refine pw_wk (Wk.ofL (n := 106) (l := [(1, (.d (.v (.int .i64 ((k : Nat) : Int))))), (6, (.d (.v (.int .i64 0)))), (7, (.d (.sl 1 true []))), (8, (.d (.sl 1 true []))), (9, (.d (.v (.bool false)))), (10, (.ms 0 0 1 s.length)), (11, (.ptr 1 0))]) (S := ⟨[some (row eU s), some [(.d (.v (.int .u8 2))), (.d (.v (.int .i64 a))), (.d (.v (.int .i64 b)))]], []⟩) rfl rfl (.cons .rfl' (.cons .rfl' (.cons .rfl' (.cons .rfl' (.cons .rfl' (.cons .rfl' (.cons .rfl' .nil)))))))) ?_
        refine pw_quiet Trymixed (by kernel_rfl) ?_
        refine q_step 1 rfl (o_move (p := (.d (.v (.int .i64 ((k : Nat) : Int))))) rfl rfl) ?_
        refine q_step 1 rfl (opS_bin (k := .i64) (m := ((k : Nat) : Int)) (n := 1) rfl rfl rfl (ib_add (by omega) (by omega))) ?_
        refine q_step 1 rfl (o_move (p := (.ms 0 0 1 s.length)) rfl rfl) ?_
        refine q_step 1 rfl (opS_field_ptr (b := 1) (off := 0) rfl Try.underlying32 rfl sz5 (of_decide_eq_true rfl) rfl) ?_
        refine q_step 1 rfl (opS_load_box (b := 1) (off := 0) (cs := [(.d (.v (.int .u8 2))), (.d (.v (.int .i64 a))), (.d (.v (.int .i64 b)))]) (p := (.d (.v (.int .u8 2)))) rfl Try.underlying5 rfl rfl rfl rfl) ?_
        refine q_step 1 rfl (opS_bin (k := .u8) (m := 2) (n := 4) rfl rfl rfl (ib_eq (c := false) rfl)) ?_
        refine q_step 1 rfl (o_assign (p := (.d (.v (.int .i64 (((k : Nat) : Int) + 1))))) rfl rfl) ?_
        refine q_step 1 rfl (o_assign (p := (.ms 0 0 1 s.length)) rfl rfl) ?_
        refine q_step 1 rfl (o_assign (p := (.d (.sl 1 true []))) rfl rfl) ?_
        refine q_step 1 rfl (o_assign (p := (.d (.v (.bool false)))) rfl rfl) ?_
        refine q_nil ?_
        refine pw_wk (Wk.freeze_row (f := eU) (xs := s) (b := 0) (sz := 1) (n := 106) (l := [(6, (.d (.v (.int .i64 (((k : Nat) : Int) + 1))))), (7, (.d (.sl 1 false (s.map eU)))), (8, (.d (.sl 1 true []))), (9, (.d (.v (.bool false))))]) (S' := ⟨[none, some [(.d (.v (.int .u8 2))), (.d (.v (.int .i64 a))), (.d (.v (.int .i64 b)))]], []⟩) (by rw [hb0]; decide) rfl rfl (fun _ => rfl) (nobB_self (nobB_cons rfl rfl)) (.keep .rfl' rfl (.row' rfl (by simp) (.keep .rfl' rfl (.keep .rfl' rfl .nil)))) rfl) ?_
        refine pw_ret ?_
        exact ⟨.inr rfl, rfl, rfl, rfl, ⟨_, (.cons _ _ _ _ (.tmp (of_decide_eq_true rfl) (PVle.of_canon (p := (.d (.v (.int .i64 (((k : Nat) : Int) + 1))))) (by rw [st2 hk ho]; first | rfl | (simp only [PV.canon, mov]; first | rfl | (split <;> first | rfl | (simp; done) | (exfalso; omega)))))) (.cons _ _ _ _ (.tmp (of_decide_eq_true rfl) (PVle.of_canon (p := (.d (.sl 1 false (s.map eU)))) (by rw [st2 hk ho]; first | rfl | (simp only [PV.canon, mov]; first | rfl | (split <;> first | rfl | (simp; done) | (exfalso; omega)))))) (.cons _ _ _ _ (.tmp (of_decide_eq_true rfl) (PVle.of_canon (p := (.d (.sl 1 true []))) (by rw [st2 hk ho]; first | rfl | (simp only [PV.canon, mov]; first | rfl | (split <;> first | rfl | (simp; done) | (exfalso; omega)))))) (.cons _ _ _ _ (.tmp (of_decide_eq_true rfl) (PVle.of_canon (p := (.d (.v (.bool false)))) (by rw [st2 hk ho]; first | rfl | (simp only [PV.canon, mov]; first | rfl | (split <;> first | rfl | (simp; done) | (exfalso; omega)))))) .nil)))), rfl⟩⟩
  ·
    refine pw_region ?_
    refine pwl_step 1 rfl (opS_field_ptr (b := 1) (off := 0) rfl Try.underlying32 rfl sz3 (of_decide_eq_true rfl) rfl) ?_
    refine pwl_step 1 rfl (opS_load_box (b := 1) (off := 1) (cs := [(.d (.v (.int .u8 2))), (.d (.v (.int .i64 a))), (.d (.v (.int .i64 b)))]) (p := (.d (.v (.int .i64 a)))) rfl Try.underlying3 rfl rfl rfl rfl) ?_
    refine pwl_step 1 rfl (opS_bin (k := .i64) (m := a) (n := 0) rfl rfl rfl (ib_ge (decide_eq_false hc1))) ?_
    refine pwl_step 1 rfl (o_move (p := (.d (.v (.bool false)))) rfl rfl) ?_
    refine pwl_step_no rfl rfl ?_
    refine pwl_step_no rfl rfl ?_
    refine pwl_step_no rfl rfl ?_
    refine pwl_step_no rfl rfl ?_
    refine pwl_step_no rfl rfl ?_
    refine pwl_step 1 rfl (o_pick_f (p := (.d (.v (.bool false)))) rfl rfl rfl) ?_
    refine pwl_step 1 rfl (o_assign (p := (.d (.v (.bool false)))) rfl rfl) ?_
    refine pwl_nil ?_
    refine pw_seq ?_
    refine pw_wk (Wk.ofL (n := 106) (l := [(1, (.d (.v (.int .i64 ((k : Nat) : Int))))), (6, (.d (.v (.int .i64 0)))), (7, (.d (.sl 1 true []))), (8, (.d (.sl 1 true []))), (9, (.d (.v (.bool false)))), (10, (.ms 0 0 1 s.length)), (11, (.ptr 1 0)), (12, (.d (.v (.bool false))))]) (S := ⟨[some (row eU s), some [(.d (.v (.int .u8 2))), (.d (.v (.int .i64 a))), (.d (.v (.int .i64 b)))]], []⟩) rfl rfl (.cons .rfl' (.cons .rfl' (.cons .rfl' (.cons .rfl' (.cons .rfl' (.cons .rfl' (.cons .rfl' (.cons .rfl' .nil))))))))) ?_
    by_cases hc6 : 0 ≤ b
    ·
      refine pw_region ?_
      refine pwl_step 1 rfl (opS_field_ptr (b := 1) (off := 0) rfl Try.underlying32 rfl sz3 (of_decide_eq_true rfl) rfl) ?_
      refine pwl_step 1 rfl (opS_load_box (b := 1) (off := 2) (cs := [(.d (.v (.int .u8 2))), (.d (.v (.int .i64 a))), (.d (.v (.int .i64 b)))]) (p := (.d (.v (.int .i64 b)))) rfl Try.underlying3 rfl rfl rfl rfl) ?_
      refine pwl_step 1 rfl (opS_bin (k := .i64) (m := b) (n := 0) rfl rfl rfl (ib_ge (decide_eq_true hc6))) ?_
      refine pwl_step 1 rfl (o_move (p := (.d (.v (.bool true)))) rfl rfl) ?_
      refine pwl_step_yes 1 rfl rfl (opS_field_ptr (b := 1) (off := 0) rfl Try.underlying32 rfl sz3 (of_decide_eq_true rfl) rfl) ?_
      refine pwl_step_yes 1 rfl rfl (opS_load_box (b := 1) (off := 2) (cs := [(.d (.v (.int .u8 2))), (.d (.v (.int .i64 a))), (.d (.v (.int .i64 b)))]) (p := (.d (.v (.int .i64 b)))) rfl Try.underlying3 rfl rfl rfl rfl) ?_
      refine pwl_step_yes 1 rfl rfl (o_move (p := (.ms 0 0 1 s.length)) rfl rfl) ?_
      refine pwl_step_yes 1 rfl rfl (o_len_ms (b := 0) (off := 0) (sz := 1) (n := s.length) rfl Try.underlying23 rfl) ?_
      refine pwl_step_yes 1 rfl rfl (opS_bin (k := .i64) (m := b) (n := (((s.length : Nat)) : Int)) rfl rfl rfl (ib_lt rfl)) ?_
      refine pwl_step 1 rfl (o_pick_t (p := (.d (.v (.bool (decide (b < (((s.length : Nat)) : Int))))))) rfl rfl rfl) ?_
      refine pwl_step 1 rfl (o_assign (p := (.d (.v (.bool (decide (b < (((s.length : Nat)) : Int))))))) rfl rfl) ?_
      refine pwl_nil ?_
      refine pw_seq ?_
      refine pw_seq ?_
      refine pw_region ?_
      refine pwl_step 1 rfl (opS_field_ptr (b := 1) (off := 0) rfl Try.underlying32 rfl sz5 (of_decide_eq_true rfl) rfl) ?_
      refine pwl_step 1 rfl (opS_load_box (b := 1) (off := 0) (cs := [(.d (.v (.int .u8 2))), (.d (.v (.int .i64 a))), (.d (.v (.int .i64 b)))]) (p := (.d (.v (.int .u8 2)))) rfl Try.underlying5 rfl rfl rfl rfl) ?_
      refine pwl_nil ?_
      refine pw_block ?_
      refine pw_seq ?_
      refine pw_region ?_
      refine pwl_step 1 rfl (opS_bin (k := .u8) (m := 2) (n := 0) rfl rfl rfl (ib_eq (c := false) rfl)) ?_
      refine pwl_step 1 rfl (o_assign (p := (.d (.v (.bool false)))) rfl rfl) ?_
      refine pwl_nil ?_
      refine pw_cond (b := false) rfl (fun h => by cases h) (fun _ => ?_)
      refine pw_seq ?_
      refine pw_region ?_
      refine pwl_step 1 rfl (opS_bin (k := .u8) (m := 2) (n := 1) rfl rfl rfl (ib_eq (c := false) rfl)) ?_
      refine pwl_step 1 rfl (o_assign (p := (.d (.v (.bool false)))) rfl rfl) ?_
      refine pwl_nil ?_
      refine pw_cond (b := false) rfl (fun h => by cases h) (fun _ => ?_)
      refine pw_seq ?_
      refine pw_region ?_
      refine pwl_step 1 rfl (opS_bin (k := .u8) (m := 2) (n := 2) rfl rfl rfl (ib_eq (c := true) rfl)) ?_
      refine pwl_step 1 rfl (o_assign (p := (.d (.v (.bool true)))) rfl rfl) ?_
      refine pwl_nil ?_
      refine pw_cond (b := true) rfl (fun _ => ?_) (fun h => by cases h)
      refine pw_seq ?_
      refine pw_wk (Wk.ofL (n := 106) (l := [(1, (.d (.v (.int .i64 ((k : Nat) : Int))))), (6, (.d (.v (.int .i64 0)))), (7, (.d (.sl 1 true []))), (8, (.d (.sl 1 true []))), (9, (.d (.v (.bool false)))), (10, (.ms 0 0 1 s.length)), (11, (.ptr 1 0)), (12, (.d (.v (.bool false)))), (13, (.d (.v (.bool (decide (b < (((s.length : Nat)) : Int)))))))]) (S := ⟨[some (row eU s), some [(.d (.v (.int .u8 2))), (.d (.v (.int .i64 a))), (.d (.v (.int .i64 b)))]], []⟩) rfl rfl (.cons .rfl' (.cons .rfl' (.cons .rfl' (.cons .rfl' (.cons .rfl' (.cons .rfl' (.cons .rfl' (.cons .rfl' (.cons .rfl' .nil)))))))))) ?_
      refine pw_region ?_
      refine pwl_step 1 rfl (o_move (p := (.d (.v (.bool false)))) rfl rfl) ?_
      refine pwl_step 1 rfl (o_move (p := (.d (.v (.bool false)))) rfl rfl) ?_
      refine pwl_step_no rfl rfl ?_
      refine pwl_step 1 rfl (o_pick_f (p := (.d (.v (.bool false)))) rfl rfl rfl) ?_
      refine pwl_nil ?_
      refine pw_cond (b := false) rfl (fun h => by cases h) (fun _ => ?_)
      refine pw_skip ?_
      refine pw_seq ?_
      refine pw_wk (Wk.ofL (n := 106) (l := [(1, (.d (.v (.int .i64 ((k : Nat) : Int))))), (6, (.d (.v (.int .i64 0)))), (7, (.d (.sl 1 true []))), (8, (.d (.sl 1 true []))), (9, (.d (.v (.bool false)))), (10, (.ms 0 0 1 s.length)), (11, (.ptr 1 0))]) (S := ⟨[some (row eU s), some [(.d (.v (.int .u8 2))), (.d (.v (.int .i64 a))), (.d (.v (.int .i64 b)))]], []⟩) rfl rfl (.cons .rfl' (.cons .rfl' (.cons .rfl' (.cons .rfl' (.cons .rfl' (.cons .rfl' (.cons .rfl' .nil)))))))) ?_
      refine pw_quiet Trymixed (by kernel_rfl) ?_
      refine q_step 1 rfl (o_move (p := (.d (.v (.int .i64 ((k : Nat) : Int))))) rfl rfl) ?_
      refine q_step 1 rfl (opS_bin (k := .i64) (m := ((k : Nat) : Int)) (n := 1) rfl rfl rfl (ib_add (by omega) (by omega))) ?_
      refine q_step 1 rfl (o_move (p := (.ms 0 0 1 s.length)) rfl rfl) ?_
      refine q_step 1 rfl (opS_field_ptr (b := 1) (off := 0) rfl Try.underlying32 rfl sz5 (of_decide_eq_true rfl) rfl) ?_
      refine q_step 1 rfl (opS_load_box (b := 1) (off := 0) (cs := [(.d (.v (.int .u8 2))), (.d (.v (.int .i64 a))), (.d (.v (.int .i64 b)))]) (p := (.d (.v (.int .u8 2)))) rfl Try.underlying5 rfl rfl rfl rfl) ?_
      refine q_step 1 rfl (opS_bin (k := .u8) (m := 2) (n := 4) rfl rfl rfl (ib_eq (c := false) rfl)) ?_
      refine q_step 1 rfl (o_assign (p := (.d (.v (.int .i64 (((k : Nat) : Int) + 1))))) rfl rfl) ?_
      refine q_step 1 rfl (o_assign (p := (.ms 0 0 1 s.length)) rfl rfl) ?_
      refine q_step 1 rfl (o_assign (p := (.d (.sl 1 true []))) rfl rfl) ?_
      refine q_step 1 rfl (o_assign (p := (.d (.v (.bool false)))) rfl rfl) ?_
      refine q_nil ?_
      refine pw_wk (Wk.freeze_row (f := eU) (xs := s) (b := 0) (sz := 1) (n := 106) (l := [(6, (.d (.v (.int .i64 (((k : Nat) : Int) + 1))))), (7, (.d (.sl 1 false (s.map eU)))), (8, (.d (.sl 1 true []))), (9, (.d (.v (.bool false))))]) (S' := ⟨[none, some [(.d (.v (.int .u8 2))), (.d (.v (.int .i64 a))), (.d (.v (.int .i64 b)))]], []⟩) (by rw [hb0]; decide) rfl rfl (fun _ => rfl) (nobB_self (nobB_cons rfl rfl)) (.keep .rfl' rfl (.row' rfl (by simp) (.keep .rfl' rfl (.keep .rfl' rfl .nil)))) rfl) ?_
      refine pw_ret ?_
      exact ⟨.inr rfl, rfl, rfl, rfl, ⟨_, (.cons _ _ _ _ (.tmp (of_decide_eq_true rfl) (PVle.of_canon (p := (.d (.v (.int .i64 (((k : Nat) : Int) + 1))))) (by rw [st2 hk ho]; first | rfl | (simp only [PV.canon, mov]; first | rfl | (split <;> first | rfl | (simp; done) | (exfalso; omega)))))) (.cons _ _ _ _ (.tmp (of_decide_eq_true rfl) (PVle.of_canon (p := (.d (.sl 1 false (s.map eU)))) (by rw [st2 hk ho]; first | rfl | (simp only [PV.canon, mov]; first | rfl | (split <;> first | rfl | (simp; done) | (exfalso; omega)))))) (.cons _ _ _ _ (.tmp (of_decide_eq_true rfl) (PVle.of_canon (p := (.d (.sl 1 true []))) (by rw [st2 hk ho]; first | rfl | (simp only [PV.canon, mov]; first | rfl | (split <;> first | rfl | (simp; done) | (exfalso; omega)))))) (.cons _ _ _ _ (.tmp (of_decide_eq_true rfl) (PVle.of_canon (p := (.d (.v (.bool false)))) (by rw [st2 hk ho]; first | rfl | (simp only [PV.canon, mov]; first | rfl | (split <;> first | rfl | (simp; done) | (exfalso; omega)))))) .nil)))), rfl⟩⟩
    ·
      refine pw_region ?_
      refine pwl_step 1 rfl (opS_field_ptr (b := 1) (off := 0) rfl Try.underlying32 rfl sz3 (of_decide_eq_true rfl) rfl) ?_
      refine pwl_step 1 rfl (opS_load_box (b := 1) (off := 2) (cs := [(.d (.v (.int .u8 2))), (.d (.v (.int .i64 a))), (.d (.v (.int .i64 b)))]) (p := (.d (.v (.int .i64 b)))) rfl Try.underlying3 rfl rfl rfl rfl) ?_
      refine pwl_step 1 rfl (opS_bin (k := .i64) (m := b) (n := 0) rfl rfl rfl (ib_ge (decide_eq_false hc6))) ?_
      refine pwl_step 1 rfl (o_move (p := (.d (.v (.bool false)))) rfl rfl) ?_
      refine pwl_step_no rfl rfl ?_
      refine pwl_step_no rfl rfl ?_
      refine pwl_step_no rfl rfl ?_
      refine pwl_step_no rfl rfl ?_
      refine pwl_step_no rfl rfl ?_
      refine pwl_step 1 rfl (o_pick_f (p := (.d (.v (.bool false)))) rfl rfl rfl) ?_
      refine pwl_step 1 rfl (o_assign (p := (.d (.v (.bool false)))) rfl rfl) ?_
      refine pwl_nil ?_
      refine pw_seq ?_
      refine pw_seq ?_
      refine pw_region ?_
      refine pwl_step 1 rfl (opS_field_ptr (b := 1) (off := 0) rfl Try.underlying32 rfl sz5 (of_decide_eq_true rfl) rfl) ?_
      refine pwl_step 1 rfl (opS_load_box (b := 1) (off := 0) (cs := [(.d (.v (.int .u8 2))), (.d (.v (.int .i64 a))), (.d (.v (.int .i64 b)))]) (p := (.d (.v (.int .u8 2)))) rfl Try.underlying5 rfl rfl rfl rfl) ?_
      refine pwl_nil ?_
      refine pw_block ?_
      refine pw_seq ?_
      refine pw_region ?_
      refine pwl_step 1 rfl (opS_bin (k := .u8) (m := 2) (n := 0) rfl rfl rfl (ib_eq (c := false) rfl)) ?_
      refine pwl_step 1 rfl (o_assign (p := (.d (.v (.bool false)))) rfl rfl) ?_
      refine pwl_nil ?_
      refine pw_cond (b := false) rfl (fun h => by cases h) (fun _ => ?_)
      refine pw_seq ?_
      refine pw_region ?_
      refine pwl_step 1 rfl (opS_bin (k := .u8) (m := 2) (n := 1) rfl rfl rfl (ib_eq (c := false) rfl)) ?_
      refine pwl_step 1 rfl (o_assign (p := (.d (.v (.bool false)))) rfl rfl) ?_
      refine pwl_nil ?_
      refine pw_cond (b := false) rfl (fun h => by cases h) (fun _ => ?_)
      refine pw_seq ?_
      refine pw_region ?_
      refine pwl_step 1 rfl (opS_bin (k := .u8) (m := 2) (n := 2) rfl rfl rfl (ib_eq (c := true) rfl)) ?_
      refine pwl_step 1 rfl (o_assign (p := (.d (.v (.bool true)))) rfl rfl) ?_
      refine pwl_nil ?_
      refine pw_cond (b := true) rfl (fun _ => ?_) (fun h => by cases h)
      refine pw_seq ?_
      refine pw_wk (Wk.ofL (n := 106) (l := [(1, (.d (.v (.int .i64 ((k : Nat) : Int))))), (6, (.d (.v (.int .i64 0)))), (7, (.d (.sl 1 true []))), (8, (.d (.sl 1 true []))), (9, (.d (.v (.bool false)))), (10, (.ms 0 0 1 s.length)), (11, (.ptr 1 0)), (12, (.d (.v (.bool false)))), (13, (.d (.v (.bool false))))]) (S := ⟨[some (row eU s), some [(.d (.v (.int .u8 2))), (.d (.v (.int .i64 a))), (.d (.v (.int .i64 b)))]], []⟩) rfl rfl (.cons .rfl' (.cons .rfl' (.cons .rfl' (.cons .rfl' (.cons .rfl' (.cons .rfl' (.cons .rfl' (.cons .rfl' (.cons .rfl' .nil)))))))))) ?_
      refine pw_region ?_
      refine pwl_step 1 rfl (o_move (p := (.d (.v (.bool false)))) rfl rfl) ?_
      refine pwl_step 1 rfl (o_move (p := (.d (.v (.bool false)))) rfl rfl) ?_
      refine pwl_step_no rfl rfl ?_
      refine pwl_step 1 rfl (o_pick_f (p := (.d (.v (.bool false)))) rfl rfl rfl) ?_
      refine pwl_nil ?_
      refine pw_cond (b := false) rfl (fun h => by cases h) (fun _ => ?_)
      refine pw_skip ?_
      refine pw_seq ?_
      refine pw_wk (Wk.ofL (n := 106) (l := [(1, (.d (.v (.int .i64 ((k : Nat) : Int))))), (6, (.d (.v (.int .i64 0)))), (7, (.d (.sl 1 true []))), (8, (.d (.sl 1 true []))), (9, (.d (.v (.bool false)))), (10, (.ms 0 0 1 s.length)), (11, (.ptr 1 0))]) (S := ⟨[some (row eU s), some [(.d (.v (.int .u8 2))), (.d (.v (.int .i64 a))), (.d (.v (.int .i64 b)))]], []⟩) rfl rfl (.cons .rfl' (.cons .rfl' (.cons .rfl' (.cons .rfl' (.cons .rfl' (.cons .rfl' (.cons .rfl' .nil)))))))) ?_
      refine pw_quiet Trymixed (by kernel_rfl) ?_
      refine q_step 1 rfl (o_move (p := (.d (.v (.int .i64 ((k : Nat) : Int))))) rfl rfl) ?_
      refine q_step 1 rfl (opS_bin (k := .i64) (m := ((k : Nat) : Int)) (n := 1) rfl rfl rfl (ib_add (by omega) (by omega))) ?_
      refine q_step 1 rfl (o_move (p := (.ms 0 0 1 s.length)) rfl rfl) ?_
      refine q_step 1 rfl (opS_field_ptr (b := 1) (off := 0) rfl Try.underlying32 rfl sz5 (of_decide_eq_true rfl) rfl) ?_
      refine q_step 1 rfl (opS_load_box (b := 1) (off := 0) (cs := [(.d (.v (.int .u8 2))), (.d (.v (.int .i64 a))), (.d (.v (.int .i64 b)))]) (p := (.d (.v (.int .u8 2)))) rfl Try.underlying5 rfl rfl rfl rfl) ?_
      refine q_step 1 rfl (opS_bin (k := .u8) (m := 2) (n := 4) rfl rfl rfl (ib_eq (c := false) rfl)) ?_
      refine q_step 1 rfl (o_assign (p := (.d (.v (.int .i64 (((k : Nat) : Int) + 1))))) rfl rfl) ?_
      refine q_step 1 rfl (o_assign (p := (.ms 0 0 1 s.length)) rfl rfl) ?_
      refine q_step 1 rfl (o_assign (p := (.d (.sl 1 true []))) rfl rfl) ?_
      refine q_step 1 rfl (o_assign (p := (.d (.v (.bool false)))) rfl rfl) ?_
      refine q_nil ?_
      refine pw_wk (Wk.freeze_row (f := eU) (xs := s) (b := 0) (sz := 1) (n := 106) (l := [(6, (.d (.v (.int .i64 (((k : Nat) : Int) + 1))))), (7, (.d (.sl 1 false (s.map eU)))), (8, (.d (.sl 1 true []))), (9, (.d (.v (.bool false))))]) (S' := ⟨[none, some [(.d (.v (.int .u8 2))), (.d (.v (.int .i64 a))), (.d (.v (.int .i64 b)))]], []⟩) (by rw [hb0]; decide) rfl rfl (fun _ => rfl) (nobB_self (nobB_cons rfl rfl)) (.keep .rfl' rfl (.row' rfl (by simp) (.keep .rfl' rfl (.keep .rfl' rfl .nil)))) rfl) ?_
      refine pw_ret ?_
      exact ⟨.inr rfl, rfl, rfl, rfl, ⟨_, (.cons _ _ _ _ (.tmp (of_decide_eq_true rfl) (PVle.of_canon (p := (.d (.v (.int .i64 (((k : Nat) : Int) + 1))))) (by rw [st2 hk ho]; first | rfl | (simp only [PV.canon, mov]; first | rfl | (split <;> first | rfl | (simp; done) | (exfalso; omega)))))) (.cons _ _ _ _ (.tmp (of_decide_eq_true rfl) (PVle.of_canon (p := (.d (.sl 1 false (s.map eU)))) (by rw [st2 hk ho]; first | rfl | (simp only [PV.canon, mov]; first | rfl | (split <;> first | rfl | (simp; done) | (exfalso; omega)))))) (.cons _ _ _ _ (.tmp (of_decide_eq_true rfl) (PVle.of_canon (p := (.d (.sl 1 true []))) (by rw [st2 hk ho]; first | rfl | (simp only [PV.canon, mov]; first | rfl | (split <;> first | rfl | (simp; done) | (exfalso; omega)))))) (.cons _ _ _ _ (.tmp (of_decide_eq_true rfl) (PVle.of_canon (p := (.d (.v (.bool false)))) (by rw [st2 hk ho]; first | rfl | (simp only [PV.canon, mov]; first | rfl | (split <;> first | rfl | (simp; done) | (exfalso; omega)))))) .nil)))), rfl⟩⟩

set_option maxRecDepth 20000 in
theorem rstep3 (ops : List FOp) (s : List Int) (k : Nat) (a b : Int) (hs : s.length ≤ 1000) (hops : ops.length ≤ 1000) (hk : k < ops.length) (hb : 0 ≤ b ∧ b ≤ 100) (ho : ops.getD k default = ⟨3, a, b⟩) : PF Try.prog 20 [(.sl 3 false (ops.map eF)), (.v (.int .i64 ((k : Nat) : Int))), (.sl 1 false (s.map eU))] (stepPV (step ops k s)) := by
  refine pc_intro Try.func20 rfl (of_decide_eq_true rfl) (fun g0 w0 hb0 ht0 => ?_)
  have hf0 : ¬ (((k : Nat) : Int) < 0) := by omega
  have hf1 : ¬ ((((ops.length : Nat)) : Int) ≤ ((k : Nat) : Int)) := by omega
  refine pw_seq ?_
  refine pw_wk (Wk.ofL (n := 106) (l := [(0, (.d (.sl 3 false (ops.map eF)))), (1, (.d (.v (.int .i64 ((k : Nat) : Int))))), (2, (.d (.sl 1 false (s.map eU))))]) (S := ⟨[], []⟩) rfl rfl (.cons .rfl' (.cons .rfl' (.cons .rfl' .nil)))) ?_
  refine pw_region ?_
  refine pwl_step 1 rfl (o_assign (p := (.d (.v (.int .i64 0)))) rfl rfl) ?_
  refine pwl_step 1 rfl (o_assign (p := (.d (.sl 1 true []))) rfl rfl) ?_
  refine pwl_step 1 rfl (o_assign (p := (.d (.sl 1 true []))) rfl rfl) ?_
  refine pwl_step 1 rfl (o_assign (p := (.d (.v (.bool false)))) rfl rfl) ?_
  refine pwl_nil ?_
  refine pw_seq ?_
  refine pw_wk (Wk.ofL (n := 106) (l := [(0, (.d (.sl 3 false (ops.map eF)))), (1, (.d (.v (.int .i64 ((k : Nat) : Int))))), (2, (.d (.sl 1 false (s.map eU)))), (6, (.d (.v (.int .i64 0)))), (7, (.d (.sl 1 true []))), (8, (.d (.sl 1 true []))), (9, (.d (.v (.bool false))))]) (S := ⟨[], []⟩) rfl rfl (.cons .rfl' (.cons .rfl' (.cons .rfl' (.cons .rfl' (.cons .rfl' (.cons .rfl' (.cons .rfl' .nil)))))))) ?_
  refine pw_region ?_
  refine pwl_step 1 rfl (o_buildSlice (sz := 1) (es := []) rfl Try.underlying23 ti39 (of_decide_eq_true rfl) (of_decide_eq_true rfl) rfl rfl rfl) ?_
  refine pwl_step 1 rfl (o_move (p := (.d (.sl 1 false (s.map eU)))) rfl rfl) ?_
  refine pwl_step 1 rfl (o_append_row (xs := s) (f := eU) (sz := 1) rfl Try.underlying23 ti39 (of_decide_eq_true rfl) rfl rfl (by omega) (by omega)) ?_
  refine pwl_step 1 rfl (o_assign (p := (.ms 0 0 1 s.length)) rfl rfl) ?_
  refine pwl_nil ?_
  refine pw_seq ?_
  refine pw_seq ?_
  refine pw_wk (Wk.ofL (n := 106) (l := [(0, (.d (.sl 3 false (ops.map eF)))), (1, (.d (.v (.int .i64 ((k : Nat) : Int))))), (6, (.d (.v (.int .i64 0)))), (7, (.d (.sl 1 true []))), (8, (.d (.sl 1 true []))), (9, (.d (.v (.bool false)))), (10, (.ms 0 0 1 s.length))]) (S := ⟨[some (row eU s)], []⟩) rfl rfl (.cons .rfl' (.cons .rfl' (.cons .rfl' (.cons .rfl' (.cons .rfl' (.cons .rfl' (.cons .rfl' .nil)))))))) ?_
  refine pw_region ?_
  refine pwl_step 1 rfl (o_move (p := (.d (.v (.int .i64 ((k : Nat) : Int))))) rfl rfl) ?_
  refine pwl_step 1 rfl (opS_bin (k := .i64) (m := ((k : Nat) : Int)) (n := 0) rfl rfl rfl (ib_lt (decide_eq_false hf0))) ?_
  refine pwl_step 1 rfl (o_move (p := (.d (.v (.bool false)))) rfl rfl) ?_
  refine pwl_step_yes 1 rfl rfl (o_move (p := (.d (.v (.int .i64 ((k : Nat) : Int))))) rfl rfl) ?_
  refine pwl_step_yes 1 rfl rfl (o_move (p := (.d (.sl 3 false (ops.map eF)))) rfl rfl) ?_
  refine pwl_step_yes 1 rfl rfl (o_len (sz := 3) (es := (ops.map eF)) (n := ops.length) rfl Try.underlying22 rfl (by simp)) ?_
  refine pwl_step_yes 1 rfl rfl (opS_bin (k := .i64) (m := ((k : Nat) : Int)) (n := (((ops.length : Nat)) : Int)) rfl rfl rfl (ib_ge (decide_eq_false hf1))) ?_
  refine pwl_step 1 rfl (o_pick_f (p := (.d (.v (.bool false)))) rfl rfl rfl) ?_
  refine pwl_nil ?_
  refine pw_cond (b := false) rfl (fun h => by cases h) (fun _ => ?_)
  refine pw_skip ?_
  refine pw_seq ?_
  refine pw_wk (Wk.ofL (n := 106) (l := [(0, (.d (.sl 3 false (ops.map eF)))), (1, (.d (.v (.int .i64 ((k : Nat) : Int))))), (6, (.d (.v (.int .i64 0)))), (7, (.d (.sl 1 true []))), (8, (.d (.sl 1 true []))), (9, (.d (.v (.bool false)))), (10, (.ms 0 0 1 s.length))]) (S := ⟨[some (row eU s)], []⟩) rfl rfl (.cons .rfl' (.cons .rfl' (.cons .rfl' (.cons .rfl' (.cons .rfl' (.cons .rfl' (.cons .rfl' .nil)))))))) ?_
  refine pw_region ?_
  refine pwl_step 1 rfl (o_move (p := (.d (.sl 3 false (ops.map eF)))) rfl rfl) ?_
  refine pwl_step 1 rfl (o_move (p := (.d (.v (.int .i64 ((k : Nat) : Int))))) rfl rfl) ?_
  refine pwl_step 1 rfl (opS_index (sz := 3) (es := (ops.map eF)) (k := .i64) (n := ((k : Nat) : Int)) (e := [(.v (.int .u8 3)), (.v (.int .i64 a)), (.v (.int .i64 b))]) rfl Try.underlying22 sz32 rfl rfl (by omega) (map_get_eq (by omega) ho)) ?_
  refine pwl_step 1 rfl (opS_load_rp_agg (cs := [(.v (.int .u8 3)), (.v (.int .i64 a)), (.v (.int .i64 b))]) rfl Try.underlying32 rfl sz32 rfl (of_decide_eq_true rfl)) ?_
  refine pwl_step 1 rfl (o_alloc rfl ti32 zs32) ?_
  refine pwl_step 1 rfl (opS_store (b := 1) (off := 0) (cs := [(.d (.v (.int .u8 0))), (.d (.v (.int .i64 0))), (.d (.v (.int .i64 0)))]) (ps := [(.d (.v (.int .u8 3))), (.d (.v (.int .i64 a))), (.d (.v (.int .i64 b)))]) rfl sz32 rfl rfl rfl rfl (of_decide_eq_true rfl) (List.cons_ne_nil _ _)) ?_
  refine pwl_nil ?_
  refine pw_seq ?_
  refine pw_wk (Wk.ofL (n := 106) (l := [(1, (.d (.v (.int .i64 ((k : Nat) : Int))))), (6, (.d (.v (.int .i64 0)))), (7, (.d (.sl 1 true []))), (8, (.d (.sl 1 true []))), (9, (.d (.v (.bool false)))), (10, (.ms 0 0 1 s.length)), (11, (.ptr 1 0))]) (S := ⟨[some (row eU s), some [(.d (.v (.int .u8 3))), (.d (.v (.int .i64 a))), (.d (.v (.int .i64 b)))]], []⟩) rfl rfl (.cons .rfl' (.cons .rfl' (.cons .rfl' (.cons .rfl' (.cons .rfl' (.cons .rfl' (.cons .rfl' .nil)))))))) ?_
  by_cases hc1 : 0 ≤ a
  ·
    refine pw_region ?_
    refine pwl_step 1 rfl (opS_field_ptr (b := 1) (off := 0) rfl Try.underlying32 rfl sz3 (of_decide_eq_true rfl) rfl) ?_
    refine pwl_step 1 rfl (opS_load_box (b := 1) (off := 1) (cs := [(.d (.v (.int .u8 3))), (.d (.v (.int .i64 a))), (.d (.v (.int .i64 b)))]) (p := (.d (.v (.int .i64 a)))) rfl Try.underlying3 rfl rfl rfl rfl) ?_
    refine pwl_step 1 rfl (opS_bin (k := .i64) (m := a) (n := 0) rfl rfl rfl (ib_ge (decide_eq_true hc1))) ?_
    refine pwl_step 1 rfl (o_move (p := (.d (.v (.bool true)))) rfl rfl) ?_
    refine pwl_step_yes 1 rfl rfl (opS_field_ptr (b := 1) (off := 0) rfl Try.underlying32 rfl sz3 (of_decide_eq_true rfl) rfl) ?_
    refine pwl_step_yes 1 rfl rfl (opS_load_box (b := 1) (off := 1) (cs := [(.d (.v (.int .u8 3))), (.d (.v (.int .i64 a))), (.d (.v (.int .i64 b)))]) (p := (.d (.v (.int .i64 a)))) rfl Try.underlying3 rfl rfl rfl rfl) ?_
    refine pwl_step_yes 1 rfl rfl (o_move (p := (.ms 0 0 1 s.length)) rfl rfl) ?_
    refine pwl_step_yes 1 rfl rfl (o_len_ms (b := 0) (off := 0) (sz := 1) (n := s.length) rfl Try.underlying23 rfl) ?_
    refine pwl_step_yes 1 rfl rfl (opS_bin (k := .i64) (m := a) (n := (((s.length : Nat)) : Int)) rfl rfl rfl (ib_lt rfl)) ?_
    refine pwl_step 1 rfl (o_pick_t (p := (.d (.v (.bool (decide (a < (((s.length : Nat)) : Int))))))) rfl rfl rfl) ?_
    refine pwl_step 1 rfl (o_assign (p := (.d (.v (.bool (decide (a < (((s.length : Nat)) : Int))))))) rfl rfl) ?_
    refine pwl_nil ?_
    refine pw_seq ?_
    refine pw_wk (Wk.ofL (n := 106) (l := [(1, (.d (.v (.int .i64 ((k : Nat) : Int))))), (6, (.d (.v (.int .i64 0)))), (7, (.d (.sl 1 true []))), (8, (.d (.sl 1 true []))), (9, (.d (.v (.bool false)))), (10, (.ms 0 0 1 s.length)), (11, (.ptr 1 0)), (12, (.d (.v (.bool (decide (a < (((s.length : Nat)) : Int)))))))]) (S := ⟨[some (row eU s), some [(.d (.v (.int .u8 3))), (.d (.v (.int .i64 a))), (.d (.v (.int .i64 b)))]], []⟩) rfl rfl (.cons .rfl' (.cons .rfl' (.cons .rfl' (.cons .rfl' (.cons .rfl' (.cons .rfl' (.cons .rfl' (.cons .rfl' .nil))))))))) ?_
    by_cases hc2 : 0 ≤ b
    ·
      refine pw_region ?_
      refine pwl_step 1 rfl (opS_field_ptr (b := 1) (off := 0) rfl Try.underlying32 rfl sz3 (of_decide_eq_true rfl) rfl) ?_
      refine pwl_step 1 rfl (opS_load_box (b := 1) (off := 2) (cs := [(.d (.v (.int .u8 3))), (.d (.v (.int .i64 a))), (.d (.v (.int .i64 b)))]) (p := (.d (.v (.int .i64 b)))) rfl Try.underlying3 rfl rfl rfl rfl) ?_
      refine pwl_step 1 rfl (opS_bin (k := .i64) (m := b) (n := 0) rfl rfl rfl (ib_ge (decide_eq_true hc2))) ?_
      refine pwl_step 1 rfl (o_move (p := (.d (.v (.bool true)))) rfl rfl) ?_
      refine pwl_step_yes 1 rfl rfl (opS_field_ptr (b := 1) (off := 0) rfl Try.underlying32 rfl sz3 (of_decide_eq_true rfl) rfl) ?_
      refine pwl_step_yes 1 rfl rfl (opS_load_box (b := 1) (off := 2) (cs := [(.d (.v (.int .u8 3))), (.d (.v (.int .i64 a))), (.d (.v (.int .i64 b)))]) (p := (.d (.v (.int .i64 b)))) rfl Try.underlying3 rfl rfl rfl rfl) ?_
      refine pwl_step_yes 1 rfl rfl (o_move (p := (.ms 0 0 1 s.length)) rfl rfl) ?_
      refine pwl_step_yes 1 rfl rfl (o_len_ms (b := 0) (off := 0) (sz := 1) (n := s.length) rfl Try.underlying23 rfl) ?_
      refine pwl_step_yes 1 rfl rfl (opS_bin (k := .i64) (m := b) (n := (((s.length : Nat)) : Int)) rfl rfl rfl (ib_lt rfl)) ?_
      refine pwl_step 1 rfl (o_pick_t (p := (.d (.v (.bool (decide (b < (((s.length : Nat)) : Int))))))) rfl rfl rfl) ?_
      refine pwl_step 1 rfl (o_assign (p := (.d (.v (.bool (decide (b < (((s.length : Nat)) : Int))))))) rfl rfl) ?_
      refine pwl_nil ?_
      refine pw_seq ?_
      refine pw_seq ?_
      refine pw_region ?_
      refine pwl_step 1 rfl (opS_field_ptr (b := 1) (off := 0) rfl Try.underlying32 rfl sz5 (of_decide_eq_true rfl) rfl) ?_
      refine pwl_step 1 rfl (opS_load_box (b := 1) (off := 0) (cs := [(.d (.v (.int .u8 3))), (.d (.v (.int .i64 a))), (.d (.v (.int .i64 b)))]) (p := (.d (.v (.int .u8 3)))) rfl Try.underlying5 rfl rfl rfl rfl) ?_
      refine pwl_nil ?_
      refine pw_block ?_
      refine pw_seq ?_
      refine pw_region ?_
      refine pwl_step 1 rfl (opS_bin (k := .u8) (m := 3) (n := 0) rfl rfl rfl (ib_eq (c := false) rfl)) ?_
      refine pwl_step 1 rfl (o_assign (p := (.d (.v (.bool false)))) rfl rfl) ?_
      refine pwl_nil ?_
      refine pw_cond (b := false) rfl (fun h => by cases h) (fun _ => ?_)
      refine pw_seq ?_
      refine pw_region ?_
      refine pwl_step 1 rfl (opS_bin (k := .u8) (m := 3) (n := 1) rfl rfl rfl (ib_eq (c := false) rfl)) ?_
      refine pwl_step 1 rfl (o_assign (p := (.d (.v (.bool false)))) rfl rfl) ?_
      refine pwl_nil ?_
      refine pw_cond (b := false) rfl (fun h => by cases h) (fun _ => ?_)
      refine pw_seq ?_
      refine pw_region ?_
      refine pwl_step 1 rfl (opS_bin (k := .u8) (m := 3) (n := 2) rfl rfl rfl (ib_eq (c := false) rfl)) ?_
      refine pwl_step 1 rfl (o_assign (p := (.d (.v (.bool false)))) rfl rfl) ?_
      refine pwl_nil ?_
      refine pw_cond (b := false) rfl (fun h => by cases h) (fun _ => ?_)
      refine pw_seq ?_
      refine pw_region ?_
      refine pwl_step 1 rfl (opS_bin (k := .u8) (m := 3) (n := 3) rfl rfl rfl (ib_eq (c := true) rfl)) ?_
      refine pwl_step 1 rfl (o_assign (p := (.d (.v (.bool true)))) rfl rfl) ?_
      refine pwl_nil ?_
      refine pw_cond (b := true) rfl (fun _ => ?_) (fun h => by cases h)
      refine pw_seq ?_
      refine pw_wk (Wk.ofL (n := 106) (l := [(1, (.d (.v (.int .i64 ((k : Nat) : Int))))), (6, (.d (.v (.int .i64 0)))), (7, (.d (.sl 1 true []))), (8, (.d (.sl 1 true []))), (9, (.d (.v (.bool false)))), (10, (.ms 0 0 1 s.length)), (11, (.ptr 1 0)), (12, (.d (.v (.bool (decide (a < (((s.length : Nat)) : Int)))))))]) (S := ⟨[some (row eU s), some [(.d (.v (.int .u8 3))), (.d (.v (.int .i64 a))), (.d (.v (.int .i64 b)))]], []⟩) rfl rfl (.cons .rfl' (.cons .rfl' (.cons .rfl' (.cons .rfl' (.cons .rfl' (.cons .rfl' (.cons .rfl' (.cons .rfl' .nil))))))))) ?_
      by_cases hc3 : a < (((s.length : Nat)) : Int)
      ·
        refine pw_wk (Wk.ofL (n := 106) (l := [(1, (.d (.v (.int .i64 ((k : Nat) : Int))))), (6, (.d (.v (.int .i64 0)))), (7, (.d (.sl 1 true []))), (8, (.d (.sl 1 true []))), (9, (.d (.v (.bool false)))), (10, (.ms 0 0 1 s.length)), (11, (.ptr 1 0)), (12, (.d (.v (.bool true))))]) (S := ⟨[some (row eU s), some [(.d (.v (.int .u8 3))), (.d (.v (.int .i64 a))), (.d (.v (.int .i64 b)))]], []⟩) rfl rfl (.cons .rfl' (.cons .rfl' (.cons .rfl' (.cons .rfl' (.cons .rfl' (.cons .rfl' (.cons .rfl' (.cons (.of_eq (congrArg (fun x => PV.d (.v (.bool x))) (decide_eq_true hc3))) .nil))))))))) ?_
        refine pw_region ?_
        refine pwl_step 1 rfl (o_move (p := (.d (.v (.bool true)))) rfl rfl) ?_
        refine pwl_step 1 rfl (o_move (p := (.d (.v (.bool true)))) rfl rfl) ?_
        refine pwl_step_yes 1 rfl rfl (o_move (p := (.ms 0 0 1 s.length)) rfl rfl) ?_
        refine pwl_step_yes 1 rfl rfl (opS_field_ptr (b := 1) (off := 0) rfl Try.underlying32 rfl sz3 (of_decide_eq_true rfl) rfl) ?_
        refine pwl_step_yes 1 rfl rfl (opS_load_box (b := 1) (off := 1) (cs := [(.d (.v (.int .u8 3))), (.d (.v (.int .i64 a))), (.d (.v (.int .i64 b)))]) (p := (.d (.v (.int .i64 a)))) rfl Try.underlying3 rfl rfl rfl rfl) ?_
        refine pwl_step_yes 1 rfl rfl (o_index_row (b := 0) (sz := 1) (n := s.length) (j := a.toNat) (k := .i64) (i := a) rfl Try.underlying23 sz39 rfl rfl (by omega) (by omega)) ?_
        refine pwl_step_yes 1 rfl rfl (o_load_row (f := eU) (xs := s) (b := 0) (n := 1) (i := a.toNat) (k := 0) (c := (.v (.int .u64 (s.getD a.toNat default)))) rfl Try.underlying39 rfl rfl rfl (fun _ => rfl) (by omega) (of_decide_eq_true rfl) rfl) ?_
        refine pwl_step_yes 1 rfl rfl (opS_bin (k := .u64) (m := (s.getD a.toNat default)) (n := 0) rfl rfl rfl (ib_eq rfl)) ?_
        refine pwl_step 1 rfl (o_pick_t (p := (.d (.v (.bool (decide ((s.getD a.toNat default) = 0)))))) rfl rfl rfl) ?_
        refine pwl_nil ?_
        refine pw_cond (b := decide ((s.getD a.toNat default) = 0)) rfl (fun hb4 => ?_) (fun hb4 => ?_)
        ·
          replace hb4 := of_decide_eq_true hb4
          refine pw_seq ?_
          refine pw_wk (Wk.ofL (n := 106) (l := [(1, (.d (.v (.int .i64 ((k : Nat) : Int))))), (6, (.d (.v (.int .i64 0)))), (7, (.d (.sl 1 true []))), (8, (.d (.sl 1 true []))), (9, (.d (.v (.bool false)))), (10, (.ms 0 0 1 s.length)), (11, (.ptr 1 0))]) (S := ⟨[some (row eU s), some [(.d (.v (.int .u8 3))), (.d (.v (.int .i64 a))), (.d (.v (.int .i64 b)))]], []⟩) rfl rfl (.cons .rfl' (.cons .rfl' (.cons .rfl' (.cons .rfl' (.cons .rfl' (.cons .rfl' (.cons .rfl' .nil)))))))) ?_
          refine pw_region ?_
          refine pwl_step 1 rfl (o_move (p := (.d (.v (.int .i64 ((k : Nat) : Int))))) rfl rfl) ?_
          refine pwl_step 1 rfl (opS_bin (k := .i64) (m := ((k : Nat) : Int)) (n := 1) rfl rfl rfl (ib_add (by omega) (by omega))) ?_
          refine pwl_step 1 rfl (opS_field_ptr (b := 1) (off := 0) rfl Try.underlying32 rfl sz3 (of_decide_eq_true rfl) rfl) ?_
          refine pwl_step 1 rfl (opS_load_box (b := 1) (off := 2) (cs := [(.d (.v (.int .u8 3))), (.d (.v (.int .i64 a))), (.d (.v (.int .i64 b)))]) (p := (.d (.v (.int .i64 b)))) rfl Try.underlying3 rfl rfl rfl rfl) ?_
          refine pwl_step 1 rfl (opS_bin (k := .i64) (m := (((k : Nat) : Int) + 1)) (n := b) rfl rfl rfl (ib_add (by omega) (by omega))) ?_
          refine pwl_step 1 rfl (o_move (p := (.ms 0 0 1 s.length)) rfl rfl) ?_
          refine pwl_step 1 rfl (o_assign (p := (.d (.v (.int .i64 ((((k : Nat) : Int) + 1) + b))))) rfl rfl) ?_
          refine pwl_step 1 rfl (o_assign (p := (.ms 0 0 1 s.length)) rfl rfl) ?_
          refine pwl_step 1 rfl (o_assign (p := (.d (.sl 1 true []))) rfl rfl) ?_
          refine pwl_step 1 rfl (o_assign (p := (.d (.v (.bool false)))) rfl rfl) ?_
          refine pwl_nil ?_
          refine pw_wk (Wk.freeze_row (f := eU) (xs := s) (b := 0) (sz := 1) (n := 106) (l := [(6, (.d (.v (.int .i64 ((((k : Nat) : Int) + 1) + b))))), (7, (.d (.sl 1 false (s.map eU)))), (8, (.d (.sl 1 true []))), (9, (.d (.v (.bool false))))]) (S' := ⟨[none, some [(.d (.v (.int .u8 3))), (.d (.v (.int .i64 a))), (.d (.v (.int .i64 b)))]], []⟩) (by rw [hb0]; decide) rfl rfl (fun _ => rfl) (nobB_self (nobB_cons rfl rfl)) (.keep .rfl' rfl (.row' rfl (by simp) (.keep .rfl' rfl (.keep .rfl' rfl .nil)))) rfl) ?_
          refine pw_ret ?_
          exact ⟨.inr rfl, rfl, rfl, rfl, ⟨_, (.cons _ _ _ _ (.tmp (of_decide_eq_true rfl) (PVle.of_canon (p := (.d (.v (.int .i64 ((((k : Nat) : Int) + 1) + b))))) (by rw [st3 hk ho]; first | rfl | (simp only [PV.canon, skp]; first | rfl | (split <;> first | rfl | (simp; done) | (exfalso; omega)))))) (.cons _ _ _ _ (.tmp (of_decide_eq_true rfl) (PVle.of_canon (p := (.d (.sl 1 false (s.map eU)))) (by rw [st3 hk ho]; first | rfl | (simp only [PV.canon, skp]; first | rfl | (split <;> first | rfl | (simp; done) | (exfalso; omega)))))) (.cons _ _ _ _ (.tmp (of_decide_eq_true rfl) (PVle.of_canon (p := (.d (.sl 1 true []))) (by rw [st3 hk ho]; first | rfl | (simp only [PV.canon, skp]; first | rfl | (split <;> first | rfl | (simp; done) | (exfalso; omega)))))) (.cons _ _ _ _ (.tmp (of_decide_eq_true rfl) (PVle.of_canon (p := (.d (.v (.bool false)))) (by rw [st3 hk ho]; first | rfl | (simp only [PV.canon, skp]; first | rfl | (split <;> first | rfl | (simp; done) | (exfalso; omega)))))) .nil)))), rfl⟩⟩
        ·
          replace hb4 := of_decide_eq_false hb4
          refine pw_skip ?_
          refine pw_seq ?_
          refine pw_wk (Wk.ofL (n := 106) (l := [(1, (.d (.v (.int .i64 ((k : Nat) : Int))))), (6, (.d (.v (.int .i64 0)))), (7, (.d (.sl 1 true []))), (8, (.d (.sl 1 true []))), (9, (.d (.v (.bool false)))), (10, (.ms 0 0 1 s.length)), (11, (.ptr 1 0))]) (S := ⟨[some (row eU s), some [(.d (.v (.int .u8 3))), (.d (.v (.int .i64 a))), (.d (.v (.int .i64 b)))]], []⟩) rfl rfl (.cons .rfl' (.cons .rfl' (.cons .rfl' (.cons .rfl' (.cons .rfl' (.cons .rfl' (.cons .rfl' .nil)))))))) ?_
          refine pw_quiet Trymixed (by kernel_rfl) ?_
          refine q_step 1 rfl (o_move (p := (.d (.v (.int .i64 ((k : Nat) : Int))))) rfl rfl) ?_
          refine q_step 1 rfl (opS_bin (k := .i64) (m := ((k : Nat) : Int)) (n := 1) rfl rfl rfl (ib_add (by omega) (by omega))) ?_
          refine q_step 1 rfl (o_move (p := (.ms 0 0 1 s.length)) rfl rfl) ?_
          refine q_step 1 rfl (opS_field_ptr (b := 1) (off := 0) rfl Try.underlying32 rfl sz5 (of_decide_eq_true rfl) rfl) ?_
          refine q_step 1 rfl (opS_load_box (b := 1) (off := 0) (cs := [(.d (.v (.int .u8 3))), (.d (.v (.int .i64 a))), (.d (.v (.int .i64 b)))]) (p := (.d (.v (.int .u8 3)))) rfl Try.underlying5 rfl rfl rfl rfl) ?_
          refine q_step 1 rfl (opS_bin (k := .u8) (m := 3) (n := 4) rfl rfl rfl (ib_eq (c := false) rfl)) ?_
          refine q_step 1 rfl (o_assign (p := (.d (.v (.int .i64 (((k : Nat) : Int) + 1))))) rfl rfl) ?_
          refine q_step 1 rfl (o_assign (p := (.ms 0 0 1 s.length)) rfl rfl) ?_
          refine q_step 1 rfl (o_assign (p := (.d (.sl 1 true []))) rfl rfl) ?_
          refine q_step 1 rfl (o_assign (p := (.d (.v (.bool false)))) rfl rfl) ?_
          refine q_nil ?_
          refine pw_wk (Wk.freeze_row (f := eU) (xs := s) (b := 0) (sz := 1) (n := 106) (l := [(6, (.d (.v (.int .i64 (((k : Nat) : Int) + 1))))), (7, (.d (.sl 1 false (s.map eU)))), (8, (.d (.sl 1 true []))), (9, (.d (.v (.bool false))))]) (S' := ⟨[none, some [(.d (.v (.int .u8 3))), (.d (.v (.int .i64 a))), (.d (.v (.int .i64 b)))]], []⟩) (by rw [hb0]; decide) rfl rfl (fun _ => rfl) (nobB_self (nobB_cons rfl rfl)) (.keep .rfl' rfl (.row' rfl (by simp) (.keep .rfl' rfl (.keep .rfl' rfl .nil)))) rfl) ?_
          refine pw_ret ?_
          exact ⟨.inr rfl, rfl, rfl, rfl, ⟨_, (.cons _ _ _ _ (.tmp (of_decide_eq_true rfl) (PVle.of_canon (p := (.d (.v (.int .i64 (((k : Nat) : Int) + 1))))) (by rw [st3 hk ho]; first | rfl | (simp only [PV.canon, skp]; first | rfl | (split <;> first | rfl | (simp; done) | (exfalso; omega)))))) (.cons _ _ _ _ (.tmp (of_decide_eq_true rfl) (PVle.of_canon (p := (.d (.sl 1 false (s.map eU)))) (by rw [st3 hk ho]; first | rfl | (simp only [PV.canon, skp]; first | rfl | (split <;> first | rfl | (simp; done) | (exfalso; omega)))))) (.cons _ _ _ _ (.tmp (of_decide_eq_true rfl) (PVle.of_canon (p := (.d (.sl 1 true []))) (by rw [st3 hk ho]; first | rfl | (simp only [PV.canon, skp]; first | rfl | (split <;> first | rfl | (simp; done) | (exfalso; omega)))))) (.cons _ _ _ _ (.tmp (of_decide_eq_true rfl) (PVle.of_canon (p := (.d (.v (.bool false)))) (by rw [st3 hk ho]; first | rfl | (simp only [PV.canon, skp]; first | rfl | (split <;> first | rfl | (simp; done) | (exfalso; omega)))))) .nil)))), rfl⟩⟩
      ·
        refine pw_wk (Wk.ofL (n := 106) (l := [(1, (.d (.v (.int .i64 ((k : Nat) : Int))))), (6, (.d (.v (.int .i64 0)))), (7, (.d (.sl 1 true []))), (8, (.d (.sl 1 true []))), (9, (.d (.v (.bool false)))), (10, (.ms 0 0 1 s.length)), (11, (.ptr 1 0)), (12, (.d (.v (.bool false))))]) (S := ⟨[some (row eU s), some [(.d (.v (.int .u8 3))), (.d (.v (.int .i64 a))), (.d (.v (.int .i64 b)))]], []⟩) rfl rfl (.cons .rfl' (.cons .rfl' (.cons .rfl' (.cons .rfl' (.cons .rfl' (.cons .rfl' (.cons .rfl' (.cons (.of_eq (congrArg (fun x => PV.d (.v (.bool x))) (decide_eq_false hc3))) .nil))))))))) ?_
        refine pw_region ?_
        refine pwl_step 1 rfl (o_move (p := (.d (.v (.bool false)))) rfl rfl) ?_
        refine pwl_step 1 rfl (o_move (p := (.d (.v (.bool false)))) rfl rfl) ?_
        refine pwl_step_no rfl rfl ?_
        refine pwl_step_no rfl rfl ?_
        refine pwl_step_no rfl rfl ?_
        refine pwl_step_no rfl rfl ?_
        refine pwl_step_no rfl rfl ?_
        refine pwl_step_no rfl rfl ?_
        refine pwl_step 1 rfl (o_pick_f (p := (.d (.v (.bool false)))) rfl rfl rfl) ?_
        refine pwl_nil ?_
        refine pw_cond (b := false) rfl (fun h => by cases h) (fun _ => ?_)
        refine pw_skip ?_
        refine pw_seq ?_
        refine pw_wk (Wk.ofL (n := 106) (l := [(1, (.d (.v (.int .i64 ((k : Nat) : Int))))), (6, (.d (.v (.int .i64 0)))), (7, (.d (.sl 1 true []))), (8, (.d (.sl 1 true []))), (9, (.d (.v (.bool false)))), (10, (.ms 0 0 1 s.length)), (11, (.ptr 1 0))]) (S := ⟨[some (row eU s), some [(.d (.v (.int .u8 3))), (.d (.v (.int .i64 a))), (.d (.v (.int .i64 b)))]], []⟩) rfl rfl (.cons .rfl' (.cons .rfl' (.cons .rfl' (.cons .rfl' (.cons .rfl' (.cons .rfl' (.cons .rfl' .nil)))))))) ?_
        refine pw_quiet Trymixed (by kernel_rfl) ?_
        refine q_step 1 rfl (o_move (p := (.d (.v (.int .i64 ((k : Nat) : Int))))) rfl rfl) ?_
        refine q_step 1 rfl (opS_bin (k := .i64) (m := ((k : Nat) : Int)) (n := 1) rfl rfl rfl (ib_add (by omega) (by omega))) ?_
        refine q_step 1 rfl (o_move (p := (.ms 0 0 1 s.length)) rfl rfl) ?_
        refine q_step 1 rfl (opS_field_ptr (b := 1) (off := 0) rfl Try.underlying32 rfl sz5 (of_decide_eq_true rfl) rfl) ?_
        refine q_step 1 rfl (opS_load_box (b := 1) (off := 0) (cs := [(.d (.v (.int .u8 3))), (.d (.v (.int .i64 a))), (.d (.v (.int .i64 b)))]) (p := (.d (.v (.int .u8 3)))) rfl Try.underlying5 rfl rfl rfl rfl) ?_
        refine q_step 1 rfl (opS_bin (k := .u8) (m := 3) (n := 4) rfl rfl rfl (ib_eq (c := false) rfl)) ?_
        refine q_step 1 rfl (o_assign (p := (.d (.v (.int .i64 (((k : Nat) : Int) + 1))))) rfl rfl) ?_
        refine q_step 1 rfl (o_assign (p := (.ms 0 0 1 s.length)) rfl rfl) ?_
        refine q_step 1 rfl (o_assign (p := (.d (.sl 1 true []))) rfl rfl) ?_
        refine q_step 1 rfl (o_assign (p := (.d (.v (.bool false)))) rfl rfl) ?_
        refine q_nil ?_
        refine pw_wk (Wk.freeze_row (f := eU) (xs := s) (b := 0) (sz := 1) (n := 106) (l := [(6, (.d (.v (.int .i64 (((k : Nat) : Int) + 1))))), (7, (.d (.sl 1 false (s.map eU)))), (8, (.d (.sl 1 true []))), (9, (.d (.v (.bool false))))]) (S' := ⟨[none, some [(.d (.v (.int .u8 3))), (.d (.v (.int .i64 a))), (.d (.v (.int .i64 b)))]], []⟩) (by rw [hb0]; decide) rfl rfl (fun _ => rfl) (nobB_self (nobB_cons rfl rfl)) (.keep .rfl' rfl (.row' rfl (by simp) (.keep .rfl' rfl (.keep .rfl' rfl .nil)))) rfl) ?_
        refine pw_ret ?_
        exact ⟨.inr rfl, rfl, rfl, rfl, ⟨_, (.cons _ _ _ _ (.tmp (of_decide_eq_true rfl) (PVle.of_canon (p := (.d (.v (.int .i64 (((k : Nat) : Int) + 1))))) (by rw [st3 hk ho]; first | rfl | (simp only [PV.canon, skp]; first | rfl | (split <;> first | rfl | (simp; done) | (exfalso; omega)))))) (.cons _ _ _ _ (.tmp (of_decide_eq_true rfl) (PVle.of_canon (p := (.d (.sl 1 false (s.map eU)))) (by rw [st3 hk ho]; first | rfl | (simp only [PV.canon, skp]; first | rfl | (split <;> first | rfl | (simp; done) | (exfalso; omega)))))) (.cons _ _ _ _ (.tmp (of_decide_eq_true rfl) (PVle.of_canon (p := (.d (.sl 1 true []))) (by rw [st3 hk ho]; first | rfl | (simp only [PV.canon, skp]; first | rfl | (split <;> first | rfl | (simp; done) | (exfalso; omega)))))) (.cons _ _ _ _ (.tmp (of_decide_eq_true rfl) (PVle.of_canon (p := (.d (.v (.bool false)))) (by rw [st3 hk ho]; first | rfl | (simp only [PV.canon, skp]; first | rfl | (split <;> first | rfl | (simp; done) | (exfalso; omega)))))) .nil)))), rfl⟩⟩
    ·
      refine pw_region ?_
      refine pwl_step 1 rfl (opS_field_ptr (b := 1) (off := 0) rfl Try.underlying32 rfl sz3 (of_decide_eq_true rfl) rfl) ?_
      refine pwl_step 1 rfl (opS_load_box (b := 1) (off := 2) (cs := [(.d (.v (.int .u8 3))), (.d (.v (.int .i64 a))), (.d (.v (.int .i64 b)))]) (p := (.d (.v (.int .i64 b)))) rfl Try.underlying3 rfl rfl rfl rfl) ?_
      refine pwl_step 1 rfl (opS_bin (k := .i64) (m := b) (n := 0) rfl rfl rfl (ib_ge (decide_eq_false hc2))) ?_
      refine pwl_step 1 rfl (o_move (p := (.d (.v (.bool false)))) rfl rfl) ?_
      refine pwl_step_no rfl rfl ?_
      refine pwl_step_no rfl rfl ?_
      refine pwl_step_no rfl rfl ?_
      refine pwl_step_no rfl rfl ?_
      refine pwl_step_no rfl rfl ?_
      refine pwl_step 1 rfl (o_pick_f (p := (.d (.v (.bool false)))) rfl rfl rfl) ?_
      refine pwl_step 1 rfl (o_assign (p := (.d (.v (.bool false)))) rfl rfl) ?_
      refine pwl_nil ?_
      refine pw_seq ?_
      refine pw_seq ?_
      refine pw_region ?_
      refine pwl_step 1 rfl (opS_field_ptr (b := 1) (off := 0) rfl Try.underlying32 rfl sz5 (of_decide_eq_true rfl) rfl) ?_
      refine pwl_step 1 rfl (opS_load_box (b := 1) (off := 0) (cs := [(.d (.v (.int .u8 3))), (.d (.v (.int .i64 a))), (.d (.v (.int .i64 b)))]) (p := (.d (.v (.int .u8 3)))) rfl Try.underlying5 rfl rfl rfl rfl) ?_
      refine pwl_nil ?_
      refine pw_block ?_
      refine pw_seq ?_
      refine pw_region ?_
      refine pwl_step 1 rfl (opS_bin (k := .u8) (m := 3) (n := 0) rfl rfl rfl (ib_eq (c := false) rfl)) ?_
      refine pwl_step 1 rfl (o_assign (p := (.d (.v (.bool false)))) rfl rfl) ?_
      refine pwl_nil ?_
      refine pw_cond (b := false) rfl (fun h => by cases h) (fun _ => ?_)
      refine pw_seq ?_
      refine pw_region ?_
      refine pwl_step 1 rfl (opS_bin (k := .u8) (m := 3) (n := 1) rfl rfl rfl (ib_eq (c := false) rfl)) ?_
      refine pwl_step 1 rfl (o_assign (p := (.d (.v (.bool false)))) rfl rfl) ?_
      refine pwl_nil ?_
      refine pw_cond (b := false) rfl (fun h => by cases h) (fun _ => ?_)
      refine pw_seq ?_
      refine pw_region ?_
      refine pwl_step 1 rfl (opS_bin (k := .u8) (m := 3) (n := 2) rfl rfl rfl (ib_eq (c := false) rfl)) ?_
      refine pwl_step 1 rfl (o_assign (p := (.d (.v (.bool false)))) rfl rfl) ?_
      refine pwl_nil ?_
      refine pw_cond (b := false) rfl (fun h => by cases h) (fun _ => ?_)
      refine pw_seq ?_
      refine pw_region ?_
      refine pwl_step 1 rfl (opS_bin (k := .u8) (m := 3) (n := 3) rfl rfl rfl (ib_eq (c := true) rfl)) ?_
      refine pwl_step 1 rfl (o_assign (p := (.d (.v (.bool true)))) rfl rfl) ?_
      refine pwl_nil ?_
      refine pw_cond (b := true) rfl (fun _ => ?_) (fun h => by cases h)
      refine pw_seq ?_
      refine pw_wk (Wk.ofL (n := 106) (l := [(1, (.d (.v (.int .i64 ((k : Nat) : Int))))), (6, (.d (.v (.int .i64 0)))), (7, (.d (.sl 1 true []))), (8, (.d (.sl 1 true []))), (9, (.d (.v (.bool false)))), (10, (.ms 0 0 1 s.length)), (11, (.ptr 1 0)), (12, (.d (.v (.bool (decide (a < (((s.length : Nat)) : Int)))))))]) (S := ⟨[some (row eU s), some [(.d (.v (.int .u8 3))), (.d (.v (.int .i64 a))), (.d (.v (.int .i64 b)))]], []⟩) rfl rfl (.cons .rfl' (.cons .rfl' (.cons .rfl' (.cons .rfl' (.cons .rfl' (.cons .rfl' (.cons .rfl' (.cons .rfl' .nil))))))))) ?_
      by_cases hc5 : a < (((s.length : Nat)) : Int)
      ·
        refine pw_wk (Wk.ofL (n := 106) (l := [(1, (.d (.v (.int .i64 ((k : Nat) : Int))))), (6, (.d (.v (.int .i64 0)))), (7, (.d (.sl 1 true []))), (8, (.d (.sl 1 true []))), (9, (.d (.v (.bool false)))), (10, (.ms 0 0 1 s.length)), (11, (.ptr 1 0)), (12, (.d (.v (.bool true))))]) (S := ⟨[some (row eU s), some [(.d (.v (.int .u8 3))), (.d (.v (.int .i64 a))), (.d (.v (.int .i64 b)))]], []⟩) rfl rfl (.cons .rfl' (.cons .rfl' (.cons .rfl' (.cons .rfl' (.cons .rfl' (.cons .rfl' (.cons .rfl' (.cons (.of_eq (congrArg (fun x => PV.d (.v (.bool x))) (decide_eq_true hc5))) .nil))))))))) ?_
        refine pw_region ?_
        refine pwl_step 1 rfl (o_move (p := (.d (.v (.bool true)))) rfl rfl) ?_
        refine pwl_step 1 rfl (o_move (p := (.d (.v (.bool true)))) rfl rfl) ?_
        refine pwl_step_yes 1 rfl rfl (o_move (p := (.ms 0 0 1 s.length)) rfl rfl) ?_
        refine pwl_step_yes 1 rfl rfl (opS_field_ptr (b := 1) (off := 0) rfl Try.underlying32 rfl sz3 (of_decide_eq_true rfl) rfl) ?_
        refine pwl_step_yes 1 rfl rfl (opS_load_box (b := 1) (off := 1) (cs := [(.d (.v (.int .u8 3))), (.d (.v (.int .i64 a))), (.d (.v (.int .i64 b)))]) (p := (.d (.v (.int .i64 a)))) rfl Try.underlying3 rfl rfl rfl rfl) ?_
        refine pwl_step_yes 1 rfl rfl (o_index_row (b := 0) (sz := 1) (n := s.length) (j := a.toNat) (k := .i64) (i := a) rfl Try.underlying23 sz39 rfl rfl (by omega) (by omega)) ?_
        refine pwl_step_yes 1 rfl rfl (o_load_row (f := eU) (xs := s) (b := 0) (n := 1) (i := a.toNat) (k := 0) (c := (.v (.int .u64 (s.getD a.toNat default)))) rfl Try.underlying39 rfl rfl rfl (fun _ => rfl) (by omega) (of_decide_eq_true rfl) rfl) ?_
        refine pwl_step_yes 1 rfl rfl (opS_bin (k := .u64) (m := (s.getD a.toNat default)) (n := 0) rfl rfl rfl (ib_eq rfl)) ?_
        refine pwl_step 1 rfl (o_pick_t (p := (.d (.v (.bool (decide ((s.getD a.toNat default) = 0)))))) rfl rfl rfl) ?_
        refine pwl_nil ?_
        refine pw_cond (b := decide ((s.getD a.toNat default) = 0)) rfl (fun hb6 => ?_) (fun hb6 => ?_)
        ·
          replace hb6 := of_decide_eq_true hb6
          refine pw_seq ?_
          refine pw_wk (Wk.ofL (n := 106) (l := [(1, (.d (.v (.int .i64 ((k : Nat) : Int))))), (6, (.d (.v (.int .i64 0)))), (7, (.d (.sl 1 true []))), (8, (.d (.sl 1 true []))), (9, (.d (.v (.bool false)))), (10, (.ms 0 0 1 s.length)), (11, (.ptr 1 0))]) (S := ⟨[some (row eU s), some [(.d (.v (.int .u8 3))), (.d (.v (.int .i64 a))), (.d (.v (.int .i64 b)))]], []⟩) rfl rfl (.cons .rfl' (.cons .rfl' (.cons .rfl' (.cons .rfl' (.cons .rfl' (.cons .rfl' (.cons .rfl' .nil)))))))) ?_
          refine pw_region ?_
          refine pwl_step 1 rfl (o_move (p := (.d (.v (.int .i64 ((k : Nat) : Int))))) rfl rfl) ?_
          refine pwl_step 1 rfl (opS_bin (k := .i64) (m := ((k : Nat) : Int)) (n := 1) rfl rfl rfl (ib_add (by omega) (by omega))) ?_
          refine pwl_step 1 rfl (opS_field_ptr (b := 1) (off := 0) rfl Try.underlying32 rfl sz3 (of_decide_eq_true rfl) rfl) ?_
          refine pwl_step 1 rfl (opS_load_box (b := 1) (off := 2) (cs := [(.d (.v (.int .u8 3))), (.d (.v (.int .i64 a))), (.d (.v (.int .i64 b)))]) (p := (.d (.v (.int .i64 b)))) rfl Try.underlying3 rfl rfl rfl rfl) ?_
          refine pwl_step 1 rfl (opS_bin (k := .i64) (m := (((k : Nat) : Int) + 1)) (n := b) rfl rfl rfl (ib_add (by omega) (by omega))) ?_
          refine pwl_step 1 rfl (o_move (p := (.ms 0 0 1 s.length)) rfl rfl) ?_
          refine pwl_step 1 rfl (o_assign (p := (.d (.v (.int .i64 ((((k : Nat) : Int) + 1) + b))))) rfl rfl) ?_
          refine pwl_step 1 rfl (o_assign (p := (.ms 0 0 1 s.length)) rfl rfl) ?_
          refine pwl_step 1 rfl (o_assign (p := (.d (.sl 1 true []))) rfl rfl) ?_
          refine pwl_step 1 rfl (o_assign (p := (.d (.v (.bool false)))) rfl rfl) ?_
          refine pwl_nil ?_
          refine pw_wk (Wk.freeze_row (f := eU) (xs := s) (b := 0) (sz := 1) (n := 106) (l := [(6, (.d (.v (.int .i64 ((((k : Nat) : Int) + 1) + b))))), (7, (.d (.sl 1 false (s.map eU)))), (8, (.d (.sl 1 true []))), (9, (.d (.v (.bool false))))]) (S' := ⟨[none, some [(.d (.v (.int .u8 3))), (.d (.v (.int .i64 a))), (.d (.v (.int .i64 b)))]], []⟩) (by rw [hb0]; decide) rfl rfl (fun _ => rfl) (nobB_self (nobB_cons rfl rfl)) (.keep .rfl' rfl (.row' rfl (by simp) (.keep .rfl' rfl (.keep .rfl' rfl .nil)))) rfl) ?_
          refine pw_ret ?_
          exact ⟨.inr rfl, rfl, rfl, rfl, ⟨_, (.cons _ _ _ _ (.tmp (of_decide_eq_true rfl) (PVle.of_canon (p := (.d (.v (.int .i64 ((((k : Nat) : Int) + 1) + b))))) (by rw [st3 hk ho]; first | rfl | (simp only [PV.canon, skp]; first | rfl | (split <;> first | rfl | (simp; done) | (exfalso; omega)))))) (.cons _ _ _ _ (.tmp (of_decide_eq_true rfl) (PVle.of_canon (p := (.d (.sl 1 false (s.map eU)))) (by rw [st3 hk ho]; first | rfl | (simp only [PV.canon, skp]; first | rfl | (split <;> first | rfl | (simp; done) | (exfalso; omega)))))) (.cons _ _ _ _ (.tmp (of_decide_eq_true rfl) (PVle.of_canon (p := (.d (.sl 1 true []))) (by rw [st3 hk ho]; first | rfl | (simp only [PV.canon, skp]; first | rfl | (split <;> first | rfl | (simp; done) | (exfalso; omega)))))) (.cons _ _ _ _ (.tmp (of_decide_eq_true rfl) (PVle.of_canon (p := (.d (.v (.bool false)))) (by rw [st3 hk ho]; first | rfl | (simp only [PV.canon, skp]; first | rfl | (split <;> first | rfl | (simp; done) | (exfalso; omega)))))) .nil)))), rfl⟩⟩
        ·
          replace hb6 := of_decide_eq_false hb6
          refine pw_skip ?_
          refine pw_seq ?_
          refine pw_wk (Wk.ofL (n := 106) (l := [(1, (.d (.v (.int .i64 ((k : Nat) : Int))))), (6, (.d (.v (.int .i64 0)))), (7, (.d (.sl 1 true []))), (8, (.d (.sl 1 true []))), (9, (.d (.v (.bool false)))), (10, (.ms 0 0 1 s.length)), (11, (.ptr 1 0))]) (S := ⟨[some (row eU s), some [(.d (.v (.int .u8 3))), (.d (.v (.int .i64 a))), (.d (.v (.int .i64 b)))]], []⟩) rfl rfl (.cons .rfl' (.cons .rfl' (.cons .rfl' (.cons .rfl' (.cons .rfl' (.cons .rfl' (.cons .rfl' .nil)))))))) ?_
          refine pw_quiet Trymixed (by kernel_rfl) ?_
          refine q_step 1 rfl (o_move (p := (.d (.v (.int .i64 ((k : Nat) : Int))))) rfl rfl) ?_
          refine q_step 1 rfl (opS_bin (k := .i64) (m := ((k : Nat) : Int)) (n := 1) rfl rfl rfl (ib_add (by omega) (by omega))) ?_
          refine q_step 1 rfl (o_move (p := (.ms 0 0 1 s.length)) rfl rfl) ?_
          refine q_step 1 rfl (opS_field_ptr (b := 1) (off := 0) rfl Try.underlying32 rfl sz5 (of_decide_eq_true rfl) rfl) ?_
          refine q_step 1 rfl (opS_load_box (b := 1) (off := 0) (cs := [(.d (.v (.int .u8 3))), (.d (.v (.int .i64 a))), (.d (.v (.int .i64 b)))]) (p := (.d (.v (.int .u8 3)))) rfl Try.underlying5 rfl rfl rfl rfl) ?_
          refine q_step 1 rfl (opS_bin (k := .u8) (m := 3) (n := 4) rfl rfl rfl (ib_eq (c := false) rfl)) ?_
          refine q_step 1 rfl (o_assign (p := (.d (.v (.int .i64 (((k : Nat) : Int) + 1))))) rfl rfl) ?_
          refine q_step 1 rfl (o_assign (p := (.ms 0 0 1 s.length)) rfl rfl) ?_
          refine q_step 1 rfl (o_assign (p := (.d (.sl 1 true []))) rfl rfl) ?_
          refine q_step 1 rfl (o_assign (p := (.d (.v (.bool false)))) rfl rfl) ?_
          refine q_nil ?_
          refine pw_wk (Wk.freeze_row (f := eU) (xs := s) (b := 0) (sz := 1) (n := 106) (l := [(6, (.d (.v (.int .i64 (((k : Nat) : Int) + 1))))), (7, (.d (.sl 1 false (s.map eU)))), (8, (.d (.sl 1 true []))), (9, (.d (.v (.bool false))))]) (S' := ⟨[none, some [(.d (.v (.int .u8 3))), (.d (.v (.int .i64 a))), (.d (.v (.int .i64 b)))]], []⟩) (by rw [hb0]; decide) rfl rfl (fun _ => rfl) (nobB_self (nobB_cons rfl rfl)) (.keep .rfl' rfl (.row' rfl (by simp) (.keep .rfl' rfl (.keep .rfl' rfl .nil)))) rfl) ?_
          refine pw_ret ?_
          exact ⟨.inr rfl, rfl, rfl, rfl, ⟨_, (.cons _ _ _ _ (.tmp (of_decide_eq_true rfl) (PVle.of_canon (p := (.d (.v (.int .i64 (((k : Nat) : Int) + 1))))) (by rw [st3 hk ho]; first | rfl | (simp only [PV.canon, skp]; first | rfl | (split <;> first | rfl | (simp; done) | (exfalso; omega)))))) (.cons _ _ _ _ (.tmp (of_decide_eq_true rfl) (PVle.of_canon (p := (.d (.sl 1 false (s.map eU)))) (by rw [st3 hk ho]; first | rfl | (simp only [PV.canon, skp]; first | rfl | (split <;> first | rfl | (simp; done) | (exfalso; omega)))))) (.cons _ _ _ _ (.tmp (of_decide_eq_true rfl) (PVle.of_canon (p := (.d (.sl 1 true []))) (by rw [st3 hk ho]; first | rfl | (simp only [PV.canon, skp]; first | rfl | (split <;> first | rfl | (simp; done) | (exfalso; omega)))))) (.cons _ _ _ _ (.tmp (of_decide_eq_true rfl) (PVle.of_canon (p := (.d (.v (.bool false)))) (by rw [st3 hk ho]; first | rfl | (simp only [PV.canon, skp]; first | rfl | (split <;> first | rfl | (simp; done) | (exfalso; omega)))))) .nil)))), rfl⟩⟩
      ·
        refine pw_wk (Wk.ofL (n := 106) (l := [(1, (.d (.v (.int .i64 ((k : Nat) : Int))))), (6, (.d (.v (.int .i64 0)))), (7, (.d (.sl 1 true []))), (8, (.d (.sl 1 true []))), (9, (.d (.v (.bool false)))), (10, (.ms 0 0 1 s.length)), (11, (.ptr 1 0)), (12, (.d (.v (.bool false))))]) (S := ⟨[some (row eU s), some [(.d (.v (.int .u8 3))), (.d (.v (.int .i64 a))), (.d (.v (.int .i64 b)))]], []⟩) rfl rfl (.cons .rfl' (.cons .rfl' (.cons .rfl' (.cons .rfl' (.cons .rfl' (.cons .rfl' (.cons .rfl' (.cons (.of_eq (congrArg (fun x => PV.d (.v (.bool x))) (decide_eq_false hc5))) .nil))))))))) ?_
        refine pw_region ?_
        refine pwl_step 1 rfl (o_move (p := (.d (.v (.bool false)))) rfl rfl) ?_
        refine pwl_step 1 rfl (o_move (p := (.d (.v (.bool false)))) rfl rfl) ?_
        refine pwl_step_no rfl rfl ?_
        refine pwl_step_no rfl rfl ?_
        refine pwl_step_no rfl rfl ?_
        refine pwl_step_no rfl rfl ?_
        refine pwl_step_no rfl rfl ?_
        refine pwl_step_no rfl rfl ?_
        refine pwl_step 1 rfl (o_pick_f (p := (.d (.v (.bool false)))) rfl rfl rfl) ?_
        refine pwl_nil ?_
        refine pw_cond (b := false) rfl (fun h => by cases h) (fun _ => ?_)
        refine pw_skip ?_
        refine pw_seq ?_
        refine pw_wk (Wk.ofL (n := 106) (l := [(1, (.d (.v (.int .i64 ((k : Nat) : Int))))), (6, (.d (.v (.int .i64 0)))), (7, (.d (.sl 1 true []))), (8, (.d (.sl 1 true []))), (9, (.d (.v (.bool false)))), (10, (.ms 0 0 1 s.length)), (11, (.ptr 1 0))]) (S := ⟨[some (row eU s), some [(.d (.v (.int .u8 3))), (.d (.v (.int .i64 a))), (.d (.v (.int .i64 b)))]], []⟩) rfl rfl (.cons .rfl' (.cons .rfl' (.cons .rfl' (.cons .rfl' (.cons .rfl' (.cons .rfl' (.cons .rfl' .nil)))))))) ?_
        refine pw_quiet Trymixed (by kernel_rfl) ?_
        refine q_step 1 rfl (o_move (p := (.d (.v (.int .i64 ((k : Nat) : Int))))) rfl rfl) ?_
        refine q_step 1 rfl (opS_bin (k := .i64) (m := ((k : Nat) : Int)) (n := 1) rfl rfl rfl (ib_add (by omega) (by omega))) ?_
        refine q_step 1 rfl (o_move (p := (.ms 0 0 1 s.length)) rfl rfl) ?_
        refine q_step 1 rfl (opS_field_ptr (b := 1) (off := 0) rfl Try.underlying32 rfl sz5 (of_decide_eq_true rfl) rfl) ?_
        refine q_step 1 rfl (opS_load_box (b := 1) (off := 0) (cs := [(.d (.v (.int .u8 3))), (.d (.v (.int .i64 a))), (.d (.v (.int .i64 b)))]) (p := (.d (.v (.int .u8 3)))) rfl Try.underlying5 rfl rfl rfl rfl) ?_
        refine q_step 1 rfl (opS_bin (k := .u8) (m := 3) (n := 4) rfl rfl rfl (ib_eq (c := false) rfl)) ?_
        refine q_step 1 rfl (o_assign (p := (.d (.v (.int .i64 (((k : Nat) : Int) + 1))))) rfl rfl) ?_
        refine q_step 1 rfl (o_assign (p := (.ms 0 0 1 s.length)) rfl rfl) ?_
        refine q_step 1 rfl (o_assign (p := (.d (.sl 1 true []))) rfl rfl) ?_
        refine q_step 1 rfl (o_assign (p := (.d (.v (.bool false)))) rfl rfl) ?_
        refine q_nil ?_
        refine pw_wk (Wk.freeze_row (f := eU) (xs := s) (b := 0) (sz := 1) (n := 106) (l := [(6, (.d (.v (.int .i64 (((k : Nat) : Int) + 1))))), (7, (.d (.sl 1 false (s.map eU)))), (8, (.d (.sl 1 true []))), (9, (.d (.v (.bool false))))]) (S' := ⟨[none, some [(.d (.v (.int .u8 3))), (.d (.v (.int .i64 a))), (.d (.v (.int .i64 b)))]], []⟩) (by rw [hb0]; decide) rfl rfl (fun _ => rfl) (nobB_self (nobB_cons rfl rfl)) (.keep .rfl' rfl (.row' rfl (by simp) (.keep .rfl' rfl (.keep .rfl' rfl .nil)))) rfl) ?_
        refine pw_ret ?_
        exact ⟨.inr rfl, rfl, rfl, rfl, ⟨_, (.cons _ _ _ _ (.tmp (of_decide_eq_true rfl) (PVle.of_canon (p := (.d (.v (.int .i64 (((k : Nat) : Int) + 1))))) (by rw [st3 hk ho]; first | rfl | (simp only [PV.canon, skp]; first | rfl | (split <;> first | rfl | (simp; done) | (exfalso; omega)))))) (.cons _ _ _ _ (.tmp (of_decide_eq_true rfl) (PVle.of_canon (p := (.d (.sl 1 false (s.map eU)))) (by rw [st3 hk ho]; first | rfl | (simp only [PV.canon, skp]; first | rfl | (split <;> first | rfl | (simp; done) | (exfalso; omega)))))) (.cons _ _ _ _ (.tmp (of_decide_eq_true rfl) (PVle.of_canon (p := (.d (.sl 1 true []))) (by rw [st3 hk ho]; first | rfl | (simp only [PV.canon, skp]; first | rfl | (split <;> first | rfl | (simp; done) | (exfalso; omega)))))) (.cons _ _ _ _ (.tmp (of_decide_eq_true rfl) (PVle.of_canon (p := (.d (.v (.bool false)))) (by rw [st3 hk ho]; first | rfl | (simp only [PV.canon, skp]; first | rfl | (split <;> first | rfl | (simp; done) | (exfalso; omega)))))) .nil)))), rfl⟩⟩
  ·
    refine pw_region ?_
    refine pwl_step 1 rfl (opS_field_ptr (b := 1) (off := 0) rfl Try.underlying32 rfl sz3 (of_decide_eq_true rfl) rfl) ?_
    refine pwl_step 1 rfl (opS_load_box (b := 1) (off := 1) (cs := [(.d (.v (.int .u8 3))), (.d (.v (.int .i64 a))), (.d (.v (.int .i64 b)))]) (p := (.d (.v (.int .i64 a)))) rfl Try.underlying3 rfl rfl rfl rfl) ?_
    refine pwl_step 1 rfl (opS_bin (k := .i64) (m := a) (n := 0) rfl rfl rfl (ib_ge (decide_eq_false hc1))) ?_
    refine pwl_step 1 rfl (o_move (p := (.d (.v (.bool false)))) rfl rfl) ?_
    refine pwl_step_no rfl rfl ?_
    refine pwl_step_no rfl rfl ?_
    refine pwl_step_no rfl rfl ?_
    refine pwl_step_no rfl rfl ?_
    refine pwl_step_no rfl rfl ?_
    refine pwl_step 1 rfl (o_pick_f (p := (.d (.v (.bool false)))) rfl rfl rfl) ?_
    refine pwl_step 1 rfl (o_assign (p := (.d (.v (.bool false)))) rfl rfl) ?_
    refine pwl_nil ?_
    refine pw_seq ?_
    refine pw_wk (Wk.ofL (n := 106) (l := [(1, (.d (.v (.int .i64 ((k : Nat) : Int))))), (6, (.d (.v (.int .i64 0)))), (7, (.d (.sl 1 true []))), (8, (.d (.sl 1 true []))), (9, (.d (.v (.bool false)))), (10, (.ms 0 0 1 s.length)), (11, (.ptr 1 0)), (12, (.d (.v (.bool false))))]) (S := ⟨[some (row eU s), some [(.d (.v (.int .u8 3))), (.d (.v (.int .i64 a))), (.d (.v (.int .i64 b)))]], []⟩) rfl rfl (.cons .rfl' (.cons .rfl' (.cons .rfl' (.cons .rfl' (.cons .rfl' (.cons .rfl' (.cons .rfl' (.cons .rfl' .nil))))))))) ?_
    by_cases hc7 : 0 ≤ b
    ·
      refine pw_region ?_
      refine pwl_step 1 rfl (opS_field_ptr (b := 1) (off := 0) rfl Try.underlying32 rfl sz3 (of_decide_eq_true rfl) rfl) ?_
      refine pwl_step 1 rfl (opS_load_box (b := 1) (off := 2) (cs := [(.d (.v (.int .u8 3))), (.d (.v (.int .i64 a))), (.d (.v (.int .i64 b)))]) (p := (.d (.v (.int .i64 b)))) rfl Try.underlying3 rfl rfl rfl rfl) ?_
      refine pwl_step 1 rfl (opS_bin (k := .i64) (m := b) (n := 0) rfl rfl rfl (ib_ge (decide_eq_true hc7))) ?_
      refine pwl_step 1 rfl (o_move (p := (.d (.v (.bool true)))) rfl rfl) ?_
      refine pwl_step_yes 1 rfl rfl (opS_field_ptr (b := 1) (off := 0) rfl Try.underlying32 rfl sz3 (of_decide_eq_true rfl) rfl) ?_
      refine pwl_step_yes 1 rfl rfl (opS_load_box (b := 1) (off := 2) (cs := [(.d (.v (.int .u8 3))), (.d (.v (.int .i64 a))), (.d (.v (.int .i64 b)))]) (p := (.d (.v (.int .i64 b)))) rfl Try.underlying3 rfl rfl rfl rfl) ?_
      refine pwl_step_yes 1 rfl rfl (o_move (p := (.ms 0 0 1 s.length)) rfl rfl) ?_
      refine pwl_step_yes 1 rfl rfl (o_len_ms (b := 0) (off := 0) (sz := 1) (n := s.length) rfl Try.underlying23 rfl) ?_
      refine pwl_step_yes 1 rfl rfl (opS_bin (k := .i64) (m := b) (n := (((s.length : Nat)) : Int)) rfl rfl rfl (ib_lt rfl)) ?_
      refine pwl_step 1 rfl (o_pick_t (p := (.d (.v (.bool (decide (b < (((s.length : Nat)) : Int))))))) rfl rfl rfl) ?_
      refine pwl_step 1 rfl (o_assign (p := (.d (.v (.bool (decide (b < (((s.length : Nat)) : Int))))))) rfl rfl) ?_
      refine pwl_nil ?_
      refine pw_seq ?_
      refine pw_seq ?_
      refine pw_region ?_
      refine pwl_step 1 rfl (opS_field_ptr (b := 1) (off := 0) rfl Try.underlying32 rfl sz5 (of_decide_eq_true rfl) rfl) ?_
      refine pwl_step 1 rfl (opS_load_box (b := 1) (off := 0) (cs := [(.d (.v (.int .u8 3))), (.d (.v (.int .i64 a))), (.d (.v (.int .i64 b)))]) (p := (.d (.v (.int .u8 3)))) rfl Try.underlying5 rfl rfl rfl rfl) ?_
      refine pwl_nil ?_
      refine pw_block ?_
      refine pw_seq ?_
      refine pw_region ?_
      refine pwl_step 1 rfl (opS_bin (k := .u8) (m := 3) (n := 0) rfl rfl rfl (ib_eq (c := false) rfl)) ?_
      refine pwl_step 1 rfl (o_assign (p := (.d (.v (.bool false)))) rfl rfl) ?_
      refine pwl_nil ?_
      refine pw_cond (b := false) rfl (fun h => by cases h) (fun _ => ?_)
      refine pw_seq ?_
      refine pw_region ?_
      refine pwl_step 1 rfl (opS_bin (k := .u8) (m := 3) (n := 1) rfl rfl rfl (ib_eq (c := false) rfl)) ?_
      refine pwl_step 1 rfl (o_assign (p := (.d (.v (.bool false)))) rfl rfl) ?_
      refine pwl_nil ?_
      refine pw_cond (b := false) rfl (fun h => by cases h) (fun _ => ?_)
      refine pw_seq ?_
      refine pw_region ?_
      refine pwl_step 1 rfl (opS_bin (k := .u8) (m := 3) (n := 2) rfl rfl rfl (ib_eq (c := false) rfl)) ?_
      refine pwl_step 1 rfl (o_assign (p := (.d (.v (.bool false)))) rfl rfl) ?_
      refine pwl_nil ?_
      refine pw_cond (b := false) rfl (fun h => by cases h) (fun _ => ?_)
      refine pw_seq ?_
      refine pw_region ?_
      refine pwl_step 1 rfl (opS_bin (k := .u8) (m := 3) (n := 3) rfl rfl rfl (ib_eq (c := true) rfl)) ?_
      refine pwl_step 1 rfl (o_assign (p := (.d (.v (.bool true)))) rfl rfl) ?_
      refine pwl_nil ?_
      refine pw_cond (b := true) rfl (fun _ => ?_) (fun h => by cases h)
      refine pw_seq ?_
      refine pw_wk (Wk.ofL (n := 106) (l := [(1, (.d (.v (.int .i64 ((k : Nat) : Int))))), (6, (.d (.v (.int .i64 0)))), (7, (.d (.sl 1 true []))), (8, (.d (.sl 1 true []))), (9, (.d (.v (.bool false)))), (10, (.ms 0 0 1 s.length)), (11, (.ptr 1 0)), (12, (.d (.v (.bool false))))]) (S := ⟨[some (row eU s), some [(.d (.v (.int .u8 3))), (.d (.v (.int .i64 a))), (.d (.v (.int .i64 b)))]], []⟩) rfl rfl (.cons .rfl' (.cons .rfl' (.cons .rfl' (.cons .rfl' (.cons .rfl' (.cons .rfl' (.cons .rfl' (.cons .rfl' .nil))))))))) ?_
      refine pw_region ?_
      refine pwl_step 1 rfl (o_move (p := (.d (.v (.bool false)))) rfl rfl) ?_
      refine pwl_step 1 rfl (o_move (p := (.d (.v (.bool false)))) rfl rfl) ?_
      refine pwl_step_no rfl rfl ?_
      refine pwl_step_no rfl rfl ?_
      refine pwl_step_no rfl rfl ?_
      refine pwl_step_no rfl rfl ?_
      refine pwl_step_no rfl rfl ?_
      refine pwl_step_no rfl rfl ?_
      refine pwl_step 1 rfl (o_pick_f (p := (.d (.v (.bool false)))) rfl rfl rfl) ?_
      refine pwl_nil ?_
      refine pw_cond (b := false) rfl (fun h => by cases h) (fun _ => ?_)
      refine pw_skip ?_
      refine pw_seq ?_
      refine pw_wk (Wk.ofL (n := 106) (l := [(1, (.d (.v (.int .i64 ((k : Nat) : Int))))), (6, (.d (.v (.int .i64 0)))), (7, (.d (.sl 1 true []))), (8, (.d (.sl 1 true []))), (9, (.d (.v (.bool false)))), (10, (.ms 0 0 1 s.length)), (11, (.ptr 1 0))]) (S := ⟨[some (row eU s), some [(.d (.v (.int .u8 3))), (.d (.v (.int .i64 a))), (.d (.v (.int .i64 b)))]], []⟩) rfl rfl (.cons .rfl' (.cons .rfl' (.cons .rfl' (.cons .rfl' (.cons .rfl' (.cons .rfl' (.cons .rfl' .nil)))))))) ?_
      refine pw_quiet Trymixed (by kernel_rfl) ?_
      refine q_step 1 rfl (o_move (p := (.d (.v (.int .i64 ((k : Nat) : Int))))) rfl rfl) ?_
      refine q_step 1 rfl (opS_bin (k := .i64) (m := ((k : Nat) : Int)) (n := 1) rfl rfl rfl (ib_add (by omega) (by omega))) ?_
      refine q_step 1 rfl (o_move (p := (.ms 0 0 1 s.length)) rfl rfl) ?_
      refine q_step 1 rfl (opS_field_ptr (b := 1) (off := 0) rfl Try.underlying32 rfl sz5 (of_decide_eq_true rfl) rfl) ?_
      refine q_step 1 rfl (opS_load_box (b := 1) (off := 0) (cs := [(.d (.v (.int .u8 3))), (.d (.v (.int .i64 a))), (.d (.v (.int .i64 b)))]) (p := (.d (.v (.int .u8 3)))) rfl Try.underlying5 rfl rfl rfl rfl) ?_
      refine q_step 1 rfl (opS_bin (k := .u8) (m := 3) (n := 4) rfl rfl rfl (ib_eq (c := false) rfl)) ?_
      refine q_step 1 rfl (o_assign (p := (.d (.v (.int .i64 (((k : Nat) : Int) + 1))))) rfl rfl) ?_
      refine q_step 1 rfl (o_assign (p := (.ms 0 0 1 s.length)) rfl rfl) ?_
      refine q_step 1 rfl (o_assign (p := (.d (.sl 1 true []))) rfl rfl) ?_
      refine q_step 1 rfl (o_assign (p := (.d (.v (.bool false)))) rfl rfl) ?_
      refine q_nil ?_
      refine pw_wk (Wk.freeze_row (f := eU) (xs := s) (b := 0) (sz := 1) (n := 106) (l := [(6, (.d (.v (.int .i64 (((k : Nat) : Int) + 1))))), (7, (.d (.sl 1 false (s.map eU)))), (8, (.d (.sl 1 true []))), (9, (.d (.v (.bool false))))]) (S' := ⟨[none, some [(.d (.v (.int .u8 3))), (.d (.v (.int .i64 a))), (.d (.v (.int .i64 b)))]], []⟩) (by rw [hb0]; decide) rfl rfl (fun _ => rfl) (nobB_self (nobB_cons rfl rfl)) (.keep .rfl' rfl (.row' rfl (by simp) (.keep .rfl' rfl (.keep .rfl' rfl .nil)))) rfl) ?_
      refine pw_ret ?_
      exact ⟨.inr rfl, rfl, rfl, rfl, ⟨_, (.cons _ _ _ _ (.tmp (of_decide_eq_true rfl) (PVle.of_canon (p := (.d (.v (.int .i64 (((k : Nat) : Int) + 1))))) (by rw [st3 hk ho]; first | rfl | (simp only [PV.canon, skp]; first | rfl | (split <;> first | rfl | (simp; done) | (exfalso; omega)))))) (.cons _ _ _ _ (.tmp (of_decide_eq_true rfl) (PVle.of_canon (p := (.d (.sl 1 false (s.map eU)))) (by rw [st3 hk ho]; first | rfl | (simp only [PV.canon, skp]; first | rfl | (split <;> first | rfl | (simp; done) | (exfalso; omega)))))) (.cons _ _ _ _ (.tmp (of_decide_eq_true rfl) (PVle.of_canon (p := (.d (.sl 1 true []))) (by rw [st3 hk ho]; first | rfl | (simp only [PV.canon, skp]; first | rfl | (split <;> first | rfl | (simp; done) | (exfalso; omega)))))) (.cons _ _ _ _ (.tmp (of_decide_eq_true rfl) (PVle.of_canon (p := (.d (.v (.bool false)))) (by rw [st3 hk ho]; first | rfl | (simp only [PV.canon, skp]; first | rfl | (split <;> first | rfl | (simp; done) | (exfalso; omega)))))) .nil)))), rfl⟩⟩
    ·
      refine pw_region ?_
      refine pwl_step 1 rfl (opS_field_ptr (b := 1) (off := 0) rfl Try.underlying32 rfl sz3 (of_decide_eq_true rfl) rfl) ?_
      refine pwl_step 1 rfl (opS_load_box (b := 1) (off := 2) (cs := [(.d (.v (.int .u8 3))), (.d (.v (.int .i64 a))), (.d (.v (.int .i64 b)))]) (p := (.d (.v (.int .i64 b)))) rfl Try.underlying3 rfl rfl rfl rfl) ?_
      refine pwl_step 1 rfl (opS_bin (k := .i64) (m := b) (n := 0) rfl rfl rfl (ib_ge (decide_eq_false hc7))) ?_
      refine pwl_step 1 rfl (o_move (p := (.d (.v (.bool false)))) rfl rfl) ?_
      refine pwl_step_no rfl rfl ?_
      refine pwl_step_no rfl rfl ?_
      refine pwl_step_no rfl rfl ?_
      refine pwl_step_no rfl rfl ?_
      refine pwl_step_no rfl rfl ?_
      refine pwl_step 1 rfl (o_pick_f (p := (.d (.v (.bool false)))) rfl rfl rfl) ?_
      refine pwl_step 1 rfl (o_assign (p := (.d (.v (.bool false)))) rfl rfl) ?_
      refine pwl_nil ?_
      refine pw_seq ?_
      refine pw_seq ?_
      refine pw_region ?_
      refine pwl_step 1 rfl (opS_field_ptr (b := 1) (off := 0) rfl Try.underlying32 rfl sz5 (of_decide_eq_true rfl) rfl) ?_
      refine pwl_step 1 rfl (opS_load_box (b := 1) (off := 0) (cs := [(.d (.v (.int .u8 3))), (.d (.v (.int .i64 a))), (.d (.v (.int .i64 b)))]) (p := (.d (.v (.int .u8 3)))) rfl Try.underlying5 rfl rfl rfl rfl) ?_
      refine pwl_nil ?_
      refine pw_block ?_
      refine pw_seq ?_
      refine pw_region ?_
      refine pwl_step 1 rfl (opS_bin (k := .u8) (m := 3) (n := 0) rfl rfl rfl (ib_eq (c := false) rfl)) ?_
      refine pwl_step 1 rfl (o_assign (p := (.d (.v (.bool false)))) rfl rfl) ?_
      refine pwl_nil ?_
      refine pw_cond (b := false) rfl (fun h => by cases h) (fun _ => ?_)
      refine pw_seq ?_
      refine pw_region ?_
      refine pwl_step 1 rfl (opS_bin (k := .u8) (m := 3) (n := 1) rfl rfl rfl (ib_eq (c := false) rfl)) ?_
      refine pwl_step 1 rfl (o_assign (p := (.d (.v (.bool false)))) rfl rfl) ?_
      refine pwl_nil ?_
      refine pw_cond (b := false) rfl (fun h => by cases h) (fun _ => ?_)
      refine pw_seq ?_
      refine pw_region ?_
      refine pwl_step 1 rfl (opS_bin (k := .u8) (m := 3) (n := 2) rfl rfl rfl (ib_eq (c := false) rfl)) ?_
      refine pwl_step 1 rfl (o_assign (p := (.d (.v (.bool false)))) rfl rfl) ?_
      refine pwl_nil ?_
      refine pw_cond (b := false) rfl (fun h => by cases h) (fun _ => ?_)
      refine pw_seq ?_
      refine pw_region ?_
      refine pwl_step 1 rfl (opS_bin (k := .u8) (m := 3) (n := 3) rfl rfl rfl (ib_eq (c := true) rfl)) ?_
      refine pwl_step 1 rfl (o_assign (p := (.d (.v (.bool true)))) rfl rfl) ?_
      refine pwl_nil ?_
      refine pw_cond (b := true) rfl (fun _ => ?_) (fun h => by cases h)
      refine pw_seq ?_
      refine pw_wk (Wk.ofL (n := 106) (l := [(1, (.d (.v (.int .i64 ((k : Nat) : Int))))), (6, (.d (.v (.int .i64 0)))), (7, (.d (.sl 1 true []))), (8, (.d (.sl 1 true []))), (9, (.d (.v (.bool false)))), (10, (.ms 0 0 1 s.length)), (11, (.ptr 1 0)), (12, (.d (.v (.bool false))))]) (S := ⟨[some (row eU s), some [(.d (.v (.int .u8 3))), (.d (.v (.int .i64 a))), (.d (.v (.int .i64 b)))]], []⟩) rfl rfl (.cons .rfl' (.cons .rfl' (.cons .rfl' (.cons .rfl' (.cons .rfl' (.cons .rfl' (.cons .rfl' (.cons .rfl' .nil))))))))) ?_
      refine pw_region ?_
      refine pwl_step 1 rfl (o_move (p := (.d (.v (.bool false)))) rfl rfl) ?_
      refine pwl_step 1 rfl (o_move (p := (.d (.v (.bool false)))) rfl rfl) ?_
      refine pwl_step_no rfl rfl ?_
      refine pwl_step_no rfl rfl ?_
      refine pwl_step_no rfl rfl ?_
      refine pwl_step_no rfl rfl ?_
      refine pwl_step_no rfl rfl ?_
      refine pwl_step_no rfl rfl ?_
      refine pwl_step 1 rfl (o_pick_f (p := (.d (.v (.bool false)))) rfl rfl rfl) ?_
      refine pwl_nil ?_
      refine pw_cond (b := false) rfl (fun h => by cases h) (fun _ => ?_)
      refine pw_skip ?_
      refine pw_seq ?_
      refine pw_wk (Wk.ofL (n := 106) (l := [(1, (.d (.v (.int .i64 ((k : Nat) : Int))))), (6, (.d (.v (.int .i64 0)))), (7, (.d (.sl 1 true []))), (8, (.d (.sl 1 true []))), (9, (.d (.v (.bool false)))), (10, (.ms 0 0 1 s.length)), (11, (.ptr 1 0))]) (S := ⟨[some (row eU s), some [(.d (.v (.int .u8 3))), (.d (.v (.int .i64 a))), (.d (.v (.int .i64 b)))]], []⟩) rfl rfl (.cons .rfl' (.cons .rfl' (.cons .rfl' (.cons .rfl' (.cons .rfl' (.cons .rfl' (.cons .rfl' .nil)))))))) ?_
      refine pw_quiet Trymixed (by kernel_rfl) ?_
      refine q_step 1 rfl (o_move (p := (.d (.v (.int .i64 ((k : Nat) : Int))))) rfl rfl) ?_
      refine q_step 1 rfl (opS_bin (k := .i64) (m := ((k : Nat) : Int)) (n := 1) rfl rfl rfl (ib_add (by omega) (by omega))) ?_
      refine q_step 1 rfl (o_move (p := (.ms 0 0 1 s.length)) rfl rfl) ?_
      refine q_step 1 rfl (opS_field_ptr (b := 1) (off := 0) rfl Try.underlying32 rfl sz5 (of_decide_eq_true rfl) rfl) ?_
      refine q_step 1 rfl (opS_load_box (b := 1) (off := 0) (cs := [(.d (.v (.int .u8 3))), (.d (.v (.int .i64 a))), (.d (.v (.int .i64 b)))]) (p := (.d (.v (.int .u8 3)))) rfl Try.underlying5 rfl rfl rfl rfl) ?_
      refine q_step 1 rfl (opS_bin (k := .u8) (m := 3) (n := 4) rfl rfl rfl (ib_eq (c := false) rfl)) ?_
      refine q_step 1 rfl (o_assign (p := (.d (.v (.int .i64 (((k : Nat) : Int) + 1))))) rfl rfl) ?_
      refine q_step 1 rfl (o_assign (p := (.ms 0 0 1 s.length)) rfl rfl) ?_
      refine q_step 1 rfl (o_assign (p := (.d (.sl 1 true []))) rfl rfl) ?_
      refine q_step 1 rfl (o_assign (p := (.d (.v (.bool false)))) rfl rfl) ?_
      refine q_nil ?_
      refine pw_wk (Wk.freeze_row (f := eU) (xs := s) (b := 0) (sz := 1) (n := 106) (l := [(6, (.d (.v (.int .i64 (((k : Nat) : Int) + 1))))), (7, (.d (.sl 1 false (s.map eU)))), (8, (.d (.sl 1 true []))), (9, (.d (.v (.bool false))))]) (S' := ⟨[none, some [(.d (.v (.int .u8 3))), (.d (.v (.int .i64 a))), (.d (.v (.int .i64 b)))]], []⟩) (by rw [hb0]; decide) rfl rfl (fun _ => rfl) (nobB_self (nobB_cons rfl rfl)) (.keep .rfl' rfl (.row' rfl (by simp) (.keep .rfl' rfl (.keep .rfl' rfl .nil)))) rfl) ?_
      refine pw_ret ?_
      exact ⟨.inr rfl, rfl, rfl, rfl, ⟨_, (.cons _ _ _ _ (.tmp (of_decide_eq_true rfl) (PVle.of_canon (p := (.d (.v (.int .i64 (((k : Nat) : Int) + 1))))) (by rw [st3 hk ho]; first | rfl | (simp only [PV.canon, skp]; first | rfl | (split <;> first | rfl | (simp; done) | (exfalso; omega)))))) (.cons _ _ _ _ (.tmp (of_decide_eq_true rfl) (PVle.of_canon (p := (.d (.sl 1 false (s.map eU)))) (by rw [st3 hk ho]; first | rfl | (simp only [PV.canon, skp]; first | rfl | (split <;> first | rfl | (simp; done) | (exfalso; omega)))))) (.cons _ _ _ _ (.tmp (of_decide_eq_true rfl) (PVle.of_canon (p := (.d (.sl 1 true []))) (by rw [st3 hk ho]; first | rfl | (simp only [PV.canon, skp]; first | rfl | (split <;> first | rfl | (simp; done) | (exfalso; omega)))))) (.cons _ _ _ _ (.tmp (of_decide_eq_true rfl) (PVle.of_canon (p := (.d (.v (.bool false)))) (by rw [st3 hk ho]; first | rfl | (simp only [PV.canon, skp]; first | rfl | (split <;> first | rfl | (simp; done) | (exfalso; omega)))))) .nil)))), rfl⟩⟩

set_option maxRecDepth 20000 in
theorem rstep4 (ops : List FOp) (s : List Int) (k : Nat) (a b : Int) (hs : s.length ≤ 1000) (hops : ops.length ≤ 1000) (hk : k < ops.length) (hb : 0 ≤ b ∧ b ≤ 100) (ho : ops.getD k default = ⟨4, a, b⟩) : PF Try.prog 20 [(.sl 3 false (ops.map eF)), (.v (.int .i64 ((k : Nat) : Int))), (.sl 1 false (s.map eU))] (stepPV (step ops k s)) := by
  refine pc_intro Try.func20 rfl (of_decide_eq_true rfl) (fun g0 w0 hb0 ht0 => ?_)
  have hf0 : ¬ (((k : Nat) : Int) < 0) := by omega
  have hf1 : ¬ ((((ops.length : Nat)) : Int) ≤ ((k : Nat) : Int)) := by omega
  refine pw_seq ?_
  refine pw_wk (Wk.ofL (n := 106) (l := [(0, (.d (.sl 3 false (ops.map eF)))), (1, (.d (.v (.int .i64 ((k : Nat) : Int))))), (2, (.d (.sl 1 false (s.map eU))))]) (S := ⟨[], []⟩) rfl rfl (.cons .rfl' (.cons .rfl' (.cons .rfl' .nil)))) ?_
  refine pw_region ?_
  refine pwl_step 1 rfl (o_assign (p := (.d (.v (.int .i64 0)))) rfl rfl) ?_
  refine pwl_step 1 rfl (o_assign (p := (.d (.sl 1 true []))) rfl rfl) ?_
  refine pwl_step 1 rfl (o_assign (p := (.d (.sl 1 true []))) rfl rfl) ?_
  refine pwl_step 1 rfl (o_assign (p := (.d (.v (.bool false)))) rfl rfl) ?_
  refine pwl_nil ?_
  refine pw_seq ?_
  refine pw_wk (Wk.ofL (n := 106) (l := [(0, (.d (.sl 3 false (ops.map eF)))), (1, (.d (.v (.int .i64 ((k : Nat) : Int))))), (2, (.d (.sl 1 false (s.map eU)))), (6, (.d (.v (.int .i64 0)))), (7, (.d (.sl 1 true []))), (8, (.d (.sl 1 true []))), (9, (.d (.v (.bool false))))]) (S := ⟨[], []⟩) rfl rfl (.cons .rfl' (.cons .rfl' (.cons .rfl' (.cons .rfl' (.cons .rfl' (.cons .rfl' (.cons .rfl' .nil)))))))) ?_
  refine pw_region ?_
  refine pwl_step 1 rfl (o_buildSlice (sz := 1) (es := []) rfl Try.underlying23 ti39 (of_decide_eq_true rfl) (of_decide_eq_true rfl) rfl rfl rfl) ?_
  refine pwl_step 1 rfl (o_move (p := (.d (.sl 1 false (s.map eU)))) rfl rfl) ?_
  refine pwl_step 1 rfl (o_append_row (xs := s) (f := eU) (sz := 1) rfl Try.underlying23 ti39 (of_decide_eq_true rfl) rfl rfl (by omega) (by omega)) ?_
  refine pwl_step 1 rfl (o_assign (p := (.ms 0 0 1 s.length)) rfl rfl) ?_
  refine pwl_nil ?_
  refine pw_seq ?_
  refine pw_seq ?_
  refine pw_wk (Wk.ofL (n := 106) (l := [(0, (.d (.sl 3 false (ops.map eF)))), (1, (.d (.v (.int .i64 ((k : Nat) : Int))))), (6, (.d (.v (.int .i64 0)))), (7, (.d (.sl 1 true []))), (8, (.d (.sl 1 true []))), (9, (.d (.v (.bool false)))), (10, (.ms 0 0 1 s.length))]) (S := ⟨[some (row eU s)], []⟩) rfl rfl (.cons .rfl' (.cons .rfl' (.cons .rfl' (.cons .rfl' (.cons .rfl' (.cons .rfl' (.cons .rfl' .nil)))))))) ?_
  refine pw_region ?_
  refine pwl_step 1 rfl (o_move (p := (.d (.v (.int .i64 ((k : Nat) : Int))))) rfl rfl) ?_
  refine pwl_step 1 rfl (opS_bin (k := .i64) (m := ((k : Nat) : Int)) (n := 0) rfl rfl rfl (ib_lt (decide_eq_false hf0))) ?_
  refine pwl_step 1 rfl (o_move (p := (.d (.v (.bool false)))) rfl rfl) ?_
  refine pwl_step_yes 1 rfl rfl (o_move (p := (.d (.v (.int .i64 ((k : Nat) : Int))))) rfl rfl) ?_
  refine pwl_step_yes 1 rfl rfl (o_move (p := (.d (.sl 3 false (ops.map eF)))) rfl rfl) ?_
  refine pwl_step_yes 1 rfl rfl (o_len (sz := 3) (es := (ops.map eF)) (n := ops.length) rfl Try.underlying22 rfl (by simp)) ?_
  refine pwl_step_yes 1 rfl rfl (opS_bin (k := .i64) (m := ((k : Nat) : Int)) (n := (((ops.length : Nat)) : Int)) rfl rfl rfl (ib_ge (decide_eq_false hf1))) ?_
  refine pwl_step 1 rfl (o_pick_f (p := (.d (.v (.bool false)))) rfl rfl rfl) ?_
  refine pwl_nil ?_
  refine pw_cond (b := false) rfl (fun h => by cases h) (fun _ => ?_)
  refine pw_skip ?_
  refine pw_seq ?_
  refine pw_wk (Wk.ofL (n := 106) (l := [(0, (.d (.sl 3 false (ops.map eF)))), (1, (.d (.v (.int .i64 ((k : Nat) : Int))))), (6, (.d (.v (.int .i64 0)))), (7, (.d (.sl 1 true []))), (8, (.d (.sl 1 true []))), (9, (.d (.v (.bool false)))), (10, (.ms 0 0 1 s.length))]) (S := ⟨[some (row eU s)], []⟩) rfl rfl (.cons .rfl' (.cons .rfl' (.cons .rfl' (.cons .rfl' (.cons .rfl' (.cons .rfl' (.cons .rfl' .nil)))))))) ?_
  refine pw_region ?_
  refine pwl_step 1 rfl (o_move (p := (.d (.sl 3 false (ops.map eF)))) rfl rfl) ?_
  refine pwl_step 1 rfl (o_move (p := (.d (.v (.int .i64 ((k : Nat) : Int))))) rfl rfl) ?_
  refine pwl_step 1 rfl (opS_index (sz := 3) (es := (ops.map eF)) (k := .i64) (n := ((k : Nat) : Int)) (e := [(.v (.int .u8 4)), (.v (.int .i64 a)), (.v (.int .i64 b))]) rfl Try.underlying22 sz32 rfl rfl (by omega) (map_get_eq (by omega) ho)) ?_
  refine pwl_step 1 rfl (opS_load_rp_agg (cs := [(.v (.int .u8 4)), (.v (.int .i64 a)), (.v (.int .i64 b))]) rfl Try.underlying32 rfl sz32 rfl (of_decide_eq_true rfl)) ?_
  refine pwl_step 1 rfl (o_alloc rfl ti32 zs32) ?_
  refine pwl_step 1 rfl (opS_store (b := 1) (off := 0) (cs := [(.d (.v (.int .u8 0))), (.d (.v (.int .i64 0))), (.d (.v (.int .i64 0)))]) (ps := [(.d (.v (.int .u8 4))), (.d (.v (.int .i64 a))), (.d (.v (.int .i64 b)))]) rfl sz32 rfl rfl rfl rfl (of_decide_eq_true rfl) (List.cons_ne_nil _ _)) ?_
  refine pwl_nil ?_
  refine pw_seq ?_
  refine pw_wk (Wk.ofL (n := 106) (l := [(1, (.d (.v (.int .i64 ((k : Nat) : Int))))), (6, (.d (.v (.int .i64 0)))), (7, (.d (.sl 1 true []))), (8, (.d (.sl 1 true []))), (9, (.d (.v (.bool false)))), (10, (.ms 0 0 1 s.length)), (11, (.ptr 1 0))]) (S := ⟨[some (row eU s), some [(.d (.v (.int .u8 4))), (.d (.v (.int .i64 a))), (.d (.v (.int .i64 b)))]], []⟩) rfl rfl (.cons .rfl' (.cons .rfl' (.cons .rfl' (.cons .rfl' (.cons .rfl' (.cons .rfl' (.cons .rfl' .nil)))))))) ?_
  by_cases hc1 : 0 ≤ a
  ·
    refine pw_region ?_
    refine pwl_step 1 rfl (opS_field_ptr (b := 1) (off := 0) rfl Try.underlying32 rfl sz3 (of_decide_eq_true rfl) rfl) ?_
    refine pwl_step 1 rfl (opS_load_box (b := 1) (off := 1) (cs := [(.d (.v (.int .u8 4))), (.d (.v (.int .i64 a))), (.d (.v (.int .i64 b)))]) (p := (.d (.v (.int .i64 a)))) rfl Try.underlying3 rfl rfl rfl rfl) ?_
    refine pwl_step 1 rfl (opS_bin (k := .i64) (m := a) (n := 0) rfl rfl rfl (ib_ge (decide_eq_true hc1))) ?_
    refine pwl_step 1 rfl (o_move (p := (.d (.v (.bool true)))) rfl rfl) ?_
    refine pwl_step_yes 1 rfl rfl (opS_field_ptr (b := 1) (off := 0) rfl Try.underlying32 rfl sz3 (of_decide_eq_true rfl) rfl) ?_
    refine pwl_step_yes 1 rfl rfl (opS_load_box (b := 1) (off := 1) (cs := [(.d (.v (.int .u8 4))), (.d (.v (.int .i64 a))), (.d (.v (.int .i64 b)))]) (p := (.d (.v (.int .i64 a)))) rfl Try.underlying3 rfl rfl rfl rfl) ?_
    refine pwl_step_yes 1 rfl rfl (o_move (p := (.ms 0 0 1 s.length)) rfl rfl) ?_
    refine pwl_step_yes 1 rfl rfl (o_len_ms (b := 0) (off := 0) (sz := 1) (n := s.length) rfl Try.underlying23 rfl) ?_
    refine pwl_step_yes 1 rfl rfl (opS_bin (k := .i64) (m := a) (n := (((s.length : Nat)) : Int)) rfl rfl rfl (ib_lt rfl)) ?_
    refine pwl_step 1 rfl (o_pick_t (p := (.d (.v (.bool (decide (a < (((s.length : Nat)) : Int))))))) rfl rfl rfl) ?_
    refine pwl_step 1 rfl (o_assign (p := (.d (.v (.bool (decide (a < (((s.length : Nat)) : Int))))))) rfl rfl) ?_
    refine pwl_nil ?_
    refine pw_seq ?_
    refine pw_wk (Wk.ofL (n := 106) (l := [(1, (.d (.v (.int .i64 ((k : Nat) : Int))))), (6, (.d (.v (.int .i64 0)))), (7, (.d (.sl 1 true []))), (8, (.d (.sl 1 true []))), (9, (.d (.v (.bool false)))), (10, (.ms 0 0 1 s.length)), (11, (.ptr 1 0)), (12, (.d (.v (.bool (decide (a < (((s.length : Nat)) : Int)))))))]) (S := ⟨[some (row eU s), some [(.d (.v (.int .u8 4))), (.d (.v (.int .i64 a))), (.d (.v (.int .i64 b)))]], []⟩) rfl rfl (.cons .rfl' (.cons .rfl' (.cons .rfl' (.cons .rfl' (.cons .rfl' (.cons .rfl' (.cons .rfl' (.cons .rfl' .nil))))))))) ?_
    by_cases hc2 : 0 ≤ b
    ·
      refine pw_region ?_
      refine pwl_step 1 rfl (opS_field_ptr (b := 1) (off := 0) rfl Try.underlying32 rfl sz3 (of_decide_eq_true rfl) rfl) ?_
      refine pwl_step 1 rfl (opS_load_box (b := 1) (off := 2) (cs := [(.d (.v (.int .u8 4))), (.d (.v (.int .i64 a))), (.d (.v (.int .i64 b)))]) (p := (.d (.v (.int .i64 b)))) rfl Try.underlying3 rfl rfl rfl rfl) ?_
      refine pwl_step 1 rfl (opS_bin (k := .i64) (m := b) (n := 0) rfl rfl rfl (ib_ge (decide_eq_true hc2))) ?_
      refine pwl_step 1 rfl (o_move (p := (.d (.v (.bool true)))) rfl rfl) ?_
      refine pwl_step_yes 1 rfl rfl (opS_field_ptr (b := 1) (off := 0) rfl Try.underlying32 rfl sz3 (of_decide_eq_true rfl) rfl) ?_
      refine pwl_step_yes 1 rfl rfl (opS_load_box (b := 1) (off := 2) (cs := [(.d (.v (.int .u8 4))), (.d (.v (.int .i64 a))), (.d (.v (.int .i64 b)))]) (p := (.d (.v (.int .i64 b)))) rfl Try.underlying3 rfl rfl rfl rfl) ?_
      refine pwl_step_yes 1 rfl rfl (o_move (p := (.ms 0 0 1 s.length)) rfl rfl) ?_
      refine pwl_step_yes 1 rfl rfl (o_len_ms (b := 0) (off := 0) (sz := 1) (n := s.length) rfl Try.underlying23 rfl) ?_
      refine pwl_step_yes 1 rfl rfl (opS_bin (k := .i64) (m := b) (n := (((s.length : Nat)) : Int)) rfl rfl rfl (ib_lt rfl)) ?_
      refine pwl_step 1 rfl (o_pick_t (p := (.d (.v (.bool (decide (b < (((s.length : Nat)) : Int))))))) rfl rfl rfl) ?_
      refine pwl_step 1 rfl (o_assign (p := (.d (.v (.bool (decide (b < (((s.length : Nat)) : Int))))))) rfl rfl) ?_
      refine pwl_nil ?_
      refine pw_seq ?_
      refine pw_seq ?_
      refine pw_region ?_
      refine pwl_step 1 rfl (opS_field_ptr (b := 1) (off := 0) rfl Try.underlying32 rfl sz5 (of_decide_eq_true rfl) rfl) ?_
      refine pwl_step 1 rfl (opS_load_box (b := 1) (off := 0) (cs := [(.d (.v (.int .u8 4))), (.d (.v (.int .i64 a))), (.d (.v (.int .i64 b)))]) (p := (.d (.v (.int .u8 4)))) rfl Try.underlying5 rfl rfl rfl rfl) ?_
      refine pwl_nil ?_
      refine pw_block ?_
      refine pw_seq ?_
      refine pw_region ?_
      refine pwl_step 1 rfl (opS_bin (k := .u8) (m := 4) (n := 0) rfl rfl rfl (ib_eq (c := false) rfl)) ?_
      refine pwl_step 1 rfl (o_assign (p := (.d (.v (.bool false)))) rfl rfl) ?_
      refine pwl_nil ?_
      refine pw_cond (b := false) rfl (fun h => by cases h) (fun _ => ?_)
      refine pw_seq ?_
      refine pw_region ?_
      refine pwl_step 1 rfl (opS_bin (k := .u8) (m := 4) (n := 1) rfl rfl rfl (ib_eq (c := false) rfl)) ?_
      refine pwl_step 1 rfl (o_assign (p := (.d (.v (.bool false)))) rfl rfl) ?_
      refine pwl_nil ?_
      refine pw_cond (b := false) rfl (fun h => by cases h) (fun _ => ?_)
      refine pw_seq ?_
      refine pw_region ?_
      refine pwl_step 1 rfl (opS_bin (k := .u8) (m := 4) (n := 2) rfl rfl rfl (ib_eq (c := false) rfl)) ?_
      refine pwl_step 1 rfl (o_assign (p := (.d (.v (.bool false)))) rfl rfl) ?_
      refine pwl_nil ?_
      refine pw_cond (b := false) rfl (fun h => by cases h) (fun _ => ?_)
      refine pw_seq ?_
      refine pw_region ?_
      refine pwl_step 1 rfl (opS_bin (k := .u8) (m := 4) (n := 3) rfl rfl rfl (ib_eq (c := false) rfl)) ?_
      refine pwl_step 1 rfl (o_assign (p := (.d (.v (.bool false)))) rfl rfl) ?_
      refine pwl_nil ?_
      refine pw_cond (b := false) rfl (fun h => by cases h) (fun _ => ?_)
      refine pw_skip ?_
      refine pw_seq ?_
      refine pw_wk (Wk.ofL (n := 106) (l := [(1, (.d (.v (.int .i64 ((k : Nat) : Int))))), (6, (.d (.v (.int .i64 0)))), (7, (.d (.sl 1 true []))), (8, (.d (.sl 1 true []))), (9, (.d (.v (.bool false)))), (10, (.ms 0 0 1 s.length)), (11, (.ptr 1 0))]) (S := ⟨[some (row eU s), some [(.d (.v (.int .u8 4))), (.d (.v (.int .i64 a))), (.d (.v (.int .i64 b)))]], []⟩) rfl rfl (.cons .rfl' (.cons .rfl' (.cons .rfl' (.cons .rfl' (.cons .rfl' (.cons .rfl' (.cons .rfl' .nil)))))))) ?_
      refine pw_quiet Trymixed (by kernel_rfl) ?_
      refine q_step 1 rfl (o_move (p := (.d (.v (.int .i64 ((k : Nat) : Int))))) rfl rfl) ?_
      refine q_step 1 rfl (opS_bin (k := .i64) (m := ((k : Nat) : Int)) (n := 1) rfl rfl rfl (ib_add (by omega) (by omega))) ?_
      refine q_step 1 rfl (o_move (p := (.ms 0 0 1 s.length)) rfl rfl) ?_
      refine q_step 1 rfl (opS_field_ptr (b := 1) (off := 0) rfl Try.underlying32 rfl sz5 (of_decide_eq_true rfl) rfl) ?_
      refine q_step 1 rfl (opS_load_box (b := 1) (off := 0) (cs := [(.d (.v (.int .u8 4))), (.d (.v (.int .i64 a))), (.d (.v (.int .i64 b)))]) (p := (.d (.v (.int .u8 4)))) rfl Try.underlying5 rfl rfl rfl rfl) ?_
      refine q_step 1 rfl (opS_bin (k := .u8) (m := 4) (n := 4) rfl rfl rfl (ib_eq (c := true) rfl)) ?_
      refine q_step 1 rfl (o_assign (p := (.d (.v (.int .i64 (((k : Nat) : Int) + 1))))) rfl rfl) ?_
      refine q_step 1 rfl (o_assign (p := (.ms 0 0 1 s.length)) rfl rfl) ?_
      refine q_step 1 rfl (o_assign (p := (.d (.sl 1 true []))) rfl rfl) ?_
      refine q_step 1 rfl (o_assign (p := (.d (.v (.bool true)))) rfl rfl) ?_
      refine q_nil ?_
      refine pw_wk (Wk.freeze_row (f := eU) (xs := s) (b := 0) (sz := 1) (n := 106) (l := [(6, (.d (.v (.int .i64 (((k : Nat) : Int) + 1))))), (7, (.d (.sl 1 false (s.map eU)))), (8, (.d (.sl 1 true []))), (9, (.d (.v (.bool true))))]) (S' := ⟨[none, some [(.d (.v (.int .u8 4))), (.d (.v (.int .i64 a))), (.d (.v (.int .i64 b)))]], []⟩) (by rw [hb0]; decide) rfl rfl (fun _ => rfl) (nobB_self (nobB_cons rfl rfl)) (.keep .rfl' rfl (.row' rfl (by simp) (.keep .rfl' rfl (.keep .rfl' rfl .nil)))) rfl) ?_
      refine pw_ret ?_
      exact ⟨.inr rfl, rfl, rfl, rfl, ⟨_, (.cons _ _ _ _ (.tmp (of_decide_eq_true rfl) (PVle.of_canon (p := (.d (.v (.int .i64 (((k : Nat) : Int) + 1))))) (by rw [st4 hk ho]; first | rfl | (simp only [PV.canon]; first | rfl | (split <;> first | rfl | (simp; done) | (exfalso; omega)))))) (.cons _ _ _ _ (.tmp (of_decide_eq_true rfl) (PVle.of_canon (p := (.d (.sl 1 false (s.map eU)))) (by rw [st4 hk ho]; first | rfl | (simp only [PV.canon]; first | rfl | (split <;> first | rfl | (simp; done) | (exfalso; omega)))))) (.cons _ _ _ _ (.tmp (of_decide_eq_true rfl) (PVle.of_canon (p := (.d (.sl 1 true []))) (by rw [st4 hk ho]; first | rfl | (simp only [PV.canon]; first | rfl | (split <;> first | rfl | (simp; done) | (exfalso; omega)))))) (.cons _ _ _ _ (.tmp (of_decide_eq_true rfl) (PVle.of_canon (p := (.d (.v (.bool true)))) (by rw [st4 hk ho]; first | rfl | (simp only [PV.canon]; first | rfl | (split <;> first | rfl | (simp; done) | (exfalso; omega)))))) .nil)))), rfl⟩⟩
    ·
      refine pw_region ?_
      refine pwl_step 1 rfl (opS_field_ptr (b := 1) (off := 0) rfl Try.underlying32 rfl sz3 (of_decide_eq_true rfl) rfl) ?_
      refine pwl_step 1 rfl (opS_load_box (b := 1) (off := 2) (cs := [(.d (.v (.int .u8 4))), (.d (.v (.int .i64 a))), (.d (.v (.int .i64 b)))]) (p := (.d (.v (.int .i64 b)))) rfl Try.underlying3 rfl rfl rfl rfl) ?_
      refine pwl_step 1 rfl (opS_bin (k := .i64) (m := b) (n := 0) rfl rfl rfl (ib_ge (decide_eq_false hc2))) ?_
      refine pwl_step 1 rfl (o_move (p := (.d (.v (.bool false)))) rfl rfl) ?_
      refine pwl_step_no rfl rfl ?_
      refine pwl_step_no rfl rfl ?_
      refine pwl_step_no rfl rfl ?_
      refine pwl_step_no rfl rfl ?_
      refine pwl_step_no rfl rfl ?_
      refine pwl_step 1 rfl (o_pick_f (p := (.d (.v (.bool false)))) rfl rfl rfl) ?_
      refine pwl_step 1 rfl (o_assign (p := (.d (.v (.bool false)))) rfl rfl) ?_
      refine pwl_nil ?_
      refine pw_seq ?_
      refine pw_seq ?_
      refine pw_region ?_
      refine pwl_step 1 rfl (opS_field_ptr (b := 1) (off := 0) rfl Try.underlying32 rfl sz5 (of_decide_eq_true rfl) rfl) ?_
      refine pwl_step 1 rfl (opS_load_box (b := 1) (off := 0) (cs := [(.d (.v (.int .u8 4))), (.d (.v (.int .i64 a))), (.d (.v (.int .i64 b)))]) (p := (.d (.v (.int .u8 4)))) rfl Try.underlying5 rfl rfl rfl rfl) ?_
      refine pwl_nil ?_
      refine pw_block ?_
      refine pw_seq ?_
      refine pw_region ?_
      refine pwl_step 1 rfl (opS_bin (k := .u8) (m := 4) (n := 0) rfl rfl rfl (ib_eq (c := false) rfl)) ?_
      refine pwl_step 1 rfl (o_assign (p := (.d (.v (.bool false)))) rfl rfl) ?_
      refine pwl_nil ?_
      refine pw_cond (b := false) rfl (fun h => by cases h) (fun _ => ?_)
      refine pw_seq ?_
      refine pw_region ?_
      refine pwl_step 1 rfl (opS_bin (k := .u8) (m := 4) (n := 1) rfl rfl rfl (ib_eq (c := false) rfl)) ?_
      refine pwl_step 1 rfl (o_assign (p := (.d (.v (.bool false)))) rfl rfl) ?_
      refine pwl_nil ?_
      refine pw_cond (b := false) rfl (fun h => by cases h) (fun _ => ?_)
      refine pw_seq ?_
      refine pw_region ?_
      refine pwl_step 1 rfl (opS_bin (k := .u8) (m := 4) (n := 2) rfl rfl rfl (ib_eq (c := false) rfl)) ?_
      refine pwl_step 1 rfl (o_assign (p := (.d (.v (.bool false)))) rfl rfl) ?_
      refine pwl_nil ?_
      refine pw_cond (b := false) rfl (fun h => by cases h) (fun _ => ?_)
      refine pw_seq ?_
      refine pw_region ?_
      refine pwl_step 1 rfl (opS_bin (k := .u8) (m := 4) (n := 3) rfl rfl rfl (ib_eq (c := false) rfl)) ?_
      refine pwl_step 1 rfl (o_assign (p := (.d (.v (.bool false)))) rfl rfl) ?_
      refine pwl_nil ?_
      refine pw_cond (b := false) rfl (fun h => by cases h) (fun _ => ?_)
      refine pw_skip ?_
      refine pw_seq ?_
      refine pw_wk (Wk.ofL (n := 106) (l := [(1, (.d (.v (.int .i64 ((k : Nat) : Int))))), (6, (.d (.v (.int .i64 0)))), (7, (.d (.sl 1 true []))), (8, (.d (.sl 1 true []))), (9, (.d (.v (.bool false)))), (10, (.ms 0 0 1 s.length)), (11, (.ptr 1 0))]) (S := ⟨[some (row eU s), some [(.d (.v (.int .u8 4))), (.d (.v (.int .i64 a))), (.d (.v (.int .i64 b)))]], []⟩) rfl rfl (.cons .rfl' (.cons .rfl' (.cons .rfl' (.cons .rfl' (.cons .rfl' (.cons .rfl' (.cons .rfl' .nil)))))))) ?_
      refine pw_quiet Trymixed (by kernel_rfl) ?_
      refine q_step 1 rfl (o_move (p := (.d (.v (.int .i64 ((k : Nat) : Int))))) rfl rfl) ?_
      refine q_step 1 rfl (opS_bin (k := .i64) (m := ((k : Nat) : Int)) (n := 1) rfl rfl rfl (ib_add (by omega) (by omega))) ?_
      refine q_step 1 rfl (o_move (p := (.ms 0 0 1 s.length)) rfl rfl) ?_
      refine q_step 1 rfl (opS_field_ptr (b := 1) (off := 0) rfl Try.underlying32 rfl sz5 (of_decide_eq_true rfl) rfl) ?_
      refine q_step 1 rfl (opS_load_box (b := 1) (off := 0) (cs := [(.d (.v (.int .u8 4))), (.d (.v (.int .i64 a))), (.d (.v (.int .i64 b)))]) (p := (.d (.v (.int .u8 4)))) rfl Try.underlying5 rfl rfl rfl rfl) ?_
      refine q_step 1 rfl (opS_bin (k := .u8) (m := 4) (n := 4) rfl rfl rfl (ib_eq (c := true) rfl)) ?_
      refine q_step 1 rfl (o_assign (p := (.d (.v (.int .i64 (((k : Nat) : Int) + 1))))) rfl rfl) ?_
      refine q_step 1 rfl (o_assign (p := (.ms 0 0 1 s.length)) rfl rfl) ?_
      refine q_step 1 rfl (o_assign (p := (.d (.sl 1 true []))) rfl rfl) ?_
      refine q_step 1 rfl (o_assign (p := (.d (.v (.bool true)))) rfl rfl) ?_
      refine q_nil ?_
      refine pw_wk (Wk.freeze_row (f := eU) (xs := s) (b := 0) (sz := 1) (n := 106) (l := [(6, (.d (.v (.int .i64 (((k : Nat) : Int) + 1))))), (7, (.d (.sl 1 false (s.map eU)))), (8, (.d (.sl 1 true []))), (9, (.d (.v (.bool true))))]) (S' := ⟨[none, some [(.d (.v (.int .u8 4))), (.d (.v (.int .i64 a))), (.d (.v (.int .i64 b)))]], []⟩) (by rw [hb0]; decide) rfl rfl (fun _ => rfl) (nobB_self (nobB_cons rfl rfl)) (.keep .rfl' rfl (.row' rfl (by simp) (.keep .rfl' rfl (.keep .rfl' rfl .nil)))) rfl) ?_
      refine pw_ret ?_
      exact ⟨.inr rfl, rfl, rfl, rfl, ⟨_, (.cons _ _ _ _ (.tmp (of_decide_eq_true rfl) (PVle.of_canon (p := (.d (.v (.int .i64 (((k : Nat) : Int) + 1))))) (by rw [st4 hk ho]; first | rfl | (simp only [PV.canon]; first | rfl | (split <;> first | rfl | (simp; done) | (exfalso; omega)))))) (.cons _ _ _ _ (.tmp (of_decide_eq_true rfl) (PVle.of_canon (p := (.d (.sl 1 false (s.map eU)))) (by rw [st4 hk ho]; first | rfl | (simp only [PV.canon]; first | rfl | (split <;> first | rfl | (simp; done) | (exfalso; omega)))))) (.cons _ _ _ _ (.tmp (of_decide_eq_true rfl) (PVle.of_canon (p := (.d (.sl 1 true []))) (by rw [st4 hk ho]; first | rfl | (simp only [PV.canon]; first | rfl | (split <;> first | rfl | (simp; done) | (exfalso; omega)))))) (.cons _ _ _ _ (.tmp (of_decide_eq_true rfl) (PVle.of_canon (p := (.d (.v (.bool true)))) (by rw [st4 hk ho]; first | rfl | (simp only [PV.canon]; first | rfl | (split <;> first | rfl | (simp; done) | (exfalso; omega)))))) .nil)))), rfl⟩⟩
  ·
    refine pw_region ?_
    refine pwl_step 1 rfl (opS_field_ptr (b := 1) (off := 0) rfl Try.underlying32 rfl sz3 (of_decide_eq_true rfl) rfl) ?_
    refine pwl_step 1 rfl (opS_load_box (b := 1) (off := 1) (cs := [(.d (.v (.int .u8 4))), (.d (.v (.int .i64 a))), (.d (.v (.int .i64 b)))]) (p := (.d (.v (.int .i64 a)))) rfl Try.underlying3 rfl rfl rfl rfl) ?_
    refine pwl_step 1 rfl (opS_bin (k := .i64) (m := a) (n := 0) rfl rfl rfl (ib_ge (decide_eq_false hc1))) ?_
    refine pwl_step 1 rfl (o_move (p := (.d (.v (.bool false)))) rfl rfl) ?_
    refine pwl_step_no rfl rfl ?_
    refine pwl_step_no rfl rfl ?_
    refine pwl_step_no rfl rfl ?_
    refine pwl_step_no rfl rfl ?_
    refine pwl_step_no rfl rfl ?_
    refine pwl_step 1 rfl (o_pick_f (p := (.d (.v (.bool false)))) rfl rfl rfl) ?_
    refine pwl_step 1 rfl (o_assign (p := (.d (.v (.bool false)))) rfl rfl) ?_
    refine pwl_nil ?_
    refine pw_seq ?_
    refine pw_wk (Wk.ofL (n := 106) (l := [(1, (.d (.v (.int .i64 ((k : Nat) : Int))))), (6, (.d (.v (.int .i64 0)))), (7, (.d (.sl 1 true []))), (8, (.d (.sl 1 true []))), (9, (.d (.v (.bool false)))), (10, (.ms 0 0 1 s.length)), (11, (.ptr 1 0)), (12, (.d (.v (.bool false))))]) (S := ⟨[some (row eU s), some [(.d (.v (.int .u8 4))), (.d (.v (.int .i64 a))), (.d (.v (.int .i64 b)))]], []⟩) rfl rfl (.cons .rfl' (.cons .rfl' (.cons .rfl' (.cons .rfl' (.cons .rfl' (.cons .rfl' (.cons .rfl' (.cons .rfl' .nil))))))))) ?_
    by_cases hc3 : 0 ≤ b
    ·
      refine pw_region ?_
      refine pwl_step 1 rfl (opS_field_ptr (b := 1) (off := 0) rfl Try.underlying32 rfl sz3 (of_decide_eq_true rfl) rfl) ?_
      refine pwl_step 1 rfl (opS_load_box (b := 1) (off := 2) (cs := [(.d (.v (.int .u8 4))), (.d (.v (.int .i64 a))), (.d (.v (.int .i64 b)))]) (p := (.d (.v (.int .i64 b)))) rfl Try.underlying3 rfl rfl rfl rfl) ?_
      refine pwl_step 1 rfl (opS_bin (k := .i64) (m := b) (n := 0) rfl rfl rfl (ib_ge (decide_eq_true hc3))) ?_
      refine pwl_step 1 rfl (o_move (p := (.d (.v (.bool true)))) rfl rfl) ?_
      refine pwl_step_yes 1 rfl rfl (opS_field_ptr (b := 1) (off := 0) rfl Try.underlying32 rfl sz3 (of_decide_eq_true rfl) rfl) ?_
      refine pwl_step_yes 1 rfl rfl (opS_load_box (b := 1) (off := 2) (cs := [(.d (.v (.int .u8 4))), (.d (.v (.int .i64 a))), (.d (.v (.int .i64 b)))]) (p := (.d (.v (.int .i64 b)))) rfl Try.underlying3 rfl rfl rfl rfl) ?_
      refine pwl_step_yes 1 rfl rfl (o_move (p := (.ms 0 0 1 s.length)) rfl rfl) ?_
      refine pwl_step_yes 1 rfl rfl (o_len_ms (b := 0) (off := 0) (sz := 1) (n := s.length) rfl Try.underlying23 rfl) ?_
      refine pwl_step_yes 1 rfl rfl (opS_bin (k := .i64) (m := b) (n := (((s.length : Nat)) : Int)) rfl rfl rfl (ib_lt rfl)) ?_
      refine pwl_step 1 rfl (o_pick_t (p := (.d (.v (.bool (decide (b < (((s.length : Nat)) : Int))))))) rfl rfl rfl) ?_
      refine pwl_step 1 rfl (o_assign (p := (.d (.v (.bool (decide (b < (((s.length : Nat)) : Int))))))) rfl rfl) ?_
      refine pwl_nil ?_
      refine pw_seq ?_
      refine pw_seq ?_
      refine pw_region ?_
      refine pwl_step 1 rfl (opS_field_ptr (b := 1) (off := 0) rfl Try.underlying32 rfl sz5 (of_decide_eq_true rfl) rfl) ?_
      refine pwl_step 1 rfl (opS_load_box (b := 1) (off := 0) (cs := [(.d (.v (.int .u8 4))), (.d (.v (.int .i64 a))), (.d (.v (.int .i64 b)))]) (p := (.d (.v (.int .u8 4)))) rfl Try.underlying5 rfl rfl rfl rfl) ?_
      refine pwl_nil ?_
      refine pw_block ?_
      refine pw_seq ?_
      refine pw_region ?_
      refine pwl_step 1 rfl (opS_bin (k := .u8) (m := 4) (n := 0) rfl rfl rfl (ib_eq (c := false) rfl)) ?_
      refine pwl_step 1 rfl (o_assign (p := (.d (.v (.bool false)))) rfl rfl) ?_
      refine pwl_nil ?_
      refine pw_cond (b := false) rfl (fun h => by cases h) (fun _ => ?_)
      refine pw_seq ?_
      refine pw_region ?_
      refine pwl_step 1 rfl (opS_bin (k := .u8) (m := 4) (n := 1) rfl rfl rfl (ib_eq (c := false) rfl)) ?_
      refine pwl_step 1 rfl (o_assign (p := (.d (.v (.bool false)))) rfl rfl) ?_
      refine pwl_nil ?_
      refine pw_cond (b := false) rfl (fun h => by cases h) (fun _ => ?_)
      refine pw_seq ?_
      refine pw_region ?_
      refine pwl_step 1 rfl (opS_bin (k := .u8) (m := 4) (n := 2) rfl rfl rfl (ib_eq (c := false) rfl)) ?_
      refine pwl_step 1 rfl (o_assign (p := (.d (.v (.bool false)))) rfl rfl) ?_
      refine pwl_nil ?_
      refine pw_cond (b := false) rfl (fun h => by cases h) (fun _ => ?_)
      refine pw_seq ?_
      refine pw_region ?_
      refine pwl_step 1 rfl (opS_bin (k := .u8) (m := 4) (n := 3) rfl rfl rfl (ib_eq (c := false) rfl)) ?_
      refine pwl_step 1 rfl (o_assign (p := (.d (.v (.bool false)))) rfl rfl) ?_
      refine pwl_nil ?_
      refine pw_cond (b := false) rfl (fun h => by cases h) (fun _ => ?_)
      refine pw_skip ?_
      refine pw_seq ?_
      refine pw_wk (Wk.ofL (n := 106) (l := [(1, (.d (.v (.int .i64 ((k : Nat) : Int))))), (6, (.d (.v (.int .i64 0)))), (7, (.d (.sl 1 true []))), (8, (.d (.sl 1 true []))), (9, (.d (.v (.bool false)))), (10, (.ms 0 0 1 s.length)), (11, (.ptr 1 0))]) (S := ⟨[some (row eU s), some [(.d (.v (.int .u8 4))), (.d (.v (.int .i64 a))), (.d (.v (.int .i64 b)))]], []⟩) rfl rfl (.cons .rfl' (.cons .rfl' (.cons .rfl' (.cons .rfl' (.cons .rfl' (.cons .rfl' (.cons .rfl' .nil)))))))) ?_
      refine pw_quiet Trymixed (by kernel_rfl) ?_
      refine q_step 1 rfl (o_move (p := (.d (.v (.int .i64 ((k : Nat) : Int))))) rfl rfl) ?_
      refine q_step 1 rfl (opS_bin (k := .i64) (m := ((k : Nat) : Int)) (n := 1) rfl rfl rfl (ib_add (by omega) (by omega))) ?_
      refine q_step 1 rfl (o_move (p := (.ms 0 0 1 s.length)) rfl rfl) ?_
      refine q_step 1 rfl (opS_field_ptr (b := 1) (off := 0) rfl Try.underlying32 rfl sz5 (of_decide_eq_true rfl) rfl) ?_
      refine q_step 1 rfl (opS_load_box (b := 1) (off := 0) (cs := [(.d (.v (.int .u8 4))), (.d (.v (.int .i64 a))), (.d (.v (.int .i64 b)))]) (p := (.d (.v (.int .u8 4)))) rfl Try.underlying5 rfl rfl rfl rfl) ?_
      refine q_step 1 rfl (opS_bin (k := .u8) (m := 4) (n := 4) rfl rfl rfl (ib_eq (c := true) rfl)) ?_
      refine q_step 1 rfl (o_assign (p := (.d (.v (.int .i64 (((k : Nat) : Int) + 1))))) rfl rfl) ?_
      refine q_step 1 rfl (o_assign (p := (.ms 0 0 1 s.length)) rfl rfl) ?_
      refine q_step 1 rfl (o_assign (p := (.d (.sl 1 true []))) rfl rfl) ?_
      refine q_step 1 rfl (o_assign (p := (.d (.v (.bool true)))) rfl rfl) ?_
      refine q_nil ?_
      refine pw_wk (Wk.freeze_row (f := eU) (xs := s) (b := 0) (sz := 1) (n := 106) (l := [(6, (.d (.v (.int .i64 (((k : Nat) : Int) + 1))))), (7, (.d (.sl 1 false (s.map eU)))), (8, (.d (.sl 1 true []))), (9, (.d (.v (.bool true))))]) (S' := ⟨[none, some [(.d (.v (.int .u8 4))), (.d (.v (.int .i64 a))), (.d (.v (.int .i64 b)))]], []⟩) (by rw [hb0]; decide) rfl rfl (fun _ => rfl) (nobB_self (nobB_cons rfl rfl)) (.keep .rfl' rfl (.row' rfl (by simp) (.keep .rfl' rfl (.keep .rfl' rfl .nil)))) rfl) ?_
      refine pw_ret ?_
      exact ⟨.inr rfl, rfl, rfl, rfl, ⟨_, (.cons _ _ _ _ (.tmp (of_decide_eq_true rfl) (PVle.of_canon (p := (.d (.v (.int .i64 (((k : Nat) : Int) + 1))))) (by rw [st4 hk ho]; first | rfl | (simp only [PV.canon]; first | rfl | (split <;> first | rfl | (simp; done) | (exfalso; omega)))))) (.cons _ _ _ _ (.tmp (of_decide_eq_true rfl) (PVle.of_canon (p := (.d (.sl 1 false (s.map eU)))) (by rw [st4 hk ho]; first | rfl | (simp only [PV.canon]; first | rfl | (split <;> first | rfl | (simp; done) | (exfalso; omega)))))) (.cons _ _ _ _ (.tmp (of_decide_eq_true rfl) (PVle.of_canon (p := (.d (.sl 1 true []))) (by rw [st4 hk ho]; first | rfl | (simp only [PV.canon]; first | rfl | (split <;> first | rfl | (simp; done) | (exfalso; omega)))))) (.cons _ _ _ _ (.tmp (of_decide_eq_true rfl) (PVle.of_canon (p := (.d (.v (.bool true)))) (by rw [st4 hk ho]; first | rfl | (simp only [PV.canon]; first | rfl | (split <;> first | rfl | (simp; done) | (exfalso; omega)))))) .nil)))), rfl⟩⟩
    ·
      refine pw_region ?_
      refine pwl_step 1 rfl (opS_field_ptr (b := 1) (off := 0) rfl Try.underlying32 rfl sz3 (of_decide_eq_true rfl) rfl) ?_
      refine pwl_step 1 rfl (opS_load_box (b := 1) (off := 2) (cs := [(.d (.v (.int .u8 4))), (.d (.v (.int .i64 a))), (.d (.v (.int .i64 b)))]) (p := (.d (.v (.int .i64 b)))) rfl Try.underlying3 rfl rfl rfl rfl) ?_
      refine pwl_step 1 rfl (opS_bin (k := .i64) (m := b) (n := 0) rfl rfl rfl (ib_ge (decide_eq_false hc3))) ?_
      refine pwl_step 1 rfl (o_move (p := (.d (.v (.bool false)))) rfl rfl) ?_
      refine pwl_step_no rfl rfl ?_
      refine pwl_step_no rfl rfl ?_
      refine pwl_step_no rfl rfl ?_
      refine pwl_step_no rfl rfl ?_
      refine pwl_step_no rfl rfl ?_
      refine pwl_step 1 rfl (o_pick_f (p := (.d (.v (.bool false)))) rfl rfl rfl) ?_
      refine pwl_step 1 rfl (o_assign (p := (.d (.v (.bool false)))) rfl rfl) ?_
      refine pwl_nil ?_
      refine pw_seq ?_
      refine pw_seq ?_
      refine pw_region ?_
      refine pwl_step 1 rfl (opS_field_ptr (b := 1) (off := 0) rfl Try.underlying32 rfl sz5 (of_decide_eq_true rfl) rfl) ?_
      refine pwl_step 1 rfl (opS_load_box (b := 1) (off := 0) (cs := [(.d (.v (.int .u8 4))), (.d (.v (.int .i64 a))), (.d (.v (.int .i64 b)))]) (p := (.d (.v (.int .u8 4)))) rfl Try.underlying5 rfl rfl rfl rfl) ?_
      refine pwl_nil ?_
      refine pw_block ?_
      refine pw_seq ?_
      refine pw_region ?_
      refine pwl_step 1 rfl (opS_bin (k := .u8) (m := 4) (n := 0) rfl rfl rfl (ib_eq (c := false) rfl)) ?_
      refine pwl_step 1 rfl (o_assign (p := (.d (.v (.bool false)))) rfl rfl) ?_
      refine pwl_nil ?_
      refine pw_cond (b := false) rfl (fun h => by cases h) (fun _ => ?_)
      refine pw_seq ?_
      refine pw_region ?_
      refine pwl_step 1 rfl (opS_bin (k := .u8) (m := 4) (n := 1) rfl rfl rfl (ib_eq (c := false) rfl)) ?_
      refine pwl_step 1 rfl (o_assign (p := (.d (.v (.bool false)))) rfl rfl) ?_
      refine pwl_nil ?_
      refine pw_cond (b := false) rfl (fun h => by cases h) (fun _ => ?_)
      refine pw_seq ?_
      refine pw_region ?_
      refine pwl_step 1 rfl (opS_bin (k := .u8) (m := 4) (n := 2) rfl rfl rfl (ib_eq (c := false) rfl)) ?_
      refine pwl_step 1 rfl (o_assign (p := (.d (.v (.bool false)))) rfl rfl) ?_
      refine pwl_nil ?_
      refine pw_cond (b := false) rfl (fun h => by cases h) (fun _ => ?_)
      refine pw_seq ?_
      refine pw_region ?_
      refine pwl_step 1 rfl (opS_bin (k := .u8) (m := 4) (n := 3) rfl rfl rfl (ib_eq (c := false) rfl)) ?_
      refine pwl_step 1 rfl (o_assign (p := (.d (.v (.bool false)))) rfl rfl) ?_
      refine pwl_nil ?_
      refine pw_cond (b := false) rfl (fun h => by cases h) (fun _ => ?_)
      refine pw_skip ?_
      refine pw_seq ?_
      refine pw_wk (Wk.ofL (n := 106) (l := [(1, (.d (.v (.int .i64 ((k : Nat) : Int))))), (6, (.d (.v (.int .i64 0)))), (7, (.d (.sl 1 true []))), (8, (.d (.sl 1 true []))), (9, (.d (.v (.bool false)))), (10, (.ms 0 0 1 s.length)), (11, (.ptr 1 0))]) (S := ⟨[some (row eU s), some [(.d (.v (.int .u8 4))), (.d (.v (.int .i64 a))), (.d (.v (.int .i64 b)))]], []⟩) rfl rfl (.cons .rfl' (.cons .rfl' (.cons .rfl' (.cons .rfl' (.cons .rfl' (.cons .rfl' (.cons .rfl' .nil)))))))) ?_
      refine pw_quiet Trymixed (by kernel_rfl) ?_
      refine q_step 1 rfl (o_move (p := (.d (.v (.int .i64 ((k : Nat) : Int))))) rfl rfl) ?_
      refine q_step 1 rfl (opS_bin (k := .i64) (m := ((k : Nat) : Int)) (n := 1) rfl rfl rfl (ib_add (by omega) (by omega))) ?_
      refine q_step 1 rfl (o_move (p := (.ms 0 0 1 s.length)) rfl rfl) ?_
      refine q_step 1 rfl (opS_field_ptr (b := 1) (off := 0) rfl Try.underlying32 rfl sz5 (of_decide_eq_true rfl) rfl) ?_
      refine q_step 1 rfl (opS_load_box (b := 1) (off := 0) (cs := [(.d (.v (.int .u8 4))), (.d (.v (.int .i64 a))), (.d (.v (.int .i64 b)))]) (p := (.d (.v (.int .u8 4)))) rfl Try.underlying5 rfl rfl rfl rfl) ?_
      refine q_step 1 rfl (opS_bin (k := .u8) (m := 4) (n := 4) rfl rfl rfl (ib_eq (c := true) rfl)) ?_
      refine q_step 1 rfl (o_assign (p := (.d (.v (.int .i64 (((k : Nat) : Int) + 1))))) rfl rfl) ?_
      refine q_step 1 rfl (o_assign (p := (.ms 0 0 1 s.length)) rfl rfl) ?_
      refine q_step 1 rfl (o_assign (p := (.d (.sl 1 true []))) rfl rfl) ?_
      refine q_step 1 rfl (o_assign (p := (.d (.v (.bool true)))) rfl rfl) ?_
      refine q_nil ?_
      refine pw_wk (Wk.freeze_row (f := eU) (xs := s) (b := 0) (sz := 1) (n := 106) (l := [(6, (.d (.v (.int .i64 (((k : Nat) : Int) + 1))))), (7, (.d (.sl 1 false (s.map eU)))), (8, (.d (.sl 1 true []))), (9, (.d (.v (.bool true))))]) (S' := ⟨[none, some [(.d (.v (.int .u8 4))), (.d (.v (.int .i64 a))), (.d (.v (.int .i64 b)))]], []⟩) (by rw [hb0]; decide) rfl rfl (fun _ => rfl) (nobB_self (nobB_cons rfl rfl)) (.keep .rfl' rfl (.row' rfl (by simp) (.keep .rfl' rfl (.keep .rfl' rfl .nil)))) rfl) ?_
      refine pw_ret ?_
      exact ⟨.inr rfl, rfl, rfl, rfl, ⟨_, (.cons _ _ _ _ (.tmp (of_decide_eq_true rfl) (PVle.of_canon (p := (.d (.v (.int .i64 (((k : Nat) : Int) + 1))))) (by rw [st4 hk ho]; first | rfl | (simp only [PV.canon]; first | rfl | (split <;> first | rfl | (simp; done) | (exfalso; omega)))))) (.cons _ _ _ _ (.tmp (of_decide_eq_true rfl) (PVle.of_canon (p := (.d (.sl 1 false (s.map eU)))) (by rw [st4 hk ho]; first | rfl | (simp only [PV.canon]; first | rfl | (split <;> first | rfl | (simp; done) | (exfalso; omega)))))) (.cons _ _ _ _ (.tmp (of_decide_eq_true rfl) (PVle.of_canon (p := (.d (.sl 1 true []))) (by rw [st4 hk ho]; first | rfl | (simp only [PV.canon]; first | rfl | (split <;> first | rfl | (simp; done) | (exfalso; omega)))))) (.cons _ _ _ _ (.tmp (of_decide_eq_true rfl) (PVle.of_canon (p := (.d (.v (.bool true)))) (by rw [st4 hk ho]; first | rfl | (simp only [PV.canon]; first | rfl | (split <;> first | rfl | (simp; done) | (exfalso; omega)))))) .nil)))), rfl⟩⟩

set_option maxRecDepth 20000 in
theorem rstep5 (ops : List FOp) (s : List Int) (k : Nat) (c a b : Int) (hs : s.length ≤ 1000) (hops : ops.length ≤ 1000) (hk : k < ops.length) (hc : 5 ≤ c ∧ c ≤ 255) (ho : ops.getD k default = ⟨c, a, b⟩) : PF Try.prog 20 [(.sl 3 false (ops.map eF)), (.v (.int .i64 ((k : Nat) : Int))), (.sl 1 false (s.map eU))] (stepPV (step ops k s)) := by
  refine pc_intro Try.func20 rfl (of_decide_eq_true rfl) (fun g0 w0 hb0 ht0 => ?_)
  have hf0 : ¬ (((k : Nat) : Int) < 0) := by omega
  have hf1 : ¬ ((((ops.length : Nat)) : Int) ≤ ((k : Nat) : Int)) := by omega
  have hf2 : ¬ (c = 0) := by omega
  have hf3 : ¬ (c = 1) := by omega
  have hf4 : ¬ (c = 2) := by omega
  have hf5 : ¬ (c = 3) := by omega
  have hf6 : ¬ (c = 4) := by omega
  refine pw_seq ?_
  refine pw_wk (Wk.ofL (n := 106) (l := [(0, (.d (.sl 3 false (ops.map eF)))), (1, (.d (.v (.int .i64 ((k : Nat) : Int))))), (2, (.d (.sl 1 false (s.map eU))))]) (S := ⟨[], []⟩) rfl rfl (.cons .rfl' (.cons .rfl' (.cons .rfl' .nil)))) ?_
  refine pw_region ?_
  refine pwl_step 1 rfl (o_assign (p := (.d (.v (.int .i64 0)))) rfl rfl) ?_
  refine pwl_step 1 rfl (o_assign (p := (.d (.sl 1 true []))) rfl rfl) ?_
  refine pwl_step 1 rfl (o_assign (p := (.d (.sl 1 true []))) rfl rfl) ?_
  refine pwl_step 1 rfl (o_assign (p := (.d (.v (.bool false)))) rfl rfl) ?_
  refine pwl_nil ?_
  refine pw_seq ?_
  refine pw_wk (Wk.ofL (n := 106) (l := [(0, (.d (.sl 3 false (ops.map eF)))), (1, (.d (.v (.int .i64 ((k : Nat) : Int))))), (2, (.d (.sl 1 false (s.map eU)))), (6, (.d (.v (.int .i64 0)))), (7, (.d (.sl 1 true []))), (8, (.d (.sl 1 true []))), (9, (.d (.v (.bool false))))]) (S := ⟨[], []⟩) rfl rfl (.cons .rfl' (.cons .rfl' (.cons .rfl' (.cons .rfl' (.cons .rfl' (.cons .rfl' (.cons .rfl' .nil)))))))) ?_
  refine pw_region ?_
  refine pwl_step 1 rfl (o_buildSlice (sz := 1) (es := []) rfl Try.underlying23 ti39 (of_decide_eq_true rfl) (of_decide_eq_true rfl) rfl rfl rfl) ?_
  refine pwl_step 1 rfl (o_move (p := (.d (.sl 1 false (s.map eU)))) rfl rfl) ?_
  refine pwl_step 1 rfl (o_append_row (xs := s) (f := eU) (sz := 1) rfl Try.underlying23 ti39 (of_decide_eq_true rfl) rfl rfl (by omega) (by omega)) ?_
  refine pwl_step 1 rfl (o_assign (p := (.ms 0 0 1 s.length)) rfl rfl) ?_
  refine pwl_nil ?_
  refine pw_seq ?_
  refine pw_seq ?_
  refine pw_wk (Wk.ofL (n := 106) (l := [(0, (.d (.sl 3 false (ops.map eF)))), (1, (.d (.v (.int .i64 ((k : Nat) : Int))))), (6, (.d (.v (.int .i64 0)))), (7, (.d (.sl 1 true []))), (8, (.d (.sl 1 true []))), (9, (.d (.v (.bool false)))), (10, (.ms 0 0 1 s.length))]) (S := ⟨[some (row eU s)], []⟩) rfl rfl (.cons .rfl' (.cons .rfl' (.cons .rfl' (.cons .rfl' (.cons .rfl' (.cons .rfl' (.cons .rfl' .nil)))))))) ?_
  refine pw_region ?_
  refine pwl_step 1 rfl (o_move (p := (.d (.v (.int .i64 ((k : Nat) : Int))))) rfl rfl) ?_
  refine pwl_step 1 rfl (opS_bin (k := .i64) (m := ((k : Nat) : Int)) (n := 0) rfl rfl rfl (ib_lt (decide_eq_false hf0))) ?_
  refine pwl_step 1 rfl (o_move (p := (.d (.v (.bool false)))) rfl rfl) ?_
  refine pwl_step_yes 1 rfl rfl (o_move (p := (.d (.v (.int .i64 ((k : Nat) : Int))))) rfl rfl) ?_
  refine pwl_step_yes 1 rfl rfl (o_move (p := (.d (.sl 3 false (ops.map eF)))) rfl rfl) ?_
  refine pwl_step_yes 1 rfl rfl (o_len (sz := 3) (es := (ops.map eF)) (n := ops.length) rfl Try.underlying22 rfl (by simp)) ?_
  refine pwl_step_yes 1 rfl rfl (opS_bin (k := .i64) (m := ((k : Nat) : Int)) (n := (((ops.length : Nat)) : Int)) rfl rfl rfl (ib_ge (decide_eq_false hf1))) ?_
  refine pwl_step 1 rfl (o_pick_f (p := (.d (.v (.bool false)))) rfl rfl rfl) ?_
  refine pwl_nil ?_
  refine pw_cond (b := false) rfl (fun h => by cases h) (fun _ => ?_)
  refine pw_skip ?_
  refine pw_seq ?_
  refine pw_wk (Wk.ofL (n := 106) (l := [(0, (.d (.sl 3 false (ops.map eF)))), (1, (.d (.v (.int .i64 ((k : Nat) : Int))))), (6, (.d (.v (.int .i64 0)))), (7, (.d (.sl 1 true []))), (8, (.d (.sl 1 true []))), (9, (.d (.v (.bool false)))), (10, (.ms 0 0 1 s.length))]) (S := ⟨[some (row eU s)], []⟩) rfl rfl (.cons .rfl' (.cons .rfl' (.cons .rfl' (.cons .rfl' (.cons .rfl' (.cons .rfl' (.cons .rfl' .nil)))))))) ?_
  refine pw_region ?_
  refine pwl_step 1 rfl (o_move (p := (.d (.sl 3 false (ops.map eF)))) rfl rfl) ?_
  refine pwl_step 1 rfl (o_move (p := (.d (.v (.int .i64 ((k : Nat) : Int))))) rfl rfl) ?_
  refine pwl_step 1 rfl (opS_index (sz := 3) (es := (ops.map eF)) (k := .i64) (n := ((k : Nat) : Int)) (e := [(.v (.int .u8 c)), (.v (.int .i64 a)), (.v (.int .i64 b))]) rfl Try.underlying22 sz32 rfl rfl (by omega) (map_get_eq (by omega) ho)) ?_
  refine pwl_step 1 rfl (opS_load_rp_agg (cs := [(.v (.int .u8 c)), (.v (.int .i64 a)), (.v (.int .i64 b))]) rfl Try.underlying32 rfl sz32 rfl (of_decide_eq_true rfl)) ?_
  refine pwl_step 1 rfl (o_alloc rfl ti32 zs32) ?_
  refine pwl_step 1 rfl (opS_store (b := 1) (off := 0) (cs := [(.d (.v (.int .u8 0))), (.d (.v (.int .i64 0))), (.d (.v (.int .i64 0)))]) (ps := [(.d (.v (.int .u8 c))), (.d (.v (.int .i64 a))), (.d (.v (.int .i64 b)))]) rfl sz32 rfl rfl rfl rfl (of_decide_eq_true rfl) (List.cons_ne_nil _ _)) ?_
  refine pwl_nil ?_
  refine pw_seq ?_
  refine pw_wk (Wk.ofL (n := 106) (l := [(1, (.d (.v (.int .i64 ((k : Nat) : Int))))), (6, (.d (.v (.int .i64 0)))), (7, (.d (.sl 1 true []))), (8, (.d (.sl 1 true []))), (9, (.d (.v (.bool false)))), (10, (.ms 0 0 1 s.length)), (11, (.ptr 1 0))]) (S := ⟨[some (row eU s), some [(.d (.v (.int .u8 c))), (.d (.v (.int .i64 a))), (.d (.v (.int .i64 b)))]], []⟩) rfl rfl (.cons .rfl' (.cons .rfl' (.cons .rfl' (.cons .rfl' (.cons .rfl' (.cons .rfl' (.cons .rfl' .nil)))))))) ?_
  by_cases hc1 : 0 ≤ a
  ·
    refine pw_region ?_
    refine pwl_step 1 rfl (opS_field_ptr (b := 1) (off := 0) rfl Try.underlying32 rfl sz3 (of_decide_eq_true rfl) rfl) ?_
    refine pwl_step 1 rfl (opS_load_box (b := 1) (off := 1) (cs := [(.d (.v (.int .u8 c))), (.d (.v (.int .i64 a))), (.d (.v (.int .i64 b)))]) (p := (.d (.v (.int .i64 a)))) rfl Try.underlying3 rfl rfl rfl rfl) ?_
    refine pwl_step 1 rfl (opS_bin (k := .i64) (m := a) (n := 0) rfl rfl rfl (ib_ge (decide_eq_true hc1))) ?_
    refine pwl_step 1 rfl (o_move (p := (.d (.v (.bool true)))) rfl rfl) ?_
    refine pwl_step_yes 1 rfl rfl (opS_field_ptr (b := 1) (off := 0) rfl Try.underlying32 rfl sz3 (of_decide_eq_true rfl) rfl) ?_
    refine pwl_step_yes 1 rfl rfl (opS_load_box (b := 1) (off := 1) (cs := [(.d (.v (.int .u8 c))), (.d (.v (.int .i64 a))), (.d (.v (.int .i64 b)))]) (p := (.d (.v (.int .i64 a)))) rfl Try.underlying3 rfl rfl rfl rfl) ?_
    refine pwl_step_yes 1 rfl rfl (o_move (p := (.ms 0 0 1 s.length)) rfl rfl) ?_
    refine pwl_step_yes 1 rfl rfl (o_len_ms (b := 0) (off := 0) (sz := 1) (n := s.length) rfl Try.underlying23 rfl) ?_
    refine pwl_step_yes 1 rfl rfl (opS_bin (k := .i64) (m := a) (n := (((s.length : Nat)) : Int)) rfl rfl rfl (ib_lt rfl)) ?_
    refine pwl_step 1 rfl (o_pick_t (p := (.d (.v (.bool (decide (a < (((s.length : Nat)) : Int))))))) rfl rfl rfl) ?_
    refine pwl_step 1 rfl (o_assign (p := (.d (.v (.bool (decide (a < (((s.length : Nat)) : Int))))))) rfl rfl) ?_
    refine pwl_nil ?_
    refine pw_seq ?_
    refine pw_wk (Wk.ofL (n := 106) (l := [(1, (.d (.v (.int .i64 ((k : Nat) : Int))))), (6, (.d (.v (.int .i64 0)))), (7, (.d (.sl 1 true []))), (8, (.d (.sl 1 true []))), (9, (.d (.v (.bool false)))), (10, (.ms 0 0 1 s.length)), (11, (.ptr 1 0)), (12, (.d (.v (.bool (decide (a < (((s.length : Nat)) : Int)))))))]) (S := ⟨[some (row eU s), some [(.d (.v (.int .u8 c))), (.d (.v (.int .i64 a))), (.d (.v (.int .i64 b)))]], []⟩) rfl rfl (.cons .rfl' (.cons .rfl' (.cons .rfl' (.cons .rfl' (.cons .rfl' (.cons .rfl' (.cons .rfl' (.cons .rfl' .nil))))))))) ?_
    by_cases hc2 : 0 ≤ b
    ·
      refine pw_region ?_
      refine pwl_step 1 rfl (opS_field_ptr (b := 1) (off := 0) rfl Try.underlying32 rfl sz3 (of_decide_eq_true rfl) rfl) ?_
      refine pwl_step 1 rfl (opS_load_box (b := 1) (off := 2) (cs := [(.d (.v (.int .u8 c))), (.d (.v (.int .i64 a))), (.d (.v (.int .i64 b)))]) (p := (.d (.v (.int .i64 b)))) rfl Try.underlying3 rfl rfl rfl rfl) ?_
      refine pwl_step 1 rfl (opS_bin (k := .i64) (m := b) (n := 0) rfl rfl rfl (ib_ge (decide_eq_true hc2))) ?_
      refine pwl_step 1 rfl (o_move (p := (.d (.v (.bool true)))) rfl rfl) ?_
      refine pwl_step_yes 1 rfl rfl (opS_field_ptr (b := 1) (off := 0) rfl Try.underlying32 rfl sz3 (of_decide_eq_true rfl) rfl) ?_
      refine pwl_step_yes 1 rfl rfl (opS_load_box (b := 1) (off := 2) (cs := [(.d (.v (.int .u8 c))), (.d (.v (.int .i64 a))), (.d (.v (.int .i64 b)))]) (p := (.d (.v (.int .i64 b)))) rfl Try.underlying3 rfl rfl rfl rfl) ?_
      refine pwl_step_yes 1 rfl rfl (o_move (p := (.ms 0 0 1 s.length)) rfl rfl) ?_
      refine pwl_step_yes 1 rfl rfl (o_len_ms (b := 0) (off := 0) (sz := 1) (n := s.length) rfl Try.underlying23 rfl) ?_
      refine pwl_step_yes 1 rfl rfl (opS_bin (k := .i64) (m := b) (n := (((s.length : Nat)) : Int)) rfl rfl rfl (ib_lt rfl)) ?_
      refine pwl_step 1 rfl (o_pick_t (p := (.d (.v (.bool (decide (b < (((s.length : Nat)) : Int))))))) rfl rfl rfl) ?_
      refine pwl_step 1 rfl (o_assign (p := (.d (.v (.bool (decide (b < (((s.length : Nat)) : Int))))))) rfl rfl) ?_
      refine pwl_nil ?_
      refine pw_seq ?_
      refine pw_seq ?_
      refine pw_region ?_
      refine pwl_step 1 rfl (opS_field_ptr (b := 1) (off := 0) rfl Try.underlying32 rfl sz5 (of_decide_eq_true rfl) rfl) ?_
      refine pwl_step 1 rfl (opS_load_box (b := 1) (off := 0) (cs := [(.d (.v (.int .u8 c))), (.d (.v (.int .i64 a))), (.d (.v (.int .i64 b)))]) (p := (.d (.v (.int .u8 c)))) rfl Try.underlying5 rfl rfl rfl rfl) ?_
      refine pwl_nil ?_
      refine pw_block ?_
      refine pw_seq ?_
      refine pw_region ?_
      refine pwl_step 1 rfl (opS_bin (k := .u8) (m := c) (n := 0) rfl rfl rfl (ib_eq (decide_eq_false hf2))) ?_
      refine pwl_step 1 rfl (o_assign (p := (.d (.v (.bool false)))) rfl rfl) ?_
      refine pwl_nil ?_
      refine pw_cond (b := false) rfl (fun h => by cases h) (fun _ => ?_)
      refine pw_seq ?_
      refine pw_region ?_
      refine pwl_step 1 rfl (opS_bin (k := .u8) (m := c) (n := 1) rfl rfl rfl (ib_eq (decide_eq_false hf3))) ?_
      refine pwl_step 1 rfl (o_assign (p := (.d (.v (.bool false)))) rfl rfl) ?_
      refine pwl_nil ?_
      refine pw_cond (b := false) rfl (fun h => by cases h) (fun _ => ?_)
      refine pw_seq ?_
      refine pw_region ?_
      refine pwl_step 1 rfl (opS_bin (k := .u8) (m := c) (n := 2) rfl rfl rfl (ib_eq (decide_eq_false hf4))) ?_
      refine pwl_step 1 rfl (o_assign (p := (.d (.v (.bool false)))) rfl rfl) ?_
      refine pwl_nil ?_
      refine pw_cond (b := false) rfl (fun h => by cases h) (fun _ => ?_)
      refine pw_seq ?_
      refine pw_region ?_
      refine pwl_step 1 rfl (opS_bin (k := .u8) (m := c) (n := 3) rfl rfl rfl (ib_eq (decide_eq_false hf5))) ?_
      refine pwl_step 1 rfl (o_assign (p := (.d (.v (.bool false)))) rfl rfl) ?_
      refine pwl_nil ?_
      refine pw_cond (b := false) rfl (fun h => by cases h) (fun _ => ?_)
      refine pw_skip ?_
      refine pw_seq ?_
      refine pw_wk (Wk.ofL (n := 106) (l := [(1, (.d (.v (.int .i64 ((k : Nat) : Int))))), (6, (.d (.v (.int .i64 0)))), (7, (.d (.sl 1 true []))), (8, (.d (.sl 1 true []))), (9, (.d (.v (.bool false)))), (10, (.ms 0 0 1 s.length)), (11, (.ptr 1 0))]) (S := ⟨[some (row eU s), some [(.d (.v (.int .u8 c))), (.d (.v (.int .i64 a))), (.d (.v (.int .i64 b)))]], []⟩) rfl rfl (.cons .rfl' (.cons .rfl' (.cons .rfl' (.cons .rfl' (.cons .rfl' (.cons .rfl' (.cons .rfl' .nil)))))))) ?_
      refine pw_quiet Trymixed (by kernel_rfl) ?_
      refine q_step 1 rfl (o_move (p := (.d (.v (.int .i64 ((k : Nat) : Int))))) rfl rfl) ?_
      refine q_step 1 rfl (opS_bin (k := .i64) (m := ((k : Nat) : Int)) (n := 1) rfl rfl rfl (ib_add (by omega) (by omega))) ?_
      refine q_step 1 rfl (o_move (p := (.ms 0 0 1 s.length)) rfl rfl) ?_
      refine q_step 1 rfl (opS_field_ptr (b := 1) (off := 0) rfl Try.underlying32 rfl sz5 (of_decide_eq_true rfl) rfl) ?_
      refine q_step 1 rfl (opS_load_box (b := 1) (off := 0) (cs := [(.d (.v (.int .u8 c))), (.d (.v (.int .i64 a))), (.d (.v (.int .i64 b)))]) (p := (.d (.v (.int .u8 c)))) rfl Try.underlying5 rfl rfl rfl rfl) ?_
      refine q_step 1 rfl (opS_bin (k := .u8) (m := c) (n := 4) rfl rfl rfl (ib_eq (decide_eq_false hf6))) ?_
      refine q_step 1 rfl (o_assign (p := (.d (.v (.int .i64 (((k : Nat) : Int) + 1))))) rfl rfl) ?_
      refine q_step 1 rfl (o_assign (p := (.ms 0 0 1 s.length)) rfl rfl) ?_
      refine q_step 1 rfl (o_assign (p := (.d (.sl 1 true []))) rfl rfl) ?_
      refine q_step 1 rfl (o_assign (p := (.d (.v (.bool false)))) rfl rfl) ?_
      refine q_nil ?_
      refine pw_wk (Wk.freeze_row (f := eU) (xs := s) (b := 0) (sz := 1) (n := 106) (l := [(6, (.d (.v (.int .i64 (((k : Nat) : Int) + 1))))), (7, (.d (.sl 1 false (s.map eU)))), (8, (.d (.sl 1 true []))), (9, (.d (.v (.bool false))))]) (S' := ⟨[none, some [(.d (.v (.int .u8 c))), (.d (.v (.int .i64 a))), (.d (.v (.int .i64 b)))]], []⟩) (by rw [hb0]; decide) rfl rfl (fun _ => rfl) (nobB_self (nobB_cons rfl rfl)) (.keep .rfl' rfl (.row' rfl (by simp) (.keep .rfl' rfl (.keep .rfl' rfl .nil)))) rfl) ?_
      refine pw_ret ?_
      exact ⟨.inr rfl, rfl, rfl, rfl, ⟨_, (.cons _ _ _ _ (.tmp (of_decide_eq_true rfl) (PVle.of_canon (p := (.d (.v (.int .i64 (((k : Nat) : Int) + 1))))) (by rw [st5 hk hc.1 ho]; first | rfl | (simp only [PV.canon]; first | rfl | (split <;> first | rfl | (simp; done) | (exfalso; omega)))))) (.cons _ _ _ _ (.tmp (of_decide_eq_true rfl) (PVle.of_canon (p := (.d (.sl 1 false (s.map eU)))) (by rw [st5 hk hc.1 ho]; first | rfl | (simp only [PV.canon]; first | rfl | (split <;> first | rfl | (simp; done) | (exfalso; omega)))))) (.cons _ _ _ _ (.tmp (of_decide_eq_true rfl) (PVle.of_canon (p := (.d (.sl 1 true []))) (by rw [st5 hk hc.1 ho]; first | rfl | (simp only [PV.canon]; first | rfl | (split <;> first | rfl | (simp; done) | (exfalso; omega)))))) (.cons _ _ _ _ (.tmp (of_decide_eq_true rfl) (PVle.of_canon (p := (.d (.v (.bool false)))) (by rw [st5 hk hc.1 ho]; first | rfl | (simp only [PV.canon]; first | rfl | (split <;> first | rfl | (simp; done) | (exfalso; omega)))))) .nil)))), rfl⟩⟩
    ·
      refine pw_region ?_
      refine pwl_step 1 rfl (opS_field_ptr (b := 1) (off := 0) rfl Try.underlying32 rfl sz3 (of_decide_eq_true rfl) rfl) ?_
      refine pwl_step 1 rfl (opS_load_box (b := 1) (off := 2) (cs := [(.d (.v (.int .u8 c))), (.d (.v (.int .i64 a))), (.d (.v (.int .i64 b)))]) (p := (.d (.v (.int .i64 b)))) rfl Try.underlying3 rfl rfl rfl rfl) ?_
      refine pwl_step 1 rfl (opS_bin (k := .i64) (m := b) (n := 0) rfl rfl rfl (ib_ge (decide_eq_false hc2))) ?_
      refine pwl_step 1 rfl (o_move (p := (.d (.v (.bool false)))) rfl rfl) ?_
      refine pwl_step_no rfl rfl ?_
      refine pwl_step_no rfl rfl ?_
      refine pwl_step_no rfl rfl ?_
      refine pwl_step_no rfl rfl ?_
      refine pwl_step_no rfl rfl ?_
      refine pwl_step 1 rfl (o_pick_f (p := (.d (.v (.bool false)))) rfl rfl rfl) ?_
      refine pwl_step 1 rfl (o_assign (p := (.d (.v (.bool false)))) rfl rfl) ?_
      refine pwl_nil ?_
      refine pw_seq ?_
      refine pw_seq ?_
      refine pw_region ?_
      refine pwl_step 1 rfl (opS_field_ptr (b := 1) (off := 0) rfl Try.underlying32 rfl sz5 (of_decide_eq_true rfl) rfl) ?_
      refine pwl_step 1 rfl (opS_load_box (b := 1) (off := 0) (cs := [(.d (.v (.int .u8 c))), (.d (.v (.int .i64 a))), (.d (.v (.int .i64 b)))]) (p := (.d (.v (.int .u8 c)))) rfl Try.underlying5 rfl rfl rfl rfl) ?_
      refine pwl_nil ?_
      refine pw_block ?_
      refine pw_seq ?_
      refine pw_region ?_
      refine pwl_step 1 rfl (opS_bin (k := .u8) (m := c) (n := 0) rfl rfl rfl (ib_eq (decide_eq_false hf2))) ?_
      refine pwl_step 1 rfl (o_assign (p := (.d (.v (.bool false)))) rfl rfl) ?_
      refine pwl_nil ?_
      refine pw_cond (b := false) rfl (fun h => by cases h) (fun _ => ?_)
      refine pw_seq ?_
      refine pw_region ?_
      refine pwl_step 1 rfl (opS_bin (k := .u8) (m := c) (n := 1) rfl rfl rfl (ib_eq (decide_eq_false hf3))) ?_
      refine pwl_step 1 rfl (o_assign (p := (.d (.v (.bool false)))) rfl rfl) ?_
      refine pwl_nil ?_
      refine pw_cond (b := false) rfl (fun h => by cases h) (fun _ => ?_)
      refine pw_seq ?_
      refine pw_region ?_
      refine pwl_step 1 rfl (opS_bin (k := .u8) (m := c) (n := 2) rfl rfl rfl (ib_eq (decide_eq_false hf4))) ?_
      refine pwl_step 1 rfl (o_assign (p := (.d (.v (.bool false)))) rfl rfl) ?_
      refine pwl_nil ?_
      refine pw_cond (b := false) rfl (fun h => by cases h) (fun _ => ?_)
      refine pw_seq ?_
      refine pw_region ?_
      refine pwl_step 1 rfl (opS_bin (k := .u8) (m := c) (n := 3) rfl rfl rfl (ib_eq (decide_eq_false hf5))) ?_
      refine pwl_step 1 rfl (o_assign (p := (.d (.v (.bool false)))) rfl rfl) ?_
      refine pwl_nil ?_
      refine pw_cond (b := false) rfl (fun h => by cases h) (fun _ => ?_)
      refine pw_skip ?_
      refine pw_seq ?_
      refine pw_wk (Wk.ofL (n := 106) (l := [(1, (.d (.v (.int .i64 ((k : Nat) : Int))))), (6, (.d (.v (.int .i64 0)))), (7, (.d (.sl 1 true []))), (8, (.d (.sl 1 true []))), (9, (.d (.v (.bool false)))), (10, (.ms 0 0 1 s.length)), (11, (.ptr 1 0))]) (S := ⟨[some (row eU s), some [(.d (.v (.int .u8 c))), (.d (.v (.int .i64 a))), (.d (.v (.int .i64 b)))]], []⟩) rfl rfl (.cons .rfl' (.cons .rfl' (.cons .rfl' (.cons .rfl' (.cons .rfl' (.cons .rfl' (.cons .rfl' .nil)))))))) ?_
      refine pw_quiet Trymixed (by kernel_rfl) ?_
      refine q_step 1 rfl (o_move (p := (.d (.v (.int .i64 ((k : Nat) : Int))))) rfl rfl) ?_
      refine q_step 1 rfl (opS_bin (k := .i64) (m := ((k : Nat) : Int)) (n := 1) rfl rfl rfl (ib_add (by omega) (by omega))) ?_
      refine q_step 1 rfl (o_move (p := (.ms 0 0 1 s.length)) rfl rfl) ?_
      refine q_step 1 rfl (opS_field_ptr (b := 1) (off := 0) rfl Try.underlying32 rfl sz5 (of_decide_eq_true rfl) rfl) ?_
      refine q_step 1 rfl (opS_load_box (b := 1) (off := 0) (cs := [(.d (.v (.int .u8 c))), (.d (.v (.int .i64 a))), (.d (.v (.int .i64 b)))]) (p := (.d (.v (.int .u8 c)))) rfl Try.underlying5 rfl rfl rfl rfl) ?_
      refine q_step 1 rfl (opS_bin (k := .u8) (m := c) (n := 4) rfl rfl rfl (ib_eq (decide_eq_false hf6))) ?_
      refine q_step 1 rfl (o_assign (p := (.d (.v (.int .i64 (((k : Nat) : Int) + 1))))) rfl rfl) ?_
      refine q_step 1 rfl (o_assign (p := (.ms 0 0 1 s.length)) rfl rfl) ?_
      refine q_step 1 rfl (o_assign (p := (.d (.sl 1 true []))) rfl rfl) ?_
      refine q_step 1 rfl (o_assign (p := (.d (.v (.bool false)))) rfl rfl) ?_
      refine q_nil ?_
      refine pw_wk (Wk.freeze_row (f := eU) (xs := s) (b := 0) (sz := 1) (n := 106) (l := [(6, (.d (.v (.int .i64 (((k : Nat) : Int) + 1))))), (7, (.d (.sl 1 false (s.map eU)))), (8, (.d (.sl 1 true []))), (9, (.d (.v (.bool false))))]) (S' := ⟨[none, some [(.d (.v (.int .u8 c))), (.d (.v (.int .i64 a))), (.d (.v (.int .i64 b)))]], []⟩) (by rw [hb0]; decide) rfl rfl (fun _ => rfl) (nobB_self (nobB_cons rfl rfl)) (.keep .rfl' rfl (.row' rfl (by simp) (.keep .rfl' rfl (.keep .rfl' rfl .nil)))) rfl) ?_
      refine pw_ret ?_
      exact ⟨.inr rfl, rfl, rfl, rfl, ⟨_, (.cons _ _ _ _ (.tmp (of_decide_eq_true rfl) (PVle.of_canon (p := (.d (.v (.int .i64 (((k : Nat) : Int) + 1))))) (by rw [st5 hk hc.1 ho]; first | rfl | (simp only [PV.canon]; first | rfl | (split <;> first | rfl | (simp; done) | (exfalso; omega)))))) (.cons _ _ _ _ (.tmp (of_decide_eq_true rfl) (PVle.of_canon (p := (.d (.sl 1 false (s.map eU)))) (by rw [st5 hk hc.1 ho]; first | rfl | (simp only [PV.canon]; first | rfl | (split <;> first | rfl | (simp; done) | (exfalso; omega)))))) (.cons _ _ _ _ (.tmp (of_decide_eq_true rfl) (PVle.of_canon (p := (.d (.sl 1 true []))) (by rw [st5 hk hc.1 ho]; first | rfl | (simp only [PV.canon]; first | rfl | (split <;> first | rfl | (simp; done) | (exfalso; omega)))))) (.cons _ _ _ _ (.tmp (of_decide_eq_true rfl) (PVle.of_canon (p := (.d (.v (.bool false)))) (by rw [st5 hk hc.1 ho]; first | rfl | (simp only [PV.canon]; first | rfl | (split <;> first | rfl | (simp; done) | (exfalso; omega)))))) .nil)))), rfl⟩⟩
  ·
    refine pw_region ?_
    refine pwl_step 1 rfl (opS_field_ptr (b := 1) (off := 0) rfl Try.underlying32 rfl sz3 (of_decide_eq_true rfl) rfl) ?_
    refine pwl_step 1 rfl (opS_load_box (b := 1) (off := 1) (cs := [(.d (.v (.int .u8 c))), (.d (.v (.int .i64 a))), (.d (.v (.int .i64 b)))]) (p := (.d (.v (.int .i64 a)))) rfl Try.underlying3 rfl rfl rfl rfl) ?_
    refine pwl_step 1 rfl (opS_bin (k := .i64) (m := a) (n := 0) rfl rfl rfl (ib_ge (decide_eq_false hc1))) ?_
    refine pwl_step 1 rfl (o_move (p := (.d (.v (.bool false)))) rfl rfl) ?_
    refine pwl_step_no rfl rfl ?_
    refine pwl_step_no rfl rfl ?_
    refine pwl_step_no rfl rfl ?_
    refine pwl_step_no rfl rfl ?_
    refine pwl_step_no rfl rfl ?_
    refine pwl_step 1 rfl (o_pick_f (p := (.d (.v (.bool false)))) rfl rfl rfl) ?_
    refine pwl_step 1 rfl (o_assign (p := (.d (.v (.bool false)))) rfl rfl) ?_
    refine pwl_nil ?_
    refine pw_seq ?_
    refine pw_wk (Wk.ofL (n := 106) (l := [(1, (.d (.v (.int .i64 ((k : Nat) : Int))))), (6, (.d (.v (.int .i64 0)))), (7, (.d (.sl 1 true []))), (8, (.d (.sl 1 true []))), (9, (.d (.v (.bool false)))), (10, (.ms 0 0 1 s.length)), (11, (.ptr 1 0)), (12, (.d (.v (.bool false))))]) (S := ⟨[some (row eU s), some [(.d (.v (.int .u8 c))), (.d (.v (.int .i64 a))), (.d (.v (.int .i64 b)))]], []⟩) rfl rfl (.cons .rfl' (.cons .rfl' (.cons .rfl' (.cons .rfl' (.cons .rfl' (.cons .rfl' (.cons .rfl' (.cons .rfl' .nil))))))))) ?_
    by_cases hc3 : 0 ≤ b
    ·
      refine pw_region ?_
      refine pwl_step 1 rfl (opS_field_ptr (b := 1) (off := 0) rfl Try.underlying32 rfl sz3 (of_decide_eq_true rfl) rfl) ?_
      refine pwl_step 1 rfl (opS_load_box (b := 1) (off := 2) (cs := [(.d (.v (.int .u8 c))), (.d (.v (.int .i64 a))), (.d (.v (.int .i64 b)))]) (p := (.d (.v (.int .i64 b)))) rfl Try.underlying3 rfl rfl rfl rfl) ?_
      refine pwl_step 1 rfl (opS_bin (k := .i64) (m := b) (n := 0) rfl rfl rfl (ib_ge (decide_eq_true hc3))) ?_
      refine pwl_step 1 rfl (o_move (p := (.d (.v (.bool true)))) rfl rfl) ?_
      refine pwl_step_yes 1 rfl rfl (opS_field_ptr (b := 1) (off := 0) rfl Try.underlying32 rfl sz3 (of_decide_eq_true rfl) rfl) ?_
      refine pwl_step_yes 1 rfl rfl (opS_load_box (b := 1) (off := 2) (cs := [(.d (.v (.int .u8 c))), (.d (.v (.int .i64 a))), (.d (.v (.int .i64 b)))]) (p := (.d (.v (.int .i64 b)))) rfl Try.underlying3 rfl rfl rfl rfl) ?_
      refine pwl_step_yes 1 rfl rfl (o_move (p := (.ms 0 0 1 s.length)) rfl rfl) ?_
      refine pwl_step_yes 1 rfl rfl (o_len_ms (b := 0) (off := 0) (sz := 1) (n := s.length) rfl Try.underlying23 rfl) ?_
      refine pwl_step_yes 1 rfl rfl (opS_bin (k := .i64) (m := b) (n := (((s.length : Nat)) : Int)) rfl rfl rfl (ib_lt rfl)) ?_
      refine pwl_step 1 rfl (o_pick_t (p := (.d (.v (.bool (decide (b < (((s.length : Nat)) : Int))))))) rfl rfl rfl) ?_
      refine pwl_step 1 rfl (o_assign (p := (.d (.v (.bool (decide (b < (((s.length : Nat)) : Int))))))) rfl rfl) ?_
      refine pwl_nil ?_
      refine pw_seq ?_
      refine pw_seq ?_
      refine pw_region ?_
      refine pwl_step 1 rfl (opS_field_ptr (b := 1) (off := 0) rfl Try.underlying32 rfl sz5 (of_decide_eq_true rfl) rfl) ?_
      refine pwl_step 1 rfl (opS_load_box (b := 1) (off := 0) (cs := [(.d (.v (.int .u8 c))), (.d (.v (.int .i64 a))), (.d (.v (.int .i64 b)))]) (p := (.d (.v (.int .u8 c)))) rfl Try.underlying5 rfl rfl rfl rfl) ?_
      refine pwl_nil ?_
      refine pw_block ?_
      refine pw_seq ?_
      refine pw_region ?_
      refine pwl_step 1 rfl (opS_bin (k := .u8) (m := c) (n := 0) rfl rfl rfl (ib_eq (decide_eq_false hf2))) ?_
      refine pwl_step 1 rfl (o_assign (p := (.d (.v (.bool false)))) rfl rfl) ?_
      refine pwl_nil ?_
      refine pw_cond (b := false) rfl (fun h => by cases h) (fun _ => ?_)
      refine pw_seq ?_
      refine pw_region ?_
      refine pwl_step 1 rfl (opS_bin (k := .u8) (m := c) (n := 1) rfl rfl rfl (ib_eq (decide_eq_false hf3))) ?_
      refine pwl_step 1 rfl (o_assign (p := (.d (.v (.bool false)))) rfl rfl) ?_
      refine pwl_nil ?_
      refine pw_cond (b := false) rfl (fun h => by cases h) (fun _ => ?_)
      refine pw_seq ?_
      refine pw_region ?_
      refine pwl_step 1 rfl (opS_bin (k := .u8) (m := c) (n := 2) rfl rfl rfl (ib_eq (decide_eq_false hf4))) ?_
      refine pwl_step 1 rfl (o_assign (p := (.d (.v (.bool false)))) rfl rfl) ?_
      refine pwl_nil ?_
      refine pw_cond (b := false) rfl (fun h => by cases h) (fun _ => ?_)
      refine pw_seq ?_
      refine pw_region ?_
      refine pwl_step 1 rfl (opS_bin (k := .u8) (m := c) (n := 3) rfl rfl rfl (ib_eq (decide_eq_false hf5))) ?_
      refine pwl_step 1 rfl (o_assign (p := (.d (.v (.bool false)))) rfl rfl) ?_
      refine pwl_nil ?_
      refine pw_cond (b := false) rfl (fun h => by cases h) (fun _ => ?_)
      refine pw_skip ?_
      refine pw_seq ?_
      refine pw_wk (Wk.ofL (n := 106) (l := [(1, (.d (.v (.int .i64 ((k : Nat) : Int))))), (6, (.d (.v (.int .i64 0)))), (7, (.d (.sl 1 true []))), (8, (.d (.sl 1 true []))), (9, (.d (.v (.bool false)))), (10, (.ms 0 0 1 s.length)), (11, (.ptr 1 0))]) (S := ⟨[some (row eU s), some [(.d (.v (.int .u8 c))), (.d (.v (.int .i64 a))), (.d (.v (.int .i64 b)))]], []⟩) rfl rfl (.cons .rfl' (.cons .rfl' (.cons .rfl' (.cons .rfl' (.cons .rfl' (.cons .rfl' (.cons .rfl' .nil)))))))) ?_
      refine pw_quiet Trymixed (by kernel_rfl) ?_
      refine q_step 1 rfl (o_move (p := (.d (.v (.int .i64 ((k : Nat) : Int))))) rfl rfl) ?_
      refine q_step 1 rfl (opS_bin (k := .i64) (m := ((k : Nat) : Int)) (n := 1) rfl rfl rfl (ib_add (by omega) (by omega))) ?_
      refine q_step 1 rfl (o_move (p := (.ms 0 0 1 s.length)) rfl rfl) ?_
      refine q_step 1 rfl (opS_field_ptr (b := 1) (off := 0) rfl Try.underlying32 rfl sz5 (of_decide_eq_true rfl) rfl) ?_
      refine q_step 1 rfl (opS_load_box (b := 1) (off := 0) (cs := [(.d (.v (.int .u8 c))), (.d (.v (.int .i64 a))), (.d (.v (.int .i64 b)))]) (p := (.d (.v (.int .u8 c)))) rfl Try.underlying5 rfl rfl rfl rfl) ?_
      refine q_step 1 rfl (opS_bin (k := .u8) (m := c) (n := 4) rfl rfl rfl (ib_eq (decide_eq_false hf6))) ?_
      refine q_step 1 rfl (o_assign (p := (.d (.v (.int .i64 (((k : Nat) : Int) + 1))))) rfl rfl) ?_
      refine q_step 1 rfl (o_assign (p := (.ms 0 0 1 s.length)) rfl rfl) ?_
      refine q_step 1 rfl (o_assign (p := (.d (.sl 1 true []))) rfl rfl) ?_
      refine q_step 1 rfl (o_assign (p := (.d (.v (.bool false)))) rfl rfl) ?_
      refine q_nil ?_
      refine pw_wk (Wk.freeze_row (f := eU) (xs := s) (b := 0) (sz := 1) (n := 106) (l := [(6, (.d (.v (.int .i64 (((k : Nat) : Int) + 1))))), (7, (.d (.sl 1 false (s.map eU)))), (8, (.d (.sl 1 true []))), (9, (.d (.v (.bool false))))]) (S' := ⟨[none, some [(.d (.v (.int .u8 c))), (.d (.v (.int .i64 a))), (.d (.v (.int .i64 b)))]], []⟩) (by rw [hb0]; decide) rfl rfl (fun _ => rfl) (nobB_self (nobB_cons rfl rfl)) (.keep .rfl' rfl (.row' rfl (by simp) (.keep .rfl' rfl (.keep .rfl' rfl .nil)))) rfl) ?_
      refine pw_ret ?_
      exact ⟨.inr rfl, rfl, rfl, rfl, ⟨_, (.cons _ _ _ _ (.tmp (of_decide_eq_true rfl) (PVle.of_canon (p := (.d (.v (.int .i64 (((k : Nat) : Int) + 1))))) (by rw [st5 hk hc.1 ho]; first | rfl | (simp only [PV.canon]; first | rfl | (split <;> first | rfl | (simp; done) | (exfalso; omega)))))) (.cons _ _ _ _ (.tmp (of_decide_eq_true rfl) (PVle.of_canon (p := (.d (.sl 1 false (s.map eU)))) (by rw [st5 hk hc.1 ho]; first | rfl | (simp only [PV.canon]; first | rfl | (split <;> first | rfl | (simp; done) | (exfalso; omega)))))) (.cons _ _ _ _ (.tmp (of_decide_eq_true rfl) (PVle.of_canon (p := (.d (.sl 1 true []))) (by rw [st5 hk hc.1 ho]; first | rfl | (simp only [PV.canon]; first | rfl | (split <;> first | rfl | (simp; done) | (exfalso; omega)))))) (.cons _ _ _ _ (.tmp (of_decide_eq_true rfl) (PVle.of_canon (p := (.d (.v (.bool false)))) (by rw [st5 hk hc.1 ho]; first | rfl | (simp only [PV.canon]; first | rfl | (split <;> first | rfl | (simp; done) | (exfalso; omega)))))) .nil)))), rfl⟩⟩
    ·
      refine pw_region ?_
      refine pwl_step 1 rfl (opS_field_ptr (b := 1) (off := 0) rfl Try.underlying32 rfl sz3 (of_decide_eq_true rfl) rfl) ?_
      refine pwl_step 1 rfl (opS_load_box (b := 1) (off := 2) (cs := [(.d (.v (.int .u8 c))), (.d (.v (.int .i64 a))), (.d (.v (.int .i64 b)))]) (p := (.d (.v (.int .i64 b)))) rfl Try.underlying3 rfl rfl rfl rfl) ?_
      refine pwl_step 1 rfl (opS_bin (k := .i64) (m := b) (n := 0) rfl rfl rfl (ib_ge (decide_eq_false hc3))) ?_
      refine pwl_step 1 rfl (o_move (p := (.d (.v (.bool false)))) rfl rfl) ?_
      refine pwl_step_no rfl rfl ?_
      refine pwl_step_no rfl rfl ?_
      refine pwl_step_no rfl rfl ?_
      refine pwl_step_no rfl rfl ?_
      refine pwl_step_no rfl rfl ?_
      refine pwl_step 1 rfl (o_pick_f (p := (.d (.v (.bool false)))) rfl rfl rfl) ?_
      refine pwl_step 1 rfl (o_assign (p := (.d (.v (.bool false)))) rfl rfl) ?_
      refine pwl_nil ?_
      refine pw_seq ?_
      refine pw_seq ?_
      refine pw_region ?_
      refine pwl_step 1 rfl (opS_field_ptr (b := 1) (off := 0) rfl Try.underlying32 rfl sz5 (of_decide_eq_true rfl) rfl) ?_
      refine pwl_step 1 rfl (opS_load_box (b := 1) (off := 0) (cs := [(.d (.v (.int .u8 c))), (.d (.v (.int .i64 a))), (.d (.v (.int .i64 b)))]) (p := (.d (.v (.int .u8 c)))) rfl Try.underlying5 rfl rfl rfl rfl) ?_
      refine pwl_nil ?_
      refine pw_block ?_
      refine pw_seq ?_
      refine pw_region ?_
      refine pwl_step 1 rfl (opS_bin (k := .u8) (m := c) (n := 0) rfl rfl rfl (ib_eq (decide_eq_false hf2))) ?_
      refine pwl_step 1 rfl (o_assign (p := (.d (.v (.bool false)))) rfl rfl) ?_
      refine pwl_nil ?_
      refine pw_cond (b := false) rfl (fun h => by cases h) (fun _ => ?_)
      refine pw_seq ?_
      refine pw_region ?_
      refine pwl_step 1 rfl (opS_bin (k := .u8) (m := c) (n := 1) rfl rfl rfl (ib_eq (decide_eq_false hf3))) ?_
      refine pwl_step 1 rfl (o_assign (p := (.d (.v (.bool false)))) rfl rfl) ?_
      refine pwl_nil ?_
      refine pw_cond (b := false) rfl (fun h => by cases h) (fun _ => ?_)
      refine pw_seq ?_
      refine pw_region ?_
      refine pwl_step 1 rfl (opS_bin (k := .u8) (m := c) (n := 2) rfl rfl rfl (ib_eq (decide_eq_false hf4))) ?_
      refine pwl_step 1 rfl (o_assign (p := (.d (.v (.bool false)))) rfl rfl) ?_
      refine pwl_nil ?_
      refine pw_cond (b := false) rfl (fun h => by cases h) (fun _ => ?_)
      refine pw_seq ?_
      refine pw_region ?_
      refine pwl_step 1 rfl (opS_bin (k := .u8) (m := c) (n := 3) rfl rfl rfl (ib_eq (decide_eq_false hf5))) ?_
      refine pwl_step 1 rfl (o_assign (p := (.d (.v (.bool false)))) rfl rfl) ?_
      refine pwl_nil ?_
      refine pw_cond (b := false) rfl (fun h => by cases h) (fun _ => ?_)
      refine pw_skip ?_
      refine pw_seq ?_
      refine pw_wk (Wk.ofL (n := 106) (l := [(1, (.d (.v (.int .i64 ((k : Nat) : Int))))), (6, (.d (.v (.int .i64 0)))), (7, (.d (.sl 1 true []))), (8, (.d (.sl 1 true []))), (9, (.d (.v (.bool false)))), (10, (.ms 0 0 1 s.length)), (11, (.ptr 1 0))]) (S := ⟨[some (row eU s), some [(.d (.v (.int .u8 c))), (.d (.v (.int .i64 a))), (.d (.v (.int .i64 b)))]], []⟩) rfl rfl (.cons .rfl' (.cons .rfl' (.cons .rfl' (.cons .rfl' (.cons .rfl' (.cons .rfl' (.cons .rfl' .nil)))))))) ?_
      refine pw_quiet Trymixed (by kernel_rfl) ?_
      refine q_step 1 rfl (o_move (p := (.d (.v (.int .i64 ((k : Nat) : Int))))) rfl rfl) ?_
      refine q_step 1 rfl (opS_bin (k := .i64) (m := ((k : Nat) : Int)) (n := 1) rfl rfl rfl (ib_add (by omega) (by omega))) ?_
      refine q_step 1 rfl (o_move (p := (.ms 0 0 1 s.length)) rfl rfl) ?_
      refine q_step 1 rfl (opS_field_ptr (b := 1) (off := 0) rfl Try.underlying32 rfl sz5 (of_decide_eq_true rfl) rfl) ?_
      refine q_step 1 rfl (opS_load_box (b := 1) (off := 0) (cs := [(.d (.v (.int .u8 c))), (.d (.v (.int .i64 a))), (.d (.v (.int .i64 b)))]) (p := (.d (.v (.int .u8 c)))) rfl Try.underlying5 rfl rfl rfl rfl) ?_
      refine q_step 1 rfl (opS_bin (k := .u8) (m := c) (n := 4) rfl rfl rfl (ib_eq (decide_eq_false hf6))) ?_
      refine q_step 1 rfl (o_assign (p := (.d (.v (.int .i64 (((k : Nat) : Int) + 1))))) rfl rfl) ?_
      refine q_step 1 rfl (o_assign (p := (.ms 0 0 1 s.length)) rfl rfl) ?_
      refine q_step 1 rfl (o_assign (p := (.d (.sl 1 true []))) rfl rfl) ?_
      refine q_step 1 rfl (o_assign (p := (.d (.v (.bool false)))) rfl rfl) ?_
      refine q_nil ?_
      refine pw_wk (Wk.freeze_row (f := eU) (xs := s) (b := 0) (sz := 1) (n := 106) (l := [(6, (.d (.v (.int .i64 (((k : Nat) : Int) + 1))))), (7, (.d (.sl 1 false (s.map eU)))), (8, (.d (.sl 1 true []))), (9, (.d (.v (.bool false))))]) (S' := ⟨[none, some [(.d (.v (.int .u8 c))), (.d (.v (.int .i64 a))), (.d (.v (.int .i64 b)))]], []⟩) (by rw [hb0]; decide) rfl rfl (fun _ => rfl) (nobB_self (nobB_cons rfl rfl)) (.keep .rfl' rfl (.row' rfl (by simp) (.keep .rfl' rfl (.keep .rfl' rfl .nil)))) rfl) ?_
      refine pw_ret ?_
      exact ⟨.inr rfl, rfl, rfl, rfl, ⟨_, (.cons _ _ _ _ (.tmp (of_decide_eq_true rfl) (PVle.of_canon (p := (.d (.v (.int .i64 (((k : Nat) : Int) + 1))))) (by rw [st5 hk hc.1 ho]; first | rfl | (simp only [PV.canon]; first | rfl | (split <;> first | rfl | (simp; done) | (exfalso; omega)))))) (.cons _ _ _ _ (.tmp (of_decide_eq_true rfl) (PVle.of_canon (p := (.d (.sl 1 false (s.map eU)))) (by rw [st5 hk hc.1 ho]; first | rfl | (simp only [PV.canon]; first | rfl | (split <;> first | rfl | (simp; done) | (exfalso; omega)))))) (.cons _ _ _ _ (.tmp (of_decide_eq_true rfl) (PVle.of_canon (p := (.d (.sl 1 true []))) (by rw [st5 hk hc.1 ho]; first | rfl | (simp only [PV.canon]; first | rfl | (split <;> first | rfl | (simp; done) | (exfalso; omega)))))) (.cons _ _ _ _ (.tmp (of_decide_eq_true rfl) (PVle.of_canon (p := (.d (.v (.bool false)))) (by rw [st5 hk hc.1 ho]; first | rfl | (simp only [PV.canon]; first | rfl | (split <;> first | rfl | (simp; done) | (exfalso; omega)))))) .nil)))), rfl⟩⟩

set_option maxRecDepth 20000 in
theorem rstep6 (ops : List FOp) (s : List Int) (n : Int) (hs : s.length ≤ 1000) (hops : ops.length ≤ 1000) (h : ¬ (0 ≤ n ∧ n < ops.length)) : PF Try.prog 20 [(.sl 3 false (ops.map eF)), (.v (.int .i64 n)), (.sl 1 false (s.map eU))] (stepPV (step ops n s)) := by
  refine pc_intro Try.func20 rfl (of_decide_eq_true rfl) (fun g0 w0 hb0 ht0 => ?_)
  refine pw_seq ?_
  refine pw_wk (Wk.ofL (n := 106) (l := [(0, (.d (.sl 3 false (ops.map eF)))), (1, (.d (.v (.int .i64 n)))), (2, (.d (.sl 1 false (s.map eU))))]) (S := ⟨[], []⟩) rfl rfl (.cons .rfl' (.cons .rfl' (.cons .rfl' .nil)))) ?_
  refine pw_region ?_
  refine pwl_step 1 rfl (o_assign (p := (.d (.v (.int .i64 0)))) rfl rfl) ?_
  refine pwl_step 1 rfl (o_assign (p := (.d (.sl 1 true []))) rfl rfl) ?_
  refine pwl_step 1 rfl (o_assign (p := (.d (.sl 1 true []))) rfl rfl) ?_
  refine pwl_step 1 rfl (o_assign (p := (.d (.v (.bool false)))) rfl rfl) ?_
  refine pwl_nil ?_
  refine pw_seq ?_
  refine pw_wk (Wk.ofL (n := 106) (l := [(0, (.d (.sl 3 false (ops.map eF)))), (1, (.d (.v (.int .i64 n)))), (2, (.d (.sl 1 false (s.map eU)))), (6, (.d (.v (.int .i64 0)))), (7, (.d (.sl 1 true []))), (8, (.d (.sl 1 true []))), (9, (.d (.v (.bool false))))]) (S := ⟨[], []⟩) rfl rfl (.cons .rfl' (.cons .rfl' (.cons .rfl' (.cons .rfl' (.cons .rfl' (.cons .rfl' (.cons .rfl' .nil)))))))) ?_
  refine pw_region ?_
  refine pwl_step 1 rfl (o_buildSlice (sz := 1) (es := []) rfl Try.underlying23 ti39 (of_decide_eq_true rfl) (of_decide_eq_true rfl) rfl rfl rfl) ?_
  refine pwl_step 1 rfl (o_move (p := (.d (.sl 1 false (s.map eU)))) rfl rfl) ?_
  refine pwl_step 1 rfl (o_append_row (xs := s) (f := eU) (sz := 1) rfl Try.underlying23 ti39 (of_decide_eq_true rfl) rfl rfl (by omega) (by omega)) ?_
  refine pwl_step 1 rfl (o_assign (p := (.ms 0 0 1 s.length)) rfl rfl) ?_
  refine pwl_nil ?_
  refine pw_seq ?_
  refine pw_seq ?_
  refine pw_wk (Wk.ofL (n := 106) (l := [(0, (.d (.sl 3 false (ops.map eF)))), (1, (.d (.v (.int .i64 n)))), (6, (.d (.v (.int .i64 0)))), (7, (.d (.sl 1 true []))), (8, (.d (.sl 1 true []))), (9, (.d (.v (.bool false)))), (10, (.ms 0 0 1 s.length))]) (S := ⟨[some (row eU s)], []⟩) rfl rfl (.cons .rfl' (.cons .rfl' (.cons .rfl' (.cons .rfl' (.cons .rfl' (.cons .rfl' (.cons .rfl' .nil)))))))) ?_
  by_cases hc1 : n < 0
  ·
    refine pw_region ?_
    refine pwl_step 1 rfl (o_move (p := (.d (.v (.int .i64 n)))) rfl rfl) ?_
    refine pwl_step 1 rfl (opS_bin (k := .i64) (m := n) (n := 0) rfl rfl rfl (ib_lt (decide_eq_true hc1))) ?_
    refine pwl_step 1 rfl (o_move (p := (.d (.v (.bool true)))) rfl rfl) ?_
    refine pwl_step_no rfl rfl ?_
    refine pwl_step_no rfl rfl ?_
    refine pwl_step_no rfl rfl ?_
    refine pwl_step_no rfl rfl ?_
    refine pwl_step 1 rfl (o_pick_t (p := (.d (.v (.bool true)))) rfl rfl rfl) ?_
    refine pwl_nil ?_
    refine pw_cond (b := true) rfl (fun _ => ?_) (fun h => by cases h)
    refine pw_seq ?_
    refine pw_wk (Wk.ofL (n := 106) (l := [(0, (.d (.sl 3 false (ops.map eF)))), (1, (.d (.v (.int .i64 n)))), (6, (.d (.v (.int .i64 0)))), (7, (.d (.sl 1 true []))), (8, (.d (.sl 1 true []))), (9, (.d (.v (.bool false)))), (10, (.ms 0 0 1 s.length))]) (S := ⟨[some (row eU s)], []⟩) rfl rfl (.cons .rfl' (.cons .rfl' (.cons .rfl' (.cons .rfl' (.cons .rfl' (.cons .rfl' (.cons .rfl' .nil)))))))) ?_
    refine pw_region ?_
    refine pwl_step 1 rfl (o_move (p := (.d (.v (.int .i64 n)))) rfl rfl) ?_
    refine pwl_step 1 rfl (o_move (p := (.ms 0 0 1 s.length)) rfl rfl) ?_
    refine pwl_step 1 rfl (o_assign (p := (.d (.v (.int .i64 n)))) rfl rfl) ?_
    refine pwl_step 1 rfl (o_assign (p := (.ms 0 0 1 s.length)) rfl rfl) ?_
    refine pwl_step 1 rfl (o_assign (p := (.d (.sl 1 true []))) rfl rfl) ?_
    refine pwl_step 1 rfl (o_assign (p := (.d (.v (.bool false)))) rfl rfl) ?_
    refine pwl_nil ?_
    refine pw_wk (Wk.freeze_row (f := eU) (xs := s) (b := 0) (sz := 1) (n := 106) (l := [(6, (.d (.v (.int .i64 n)))), (7, (.d (.sl 1 false (s.map eU)))), (8, (.d (.sl 1 true []))), (9, (.d (.v (.bool false))))]) (S' := ⟨[none], []⟩) (by rw [hb0]; decide) rfl rfl (fun _ => rfl) (nobB_self rfl) (.keep .rfl' rfl (.row' rfl (by simp) (.keep .rfl' rfl (.keep .rfl' rfl .nil)))) rfl) ?_
    refine pw_ret ?_
    exact ⟨.inr rfl, rfl, rfl, rfl, ⟨_, (.cons _ _ _ _ (.tmp (of_decide_eq_true rfl) (PVle.of_canon (p := (.d (.v (.int .i64 n)))) (by rw [st6 h]; rfl))) (.cons _ _ _ _ (.tmp (of_decide_eq_true rfl) (PVle.of_canon (p := (.d (.sl 1 false (s.map eU)))) (by rw [st6 h]; rfl))) (.cons _ _ _ _ (.tmp (of_decide_eq_true rfl) (PVle.of_canon (p := (.d (.sl 1 true []))) (by rw [st6 h]; rfl))) (.cons _ _ _ _ (.tmp (of_decide_eq_true rfl) (PVle.of_canon (p := (.d (.v (.bool false)))) (by rw [st6 h]; rfl))) .nil)))), rfl⟩⟩
  ·
    refine pw_region ?_
    refine pwl_step 1 rfl (o_move (p := (.d (.v (.int .i64 n)))) rfl rfl) ?_
    refine pwl_step 1 rfl (opS_bin (k := .i64) (m := n) (n := 0) rfl rfl rfl (ib_lt (decide_eq_false hc1))) ?_
    refine pwl_step 1 rfl (o_move (p := (.d (.v (.bool false)))) rfl rfl) ?_
    refine pwl_step_yes 1 rfl rfl (o_move (p := (.d (.v (.int .i64 n)))) rfl rfl) ?_
    refine pwl_step_yes 1 rfl rfl (o_move (p := (.d (.sl 3 false (ops.map eF)))) rfl rfl) ?_
    refine pwl_step_yes 1 rfl rfl (o_len (sz := 3) (es := (ops.map eF)) (n := ops.length) rfl Try.underlying22 rfl (by simp)) ?_
    refine pwl_step_yes 1 rfl rfl (opS_bin (k := .i64) (m := n) (n := (((ops.length : Nat)) : Int)) rfl rfl rfl (ib_ge rfl)) ?_
    refine pwl_step 1 rfl (o_pick_f (p := (.d (.v (.bool (decide ((((ops.length : Nat)) : Int) ≤ n)))))) rfl rfl rfl) ?_
    refine pwl_nil ?_
    refine pw_cond (b := decide ((((ops.length : Nat)) : Int) ≤ n)) rfl (fun hb2 => ?_) (fun hb2 => ?_)
    ·
      replace hb2 := of_decide_eq_true hb2
      refine pw_seq ?_
      refine pw_wk (Wk.ofL (n := 106) (l := [(0, (.d (.sl 3 false (ops.map eF)))), (1, (.d (.v (.int .i64 n)))), (6, (.d (.v (.int .i64 0)))), (7, (.d (.sl 1 true []))), (8, (.d (.sl 1 true []))), (9, (.d (.v (.bool false)))), (10, (.ms 0 0 1 s.length))]) (S := ⟨[some (row eU s)], []⟩) rfl rfl (.cons .rfl' (.cons .rfl' (.cons .rfl' (.cons .rfl' (.cons .rfl' (.cons .rfl' (.cons .rfl' .nil)))))))) ?_
      refine pw_region ?_
      refine pwl_step 1 rfl (o_move (p := (.d (.v (.int .i64 n)))) rfl rfl) ?_
      refine pwl_step 1 rfl (o_move (p := (.ms 0 0 1 s.length)) rfl rfl) ?_
      refine pwl_step 1 rfl (o_assign (p := (.d (.v (.int .i64 n)))) rfl rfl) ?_
      refine pwl_step 1 rfl (o_assign (p := (.ms 0 0 1 s.length)) rfl rfl) ?_
      refine pwl_step 1 rfl (o_assign (p := (.d (.sl 1 true []))) rfl rfl) ?_
      refine pwl_step 1 rfl (o_assign (p := (.d (.v (.bool false)))) rfl rfl) ?_
      refine pwl_nil ?_
      refine pw_wk (Wk.freeze_row (f := eU) (xs := s) (b := 0) (sz := 1) (n := 106) (l := [(6, (.d (.v (.int .i64 n)))), (7, (.d (.sl 1 false (s.map eU)))), (8, (.d (.sl 1 true []))), (9, (.d (.v (.bool false))))]) (S' := ⟨[none], []⟩) (by rw [hb0]; decide) rfl rfl (fun _ => rfl) (nobB_self rfl) (.keep .rfl' rfl (.row' rfl (by simp) (.keep .rfl' rfl (.keep .rfl' rfl .nil)))) rfl) ?_
      refine pw_ret ?_
      exact ⟨.inr rfl, rfl, rfl, rfl, ⟨_, (.cons _ _ _ _ (.tmp (of_decide_eq_true rfl) (PVle.of_canon (p := (.d (.v (.int .i64 n)))) (by rw [st6 h]; rfl))) (.cons _ _ _ _ (.tmp (of_decide_eq_true rfl) (PVle.of_canon (p := (.d (.sl 1 false (s.map eU)))) (by rw [st6 h]; rfl))) (.cons _ _ _ _ (.tmp (of_decide_eq_true rfl) (PVle.of_canon (p := (.d (.sl 1 true []))) (by rw [st6 h]; rfl))) (.cons _ _ _ _ (.tmp (of_decide_eq_true rfl) (PVle.of_canon (p := (.d (.v (.bool false)))) (by rw [st6 h]; rfl))) .nil)))), rfl⟩⟩
    ·
      replace hb2 := of_decide_eq_false hb2
      exfalso; omega

theorem rstep_ok (ops : List FOp) (n : Int) (s : List Int) (hs : s.length ≤ 1000) (hops : ops.length ≤ 1000) (hf : ∀ o ∈ ops, FOk o) : PF Try.prog 20 [.sl 3 false (ops.map eF), .v (.int .i64 n), .sl 1 false (s.map eU)] (stepPV (step ops n s)) := by
  by_cases h : 0 ≤ n ∧ n < ops.length
  · obtain ⟨k, rfl⟩ : ∃ k : Nat, n = k := ⟨n.toNat, by omega⟩
    have hk : k < ops.length := by omega
    have e : ops.getD k default = ops[k] := by simp [List.getD, hk]
    have hfo := hf ops[k] (List.getElem_mem hk)
    rcases hx : ops[k] with ⟨c, a, b⟩
    rw [hx] at e hfo
    obtain ⟨⟨h1, h2⟩, h3⟩ := hfo
    simp only at h1 h2 h3
    by_cases h5 : 5 ≤ c
    · exact rstep5 ops s k c a b hs hops hk ⟨h5, h2⟩ e
    · obtain rfl | rfl | rfl | rfl | rfl : c = 0 ∨ c = 1 ∨ c = 2 ∨ c = 3 ∨ c = 4 := by omega
      · exact rstep0 ops s k a b hs hops hk h3 e
      · exact rstep1 ops s k a b hs hops hk h3 e
      · exact rstep2 ops s k a b hs hops hk h3 e
      · exact rstep3 ops s k a b hs hops hk h3 e
      · exact rstep4 ops s k a b hs hops hk h3 e
  · exact rstep6 ops s n hs hops h
end Go.Proofs.Ytopmocpjgjbdbaa
