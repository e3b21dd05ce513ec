/- the example -/
import Derived.Test.YtopmocpjgjbdbaaF7
namespace Go.Proofs.Ytopmocpjgjbdbaa
open Go.Pv
theorem fnok11 : FnOk Try.prog 11 := ⟨Try.f11, Try.func11, rfl, rfl⟩
def saidS : List Int := [8]
def opsS : List FOp := [⟨3, 0, 1⟩, ⟨0, 7, 0⟩, ⟨0, 8, 0⟩]
theorem shown_run : PF Try.prog 11 [.sl 3 false (opsS.map eF), .sl 1 false (([0, 5] : List Int).map eU)] (.tup [.d (.sl 1 false (([0, 5] : List Int).map eU)), .d (.sl 1 false (saidS.map eI)), .d (.v (.bool false)), .d (.v (.int .i64 2))]) := by
  have h := run_ok opsS [0, 5] (by decide) (by decide) (fun o ho => by
    simp only [opsS, List.mem_cons, List.not_mem_nil, or_false] at ho
    rcases ho with rfl | rfl | rfl <;> exact ⟨by decide, by decide⟩)
  have e : run opsS [0, 5] = ([0, 5], saidS, false, 2) := by decide
  rw [e] at h
  exact h
set_option maxRecDepth 20000 in
theorem shown_ok  : PF Try.prog 8 [] (.d (.v (.bool true))) := by
  refine pc_intro Try.func8 rfl (of_decide_eq_true rfl) (fun g0 w0 hb0 ht0 => ?_)
  have hf0 : (((saidS.length : Nat)) : Int) = 1 := by rfl
  have hf1 : (saidS.getD 0 default) = 8 := by rfl
  have hf2 : saidS.length = 1 := by rfl
  refine pw_seq ?_
  refine pw_region ?_
  refine pwl_step 1 rfl (o_assign (p := (.d (.v (.bool false)))) rfl rfl) ?_
  refine pwl_nil ?_
  refine pw_seq ?_
  refine pw_wk (Wk.ofL (n := 31) (l := [(0, (.d (.v (.bool false))))]) (S := ⟨[], []⟩) rfl rfl (.cons .rfl' .nil)) ?_
  refine pw_region ?_
  refine pwl_step 1 rfl (o_build (cs := [(.d (.v (.int .u8 3))), (.d (.v (.int .i64 0))), (.d (.v (.int .i64 1)))]) rfl Try.underlying32 ti32 zs32 (pl32 _ Try.underlying32) rfl) ?_
  refine pwl_step 1 rfl (o_build (cs := [(.d (.v (.int .u8 0))), (.d (.v (.int .i64 7))), (.d (.v (.int .i64 0)))]) rfl Try.underlying32 ti32 zs32 (pl32 _ Try.underlying32) rfl) ?_
  refine pwl_step 1 rfl (o_build (cs := [(.d (.v (.int .u8 0))), (.d (.v (.int .i64 8))), (.d (.v (.int .i64 0)))]) rfl Try.underlying32 ti32 zs32 (pl32 _ Try.underlying32) rfl) ?_
  refine pwl_step 1 rfl (o_buildSlice (sz := 3) (es := [([(.v (.int .u8 3)), (.v (.int .i64 0)), (.v (.int .i64 1))] : List D), ([(.v (.int .u8 0)), (.v (.int .i64 7)), (.v (.int .i64 0))] : List D), ([(.v (.int .u8 0)), (.v (.int .i64 8)), (.v (.int .i64 0))] : List D)]) rfl Try.underlying22 ti32 (of_decide_eq_true rfl) (of_decide_eq_true rfl) rfl rfl rfl) ?_
  refine pwl_step 1 rfl (o_assign (p := (.d (.sl 3 true [([(.v (.int .u8 3)), (.v (.int .i64 0)), (.v (.int .i64 1))] : List D), ([(.v (.int .u8 0)), (.v (.int .i64 7)), (.v (.int .i64 0))] : List D), ([(.v (.int .u8 0)), (.v (.int .i64 8)), (.v (.int .i64 0))] : List D)]))) rfl rfl) ?_
  refine pwl_nil ?_
  refine pw_seq ?_
  refine pw_wk (Wk.ofL (n := 31) (l := [(0, (.d (.v (.bool false)))), (1, (.d (.sl 3 true [([(.v (.int .u8 3)), (.v (.int .i64 0)), (.v (.int .i64 1))] : List D), ([(.v (.int .u8 0)), (.v (.int .i64 7)), (.v (.int .i64 0))] : List D), ([(.v (.int .u8 0)), (.v (.int .i64 8)), (.v (.int .i64 0))] : List D)])))]) (S := ⟨[], []⟩) rfl rfl (.cons .rfl' (.cons .rfl' .nil))) ?_
  refine pw_region ?_
  refine pwl_step 1 rfl (o_move (p := (.d (.sl 3 true [([(.v (.int .u8 3)), (.v (.int .i64 0)), (.v (.int .i64 1))] : List D), ([(.v (.int .u8 0)), (.v (.int .i64 7)), (.v (.int .i64 0))] : List D), ([(.v (.int .u8 0)), (.v (.int .i64 8)), (.v (.int .i64 0))] : List D)]))) rfl rfl) ?_
  refine pwl_step 1 rfl (o_buildSlice (sz := 1) (es := [([(.v (.int .u64 0))] : List D), ([(.v (.int .u64 5))] : List D)]) rfl Try.underlying23 ti39 (of_decide_eq_true rfl) (of_decide_eq_true rfl) rfl rfl rfl) ?_
  refine pwl_step 1 rfl (opS_call («as» := [(.d (.sl 3 false (opsS.map eF))), (.d (.sl 1 false ([0, 5].map eU)))]) (r := (.tup [(.d (.sl 1 false ([0, 5].map eU))), (.d (.sl 1 false (saidS.map eI))), (.d (.v (.bool false))), (.d (.v (.int .i64 2)))])) rfl fnok11 rfl (args_ok (by exact .cons (.of_canon rfl) (.cons (.of_canon rfl) (.nil)))) (PF.at shown_run _)) ?_
  refine pwl_step 1 rfl (o_move (p := (.tup [(.d (.sl 1 false ([0, 5].map eU))), (.d (.sl 1 false (saidS.map eI))), (.d (.v (.bool false))), (.d (.v (.int .i64 2)))])) rfl rfl) ?_
  refine pwl_step 1 rfl (opS_extract (cs := [(.d (.sl 1 false ([0, 5].map eU))), (.d (.sl 1 false (saidS.map eI))), (.d (.v (.bool false))), (.d (.v (.int .i64 2)))]) (p := (.d (.sl 1 false ([0, 5].map eU)))) rfl rfl rfl) ?_
  refine pwl_step 1 rfl (opS_extract (cs := [(.d (.sl 1 false ([0, 5].map eU))), (.d (.sl 1 false (saidS.map eI))), (.d (.v (.bool false))), (.d (.v (.int .i64 2)))]) (p := (.d (.sl 1 false (saidS.map eI)))) rfl rfl rfl) ?_
  refine pwl_step 1 rfl (opS_extract (cs := [(.d (.sl 1 false ([0, 5].map eU))), (.d (.sl 1 false (saidS.map eI))), (.d (.v (.bool false))), (.d (.v (.int .i64 2)))]) (p := (.d (.v (.bool false)))) rfl rfl rfl) ?_
  refine pwl_step 1 rfl (opS_extract (cs := [(.d (.sl 1 false ([0, 5].map eU))), (.d (.sl 1 false (saidS.map eI))), (.d (.v (.bool false))), (.d (.v (.int .i64 2)))]) (p := (.d (.v (.int .i64 2)))) rfl rfl rfl) ?_
  refine pwl_step 1 rfl (o_assign (p := (.d (.sl 1 false ([0, 5].map eU)))) rfl rfl) ?_
  refine pwl_step 1 rfl (o_assign (p := (.d (.sl 1 false (saidS.map eI)))) rfl rfl) ?_
  refine pwl_step 1 rfl (o_assign (p := (.d (.v (.bool false)))) rfl rfl) ?_
  refine pwl_step 1 rfl (o_assign (p := (.d (.v (.int .i64 2)))) rfl rfl) ?_
  refine pwl_nil ?_
  refine pw_seq ?_
  refine pw_wk (Wk.ofL (n := 31) (l := [(0, (.d (.v (.bool false)))), (3, (.d (.sl 1 false (saidS.map eI)))), (5, (.d (.v (.int .i64 2))))]) (S := ⟨[], []⟩) rfl rfl (.cons .rfl' (.cons .rfl' (.cons .rfl' .nil)))) ?_
  refine pw_region ?_
  refine pwl_step 1 rfl (o_move (p := (.d (.sl 1 false (saidS.map eI)))) rfl rfl) ?_
  refine pwl_step 1 rfl (o_len (sz := 1) (es := (saidS.map eI)) (n := saidS.length) rfl Try.underlying28 rfl (by simp)) ?_
  refine pwl_step 1 rfl (opS_bin (k := .i64) (m := (((saidS.length : Nat)) : Int)) (n := 1) rfl rfl rfl (ib_eq (decide_eq_true hf0))) ?_
  refine pwl_step 1 rfl (o_move (p := (.d (.v (.bool true)))) rfl rfl) ?_
  refine pwl_step_yes 1 rfl rfl (o_move (p := (.d (.sl 1 false (saidS.map eI)))) rfl rfl) ?_
  refine pwl_step_yes 1 rfl rfl (opS_index (sz := 1) (es := (saidS.map eI)) (k := .i64) (n := 0) (e := [(.v (.int .i64 (saidS.getD 0 default)))]) rfl Try.underlying28 sz3 rfl rfl (by omega) (map_get (xs := saidS) (i := 0) (by omega))) ?_
  refine pwl_step_yes 1 rfl rfl (opS_load_rp (c := (.v (.int .i64 (saidS.getD 0 default)))) (cs := []) rfl Try.underlying3 rfl rfl) ?_
  refine pwl_step_yes 1 rfl rfl (opS_bin (k := .i64) (m := (saidS.getD 0 default)) (n := 8) rfl rfl rfl (ib_eq (decide_eq_true hf1))) ?_
  refine pwl_step 1 rfl (o_pick_t (p := (.d (.v (.bool true)))) rfl rfl rfl) ?_
  refine pwl_step 1 rfl (o_move (p := (.d (.v (.bool true)))) rfl rfl) ?_
  refine pwl_step_yes 1 rfl rfl (o_move (p := (.d (.v (.int .i64 2)))) rfl rfl) ?_
  refine pwl_step_yes 1 rfl rfl (opS_bin (k := .i64) (m := 2) (n := 2) rfl rfl rfl (ib_eq (c := true) rfl)) ?_
  refine pwl_step 1 rfl (o_pick_t (p := (.d (.v (.bool true)))) rfl rfl rfl) ?_
  refine pwl_step 1 rfl (o_assign (p := (.d (.v (.bool true)))) rfl rfl) ?_
  refine pwl_nil ?_
  refine pw_ret ?_
  exact ⟨.inr rfl, rfl, rfl, rfl, ⟨_, (.cons _ _ _ _ (.tmp (of_decide_eq_true rfl) (PVle.of_canon (p := (.d (.v (.bool true)))) (by rfl))) .nil), rfl⟩⟩
end Go.Proofs.Ytopmocpjgjbdbaa
