/- the reference: runs -/
import Derived.Test.YtopmocpjgjbdbaaF5
import Derived.Test.YtopmocpjgjbdbaaF6
namespace Go.Proofs.Ytopmocpjgjbdbaa
open Go.Pv
theorem fnok20 : FnOk Try.prog 20 := ⟨Try.f20, Try.func20, rfl, rfl⟩
set_option maxRecDepth 20000 in
theorem rrun_ok (ops : List FOp) (s : List Int) (hs : s.length ≤ 1000) (hops : ops.length ≤ 1000) (hfo : ∀ o ∈ ops, FOk o) : PF Try.prog 21 [(.sl 3 false (ops.map eF)), (.sl 1 false (s.map eU))] (runPV (run ops s)) := by
  refine pc_intro Try.func21 rfl (of_decide_eq_true rfl) (fun g0 w0 hb0 ht0 => ?_)
  refine pw_seq ?_
  refine pw_wk (Wk.ofL (n := 49) (l := [(0, (.d (.sl 3 false (ops.map eF)))), (1, (.d (.sl 1 false (s.map eU))))]) (S := ⟨[], []⟩) rfl rfl (.cons .rfl' (.cons .rfl' .nil))) ?_
  refine pw_region ?_
  refine pwl_step 1 rfl (o_assign (p := (.d (.sl 1 true []))) rfl rfl) ?_
  refine pwl_step 1 rfl (o_assign (p := (.d (.sl 1 true []))) rfl rfl) ?_
  refine pwl_step 1 rfl (o_assign (p := (.d (.v (.bool false)))) rfl rfl) ?_
  refine pwl_step 1 rfl (o_assign (p := (.d (.v (.int .i64 0)))) rfl rfl) ?_
  refine pwl_nil ?_
  refine pw_seq ?_
  refine pw_wk (Wk.ofL (n := 49) (l := [(0, (.d (.sl 3 false (ops.map eF)))), (1, (.d (.sl 1 false (s.map eU)))), (4, (.d (.sl 1 true []))), (5, (.d (.sl 1 true []))), (6, (.d (.v (.bool false)))), (7, (.d (.v (.int .i64 0))))]) (S := ⟨[], []⟩) rfl rfl (.cons .rfl' (.cons .rfl' (.cons .rfl' (.cons .rfl' (.cons .rfl' (.cons .rfl' .nil))))))) ?_
  refine pw_region ?_
  refine pwl_step 1 rfl (o_buildSlice (sz := 1) (es := []) rfl Try.underlying23 ti39 (of_decide_eq_true rfl) (of_decide_eq_true rfl) rfl rfl rfl) ?_
  refine pwl_step 1 rfl (o_move (p := (.d (.sl 1 false (s.map eU)))) rfl rfl) ?_
  refine pwl_step 1 rfl (o_append_pure (sz := 1) (es := []) (ys := (s.map eU)) rfl Try.underlying23 ti39 (of_decide_eq_true rfl) rfl rfl (by simp only [List.length_map, List.length_append, List.length_cons, List.length_nil, List.length_take]; omega) (by simp only [List.length_map, List.length_append, List.length_cons, List.length_nil, List.length_take]; omega)) ?_
  refine pwl_step 1 rfl (o_assign (p := (.d (.sl 1 false (s.map eU)))) rfl rfl) ?_
  refine pwl_nil ?_
  refine pw_seq ?_
  refine pw_region ?_
  refine pwl_step 1 rfl (o_buildSlice (sz := 1) (es := []) rfl Try.underlying28 ti3 (of_decide_eq_true rfl) (of_decide_eq_true rfl) rfl rfl rfl) ?_
  refine pwl_step 1 rfl (o_assign (p := (.d (.sl 1 true []))) rfl rfl) ?_
  refine pwl_nil ?_
  refine pw_seq ?_
  refine pw_region ?_
  refine pwl_step 1 rfl (o_assign (p := (.d (.v (.bool false)))) rfl rfl) ?_
  refine pwl_nil ?_
  refine pw_seq ?_
  refine pw_region ?_
  refine pwl_step 1 rfl (o_assign (p := (.d (.v (.int .i64 0)))) rfl rfl) ?_
  refine pwl_nil ?_
  refine pw_seq ?_
  refine pw_region ?_
  refine pwl_step 1 rfl (o_assign (p := (.d (.v (.int .i64 0)))) rfl rfl) ?_
  refine pwl_nil ?_
  refine pw_seq ?_
  refine pw_block ?_
  refine pw_wk (Wk.retag (d := 9) (sz := 1) (es := []) rfl (of_decide_eq_true rfl)) ?_
  refine pw_loop' (α := Nat × Nat × Nat × List Int × List Int × Bool) (fun (x : Nat × Nat × Nat × List Int × List Int × Bool) => match x with | (f, k, n, t, said, held) => St.ofL 49 [(0, (.d (.sl 3 false (ops.map eF)))), (4, (.d (.sl 1 true []))), (5, (.d (.sl 1 true []))), (6, (.d (.v (.bool false)))), (7, (.d (.v (.int .i64 0)))), (8, (.d (.sl 1 false (t.map eU)))), (9, (.app 0 1 (said.map eI))), (10, (.d (.v (.bool held)))), (11, (.d (.v (.int .i64 ((k : Nat) : Int))))), (12, (.d (.v (.int .i64 ((n : Nat) : Int)))))] ⟨[], [(said.map eI).length]⟩) (fun (x : Nat × Nat × Nat × List Int × List Int × Bool) => match x with | (f, k, n, t, said, held) => ops.length ≤ f + k ∧ n + f = ops.length ∧ t.length = s.length ∧ said.length ≤ n ∧ runF ops f k t said held n = run ops s) (fun (x : Nat × Nat × Nat × List Int × List Int × Bool) => match x with | (f, k, n, t, said, held) => f) (ops.length, 0, 0, s, [], false) (⟨by omega, by omega, rfl, Nat.le_refl _, rfl⟩) (Wk.ofL rfl (rfl) (.cons .rfl' (.cons .rfl' (.cons .rfl' (.cons .rfl' (.cons .rfl' (.cons (PVle.of_eq (p := (.d (.sl 1 false (s.map eU)))) (q := _) (by first | rfl | simp)) (.cons (PVle.of_eq (p := (.app 0 1 [])) (q := _) (by first | rfl | simp)) (.cons (PVle.of_eq (p := (.d (.v (.bool false)))) (q := _) (by first | rfl | simp [])) (.cons (PVle.of_eq (p := (.d (.v (.int .i64 0)))) (q := _) (by first | rfl | (congr 3; omega))) (.cons (PVle.of_eq (p := (.d (.v (.int .i64 0)))) (q := _) (by first | rfl | (congr 3; omega))) .nil))))))))))) ?_
  rintro ⟨f, k, n, t, said, held⟩ ⟨hf, hn, ht, hsd, hE⟩
  have hst := step_good ops k t hfo
  refine pw_seq ?_
  refine pw_seq ?_
  refine pw_wk (Wk.ofL (n := 49) (l := [(0, (.d (.sl 3 false (ops.map eF)))), (4, (.d (.sl 1 true []))), (5, (.d (.sl 1 true []))), (6, (.d (.v (.bool false)))), (7, (.d (.v (.int .i64 0)))), (8, (.d (.sl 1 false (t.map eU)))), (9, (.app 0 1 (said.map eI))), (10, (.d (.v (.bool held)))), (11, (.d (.v (.int .i64 ((k : Nat) : Int))))), (12, (.d (.v (.int .i64 ((n : Nat) : Int)))))]) (S := ⟨[], [(said.map eI).length]⟩) rfl rfl (.cons .rfl' (.cons .rfl' (.cons .rfl' (.cons .rfl' (.cons .rfl' (.cons .rfl' (.cons .rfl' (.cons .rfl' (.cons .rfl' (.cons .rfl' .nil))))))))))) ?_
  refine pw_region ?_
  refine pwl_step 1 rfl (o_move (p := (.d (.v (.int .i64 ((k : Nat) : Int))))) rfl rfl) ?_
  refine pwl_step 1 rfl (o_move (p := (.d (.sl 3 false (ops.map eF)))) rfl rfl) ?_
  refine pwl_step 1 rfl (o_len (sz := 3) (es := (ops.map eF)) (n := ops.length) rfl Try.underlying22 rfl (by simp)) ?_
  refine pwl_step 1 rfl (opS_bin (k := .i64) (m := ((k : Nat) : Int)) (n := (((ops.length : Nat)) : Int)) rfl rfl rfl (ib_lt rfl)) ?_
  refine pwl_nil ?_
  refine pw_cond (b := decide (((k : Nat) : Int) < (((ops.length : Nat)) : Int))) rfl (fun hb1 => ?_) (fun hb1 => ?_)
  ·
    replace hb1 := of_decide_eq_true hb1
    refine pw_skip ?_
    refine pw_block ?_
    refine pw_seq ?_
    refine pw_wk (Wk.ofL (n := 49) (l := [(0, (.d (.sl 3 false (ops.map eF)))), (4, (.d (.sl 1 true []))), (5, (.d (.sl 1 true []))), (6, (.d (.v (.bool false)))), (7, (.d (.v (.int .i64 0)))), (8, (.d (.sl 1 false (t.map eU)))), (9, (.app 0 1 (said.map eI))), (10, (.d (.v (.bool held)))), (11, (.d (.v (.int .i64 ((k : Nat) : Int))))), (12, (.d (.v (.int .i64 ((n : Nat) : Int)))))]) (S := ⟨[], [(said.map eI).length]⟩) rfl rfl (.cons .rfl' (.cons .rfl' (.cons .rfl' (.cons .rfl' (.cons .rfl' (.cons .rfl' (.cons .rfl' (.cons .rfl' (.cons .rfl' (.cons .rfl' .nil))))))))))) ?_
    refine pw_region ?_
    refine pwl_step 1 rfl (o_move (p := (.d (.sl 3 false (ops.map eF)))) rfl rfl) ?_
    refine pwl_step 1 rfl (o_move (p := (.d (.v (.int .i64 ((k : Nat) : Int))))) rfl rfl) ?_
    refine pwl_step 1 rfl (o_move (p := (.d (.sl 1 false (t.map eU)))) rfl rfl) ?_
    refine pwl_step 1 rfl (opS_call («as» := [(.d (.sl 3 false (ops.map eF))), (.d (.v (.int .i64 ((k : Nat) : Int)))), (.d (.sl 1 false (t.map eU)))]) (r := (.tup [(.d (.v (.int .i64 ((step ops ((k : Nat) : Int) t).1)))), (.d (.sl 1 false ((step ops ((k : Nat) : Int) t).2.1.map eU))), (.d (.sl 1 false ((step ops ((k : Nat) : Int) t).2.2.1.map eI))), (.d (.v (.bool ((step ops ((k : Nat) : Int) t).2.2.2))))])) rfl fnok20 rfl (args_ok (by exact .cons (.of_canon rfl) (.cons (.of_canon rfl) (.cons (.of_canon rfl) (.nil))))) (PF.at (rstep_ok ops ((k : Nat) : Int) t (by omega) (by omega) hfo) _)) ?_
    refine pwl_step 1 rfl (o_move (p := (.tup [(.d (.v (.int .i64 ((step ops ((k : Nat) : Int) t).1)))), (.d (.sl 1 false ((step ops ((k : Nat) : Int) t).2.1.map eU))), (.d (.sl 1 false ((step ops ((k : Nat) : Int) t).2.2.1.map eI))), (.d (.v (.bool ((step ops ((k : Nat) : Int) t).2.2.2))))])) rfl rfl) ?_
    refine pwl_step 1 rfl (opS_extract (cs := [(.d (.v (.int .i64 ((step ops ((k : Nat) : Int) t).1)))), (.d (.sl 1 false ((step ops ((k : Nat) : Int) t).2.1.map eU))), (.d (.sl 1 false ((step ops ((k : Nat) : Int) t).2.2.1.map eI))), (.d (.v (.bool ((step ops ((k : Nat) : Int) t).2.2.2))))]) (p := (.d (.v (.int .i64 ((step ops ((k : Nat) : Int) t).1))))) rfl rfl rfl) ?_
    refine pwl_step 1 rfl (opS_extract (cs := [(.d (.v (.int .i64 ((step ops ((k : Nat) : Int) t).1)))), (.d (.sl 1 false ((step ops ((k : Nat) : Int) t).2.1.map eU))), (.d (.sl 1 false ((step ops ((k : Nat) : Int) t).2.2.1.map eI))), (.d (.v (.bool ((step ops ((k : Nat) : Int) t).2.2.2))))]) (p := (.d (.sl 1 false ((step ops ((k : Nat) : Int) t).2.1.map eU)))) rfl rfl rfl) ?_
    refine pwl_step 1 rfl (opS_extract (cs := [(.d (.v (.int .i64 ((step ops ((k : Nat) : Int) t).1)))), (.d (.sl 1 false ((step ops ((k : Nat) : Int) t).2.1.map eU))), (.d (.sl 1 false ((step ops ((k : Nat) : Int) t).2.2.1.map eI))), (.d (.v (.bool ((step ops ((k : Nat) : Int) t).2.2.2))))]) (p := (.d (.sl 1 false ((step ops ((k : Nat) : Int) t).2.2.1.map eI)))) rfl rfl rfl) ?_
    refine pwl_step 1 rfl (opS_extract (cs := [(.d (.v (.int .i64 ((step ops ((k : Nat) : Int) t).1)))), (.d (.sl 1 false ((step ops ((k : Nat) : Int) t).2.1.map eU))), (.d (.sl 1 false ((step ops ((k : Nat) : Int) t).2.2.1.map eI))), (.d (.v (.bool ((step ops ((k : Nat) : Int) t).2.2.2))))]) (p := (.d (.v (.bool ((step ops ((k : Nat) : Int) t).2.2.2))))) rfl rfl rfl) ?_
    refine pwl_step 1 rfl (o_assign (p := (.d (.v (.int .i64 ((step ops ((k : Nat) : Int) t).1))))) rfl rfl) ?_
    refine pwl_step 1 rfl (o_assign (p := (.d (.sl 1 false ((step ops ((k : Nat) : Int) t).2.1.map eU)))) rfl rfl) ?_
    refine pwl_step 1 rfl (o_assign (p := (.d (.sl 1 false ((step ops ((k : Nat) : Int) t).2.2.1.map eI)))) rfl rfl) ?_
    refine pwl_step 1 rfl (o_assign (p := (.d (.v (.bool ((step ops ((k : Nat) : Int) t).2.2.2))))) rfl rfl) ?_
    refine pwl_nil ?_
    refine pw_seq ?_
    refine pw_region ?_
    refine pwl_step 1 rfl (o_move (p := (.d (.v (.int .i64 ((step ops ((k : Nat) : Int) t).1))))) rfl rfl) ?_
    refine pwl_step 1 rfl (o_assign (p := (.d (.v (.int .i64 ((step ops ((k : Nat) : Int) t).1))))) rfl rfl) ?_
    refine pwl_nil ?_
    refine pw_seq ?_
    refine pw_region ?_
    refine pwl_step 1 rfl (o_move (p := (.d (.sl 1 false ((step ops ((k : Nat) : Int) t).2.1.map eU)))) rfl rfl) ?_
    refine pwl_step 1 rfl (o_assign (p := (.d (.sl 1 false ((step ops ((k : Nat) : Int) t).2.1.map eU)))) rfl rfl) ?_
    refine pwl_nil ?_
    refine pw_seq ?_
    refine pw_wk (Wk.ofL (n := 49) (l := [(0, (.d (.sl 3 false (ops.map eF)))), (4, (.d (.sl 1 true []))), (5, (.d (.sl 1 true []))), (6, (.d (.v (.bool false)))), (7, (.d (.v (.int .i64 0)))), (8, (.d (.sl 1 false ((step ops ((k : Nat) : Int) t).2.1.map eU)))), (9, (.app 0 1 (said.map eI))), (10, (.d (.v (.bool held)))), (11, (.d (.v (.int .i64 ((step ops ((k : Nat) : Int) t).1))))), (12, (.d (.v (.int .i64 ((n : Nat) : Int))))), (15, (.d (.sl 1 false ((step ops ((k : Nat) : Int) t).2.2.1.map eI)))), (16, (.d (.v (.bool ((step ops ((k : Nat) : Int) t).2.2.2)))))]) (S := ⟨[], [(said.map eI).length]⟩) rfl rfl (.cons .rfl' (.cons .rfl' (.cons .rfl' (.cons .rfl' (.cons .rfl' (.cons .rfl' (.cons .rfl' (.cons .rfl' (.cons .rfl' (.cons .rfl' (.cons .rfl' (.cons .rfl' .nil))))))))))))) ?_
    refine pw_region ?_
    refine pwl_step 1 rfl (o_move (p := (.app 0 1 (said.map eI))) rfl rfl) ?_
    refine pwl_step 1 rfl (o_move (p := (.d (.sl 1 false ((step ops ((k : Nat) : Int) t).2.2.1.map eI)))) rfl rfl) ?_
    refine pwl_step 1 rfl (o_append_tag (sz := 1) (t := 0) (es := (said.map eI)) (ys := ((step ops ((k : Nat) : Int) t).2.2.1.map eI)) rfl Try.underlying28 ti3 (of_decide_eq_true rfl) rfl rfl (by first | rfl | simp) (by simp only [List.length_map, List.length_append, List.length_cons, List.length_nil, List.length_take]; omega) (by simp only [List.length_map, List.length_append, List.length_cons, List.length_nil, List.length_take]; omega)) ?_
    refine pwl_step 1 rfl (o_assign (p := (.app 0 1 ((said.map eI) ++ ((step ops ((k : Nat) : Int) t).2.2.1.map eI)))) rfl rfl) ?_
    refine pwl_nil ?_
    refine pw_seq ?_
    refine pw_wk (Wk.ofL (n := 49) (l := [(0, (.d (.sl 3 false (ops.map eF)))), (4, (.d (.sl 1 true []))), (5, (.d (.sl 1 true []))), (6, (.d (.v (.bool false)))), (7, (.d (.v (.int .i64 0)))), (8, (.d (.sl 1 false ((step ops ((k : Nat) : Int) t).2.1.map eU)))), (9, (.app 0 1 ((said.map eI) ++ ((step ops ((k : Nat) : Int) t).2.2.1.map eI)))), (10, (.d (.v (.bool held)))), (11, (.d (.v (.int .i64 ((step ops ((k : Nat) : Int) t).1))))), (12, (.d (.v (.int .i64 ((n : Nat) : Int))))), (16, (.d (.v (.bool ((step ops ((k : Nat) : Int) t).2.2.2)))))]) (S := ⟨[], [(said.map eI).length + ((step ops ((k : Nat) : Int) t).2.2.1.map eI).length]⟩) rfl rfl (.cons .rfl' (.cons .rfl' (.cons .rfl' (.cons .rfl' (.cons .rfl' (.cons .rfl' (.cons .rfl' (.cons .rfl' (.cons .rfl' (.cons .rfl' (.cons .rfl' .nil)))))))))))) ?_
    by_cases hc2 : held = true
    ·
      refine pw_wk (Wk.ofL (n := 49) (l := [(0, (.d (.sl 3 false (ops.map eF)))), (4, (.d (.sl 1 true []))), (5, (.d (.sl 1 true []))), (6, (.d (.v (.bool false)))), (7, (.d (.v (.int .i64 0)))), (8, (.d (.sl 1 false ((step ops ((k : Nat) : Int) t).2.1.map eU)))), (9, (.app 0 1 ((said.map eI) ++ ((step ops ((k : Nat) : Int) t).2.2.1.map eI)))), (10, (.d (.v (.bool true)))), (11, (.d (.v (.int .i64 ((step ops ((k : Nat) : Int) t).1))))), (12, (.d (.v (.int .i64 ((n : Nat) : Int))))), (16, (.d (.v (.bool ((step ops ((k : Nat) : Int) t).2.2.2)))))]) (S := ⟨[], [(said.map eI).length + ((step ops ((k : Nat) : Int) t).2.2.1.map eI).length]⟩) rfl rfl (.cons .rfl' (.cons .rfl' (.cons .rfl' (.cons .rfl' (.cons .rfl' (.cons .rfl' (.cons .rfl' (.cons (.of_eq (congrArg (fun x => PV.d (.v (.bool x))) (hc2))) (.cons .rfl' (.cons .rfl' (.cons .rfl' .nil)))))))))))) ?_
      refine pw_region ?_
      refine pwl_step 1 rfl (o_move (p := (.d (.v (.bool true)))) rfl rfl) ?_
      refine pwl_step 1 rfl (o_move (p := (.d (.v (.bool true)))) rfl rfl) ?_
      refine pwl_step_no rfl rfl ?_
      refine pwl_step 1 rfl (o_pick_t (p := (.d (.v (.bool true)))) rfl rfl rfl) ?_
      refine pwl_step 1 rfl (o_assign (p := (.d (.v (.bool true)))) rfl rfl) ?_
      refine pwl_nil ?_
      refine pw_region ?_
      refine pwl_step 1 rfl (o_move (p := (.d (.v (.int .i64 ((n : Nat) : Int))))) rfl rfl) ?_
      refine pwl_step 1 rfl (opS_bin (k := .i64) (m := ((n : Nat) : Int)) (n := 1) rfl rfl rfl (ib_add (by omega) (by omega))) ?_
      refine pwl_step 1 rfl (o_assign (p := (.d (.v (.int .i64 (((n : Nat) : Int) + 1))))) rfl rfl) ?_
      refine pwl_nil ?_
      exact ⟨⟨f - 1, (step ops k t).1.toNat, n + 1, (step ops k t).2.1, said ++ (step ops k t).2.2.1, held || (step ops k t).2.2.2⟩, ⟨by omega, by omega, by omega, by rw [List.length_append]; omega, (runF_next (by omega) (by omega)).symm.trans hE⟩, by simp only []; omega, Wk.ofL rfl (by show (⟨[], [(said.map eI).length + ((step ops ((k : Nat) : Int) t).2.2.1.map eI).length]⟩ : Sx) = _; simp) (.cons .rfl' (.cons .rfl' (.cons .rfl' (.cons .rfl' (.cons .rfl' (.cons (PVle.of_eq (p := (.d (.sl 1 false ((step ops ((k : Nat) : Int) t).2.1.map eU)))) (q := _) (by first | rfl | simp)) (.cons (PVle.of_eq (p := (.app 0 1 ((said.map eI) ++ ((step ops ((k : Nat) : Int) t).2.2.1.map eI)))) (q := _) (by first | rfl | simp)) (.cons (PVle.of_eq (p := (.d (.v (.bool true)))) (q := _) (by first | rfl | simp [hb1, hc2])) (.cons (PVle.of_eq (p := (.d (.v (.int .i64 ((step ops ((k : Nat) : Int) t).1))))) (q := _) (by first | rfl | (congr 3; omega))) (.cons (PVle.of_eq (p := (.d (.v (.int .i64 (((n : Nat) : Int) + 1))))) (q := _) (by first | rfl | (congr 3; omega))) .nil))))))))))⟩
    ·
      refine pw_wk (Wk.ofL (n := 49) (l := [(0, (.d (.sl 3 false (ops.map eF)))), (4, (.d (.sl 1 true []))), (5, (.d (.sl 1 true []))), (6, (.d (.v (.bool false)))), (7, (.d (.v (.int .i64 0)))), (8, (.d (.sl 1 false ((step ops ((k : Nat) : Int) t).2.1.map eU)))), (9, (.app 0 1 ((said.map eI) ++ ((step ops ((k : Nat) : Int) t).2.2.1.map eI)))), (10, (.d (.v (.bool false)))), (11, (.d (.v (.int .i64 ((step ops ((k : Nat) : Int) t).1))))), (12, (.d (.v (.int .i64 ((n : Nat) : Int))))), (16, (.d (.v (.bool ((step ops ((k : Nat) : Int) t).2.2.2)))))]) (S := ⟨[], [(said.map eI).length + ((step ops ((k : Nat) : Int) t).2.2.1.map eI).length]⟩) rfl rfl (.cons .rfl' (.cons .rfl' (.cons .rfl' (.cons .rfl' (.cons .rfl' (.cons .rfl' (.cons .rfl' (.cons (.of_eq (congrArg (fun x => PV.d (.v (.bool x))) (eq_false_of_ne_true hc2))) (.cons .rfl' (.cons .rfl' (.cons .rfl' .nil)))))))))))) ?_
      refine pw_region ?_
      refine pwl_step 1 rfl (o_move (p := (.d (.v (.bool false)))) rfl rfl) ?_
      refine pwl_step 1 rfl (o_move (p := (.d (.v (.bool false)))) rfl rfl) ?_
      refine pwl_step_yes 1 rfl rfl (o_move (p := (.d (.v (.bool ((step ops ((k : Nat) : Int) t).2.2.2))))) rfl rfl) ?_
      refine pwl_step 1 rfl (o_pick_f (p := (.d (.v (.bool ((step ops ((k : Nat) : Int) t).2.2.2))))) rfl rfl rfl) ?_
      refine pwl_step 1 rfl (o_assign (p := (.d (.v (.bool ((step ops ((k : Nat) : Int) t).2.2.2))))) rfl rfl) ?_
      refine pwl_nil ?_
      refine pw_region ?_
      refine pwl_step 1 rfl (o_move (p := (.d (.v (.int .i64 ((n : Nat) : Int))))) rfl rfl) ?_
      refine pwl_step 1 rfl (opS_bin (k := .i64) (m := ((n : Nat) : Int)) (n := 1) rfl rfl rfl (ib_add (by omega) (by omega))) ?_
      refine pwl_step 1 rfl (o_assign (p := (.d (.v (.int .i64 (((n : Nat) : Int) + 1))))) rfl rfl) ?_
      refine pwl_nil ?_
      exact ⟨⟨f - 1, (step ops k t).1.toNat, n + 1, (step ops k t).2.1, said ++ (step ops k t).2.2.1, held || (step ops k t).2.2.2⟩, ⟨by omega, by omega, by omega, by rw [List.length_append]; omega, (runF_next (by omega) (by omega)).symm.trans hE⟩, by simp only []; omega, Wk.ofL rfl (by show (⟨[], [(said.map eI).length + ((step ops ((k : Nat) : Int) t).2.2.1.map eI).length]⟩ : Sx) = _; simp) (.cons .rfl' (.cons .rfl' (.cons .rfl' (.cons .rfl' (.cons .rfl' (.cons (PVle.of_eq (p := (.d (.sl 1 false ((step ops ((k : Nat) : Int) t).2.1.map eU)))) (q := _) (by first | rfl | simp)) (.cons (PVle.of_eq (p := (.app 0 1 ((said.map eI) ++ ((step ops ((k : Nat) : Int) t).2.2.1.map eI)))) (q := _) (by first | rfl | simp)) (.cons (PVle.of_eq (p := (.d (.v (.bool ((step ops ((k : Nat) : Int) t).2.2.2))))) (q := _) (by first | rfl | simp [hb1, hc2])) (.cons (PVle.of_eq (p := (.d (.v (.int .i64 ((step ops ((k : Nat) : Int) t).1))))) (q := _) (by first | rfl | (congr 3; omega))) (.cons (PVle.of_eq (p := (.d (.v (.int .i64 (((n : Nat) : Int) + 1))))) (q := _) (by first | rfl | (congr 3; omega))) .nil))))))))))⟩
  ·
    replace hb1 := of_decide_eq_false hb1
    refine pw_exit ?_
    refine pw_seq ?_
    refine pw_wk (Wk.ofL (n := 49) (l := [(4, (.d (.sl 1 true []))), (5, (.d (.sl 1 true []))), (6, (.d (.v (.bool false)))), (7, (.d (.v (.int .i64 0)))), (8, (.d (.sl 1 false (t.map eU)))), (9, (.app 0 1 (said.map eI))), (10, (.d (.v (.bool held)))), (12, (.d (.v (.int .i64 ((n : Nat) : Int)))))]) (S := ⟨[], [(said.map eI).length]⟩) rfl rfl (.cons .rfl' (.cons .rfl' (.cons .rfl' (.cons .rfl' (.cons .rfl' (.cons .rfl' (.cons .rfl' (.cons .rfl' .nil))))))))) ?_
    refine pw_region ?_
    refine pwl_step 1 rfl (o_move (p := (.d (.sl 1 false (t.map eU)))) rfl rfl) ?_
    refine pwl_step 1 rfl (o_move (p := (.app 0 1 (said.map eI))) rfl rfl) ?_
    refine pwl_step 1 rfl (o_move (p := (.d (.v (.bool held)))) rfl rfl) ?_
    refine pwl_step 1 rfl (o_move (p := (.d (.v (.int .i64 ((n : Nat) : Int))))) rfl rfl) ?_
    refine pwl_step 1 rfl (o_assign (p := (.d (.sl 1 false (t.map eU)))) rfl rfl) ?_
    refine pwl_step 1 rfl (o_assign (p := (.app 0 1 (said.map eI))) rfl rfl) ?_
    refine pwl_step 1 rfl (o_assign (p := (.d (.v (.bool held)))) rfl rfl) ?_
    refine pwl_step 1 rfl (o_assign (p := (.d (.v (.int .i64 ((n : Nat) : Int))))) rfl rfl) ?_
    refine pwl_nil ?_
    refine pw_ret ?_
    exact ⟨.inr rfl, rfl, rfl, rfl, ⟨_, (.cons _ _ _ _ (.tmp (of_decide_eq_true rfl) (PVle.of_canon (p := (.d (.sl 1 false (t.map eU)))) (by simp only [PV.canon]; rw [← hE, runF_end (by omega)]))) (.cons _ _ _ _ (.tmp (of_decide_eq_true rfl) (PVle.of_canon (p := (.app 0 1 (said.map eI))) (by simp only [PV.canon]; rw [← hE, runF_end (by omega)]))) (.cons _ _ _ _ (.tmp (of_decide_eq_true rfl) (PVle.of_canon (p := (.d (.v (.bool held)))) (by simp only [PV.canon]; rw [← hE, runF_end (by omega)]))) (.cons _ _ _ _ (.tmp (of_decide_eq_true rfl) (PVle.of_canon (p := (.d (.v (.int .i64 ((n : Nat) : Int))))) (by simp only [PV.canon]; rw [← hE, runF_end (by omega)]))) .nil)))), rfl⟩⟩
end Go.Proofs.Ytopmocpjgjbdbaa
