/- runs -/
import Derived.Test.YtopmocpjgjbdbaaF4
namespace Go.Proofs.Ytopmocpjgjbdbaa
open Go.Pv
theorem sz22 : SizeIs Try.prog 22 1 := sizeIs_of (by kernel_rfl)
theorem fnok12 : FnOk Try.prog 12 := ⟨Try.f12, Try.func12, rfl, rfl⟩
theorem take_min {α : Type} (s : List α) : s.take (min ((s.length : Nat) : Int) 10).toNat = s.take 10 := by
  rw [List.take_eq_take_iff]; omega
def runF (ops : List FOp) : Nat → Nat → List Int → List Int → Bool → Nat → List Int × List Int × Bool × Nat
  | 0, _, s, said, held, n => (s, said, held, n)
  | f + 1, k, s, said, held, n => if k < ops.length then runF ops f (step ops k s).1.toNat (step ops k s).2.1 (said ++ (step ops k s).2.2.1) (held || (step ops k s).2.2.2) (n + 1) else (s, said, held, n)
def run (ops : List FOp) (s : List Int) : List Int × List Int × Bool × Nat := runF ops ops.length 0 s [] false 0
theorem runF_next {ops : List FOp} {f k n : Nat} {s said : List Int} {held : Bool} (hf : 0 < f) (hk : k < ops.length) : runF ops f k s said held n = runF ops (f - 1) (step ops k s).1.toNat (step ops k s).2.1 (said ++ (step ops k s).2.2.1) (held || (step ops k s).2.2.2) (n + 1) := by
  cases f with
  | zero => omega
  | succ f => simp only [runF, if_pos hk, Nat.add_sub_cancel]
theorem runF_end {ops : List FOp} {f k n : Nat} {s said : List Int} {held : Bool} (hk : ¬ k < ops.length) : runF ops f k s said held n = (s, said, held, n) := by
  cases f with
  | zero => rfl
  | succ f => simp only [runF, if_neg hk]
def runPV (r : List Int × List Int × Bool × Nat) : PV := .tup [.d (.sl 1 false (r.1.map eU)), .d (.sl 1 false (r.2.1.map eI)), .d (.v (.bool r.2.2.1)), .d (.v (.int .i64 ((r.2.2.2 : Nat) : Int)))]
theorem step_good (ops : List FOp) (k : Nat) (s : List Int) (hfo : ∀ o ∈ ops, FOk o) : (k < ops.length → (k : Int) + 1 ≤ (step ops k s).1) ∧ (k : Int) ≤ (step ops k s).1 ∧ (step ops k s).1 ≤ k + 101 ∧ (step ops k s).2.1.length = s.length ∧ (step ops k s).2.2.1.length ≤ 1 := by
  by_cases hk : k < ops.length
  · have e : ops.getD k default = ops[k] := by simp [List.getD, hk]
    have hb := (hfo ops[k] (List.getElem_mem hk)).b
    rcases hx : ops[k] with ⟨c, a, b⟩
    rw [hx] at e hb
    simp only at hb
    have hsk := skp_bnd s a hb
    unfold step
    rw [if_pos ⟨by omega, by omega⟩, Int.toNat_natCast, e]
    simp only
    split
    · simp; omega
    · split
      · simp [clr_len]; omega
      · split
        · simp [mov_len]; omega
        · split
          · simp; omega
          · simp; omega
  · rw [st6 (by omega)]
    simp; omega
def of (l : List (List FOp)) (n : Int) : List FOp := if 0 ≤ n ∧ n < l.length then l.getD n.toNat default else []
set_option maxRecDepth 20000 in
theorem run_ok (ops : List FOp) (s : List Int) (hs : s.length ≤ 1000) (hops : ops.length ≤ 1000) (hfo : ∀ o ∈ ops, FOk o) : PF Try.prog 11 [(.sl 3 false (ops.map eF)), (.sl 1 false (s.map eU))] (runPV (run ops s)) := by
  refine pc_intro Try.func11 rfl (of_decide_eq_true rfl) (fun g0 w0 hb0 ht0 => ?_)
  refine pw_seq ?_
  refine pw_wk (Wk.ofL (n := 48) (l := [(0, (.d (.sl 3 false (ops.map eF)))), (1, (.d (.sl 1 false (s.map eU))))]) (S := ⟨[], []⟩) rfl rfl (.cons .rfl' (.cons .rfl' .nil))) ?_
  refine pw_region ?_
  refine pwl_step 1 rfl (o_assign (p := (.d (.sl 1 true []))) rfl rfl) ?_
  refine pwl_step 1 rfl (o_assign (p := (.d (.sl 1 true []))) rfl rfl) ?_
  refine pwl_step 1 rfl (o_assign (p := (.d (.v (.bool false)))) rfl rfl) ?_
  refine pwl_step 1 rfl (o_assign (p := (.d (.v (.int .i64 0)))) rfl rfl) ?_
  refine pwl_nil ?_
  refine pw_seq ?_
  refine pw_wk (Wk.ofL (n := 48) (l := [(0, (.d (.sl 3 false (ops.map eF)))), (1, (.d (.sl 1 false (s.map eU)))), (4, (.d (.sl 1 true []))), (5, (.d (.sl 1 true []))), (6, (.d (.v (.bool false)))), (7, (.d (.v (.int .i64 0))))]) (S := ⟨[], []⟩) rfl rfl (.cons .rfl' (.cons .rfl' (.cons .rfl' (.cons .rfl' (.cons .rfl' (.cons .rfl' .nil))))))) ?_
  refine pw_region ?_
  refine pwl_step 1 rfl (o_buildSlice (sz := 1) (es := []) rfl Try.underlying23 ti39 (of_decide_eq_true rfl) (of_decide_eq_true rfl) rfl rfl rfl) ?_
  refine pwl_step 1 rfl (o_move (p := (.d (.sl 1 false (s.map eU)))) rfl rfl) ?_
  refine pwl_step 1 rfl (o_append_pure (sz := 1) (es := []) (ys := (s.map eU)) rfl Try.underlying23 ti39 (of_decide_eq_true rfl) rfl rfl (by simp only [List.length_map, List.length_append, List.length_cons, List.length_nil, List.length_take]; omega) (by simp only [List.length_map, List.length_append, List.length_cons, List.length_nil, List.length_take]; omega)) ?_
  refine pwl_step 1 rfl (o_assign (p := (.d (.sl 1 false (s.map eU)))) rfl rfl) ?_
  refine pwl_nil ?_
  refine pw_seq ?_
  refine pw_region ?_
  refine pwl_step 1 rfl (o_assign (p := (.d (.sl 1 true []))) rfl rfl) ?_
  refine pwl_nil ?_
  refine pw_seq ?_
  refine pw_region ?_
  refine pwl_step 1 rfl (o_assign (p := (.d (.v (.bool false)))) rfl rfl) ?_
  refine pwl_step 1 rfl (o_assign (p := (.d (.v (.int .i64 0)))) rfl rfl) ?_
  refine pwl_nil ?_
  refine pw_seq ?_
  refine pw_seq ?_
  refine pw_region ?_
  refine pwl_step 1 rfl (o_assign (p := (.d (.v (.int .i64 0)))) rfl rfl) ?_
  refine pwl_nil ?_
  refine pw_block ?_
  refine pw_wk (Wk.retag (d := 9) (sz := 1) (es := []) rfl (of_decide_eq_true rfl)) ?_
  refine pw_loop' (α := Nat × Nat × Nat × List Int × List Int × Bool) (fun (x : Nat × Nat × Nat × List Int × List Int × Bool) => match x with | (f, k, n, t, said, held) => St.ofL 48 [(0, (.d (.sl 3 false (ops.map eF)))), (4, (.d (.sl 1 true []))), (5, (.d (.sl 1 true []))), (6, (.d (.v (.bool false)))), (7, (.d (.v (.int .i64 0)))), (8, (.d (.sl 1 false (t.map eU)))), (9, (.app 0 1 (said.map eI))), (10, (.d (.v (.bool held)))), (11, (.d (.v (.int .i64 ((n : Nat) : Int))))), (12, (.d (.v (.int .i64 ((k : Nat) : Int)))))] ⟨[], [(said.map eI).length]⟩) (fun (x : Nat × Nat × Nat × List Int × List Int × Bool) => match x with | (f, k, n, t, said, held) => ops.length ≤ f + k ∧ n + f = ops.length ∧ t.length = s.length ∧ said.length ≤ n ∧ runF ops f k t said held n = run ops s) (fun (x : Nat × Nat × Nat × List Int × List Int × Bool) => match x with | (f, k, n, t, said, held) => f) (ops.length, 0, 0, s, [], false) (⟨by omega, by omega, rfl, Nat.le_refl _, rfl⟩) (Wk.ofL rfl (rfl) (.cons .rfl' (.cons .rfl' (.cons .rfl' (.cons .rfl' (.cons .rfl' (.cons (PVle.of_eq (p := (.d (.sl 1 false (s.map eU)))) (q := _) (by first | rfl | simp)) (.cons (PVle.of_eq (p := (.app 0 1 [])) (q := _) (by first | rfl | simp)) (.cons (PVle.of_eq (p := (.d (.v (.bool false)))) (q := _) (by first | rfl | simp [])) (.cons (PVle.of_eq (p := (.d (.v (.int .i64 0)))) (q := _) (by first | rfl | (congr 3; omega))) (.cons (PVle.of_eq (p := (.d (.v (.int .i64 0)))) (q := _) (by first | rfl | (congr 3; omega))) .nil))))))))))) ?_
  rintro ⟨f, k, n, t, said, held⟩ ⟨hf, hn, ht, hsd, hE⟩
  have hst := step_good ops k t hfo
  refine pw_seq ?_
  refine pw_seq ?_
  refine pw_wk (Wk.ofL (n := 48) (l := [(0, (.d (.sl 3 false (ops.map eF)))), (4, (.d (.sl 1 true []))), (5, (.d (.sl 1 true []))), (6, (.d (.v (.bool false)))), (7, (.d (.v (.int .i64 0)))), (8, (.d (.sl 1 false (t.map eU)))), (9, (.app 0 1 (said.map eI))), (10, (.d (.v (.bool held)))), (11, (.d (.v (.int .i64 ((n : Nat) : Int))))), (12, (.d (.v (.int .i64 ((k : Nat) : Int)))))]) (S := ⟨[], [(said.map eI).length]⟩) rfl rfl (.cons .rfl' (.cons .rfl' (.cons .rfl' (.cons .rfl' (.cons .rfl' (.cons .rfl' (.cons .rfl' (.cons .rfl' (.cons .rfl' (.cons .rfl' .nil))))))))))) ?_
  refine pw_region ?_
  refine pwl_step 1 rfl (o_move (p := (.d (.v (.int .i64 ((k : Nat) : Int))))) rfl rfl) ?_
  refine pwl_step 1 rfl (o_move (p := (.d (.sl 3 false (ops.map eF)))) rfl rfl) ?_
  refine pwl_step 1 rfl (o_len (sz := 3) (es := (ops.map eF)) (n := ops.length) rfl Try.underlying22 rfl (by simp)) ?_
  refine pwl_step 1 rfl (opS_bin (k := .i64) (m := ((k : Nat) : Int)) (n := (((ops.length : Nat)) : Int)) rfl rfl rfl (ib_lt rfl)) ?_
  refine pwl_nil ?_
  refine pw_cond (b := decide (((k : Nat) : Int) < (((ops.length : Nat)) : Int))) rfl (fun hb1 => ?_) (fun hb1 => ?_)
  ·
    replace hb1 := of_decide_eq_true hb1
    refine pw_skip ?_
    refine pw_seq ?_
    refine pw_block ?_
    refine pw_seq ?_
    refine pw_wk (Wk.ofL (n := 48) (l := [(0, (.d (.sl 3 false (ops.map eF)))), (4, (.d (.sl 1 true []))), (5, (.d (.sl 1 true []))), (6, (.d (.v (.bool false)))), (7, (.d (.v (.int .i64 0)))), (8, (.d (.sl 1 false (t.map eU)))), (9, (.app 0 1 (said.map eI))), (10, (.d (.v (.bool held)))), (11, (.d (.v (.int .i64 ((n : Nat) : Int))))), (12, (.d (.v (.int .i64 ((k : Nat) : Int)))))]) (S := ⟨[], [(said.map eI).length]⟩) rfl rfl (.cons .rfl' (.cons .rfl' (.cons .rfl' (.cons .rfl' (.cons .rfl' (.cons .rfl' (.cons .rfl' (.cons .rfl' (.cons .rfl' (.cons .rfl' .nil))))))))))) ?_
    refine pw_region ?_
    refine pwl_step 1 rfl (o_move (p := (.d (.sl 3 false (ops.map eF)))) rfl rfl) ?_
    refine pwl_step 1 rfl (o_move (p := (.d (.v (.int .i64 ((k : Nat) : Int))))) rfl rfl) ?_
    refine pwl_step 1 rfl (o_move (p := (.d (.sl 1 false (t.map eU)))) rfl rfl) ?_
    refine pwl_step 1 rfl (opS_call («as» := [(.d (.sl 3 false (ops.map eF))), (.d (.v (.int .i64 ((k : Nat) : Int)))), (.d (.sl 1 false (t.map eU)))]) (r := (.tup [(.d (.v (.int .i64 ((step ops ((k : Nat) : Int) t).1)))), (.d (.sl 1 false ((step ops ((k : Nat) : Int) t).2.1.map eU))), (.d (.sl 1 false ((step ops ((k : Nat) : Int) t).2.2.1.map eI))), (.d (.v (.bool ((step ops ((k : Nat) : Int) t).2.2.2))))])) rfl fnok12 rfl (args_ok (by exact .cons (.of_canon rfl) (.cons (.of_canon rfl) (.cons (.of_canon rfl) (.nil))))) (PF.at (step_ok ops ((k : Nat) : Int) t (by omega) (by omega) hfo) _)) ?_
    refine pwl_step 1 rfl (o_move (p := (.tup [(.d (.v (.int .i64 ((step ops ((k : Nat) : Int) t).1)))), (.d (.sl 1 false ((step ops ((k : Nat) : Int) t).2.1.map eU))), (.d (.sl 1 false ((step ops ((k : Nat) : Int) t).2.2.1.map eI))), (.d (.v (.bool ((step ops ((k : Nat) : Int) t).2.2.2))))])) rfl rfl) ?_
    refine pwl_step 1 rfl (opS_extract (cs := [(.d (.v (.int .i64 ((step ops ((k : Nat) : Int) t).1)))), (.d (.sl 1 false ((step ops ((k : Nat) : Int) t).2.1.map eU))), (.d (.sl 1 false ((step ops ((k : Nat) : Int) t).2.2.1.map eI))), (.d (.v (.bool ((step ops ((k : Nat) : Int) t).2.2.2))))]) (p := (.d (.v (.int .i64 ((step ops ((k : Nat) : Int) t).1))))) rfl rfl rfl) ?_
    refine pwl_step 1 rfl (opS_extract (cs := [(.d (.v (.int .i64 ((step ops ((k : Nat) : Int) t).1)))), (.d (.sl 1 false ((step ops ((k : Nat) : Int) t).2.1.map eU))), (.d (.sl 1 false ((step ops ((k : Nat) : Int) t).2.2.1.map eI))), (.d (.v (.bool ((step ops ((k : Nat) : Int) t).2.2.2))))]) (p := (.d (.sl 1 false ((step ops ((k : Nat) : Int) t).2.1.map eU)))) rfl rfl rfl) ?_
    refine pwl_step 1 rfl (opS_extract (cs := [(.d (.v (.int .i64 ((step ops ((k : Nat) : Int) t).1)))), (.d (.sl 1 false ((step ops ((k : Nat) : Int) t).2.1.map eU))), (.d (.sl 1 false ((step ops ((k : Nat) : Int) t).2.2.1.map eI))), (.d (.v (.bool ((step ops ((k : Nat) : Int) t).2.2.2))))]) (p := (.d (.sl 1 false ((step ops ((k : Nat) : Int) t).2.2.1.map eI)))) rfl rfl rfl) ?_
    refine pwl_step 1 rfl (opS_extract (cs := [(.d (.v (.int .i64 ((step ops ((k : Nat) : Int) t).1)))), (.d (.sl 1 false ((step ops ((k : Nat) : Int) t).2.1.map eU))), (.d (.sl 1 false ((step ops ((k : Nat) : Int) t).2.2.1.map eI))), (.d (.v (.bool ((step ops ((k : Nat) : Int) t).2.2.2))))]) (p := (.d (.v (.bool ((step ops ((k : Nat) : Int) t).2.2.2))))) rfl rfl rfl) ?_
    refine pwl_step 1 rfl (o_assign (p := (.d (.v (.int .i64 ((step ops ((k : Nat) : Int) t).1))))) rfl rfl) ?_
    refine pwl_step 1 rfl (o_assign (p := (.d (.sl 1 false ((step ops ((k : Nat) : Int) t).2.1.map eU)))) rfl rfl) ?_
    refine pwl_step 1 rfl (o_assign (p := (.d (.sl 1 false ((step ops ((k : Nat) : Int) t).2.2.1.map eI)))) rfl rfl) ?_
    refine pwl_step 1 rfl (o_assign (p := (.d (.v (.bool ((step ops ((k : Nat) : Int) t).2.2.2))))) rfl rfl) ?_
    refine pwl_nil ?_
    refine pw_seq ?_
    refine pw_wk (Wk.ofL (n := 48) (l := [(0, (.d (.sl 3 false (ops.map eF)))), (4, (.d (.sl 1 true []))), (5, (.d (.sl 1 true []))), (6, (.d (.v (.bool false)))), (7, (.d (.v (.int .i64 0)))), (8, (.d (.sl 1 false (t.map eU)))), (9, (.app 0 1 (said.map eI))), (10, (.d (.v (.bool held)))), (11, (.d (.v (.int .i64 ((n : Nat) : Int))))), (12, (.d (.v (.int .i64 ((k : Nat) : Int))))), (13, (.d (.v (.int .i64 ((step ops ((k : Nat) : Int) t).1))))), (14, (.d (.sl 1 false ((step ops ((k : Nat) : Int) t).2.1.map eU)))), (15, (.d (.sl 1 false ((step ops ((k : Nat) : Int) t).2.2.1.map eI)))), (16, (.d (.v (.bool ((step ops ((k : Nat) : Int) t).2.2.2)))))]) (S := ⟨[], [(said.map eI).length]⟩) rfl rfl (.cons .rfl' (.cons .rfl' (.cons .rfl' (.cons .rfl' (.cons .rfl' (.cons .rfl' (.cons .rfl' (.cons .rfl' (.cons .rfl' (.cons .rfl' (.cons .rfl' (.cons .rfl' (.cons .rfl' (.cons .rfl' .nil))))))))))))))) ?_
    refine pw_region ?_
    refine pwl_step 1 rfl (o_move (p := (.d (.v (.int .i64 ((step ops ((k : Nat) : Int) t).1))))) rfl rfl) ?_
    refine pwl_step 1 rfl (o_move (p := (.d (.sl 1 false ((step ops ((k : Nat) : Int) t).2.1.map eU)))) rfl rfl) ?_
    refine pwl_step 1 rfl (o_assign (p := (.d (.v (.int .i64 ((step ops ((k : Nat) : Int) t).1))))) rfl rfl) ?_
    refine pwl_step 1 rfl (o_assign (p := (.d (.sl 1 false ((step ops ((k : Nat) : Int) t).2.1.map eU)))) rfl rfl) ?_
    refine pwl_nil ?_
    refine pw_wk (Wk.ofL (n := 48) (l := [(0, (.d (.sl 3 false (ops.map eF)))), (4, (.d (.sl 1 true []))), (5, (.d (.sl 1 true []))), (6, (.d (.v (.bool false)))), (7, (.d (.v (.int .i64 0)))), (8, (.d (.sl 1 false ((step ops ((k : Nat) : Int) t).2.1.map eU)))), (9, (.app 0 1 (said.map eI))), (10, (.d (.v (.bool held)))), (11, (.d (.v (.int .i64 ((n : Nat) : Int))))), (12, (.d (.v (.int .i64 ((step ops ((k : Nat) : Int) t).1))))), (15, (.d (.sl 1 false ((step ops ((k : Nat) : Int) t).2.2.1.map eI)))), (16, (.d (.v (.bool ((step ops ((k : Nat) : Int) t).2.2.2)))))]) (S := ⟨[], [(said.map eI).length]⟩) rfl rfl (.cons .rfl' (.cons .rfl' (.cons .rfl' (.cons .rfl' (.cons .rfl' (.cons .rfl' (.cons .rfl' (.cons .rfl' (.cons .rfl' (.cons .rfl' (.cons .rfl' (.cons .rfl' .nil))))))))))))) ?_
    by_cases hc2 : held = true
    ·
      refine pw_wk (Wk.ofL (n := 48) (l := [(0, (.d (.sl 3 false (ops.map eF)))), (4, (.d (.sl 1 true []))), (5, (.d (.sl 1 true []))), (6, (.d (.v (.bool false)))), (7, (.d (.v (.int .i64 0)))), (8, (.d (.sl 1 false ((step ops ((k : Nat) : Int) t).2.1.map eU)))), (9, (.app 0 1 (said.map eI))), (10, (.d (.v (.bool true)))), (11, (.d (.v (.int .i64 ((n : Nat) : Int))))), (12, (.d (.v (.int .i64 ((step ops ((k : Nat) : Int) t).1))))), (15, (.d (.sl 1 false ((step ops ((k : Nat) : Int) t).2.2.1.map eI)))), (16, (.d (.v (.bool ((step ops ((k : Nat) : Int) t).2.2.2)))))]) (S := ⟨[], [(said.map eI).length]⟩) rfl rfl (.cons .rfl' (.cons .rfl' (.cons .rfl' (.cons .rfl' (.cons .rfl' (.cons .rfl' (.cons .rfl' (.cons (.of_eq (congrArg (fun x => PV.d (.v (.bool x))) (hc2))) (.cons .rfl' (.cons .rfl' (.cons .rfl' (.cons .rfl' .nil))))))))))))) ?_
      refine pw_region ?_
      refine pwl_step 1 rfl (o_move (p := (.app 0 1 (said.map eI))) rfl rfl) ?_
      refine pwl_step 1 rfl (o_move (p := (.d (.sl 1 false ((step ops ((k : Nat) : Int) t).2.2.1.map eI)))) rfl rfl) ?_
      refine pwl_step 1 rfl (o_append_tag (sz := 1) (t := 0) (es := (said.map eI)) (ys := ((step ops ((k : Nat) : Int) t).2.2.1.map eI)) rfl Try.underlying28 ti3 (of_decide_eq_true rfl) rfl rfl (by first | rfl | simp) (by simp only [List.length_map, List.length_append, List.length_cons, List.length_nil, List.length_take]; omega) (by simp only [List.length_map, List.length_append, List.length_cons, List.length_nil, List.length_take]; omega)) ?_
      refine pwl_step 1 rfl (o_move (p := (.d (.v (.bool true)))) rfl rfl) ?_
      refine pwl_step 1 rfl (o_move (p := (.d (.v (.bool true)))) rfl rfl) ?_
      refine pwl_step_no rfl rfl ?_
      refine pwl_step 1 rfl (o_pick_t (p := (.d (.v (.bool true)))) rfl rfl rfl) ?_
      refine pwl_step 1 rfl (o_assign (p := (.app 0 1 ((said.map eI) ++ ((step ops ((k : Nat) : Int) t).2.2.1.map eI)))) rfl rfl) ?_
      refine pwl_step 1 rfl (o_assign (p := (.d (.v (.bool true)))) rfl rfl) ?_
      refine pwl_nil ?_
      refine pw_region ?_
      refine pwl_step 1 rfl (o_move (p := (.d (.v (.int .i64 ((n : Nat) : Int))))) rfl rfl) ?_
      refine pwl_step 1 rfl (opS_bin (k := .i64) (m := ((n : Nat) : Int)) (n := 1) rfl rfl rfl (ib_add (by omega) (by omega))) ?_
      refine pwl_step 1 rfl (o_assign (p := (.d (.v (.int .i64 (((n : Nat) : Int) + 1))))) rfl rfl) ?_
      refine pwl_nil ?_
      exact ⟨⟨f - 1, (step ops k t).1.toNat, n + 1, (step ops k t).2.1, said ++ (step ops k t).2.2.1, held || (step ops k t).2.2.2⟩, ⟨by omega, by omega, by omega, by rw [List.length_append]; omega, (runF_next (by omega) (by omega)).symm.trans hE⟩, by simp only []; omega, Wk.ofL rfl (by show (⟨[], [(said.map eI).length + ((step ops ((k : Nat) : Int) t).2.2.1.map eI).length]⟩ : Sx) = _; simp) (.cons .rfl' (.cons .rfl' (.cons .rfl' (.cons .rfl' (.cons .rfl' (.cons (PVle.of_eq (p := (.d (.sl 1 false ((step ops ((k : Nat) : Int) t).2.1.map eU)))) (q := _) (by first | rfl | simp)) (.cons (PVle.of_eq (p := (.app 0 1 ((said.map eI) ++ ((step ops ((k : Nat) : Int) t).2.2.1.map eI)))) (q := _) (by first | rfl | simp)) (.cons (PVle.of_eq (p := (.d (.v (.bool true)))) (q := _) (by first | rfl | simp [hb1, hc2])) (.cons (PVle.of_eq (p := (.d (.v (.int .i64 (((n : Nat) : Int) + 1))))) (q := _) (by first | rfl | (congr 3; omega))) (.cons (PVle.of_eq (p := (.d (.v (.int .i64 ((step ops ((k : Nat) : Int) t).1))))) (q := _) (by first | rfl | (congr 3; omega))) .nil))))))))))⟩
    ·
      refine pw_wk (Wk.ofL (n := 48) (l := [(0, (.d (.sl 3 false (ops.map eF)))), (4, (.d (.sl 1 true []))), (5, (.d (.sl 1 true []))), (6, (.d (.v (.bool false)))), (7, (.d (.v (.int .i64 0)))), (8, (.d (.sl 1 false ((step ops ((k : Nat) : Int) t).2.1.map eU)))), (9, (.app 0 1 (said.map eI))), (10, (.d (.v (.bool false)))), (11, (.d (.v (.int .i64 ((n : Nat) : Int))))), (12, (.d (.v (.int .i64 ((step ops ((k : Nat) : Int) t).1))))), (15, (.d (.sl 1 false ((step ops ((k : Nat) : Int) t).2.2.1.map eI)))), (16, (.d (.v (.bool ((step ops ((k : Nat) : Int) t).2.2.2)))))]) (S := ⟨[], [(said.map eI).length]⟩) rfl rfl (.cons .rfl' (.cons .rfl' (.cons .rfl' (.cons .rfl' (.cons .rfl' (.cons .rfl' (.cons .rfl' (.cons (.of_eq (congrArg (fun x => PV.d (.v (.bool x))) (eq_false_of_ne_true hc2))) (.cons .rfl' (.cons .rfl' (.cons .rfl' (.cons .rfl' .nil))))))))))))) ?_
      refine pw_region ?_
      refine pwl_step 1 rfl (o_move (p := (.app 0 1 (said.map eI))) rfl rfl) ?_
      refine pwl_step 1 rfl (o_move (p := (.d (.sl 1 false ((step ops ((k : Nat) : Int) t).2.2.1.map eI)))) rfl rfl) ?_
      refine pwl_step 1 rfl (o_append_tag (sz := 1) (t := 0) (es := (said.map eI)) (ys := ((step ops ((k : Nat) : Int) t).2.2.1.map eI)) rfl Try.underlying28 ti3 (of_decide_eq_true rfl) rfl rfl (by first | rfl | simp) (by simp only [List.length_map, List.length_append, List.length_cons, List.length_nil, List.length_take]; omega) (by simp only [List.length_map, List.length_append, List.length_cons, List.length_nil, List.length_take]; omega)) ?_
      refine pwl_step 1 rfl (o_move (p := (.d (.v (.bool false)))) rfl rfl) ?_
      refine pwl_step 1 rfl (o_move (p := (.d (.v (.bool false)))) rfl rfl) ?_
      refine pwl_step_yes 1 rfl rfl (o_move (p := (.d (.v (.bool ((step ops ((k : Nat) : Int) t).2.2.2))))) rfl rfl) ?_
      refine pwl_step 1 rfl (o_pick_f (p := (.d (.v (.bool ((step ops ((k : Nat) : Int) t).2.2.2))))) rfl rfl rfl) ?_
      refine pwl_step 1 rfl (o_assign (p := (.app 0 1 ((said.map eI) ++ ((step ops ((k : Nat) : Int) t).2.2.1.map eI)))) rfl rfl) ?_
      refine pwl_step 1 rfl (o_assign (p := (.d (.v (.bool ((step ops ((k : Nat) : Int) t).2.2.2))))) rfl rfl) ?_
      refine pwl_nil ?_
      refine pw_region ?_
      refine pwl_step 1 rfl (o_move (p := (.d (.v (.int .i64 ((n : Nat) : Int))))) rfl rfl) ?_
      refine pwl_step 1 rfl (opS_bin (k := .i64) (m := ((n : Nat) : Int)) (n := 1) rfl rfl rfl (ib_add (by omega) (by omega))) ?_
      refine pwl_step 1 rfl (o_assign (p := (.d (.v (.int .i64 (((n : Nat) : Int) + 1))))) rfl rfl) ?_
      refine pwl_nil ?_
      exact ⟨⟨f - 1, (step ops k t).1.toNat, n + 1, (step ops k t).2.1, said ++ (step ops k t).2.2.1, held || (step ops k t).2.2.2⟩, ⟨by omega, by omega, by omega, by rw [List.length_append]; omega, (runF_next (by omega) (by omega)).symm.trans hE⟩, by simp only []; omega, Wk.ofL rfl (by show (⟨[], [(said.map eI).length + ((step ops ((k : Nat) : Int) t).2.2.1.map eI).length]⟩ : Sx) = _; simp) (.cons .rfl' (.cons .rfl' (.cons .rfl' (.cons .rfl' (.cons .rfl' (.cons (PVle.of_eq (p := (.d (.sl 1 false ((step ops ((k : Nat) : Int) t).2.1.map eU)))) (q := _) (by first | rfl | simp)) (.cons (PVle.of_eq (p := (.app 0 1 ((said.map eI) ++ ((step ops ((k : Nat) : Int) t).2.2.1.map eI)))) (q := _) (by first | rfl | simp)) (.cons (PVle.of_eq (p := (.d (.v (.bool ((step ops ((k : Nat) : Int) t).2.2.2))))) (q := _) (by first | rfl | simp [hb1, hc2])) (.cons (PVle.of_eq (p := (.d (.v (.int .i64 (((n : Nat) : Int) + 1))))) (q := _) (by first | rfl | (congr 3; omega))) (.cons (PVle.of_eq (p := (.d (.v (.int .i64 ((step ops ((k : Nat) : Int) t).1))))) (q := _) (by first | rfl | (congr 3; omega))) .nil))))))))))⟩
  ·
    replace hb1 := of_decide_eq_false hb1
    refine pw_exit ?_
    refine pw_seq ?_
    refine pw_wk (Wk.ofL (n := 48) (l := [(4, (.d (.sl 1 true []))), (5, (.d (.sl 1 true []))), (6, (.d (.v (.bool false)))), (7, (.d (.v (.int .i64 0)))), (8, (.d (.sl 1 false (t.map eU)))), (9, (.app 0 1 (said.map eI))), (10, (.d (.v (.bool held)))), (11, (.d (.v (.int .i64 ((n : Nat) : Int)))))]) (S := ⟨[], [(said.map eI).length]⟩) rfl rfl (.cons .rfl' (.cons .rfl' (.cons .rfl' (.cons .rfl' (.cons .rfl' (.cons .rfl' (.cons .rfl' (.cons .rfl' .nil))))))))) ?_
    refine pw_region ?_
    refine pwl_step 1 rfl (o_move (p := (.d (.sl 1 false (t.map eU)))) rfl rfl) ?_
    refine pwl_step 1 rfl (o_move (p := (.app 0 1 (said.map eI))) rfl rfl) ?_
    refine pwl_step 1 rfl (o_move (p := (.d (.v (.bool held)))) rfl rfl) ?_
    refine pwl_step 1 rfl (o_move (p := (.d (.v (.int .i64 ((n : Nat) : Int))))) rfl rfl) ?_
    refine pwl_step 1 rfl (o_assign (p := (.d (.sl 1 false (t.map eU)))) rfl rfl) ?_
    refine pwl_step 1 rfl (o_assign (p := (.app 0 1 (said.map eI))) rfl rfl) ?_
    refine pwl_step 1 rfl (o_assign (p := (.d (.v (.bool held)))) rfl rfl) ?_
    refine pwl_step 1 rfl (o_assign (p := (.d (.v (.int .i64 ((n : Nat) : Int))))) rfl rfl) ?_
    refine pwl_nil ?_
    refine pw_ret ?_
    exact ⟨.inr rfl, rfl, rfl, rfl, ⟨_, (.cons _ _ _ _ (.tmp (of_decide_eq_true rfl) (PVle.of_canon (p := (.d (.sl 1 false (t.map eU)))) (by simp only [PV.canon]; rw [← hE, runF_end (by omega)]))) (.cons _ _ _ _ (.tmp (of_decide_eq_true rfl) (PVle.of_canon (p := (.app 0 1 (said.map eI))) (by simp only [PV.canon]; rw [← hE, runF_end (by omega)]))) (.cons _ _ _ _ (.tmp (of_decide_eq_true rfl) (PVle.of_canon (p := (.d (.v (.bool held)))) (by simp only [PV.canon]; rw [← hE, runF_end (by omega)]))) (.cons _ _ _ _ (.tmp (of_decide_eq_true rfl) (PVle.of_canon (p := (.d (.v (.int .i64 ((n : Nat) : Int))))) (by simp only [PV.canon]; rw [← hE, runF_end (by omega)]))) .nil)))), rfl⟩⟩

set_option maxRecDepth 20000 in
theorem of_ok (l : List (List FOp)) (n : Int) : PF Try.prog 17 [(.sl 1 false (l.map eL)), (.v (.int .i64 n))] (.d (.sl 3 false ((of l n).map eF))) := by
  refine pc_intro Try.func17 rfl (of_decide_eq_true rfl) (fun g0 w0 hb0 ht0 => ?_)
  refine pw_len (i := 0) (sz := 1) (es := l.map eL) (of_decide_eq_true rfl) rfl (fun hl0 => ?_)
  simp only [List.length_map] at hl0
  refine pw_seq ?_
  refine pw_region ?_
  refine pwl_step 3 rfl (o_assign (p := (.d (.sl 3 true []))) rfl rfl) ?_
  refine pwl_nil ?_
  refine pw_seq ?_
  refine pw_seq ?_
  refine pw_wk (Wk.ofL (n := 15) (l := [(0, (.d (.sl 1 false (l.map eL)))), (1, (.d (.v (.int .i64 n)))), (4, (.d (.sl 3 true [])))]) (S := ⟨[], []⟩) rfl rfl (.cons .rfl' (.cons .rfl' (.cons .rfl' .nil)))) ?_
  refine pw_region ?_
  refine pwl_step 1 rfl (o_move (p := (.d (.v (.int .i64 n)))) rfl rfl) ?_
  refine pwl_step 1 rfl (o_move (p := (.d (.sl 1 false (l.map eL)))) rfl rfl) ?_
  refine pwl_step 1 rfl (o_len (sz := 1) (es := (l.map eL)) (n := l.length) rfl Try.underlying25 rfl (by simp)) ?_
  refine pwl_step 1 rfl (opS_bin (k := .i64) (m := (((l.length : Nat)) : Int)) (n := 1) rfl rfl rfl (ib_sub (by omega) (by omega))) ?_
  refine pwl_step 1 rfl (opS_call («as» := [(.d (.v (.int .i64 n))), (.d (.v (.int .i64 0))), (.d (.v (.int .i64 ((((l.length : Nat)) : Int) - 1))))]) (r := (.d (.v (.bool (decide (0 ≤ n ∧ n ≤ ((((l.length : Nat)) : Int) - 1))))))) rfl fnok22 rfl (args_ok (by exact .cons (.of_canon rfl) (.cons (.of_canon rfl) (.cons (.of_canon rfl) (.nil))))) (PF.at (within_ok n 0 ((((l.length : Nat)) : Int) - 1)) _)) ?_
  refine pwl_step 1 rfl (opS_not (b := decide (0 ≤ n ∧ n ≤ ((((l.length : Nat)) : Int) - 1))) rfl rfl) ?_
  refine pwl_nil ?_
  refine pw_cond (b := !decide (0 ≤ n ∧ n ≤ ((((l.length : Nat)) : Int) - 1))) rfl (fun hb1 => ?_) (fun hb1 => ?_)
  ·
    replace hb1 := not_dec_true hb1
    refine pw_seq ?_
    refine pw_region ?_
    refine pwl_step 3 rfl (o_assign (p := (.d (.sl 3 true []))) rfl rfl) ?_
    refine pwl_nil ?_
    refine pw_ret ?_
    exact ⟨.inr rfl, rfl, rfl, rfl, ⟨_, (.cons _ _ _ _ (.tmp (of_decide_eq_true rfl) (PVle.of_canon (p := (.d (.sl 3 true []))) (by simp only [PV.canon, of]; rw [if_neg (by omega)]; rfl))) .nil), rfl⟩⟩
  ·
    replace hb1 := not_dec_false hb1
    refine pw_skip ?_
    refine pw_seq ?_
    refine pw_wk (Wk.ofL (n := 15) (l := [(0, (.d (.sl 1 false (l.map eL)))), (1, (.d (.v (.int .i64 n)))), (4, (.d (.sl 3 true [])))]) (S := ⟨[], []⟩) rfl rfl (.cons .rfl' (.cons .rfl' (.cons .rfl' .nil)))) ?_
    refine pw_region ?_
    refine pwl_step 1 rfl (o_move (p := (.d (.sl 1 false (l.map eL)))) rfl rfl) ?_
    refine pwl_step 1 rfl (o_move (p := (.d (.v (.int .i64 n)))) rfl rfl) ?_
    refine pwl_step 1 rfl (opS_index (sz := 1) (es := (l.map eL)) (k := .i64) (n := n) (e := [(.sl 3 false ((l.getD n.toNat default).map eF))]) rfl Try.underlying25 sz22 rfl rfl (by omega) (map_get (xs := l) (i := n.toNat) (by omega))) ?_
    refine pwl_step 1 rfl (opS_load_rp (c := (.sl 3 false ((l.getD n.toNat default).map eF))) (cs := []) rfl Try.underlying22 rfl rfl) ?_
    refine pwl_step 1 rfl (o_assign (p := (.d (.sl 3 false ((l.getD n.toNat default).map eF)))) rfl rfl) ?_
    refine pwl_nil ?_
    refine pw_ret ?_
    exact ⟨.inr rfl, rfl, rfl, rfl, ⟨_, (.cons _ _ _ _ (.tmp (of_decide_eq_true rfl) (PVle.of_canon (p := (.d (.sl 3 false ((l.getD n.toNat default).map eF)))) (by simp only [PV.canon, of]; rw [if_pos (by omega)]))) .nil), rfl⟩⟩

set_option maxRecDepth 20000 in
theorem rof_ok (l : List (List FOp)) (n : Int) : PF Try.prog 18 [(.sl 1 false (l.map eL)), (.v (.int .i64 n))] (.d (.sl 3 false ((of l n).map eF))) := by
  refine pc_intro Try.func18 rfl (of_decide_eq_true rfl) (fun g0 w0 hb0 ht0 => ?_)
  refine pw_len (i := 0) (sz := 1) (es := l.map eL) (of_decide_eq_true rfl) rfl (fun hl0 => ?_)
  simp only [List.length_map] at hl0
  refine pw_seq ?_
  refine pw_region ?_
  refine pwl_step 3 rfl (o_assign (p := (.d (.sl 3 true []))) rfl rfl) ?_
  refine pwl_nil ?_
  refine pw_seq ?_
  refine pw_seq ?_
  refine pw_wk (Wk.ofL (n := 17) (l := [(0, (.d (.sl 1 false (l.map eL)))), (1, (.d (.v (.int .i64 n)))), (4, (.d (.sl 3 true [])))]) (S := ⟨[], []⟩) rfl rfl (.cons .rfl' (.cons .rfl' (.cons .rfl' .nil)))) ?_
  by_cases hc1 : n < 0
  ·
    refine pw_region ?_
    refine pwl_step 1 rfl (o_move (p := (.d (.v (.int .i64 n)))) rfl rfl) ?_
    refine pwl_step 1 rfl (opS_bin (k := .i64) (m := n) (n := 0) rfl rfl rfl (ib_lt (decide_eq_true hc1))) ?_
    refine pwl_step 1 rfl (o_move (p := (.d (.v (.bool true)))) rfl rfl) ?_
    refine pwl_step_no rfl rfl ?_
    refine pwl_step_no rfl rfl ?_
    refine pwl_step_no rfl rfl ?_
    refine pwl_step_no rfl rfl ?_
    refine pwl_step 1 rfl (o_pick_t (p := (.d (.v (.bool true)))) rfl rfl rfl) ?_
    refine pwl_nil ?_
    refine pw_cond (b := true) rfl (fun _ => ?_) (fun h => by cases h)
    refine pw_seq ?_
    refine pw_region ?_
    refine pwl_step 3 rfl (o_assign (p := (.d (.sl 3 true []))) rfl rfl) ?_
    refine pwl_nil ?_
    refine pw_ret ?_
    exact ⟨.inr rfl, rfl, rfl, rfl, ⟨_, (.cons _ _ _ _ (.tmp (of_decide_eq_true rfl) (PVle.of_canon (p := (.d (.sl 3 true []))) (by simp only [PV.canon, of]; rw [if_neg (by omega)]; rfl))) .nil), rfl⟩⟩
  ·
    refine pw_region ?_
    refine pwl_step 1 rfl (o_move (p := (.d (.v (.int .i64 n)))) rfl rfl) ?_
    refine pwl_step 1 rfl (opS_bin (k := .i64) (m := n) (n := 0) rfl rfl rfl (ib_lt (decide_eq_false hc1))) ?_
    refine pwl_step 1 rfl (o_move (p := (.d (.v (.bool false)))) rfl rfl) ?_
    refine pwl_step_yes 1 rfl rfl (o_move (p := (.d (.v (.int .i64 n)))) rfl rfl) ?_
    refine pwl_step_yes 1 rfl rfl (o_move (p := (.d (.sl 1 false (l.map eL)))) rfl rfl) ?_
    refine pwl_step_yes 1 rfl rfl (o_len (sz := 1) (es := (l.map eL)) (n := l.length) rfl Try.underlying25 rfl (by simp)) ?_
    refine pwl_step_yes 1 rfl rfl (opS_bin (k := .i64) (m := n) (n := (((l.length : Nat)) : Int)) rfl rfl rfl (ib_ge rfl)) ?_
    refine pwl_step 1 rfl (o_pick_f (p := (.d (.v (.bool (decide ((((l.length : Nat)) : Int) ≤ n)))))) rfl rfl rfl) ?_
    refine pwl_nil ?_
    refine pw_cond (b := decide ((((l.length : Nat)) : Int) ≤ n)) rfl (fun hb2 => ?_) (fun hb2 => ?_)
    ·
      replace hb2 := of_decide_eq_true hb2
      refine pw_seq ?_
      refine pw_region ?_
      refine pwl_step 3 rfl (o_assign (p := (.d (.sl 3 true []))) rfl rfl) ?_
      refine pwl_nil ?_
      refine pw_ret ?_
      exact ⟨.inr rfl, rfl, rfl, rfl, ⟨_, (.cons _ _ _ _ (.tmp (of_decide_eq_true rfl) (PVle.of_canon (p := (.d (.sl 3 true []))) (by simp only [PV.canon, of]; rw [if_neg (by omega)]; rfl))) .nil), rfl⟩⟩
    ·
      replace hb2 := of_decide_eq_false hb2
      refine pw_skip ?_
      refine pw_seq ?_
      refine pw_wk (Wk.ofL (n := 17) (l := [(0, (.d (.sl 1 false (l.map eL)))), (1, (.d (.v (.int .i64 n)))), (4, (.d (.sl 3 true [])))]) (S := ⟨[], []⟩) rfl rfl (.cons .rfl' (.cons .rfl' (.cons .rfl' .nil)))) ?_
      refine pw_region ?_
      refine pwl_step 1 rfl (o_move (p := (.d (.sl 1 false (l.map eL)))) rfl rfl) ?_
      refine pwl_step 1 rfl (o_move (p := (.d (.v (.int .i64 n)))) rfl rfl) ?_
      refine pwl_step 1 rfl (opS_index (sz := 1) (es := (l.map eL)) (k := .i64) (n := n) (e := [(.sl 3 false ((l.getD n.toNat default).map eF))]) rfl Try.underlying25 sz22 rfl rfl (by omega) (map_get (xs := l) (i := n.toNat) (by omega))) ?_
      refine pwl_step 1 rfl (opS_load_rp (c := (.sl 3 false ((l.getD n.toNat default).map eF))) (cs := []) rfl Try.underlying22 rfl rfl) ?_
      refine pwl_step 1 rfl (o_assign (p := (.d (.sl 3 false ((l.getD n.toNat default).map eF)))) rfl rfl) ?_
      refine pwl_nil ?_
      refine pw_ret ?_
      exact ⟨.inr rfl, rfl, rfl, rfl, ⟨_, (.cons _ _ _ _ (.tmp (of_decide_eq_true rfl) (PVle.of_canon (p := (.d (.sl 3 false ((l.getD n.toNat default).map eF)))) (by simp only [PV.canon, of]; rw [if_pos (by omega)]))) .nil), rfl⟩⟩

set_option maxRecDepth 20000 in
theorem few_ok (s : List Int) : PF Try.prog 10 [(.sl 1 false (s.map eU))] (.d (.sl 1 false ((s.take 10).map eU))) := by
  refine pc_intro Try.func10 rfl (of_decide_eq_true rfl) (fun g0 w0 hb0 ht0 => ?_)
  refine pw_len (i := 0) (sz := 1) (es := s.map eU) (of_decide_eq_true rfl) rfl (fun hl0 => ?_)
  simp only [List.length_map] at hl0
  refine pw_seq ?_
  refine pw_region ?_
  refine pwl_step 1 rfl (o_assign (p := (.d (.sl 1 true []))) rfl rfl) ?_
  refine pwl_nil ?_
  refine pw_seq ?_
  refine pw_wk (Wk.ofL (n := 8) (l := [(0, (.d (.sl 1 false (s.map eU)))), (2, (.d (.sl 1 true [])))]) (S := ⟨[], []⟩) rfl rfl (.cons .rfl' (.cons .rfl' .nil))) ?_
  refine pw_region ?_
  refine pwl_step 1 rfl (o_move (p := (.d (.sl 1 false (s.map eU)))) rfl rfl) ?_
  refine pwl_step 1 rfl (o_move (p := (.d (.sl 1 false (s.map eU)))) rfl rfl) ?_
  refine pwl_step 1 rfl (o_len (sz := 1) (es := (s.map eU)) (n := s.length) rfl Try.underlying23 rfl (by simp)) ?_
  refine pwl_step 1 rfl (o_min (k := .i64) (m := (((s.length : Nat)) : Int)) (n := 10) (r := (min (((s.length : Nat)) : Int) 10)) rfl rfl rfl (by omega)) ?_
  refine pwl_step 1 rfl (o_slice (sz := 1) (es := (s.map eU)) (l := 0) (h := (min (((s.length : Nat)) : Int) 10)) (r := ((s.take ((min (((s.length : Nat)) : Int) 10).toNat)).map eU)) rfl Try.underlying23 sz39 rfl rfl rfl (by omega) (by omega) (by simp only [List.length_map, List.length_append, List.length_cons, List.length_nil, List.length_take, List.length_drop]; omega) (by simp [List.map_take])) ?_
  refine pwl_step 1 rfl (o_assign (p := (.d (.sl 1 false ((s.take ((min (((s.length : Nat)) : Int) 10).toNat)).map eU)))) rfl rfl) ?_
  refine pwl_nil ?_
  refine pw_ret ?_
  exact ⟨.inr rfl, rfl, rfl, rfl, ⟨_, (.cons _ _ _ _ (.tmp (of_decide_eq_true rfl) (PVle.of_canon (p := (.d (.sl 1 false ((s.take ((min (((s.length : Nat)) : Int) 10).toNat)).map eU)))) (by simp only [PV.canon]; rw [take_min]))) .nil), rfl⟩⟩

set_option maxRecDepth 20000 in
theorem ints_ok (xs ys : List Int) : PF Try.prog 14 [(.sl 1 false (xs.map eI)), (.sl 1 false (ys.map eI))] (.d (.v (.bool (decide (xs = ys))))) := by
  refine pc_intro Try.func14 rfl (of_decide_eq_true rfl) (fun g0 w0 hb0 ht0 => ?_)
  refine pw_len (i := 0) (sz := 1) (es := xs.map eI) (of_decide_eq_true rfl) rfl (fun hl0 => ?_)
  simp only [List.length_map] at hl0
  refine pw_seq ?_
  refine pw_region ?_
  refine pwl_step 1 rfl (o_assign (p := (.d (.v (.bool false)))) rfl rfl) ?_
  refine pwl_nil ?_
  refine pw_seq ?_
  refine pw_seq ?_
  refine pw_wk (Wk.ofL (n := 26) (l := [(0, (.d (.sl 1 false (xs.map eI)))), (1, (.d (.sl 1 false (ys.map eI)))), (4, (.d (.v (.bool false))))]) (S := ⟨[], []⟩) rfl rfl (.cons .rfl' (.cons .rfl' (.cons .rfl' .nil)))) ?_
  refine pw_region ?_
  refine pwl_step 1 rfl (o_move (p := (.d (.sl 1 false (xs.map eI)))) rfl rfl) ?_
  refine pwl_step 1 rfl (o_len (sz := 1) (es := (xs.map eI)) (n := xs.length) rfl Try.underlying28 rfl (by simp)) ?_
  refine pwl_step 1 rfl (o_move (p := (.d (.sl 1 false (ys.map eI)))) rfl rfl) ?_
  refine pwl_step 1 rfl (o_len (sz := 1) (es := (ys.map eI)) (n := ys.length) rfl Try.underlying28 rfl (by simp)) ?_
  refine pwl_step 1 rfl (opS_bin (k := .i64) (m := (((xs.length : Nat)) : Int)) (n := (((ys.length : Nat)) : Int)) rfl rfl rfl (ib_ne rfl)) ?_
  refine pwl_nil ?_
  refine pw_cond (b := !decide ((((xs.length : Nat)) : Int) = (((ys.length : Nat)) : Int))) rfl (fun hb1 => ?_) (fun hb1 => ?_)
  ·
    replace hb1 := not_dec_true hb1
    refine pw_seq ?_
    refine pw_region ?_
    refine pwl_step 1 rfl (o_assign (p := (.d (.v (.bool false)))) rfl rfl) ?_
    refine pwl_nil ?_
    refine pw_ret ?_
    exact ⟨.inr rfl, rfl, rfl, rfl, ⟨_, (.cons _ _ _ _ (.tmp (of_decide_eq_true rfl) (PVle.of_canon (p := (.d (.v (.bool false)))) (by simp only [PV.canon]; congr 3; symm; apply decide_eq_false; intro h; exact hb1 (by rw [h])))) .nil), rfl⟩⟩
  ·
    replace hb1 := not_dec_false hb1
    refine pw_skip ?_
    refine pw_seq ?_
    refine pw_seq ?_
    refine pw_region ?_
    refine pwl_step 1 rfl (o_assign (p := (.d (.v (.int .i64 0)))) rfl rfl) ?_
    refine pwl_nil ?_
    refine pw_block ?_
    refine pw_loop' (α := Nat) (fun (x : Nat) => match x with | k => St.ofL 26 [(0, (.d (.sl 1 false (xs.map eI)))), (1, (.d (.sl 1 false (ys.map eI)))), (5, (.d (.v (.int .i64 ((k : Nat) : Int)))))] ⟨[], []⟩) (fun (x : Nat) => match x with | k => k ≤ xs.length ∧ xs.take k = ys.take k) (fun (x : Nat) => match x with | k => xs.length - k) 0 (⟨Nat.zero_le _, by simp⟩) (Wk.ofL rfl (rfl) (.cons .rfl' (.cons .rfl' (.cons (PVle.of_eq (p := (.d (.v (.int .i64 0)))) (q := _) (by first | rfl | (congr 3; omega))) .nil)))) ?_
    rintro k ⟨hk, hE⟩
    refine pw_seq ?_
    refine pw_seq ?_
    refine pw_wk (Wk.ofL (n := 26) (l := [(0, (.d (.sl 1 false (xs.map eI)))), (1, (.d (.sl 1 false (ys.map eI)))), (5, (.d (.v (.int .i64 ((k : Nat) : Int)))))]) (S := ⟨[], []⟩) rfl rfl (.cons .rfl' (.cons .rfl' (.cons .rfl' .nil)))) ?_
    refine pw_region ?_
    refine pwl_step 1 rfl (o_move (p := (.d (.v (.int .i64 ((k : Nat) : Int))))) rfl rfl) ?_
    refine pwl_step 1 rfl (o_move (p := (.d (.sl 1 false (xs.map eI)))) rfl rfl) ?_
    refine pwl_step 1 rfl (o_len (sz := 1) (es := (xs.map eI)) (n := xs.length) rfl Try.underlying28 rfl (by simp)) ?_
    refine pwl_step 1 rfl (opS_bin (k := .i64) (m := ((k : Nat) : Int)) (n := (((xs.length : Nat)) : Int)) rfl rfl rfl (ib_lt rfl)) ?_
    refine pwl_nil ?_
    refine pw_cond (b := decide (((k : Nat) : Int) < (((xs.length : Nat)) : Int))) rfl (fun hb2 => ?_) (fun hb2 => ?_)
    ·
      replace hb2 := of_decide_eq_true hb2
      refine pw_skip ?_
      refine pw_seq ?_
      refine pw_block ?_
      refine pw_seq ?_
      refine pw_wk (Wk.ofL (n := 26) (l := [(0, (.d (.sl 1 false (xs.map eI)))), (1, (.d (.sl 1 false (ys.map eI)))), (5, (.d (.v (.int .i64 ((k : Nat) : Int)))))]) (S := ⟨[], []⟩) rfl rfl (.cons .rfl' (.cons .rfl' (.cons .rfl' .nil)))) ?_
      refine pw_quiet Trymixed (by kernel_rfl) ?_
      refine q_step 1 rfl (o_move (p := (.d (.sl 1 false (xs.map eI)))) rfl rfl) ?_
      refine q_step 1 rfl (o_move (p := (.d (.v (.int .i64 ((k : Nat) : Int))))) rfl rfl) ?_
      refine q_step 1 rfl (opS_index (sz := 1) (es := (xs.map eI)) (k := .i64) (n := ((k : Nat) : Int)) (e := [(.v (.int .i64 (xs.getD k default)))]) rfl Try.underlying28 sz3 rfl rfl (by omega) (map_get (xs := xs) (i := k) (by omega))) ?_
      refine q_step 1 rfl (opS_load_rp (c := (.v (.int .i64 (xs.getD k default)))) (cs := []) rfl Try.underlying3 rfl rfl) ?_
      refine q_step 1 rfl (o_move (p := (.d (.sl 1 false (ys.map eI)))) rfl rfl) ?_
      refine q_step 1 rfl (o_move (p := (.d (.v (.int .i64 ((k : Nat) : Int))))) rfl rfl) ?_
      refine q_step 1 rfl (opS_index (sz := 1) (es := (ys.map eI)) (k := .i64) (n := ((k : Nat) : Int)) (e := [(.v (.int .i64 (ys.getD k default)))]) rfl Try.underlying28 sz3 rfl rfl (by omega) (map_get (xs := ys) (i := k) (by omega))) ?_
      refine q_step 1 rfl (opS_load_rp (c := (.v (.int .i64 (ys.getD k default)))) (cs := []) rfl Try.underlying3 rfl rfl) ?_
      refine q_step 1 rfl (opS_bin (k := .i64) (m := (xs.getD k default)) (n := (ys.getD k default)) rfl rfl rfl (ib_ne rfl)) ?_
      refine q_nil ?_
      refine pw_cond (b := !decide ((xs.getD k default) = (ys.getD k default))) rfl (fun hb3 => ?_) (fun hb3 => ?_)
      ·
        replace hb3 := not_dec_true hb3
        refine pw_seq ?_
        refine pw_region ?_
        refine pwl_step 1 rfl (o_assign (p := (.d (.v (.bool false)))) rfl rfl) ?_
        refine pwl_nil ?_
        refine pw_ret ?_
        exact ⟨.inr rfl, rfl, rfl, rfl, ⟨_, (.cons _ _ _ _ (.tmp (of_decide_eq_true rfl) (PVle.of_canon (p := (.d (.v (.bool false)))) (by simp only [PV.canon]; congr 3; symm; apply decide_eq_false; intro h; exact hb3 (by rw [h])))) .nil), rfl⟩⟩
      ·
        replace hb3 := not_dec_false hb3
        refine pw_skip ?_
        refine pw_region ?_
        refine pwl_step 1 rfl (o_move (p := (.d (.v (.int .i64 ((k : Nat) : Int))))) rfl rfl) ?_
        refine pwl_step 1 rfl (opS_bin (k := .i64) (m := ((k : Nat) : Int)) (n := 1) rfl rfl rfl (ib_add (by omega) (by omega))) ?_
        refine pwl_step 1 rfl (o_assign (p := (.d (.v (.int .i64 (((k : Nat) : Int) + 1))))) rfl rfl) ?_
        refine pwl_nil ?_
        exact ⟨k + 1, ⟨by omega, take_next hE (by omega) (by omega) (by simpa using ‹_›)⟩, by simp only []; omega, Wk.ofL rfl (rfl) (.cons .rfl' (.cons .rfl' (.cons (PVle.of_eq (p := (.d (.v (.int .i64 (((k : Nat) : Int) + 1))))) (q := _) (by first | rfl | (congr 3; omega))) .nil)))⟩
    ·
      replace hb2 := of_decide_eq_false hb2
      refine pw_exit ?_
      refine pw_seq ?_
      refine pw_region ?_
      refine pwl_step 1 rfl (o_assign (p := (.d (.v (.bool true)))) rfl rfl) ?_
      refine pwl_nil ?_
      refine pw_ret ?_
      exact ⟨.inr rfl, rfl, rfl, rfl, ⟨_, (.cons _ _ _ _ (.tmp (of_decide_eq_true rfl) (PVle.of_canon (p := (.d (.v (.bool true)))) (by simp only [PV.canon]; congr 3; symm; apply decide_eq_true; have := hE; rwa [List.take_of_length_le (by omega), List.take_of_length_le (by omega)] at this))) .nil), rfl⟩⟩
end Go.Proofs.Ytopmocpjgjbdbaa
