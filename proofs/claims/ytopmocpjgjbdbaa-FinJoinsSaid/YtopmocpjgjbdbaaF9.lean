/- FinParts -/
import Derived.Test.YtopmocpjgjbdbaaF8
import Derived.Test.YtopmocpjgjbdbaaFB
namespace Go.Proofs.Ytopmocpjgjbdbaa
open Go.Pv
theorem fnok8 : FnOk Try.prog 8 := ⟨Try.f8, Try.func8, rfl, rfl⟩
theorem fnok9 : FnOk Try.prog 9 := ⟨Try.f9, Try.func9, rfl, rfl⟩
theorem fnok10 : FnOk Try.prog 10 := ⟨Try.f10, Try.func10, rfl, rfl⟩
theorem fnok13 : FnOk Try.prog 13 := ⟨Try.f13, Try.func13, rfl, rfl⟩
theorem fnok14 : FnOk Try.prog 14 := ⟨Try.f14, Try.func14, rfl, rfl⟩
def skips (p : List FOp) : Bool := p.any fun o => decide (o.op = 3)
def says (p : List FOp) : List Int := (p.filter fun o => decide (o.op = 0)).map (·.a)
theorem skips_next {p : List FOp} {i : Nat} (h : i < p.length) : skips (p.take (i + 1)) = (skips (p.take i) || decide ((p.getD i default).op = 3)) := by
  rw [take_one h]; simp [skips]
theorem says_next0 {p : List FOp} {i : Nat} (h : i < p.length) (ho : (p.getD i default).op = 0) : says (p.take (i + 1)) = says (p.take i) ++ [(p.getD i default).a] := by
  rw [take_one h]; unfold says; rw [List.filter_append, List.map_append]; congr 1
  simp only [List.filter_cons, List.filter_nil, decide_eq_true ho, if_true, List.map_cons, List.map_nil]
theorem says_next1 {p : List FOp} {i : Nat} (h : i < p.length) (ho : ¬ (p.getD i default).op = 0) : says (p.take (i + 1)) = says (p.take i) := by
  rw [take_one h]; unfold says; rw [List.filter_append]
  simp only [List.filter_cons, List.filter_nil, decide_eq_false ho, Bool.false_eq_true, if_false, List.append_nil]
theorem fit1_ok {o : FOp} (h : 0 ≤ o.op) : FOk (fit1 o) := by
  unfold fit1
  split
  · exact ⟨by simp only; omega, by simp only; omega⟩
  · split
    · exact ⟨by simp only; omega, by simp only; omega⟩
    · split
      · exact ⟨by simp only; omega, by simp only; omega⟩
      · split
        · exact ⟨by simp only; omega, by simp only; omega⟩
        · exact ⟨by simp only; omega, by simp only; omega⟩
theorem says_len (p : List FOp) (i : Nat) : (says (p.take i)).length ≤ i := by
  unfold says
  rw [List.length_map]
  have h1 := List.length_filter_le (fun o : FOp => decide (o.op = 0)) (p.take i)
  have h2 : (p.take i).length ≤ i := by rw [List.length_take]; omega
  omega
theorem fitP_ok (ops : List FOp) (h : ∀ o ∈ ops, 0 ≤ o.op ∧ o.op ≤ 255) : ∀ o ∈ fitP ops, FOk o := by
  intro o ho
  obtain ⟨x, hx, rfl⟩ := List.mem_map.1 ho
  exact fit1_ok (h x (List.mem_of_mem_take hx)).1
theorem fit_arg {ops : List FOp} (h : ∀ o ∈ ops, 0 ≤ o.op ∧ o.op ≤ 255) : ∀ i j, j < (([ops] : List (List FOp)).getD i default).length → 0 ≤ ((([ops] : List (List FOp)).getD i default).getD j default).op ∧ ((([ops] : List (List FOp)).getD i default).getD j default).op ≤ 255 := by
  intro i j hj
  match i with
  | 0 =>
    have hj' : j < ops.length := hj
    have e : ops.getD j default = ops[j] := by simp [List.getD, hj']
    show 0 ≤ (ops.getD j default).op ∧ (ops.getD j default).op ≤ 255
    rw [e]; exact h _ (List.getElem_mem hj')
  | i + 1 => exact absurd hj (Nat.not_lt_zero j)
theorem step_noskip {p : List FOp} {k : Nat} {s : List Int} (hk : k < p.length) (h3 : ¬ (p.getD k default).op = 3) : (step p k s).1 = (k : Int) + 1 ∧ (step p k s).2.2.1 = if (p.getD k default).op = 0 then [(p.getD k default).a] else [] := by
  unfold step
  rw [if_pos ⟨by omega, by omega⟩, Int.toNat_natCast]
  simp only
  split
  · exact ⟨rfl, rfl⟩
  · split
    · exact ⟨rfl, rfl⟩
    · split
      · exact ⟨rfl, rfl⟩
      · exact ⟨rfl, rfl⟩
theorem runF_noskip {p : List FOp} (hns : skips p = false) : ∀ (f k n : Nat) (s said : List Int) (held : Bool), p.length ≤ f + k → k ≤ p.length →
    (runF p f k s said held n).2.1 = said ++ says (p.drop k) ∧ (runF p f k s said held n).2.2.2 = n + (p.length - k)
  | 0, k, n, s, said, held, h1, h2 => by
    rw [show k = p.length by omega, List.drop_length]; simp [runF, says]
  | f + 1, k, n, s, said, held, h1, h2 => by
    by_cases hk : k < p.length
    · have e : p.getD k default = p[k] := by simp [List.getD, hk]
      have h3 : ¬ (p.getD k default).op = 3 := by
        rw [e]
        have := List.any_eq_false.1 hns p[k] (List.getElem_mem hk)
        simpa using this
      obtain ⟨s1, s2⟩ := step_noskip (s := s) hk h3
      rw [runF, if_pos hk]
      have hkk : (step p k s).1.toNat = k + 1 := by omega
      rw [hkk, s2]
      obtain ⟨r1, r2⟩ := runF_noskip hns f (k + 1) (n + 1) (step p k s).2.1 (said ++ if (p.getD k default).op = 0 then [(p.getD k default).a] else []) (held || (step p k s).2.2.2) (by omega) (by omega)
      refine ⟨?_, by rw [r2]; omega⟩
      rw [r1, List.drop_eq_getElem_cons hk, List.append_assoc]
      congr 1
      unfold says
      rw [List.filter_cons, e]
      by_cases h0 : p[k].op = 0
      · simp [h0]
      · simp [h0]
    · rw [runF, if_neg hk, List.drop_eq_nil_of_le (by omega)]; simp [says]; omega
theorem law_parts (p : List FOp) (s : List Int) (hns : skips p = false) : (run p s).2.1 = says p ∧ (run p s).2.2.2 = p.length := by
  obtain ⟨h1, h2⟩ := runF_noskip hns p.length 0 0 s [] false (by omega) (by omega)
  exact ⟨by rw [run, h1]; simp, by rw [run, h2]; omega⟩
set_option maxRecDepth 20000 in
theorem finParts_true (ops : List FOp) (s : List Int) (ho : ∀ o ∈ ops, FW o) (hs : ∀ x ∈ s, 0 ≤ x ∧ x ≤ 18446744073709551615) : PF Try.prog 3 [(.sl 3 false (ops.map eF)), (.sl 1 false (s.map eU))] (.d (.v (.bool true))) := by
  refine pc_intro Try.func3 rfl (of_decide_eq_true rfl) (fun g0 w0 hb0 ht0 => ?_)
  have hop := fun o h => (ho o h).op
  have hp8 : (fitP ops).length ≤ 8 := by simp only [fitP, List.length_map, List.length_take]; omega
  have hfo : ∀ o ∈ fitP ops, FOk o := fitP_ok ops (fun o h => (ho o h).op)
  refine pw_seq ?_
  refine pw_region ?_
  refine pwl_step 1 rfl (o_assign (p := (.d (.v (.bool false)))) rfl rfl) ?_
  refine pwl_nil ?_
  refine pw_seq ?_
  refine pw_region ?_
  refine pwl_step 1 rfl (opS_call («as» := []) (r := (.d (.v (.bool true)))) rfl fnok8 rfl (args_ok (by exact .nil)) (PF.at shown_ok _)) ?_
  refine pwl_step 1 rfl (o_assign (p := (.d (.v (.bool true)))) rfl rfl) ?_
  refine pwl_nil ?_
  refine pw_seq ?_
  refine pw_wk (Wk.ofL (n := 144) (l := [(0, (.d (.sl 3 false (ops.map eF)))), (1, (.d (.sl 1 false (s.map eU)))), (4, (.d (.v (.bool false)))), (5, (.d (.v (.bool true))))]) (S := ⟨[], []⟩) rfl rfl (.cons .rfl' (.cons .rfl' (.cons .rfl' (.cons .rfl' .nil))))) ?_
  refine pw_region ?_
  refine pwl_step 1 rfl (o_move (p := (.d (.sl 3 false (ops.map eF)))) rfl rfl) ?_
  refine pwl_step 1 rfl (o_buildSlice (sz := 1) (es := [([(.sl 3 false (ops.map eF))] : List D)]) rfl Try.underlying25 ti22 (of_decide_eq_true rfl) (of_decide_eq_true rfl) rfl rfl rfl) ?_
  refine pwl_step 1 rfl (opS_call («as» := [(.d (.sl 1 false ([ops].map eL)))]) (r := (.d (.sl 1 false (([ops].map fitP).map eL)))) rfl fnok9 rfl (args_ok (by exact .cons (.of_canon rfl) (.nil))) (PF.at (fit_ok [ops] (by simp) (fit_arg hop)) _)) ?_
  refine pwl_step 1 rfl (opS_index (sz := 1) (es := (([ops].map fitP).map eL)) (k := .i64) (n := 0) (e := [(.sl 3 false ((fitP ops).map eF))]) rfl Try.underlying25 sz22 rfl rfl (by omega) rfl) ?_
  refine pwl_step 1 rfl (opS_load_rp (c := (.sl 3 false ((fitP ops).map eF))) (cs := []) rfl Try.underlying22 rfl rfl) ?_
  refine pwl_step 1 rfl (o_assign (p := (.d (.sl 3 false ((fitP ops).map eF)))) rfl rfl) ?_
  refine pwl_nil ?_
  refine pw_seq ?_
  refine pw_wk (Wk.ofL (n := 144) (l := [(1, (.d (.sl 1 false (s.map eU)))), (4, (.d (.v (.bool false)))), (5, (.d (.v (.bool true)))), (6, (.d (.sl 3 false ((fitP ops).map eF))))]) (S := ⟨[], []⟩) rfl rfl (.cons .rfl' (.cons .rfl' (.cons .rfl' (.cons .rfl' .nil))))) ?_
  refine pw_region ?_
  refine pwl_step 1 rfl (o_buildSlice (sz := 1) (es := []) rfl Try.underlying23 ti39 (of_decide_eq_true rfl) (of_decide_eq_true rfl) rfl rfl rfl) ?_
  refine pwl_step 1 rfl (o_move (p := (.d (.sl 1 false (s.map eU)))) rfl rfl) ?_
  refine pwl_step 1 rfl (opS_call («as» := [(.d (.sl 1 false (s.map eU)))]) (r := (.d (.sl 1 false ((s.take 10).map eU)))) rfl fnok10 rfl (args_ok (by exact .cons (.of_canon rfl) (.nil))) (PF.at (few_ok s) _)) ?_
  refine pwl_step 1 rfl (o_append_pure (sz := 1) (es := []) (ys := ((s.take 10).map eU)) rfl Try.underlying23 ti39 (of_decide_eq_true rfl) rfl rfl (by simp only [List.length_map, List.length_append, List.length_cons, List.length_nil, List.length_take]; omega) (by simp only [List.length_map, List.length_append, List.length_cons, List.length_nil, List.length_take]; omega)) ?_
  refine pwl_step 1 rfl (o_assign (p := (.d (.sl 1 false ((s.take 10).map eU)))) rfl rfl) ?_
  refine pwl_nil ?_
  refine pw_seq ?_
  refine pw_wk (Wk.ofL (n := 144) (l := [(4, (.d (.v (.bool false)))), (5, (.d (.v (.bool true)))), (6, (.d (.sl 3 false ((fitP ops).map eF)))), (7, (.d (.sl 1 false ((s.take 10).map eU))))]) (S := ⟨[], []⟩) rfl rfl (.cons .rfl' (.cons .rfl' (.cons .rfl' (.cons .rfl' .nil))))) ?_
  refine pw_region ?_
  refine pwl_step 1 rfl (o_move (p := (.d (.sl 3 false ((fitP ops).map eF)))) rfl rfl) ?_
  refine pwl_step 1 rfl (o_move (p := (.d (.sl 1 false ((s.take 10).map eU)))) rfl rfl) ?_
  refine pwl_step 1 rfl (opS_call («as» := [(.d (.sl 3 false ((fitP ops).map eF))), (.d (.sl 1 false ((s.take 10).map eU)))]) (r := (.tup [(.d (.sl 1 false ((run (fitP ops) (s.take 10)).1.map eU))), (.d (.sl 1 false ((run (fitP ops) (s.take 10)).2.1.map eI))), (.d (.v (.bool ((run (fitP ops) (s.take 10)).2.2.1)))), (.d (.v (.int .i64 ((((run (fitP ops) (s.take 10)).2.2.2 : Nat)) : Int))))])) rfl fnok11 rfl (args_ok (by exact .cons (.of_canon rfl) (.cons (.of_canon rfl) (.nil)))) (PF.at (run_ok (fitP ops) (s.take 10) (by first | omega | (rw [List.length_take]; omega)) (by omega) hfo) _)) ?_
  refine pwl_step 1 rfl (o_move (p := (.tup [(.d (.sl 1 false ((run (fitP ops) (s.take 10)).1.map eU))), (.d (.sl 1 false ((run (fitP ops) (s.take 10)).2.1.map eI))), (.d (.v (.bool ((run (fitP ops) (s.take 10)).2.2.1)))), (.d (.v (.int .i64 ((((run (fitP ops) (s.take 10)).2.2.2 : Nat)) : Int))))])) rfl rfl) ?_
  refine pwl_step 1 rfl (opS_extract (cs := [(.d (.sl 1 false ((run (fitP ops) (s.take 10)).1.map eU))), (.d (.sl 1 false ((run (fitP ops) (s.take 10)).2.1.map eI))), (.d (.v (.bool ((run (fitP ops) (s.take 10)).2.2.1)))), (.d (.v (.int .i64 ((((run (fitP ops) (s.take 10)).2.2.2 : Nat)) : Int))))]) (p := (.d (.sl 1 false ((run (fitP ops) (s.take 10)).1.map eU)))) rfl rfl rfl) ?_
  refine pwl_step 1 rfl (opS_extract (cs := [(.d (.sl 1 false ((run (fitP ops) (s.take 10)).1.map eU))), (.d (.sl 1 false ((run (fitP ops) (s.take 10)).2.1.map eI))), (.d (.v (.bool ((run (fitP ops) (s.take 10)).2.2.1)))), (.d (.v (.int .i64 ((((run (fitP ops) (s.take 10)).2.2.2 : Nat)) : Int))))]) (p := (.d (.sl 1 false ((run (fitP ops) (s.take 10)).2.1.map eI)))) rfl rfl rfl) ?_
  refine pwl_step 1 rfl (opS_extract (cs := [(.d (.sl 1 false ((run (fitP ops) (s.take 10)).1.map eU))), (.d (.sl 1 false ((run (fitP ops) (s.take 10)).2.1.map eI))), (.d (.v (.bool ((run (fitP ops) (s.take 10)).2.2.1)))), (.d (.v (.int .i64 ((((run (fitP ops) (s.take 10)).2.2.2 : Nat)) : Int))))]) (p := (.d (.v (.bool ((run (fitP ops) (s.take 10)).2.2.1))))) rfl rfl rfl) ?_
  refine pwl_step 1 rfl (opS_extract (cs := [(.d (.sl 1 false ((run (fitP ops) (s.take 10)).1.map eU))), (.d (.sl 1 false ((run (fitP ops) (s.take 10)).2.1.map eI))), (.d (.v (.bool ((run (fitP ops) (s.take 10)).2.2.1)))), (.d (.v (.int .i64 ((((run (fitP ops) (s.take 10)).2.2.2 : Nat)) : Int))))]) (p := (.d (.v (.int .i64 ((((run (fitP ops) (s.take 10)).2.2.2 : Nat)) : Int))))) rfl rfl rfl) ?_
  refine pwl_step 1 rfl (o_assign (p := (.d (.sl 1 false ((run (fitP ops) (s.take 10)).1.map eU)))) rfl rfl) ?_
  refine pwl_step 1 rfl (o_assign (p := (.d (.sl 1 false ((run (fitP ops) (s.take 10)).2.1.map eI)))) rfl rfl) ?_
  refine pwl_step 1 rfl (o_assign (p := (.d (.v (.bool ((run (fitP ops) (s.take 10)).2.2.1))))) rfl rfl) ?_
  refine pwl_step 1 rfl (o_assign (p := (.d (.v (.int .i64 ((((run (fitP ops) (s.take 10)).2.2.2 : Nat)) : Int))))) rfl rfl) ?_
  refine pwl_nil ?_
  refine pw_seq ?_
  refine pw_region ?_
  refine pwl_step 1 rfl (o_buildSlice (sz := 1) (es := []) rfl Try.underlying28 ti3 (of_decide_eq_true rfl) (of_decide_eq_true rfl) rfl rfl rfl) ?_
  refine pwl_step 1 rfl (o_assign (p := (.d (.sl 1 true []))) rfl rfl) ?_
  refine pwl_nil ?_
  refine pw_seq ?_
  refine pw_region ?_
  refine pwl_step 1 rfl (o_buildSlice (sz := 1) (es := []) rfl Try.underlying28 ti3 (of_decide_eq_true rfl) (of_decide_eq_true rfl) rfl rfl rfl) ?_
  refine pwl_step 1 rfl (o_assign (p := (.d (.sl 1 true []))) rfl rfl) ?_
  refine pwl_nil ?_
  refine pw_seq ?_
  refine pw_region ?_
  refine pwl_step 1 rfl (o_assign (p := (.d (.v (.bool false)))) rfl rfl) ?_
  refine pwl_nil ?_
  refine pw_seq ?_
  refine pw_region ?_
  refine pwl_step 1 rfl (o_assign (p := (.d (.v (.bool false)))) rfl rfl) ?_
  refine pwl_nil ?_
  refine pw_seq ?_
  refine pw_region ?_
  refine pwl_step 1 rfl (o_assign (p := (.d (.v (.int .i64 0)))) rfl rfl) ?_
  refine pwl_nil ?_
  refine pw_seq ?_
  refine pw_region ?_
  refine pwl_step 1 rfl (o_assign (p := (.d (.v (.int .i64 0)))) rfl rfl) ?_
  refine pwl_nil ?_
  refine pw_seq ?_
  refine pw_seq ?_
  refine pw_region ?_
  refine pwl_step 1 rfl (o_assign (p := (.d (.v (.int .i64 0)))) rfl rfl) ?_
  refine pwl_nil ?_
  refine pw_block ?_
  refine pw_wk (Wk.retag (d := 12) (sz := 1) (es := []) rfl (of_decide_eq_true rfl)) ?_
  refine pw_wk (Wk.retag (d := 13) (sz := 1) (es := []) rfl (of_decide_eq_true rfl)) ?_
  refine pw_loop' (α := Nat) (fun (x : Nat) => match x with | i => St.ofL 144 [(4, (.d (.v (.bool false)))), (5, (.d (.v (.bool true)))), (6, (.d (.sl 3 false ((fitP ops).map eF)))), (7, (.d (.sl 1 false ((s.take 10).map eU)))), (8, (.d (.sl 1 false ((run (fitP ops) (s.take 10)).1.map eU)))), (9, (.d (.sl 1 false ((run (fitP ops) (s.take 10)).2.1.map eI)))), (10, (.d (.v (.bool ((run (fitP ops) (s.take 10)).2.2.1))))), (11, (.d (.v (.int .i64 ((((run (fitP ops) (s.take 10)).2.2.2 : Nat)) : Int))))), (12, (.app 0 1 [])), (13, (.app 1 1 ((says ((fitP ops).take i)).map eI))), (14, (.d (.v (.bool false)))), (15, (.d (.v (.bool (skips ((fitP ops).take i)))))), (16, (.d (.v (.int .i64 0)))), (17, (.d (.v (.int .i64 0)))), (18, (.d (.v (.int .i64 ((i : Nat) : Int)))))] ⟨[], [(([] : List Int).map eI).length, ((says ((fitP ops).take i)).map eI).length]⟩) (fun (x : Nat) => match x with | i => i ≤ (fitP ops).length) (fun (x : Nat) => match x with | i => (fitP ops).length - i) 0 (Nat.zero_le _) (Wk.ofL rfl (rfl) (.cons .rfl' (.cons .rfl' (.cons .rfl' (.cons .rfl' (.cons .rfl' (.cons .rfl' (.cons .rfl' (.cons .rfl' (.cons .rfl' (.cons (PVle.of_eq (p := (.app 1 1 [])) (q := _) (by first | rfl | simp)) (.cons .rfl' (.cons (PVle.of_eq (p := (.d (.v (.bool false)))) (q := _) (by first | rfl | simp [])) (.cons .rfl' (.cons .rfl' (.cons (PVle.of_eq (p := (.d (.v (.int .i64 0)))) (q := _) (by first | rfl | (congr 3; omega))) .nil)))))))))))))))) ?_
  rintro i hi
  have hsl := says_len (fitP ops) i
  refine pw_seq ?_
  refine pw_seq ?_
  refine pw_wk (Wk.ofL (n := 144) (l := [(4, (.d (.v (.bool false)))), (5, (.d (.v (.bool true)))), (6, (.d (.sl 3 false ((fitP ops).map eF)))), (7, (.d (.sl 1 false ((s.take 10).map eU)))), (8, (.d (.sl 1 false ((run (fitP ops) (s.take 10)).1.map eU)))), (9, (.d (.sl 1 false ((run (fitP ops) (s.take 10)).2.1.map eI)))), (10, (.d (.v (.bool ((run (fitP ops) (s.take 10)).2.2.1))))), (11, (.d (.v (.int .i64 ((((run (fitP ops) (s.take 10)).2.2.2 : Nat)) : Int))))), (12, (.app 0 1 [])), (13, (.app 1 1 ((says ((fitP ops).take i)).map eI))), (14, (.d (.v (.bool false)))), (15, (.d (.v (.bool (skips ((fitP ops).take i)))))), (16, (.d (.v (.int .i64 0)))), (17, (.d (.v (.int .i64 0)))), (18, (.d (.v (.int .i64 ((i : Nat) : Int)))))]) (S := ⟨[], [(([] : List Int).map eI).length, ((says ((fitP ops).take i)).map eI).length]⟩) rfl rfl (.cons .rfl' (.cons .rfl' (.cons .rfl' (.cons .rfl' (.cons .rfl' (.cons .rfl' (.cons .rfl' (.cons .rfl' (.cons .rfl' (.cons .rfl' (.cons .rfl' (.cons .rfl' (.cons .rfl' (.cons .rfl' (.cons .rfl' .nil)))))))))))))))) ?_
  refine pw_region ?_
  refine pwl_step 1 rfl (o_move (p := (.d (.v (.int .i64 ((i : Nat) : Int))))) rfl rfl) ?_
  refine pwl_step 1 rfl (o_move (p := (.d (.sl 3 false ((fitP ops).map eF)))) rfl rfl) ?_
  refine pwl_step 1 rfl (o_len (sz := 3) (es := ((fitP ops).map eF)) (n := (fitP ops).length) rfl Try.underlying22 rfl (by simp)) ?_
  refine pwl_step 1 rfl (opS_bin (k := .i64) (m := ((i : Nat) : Int)) (n := ((((fitP ops).length : Nat)) : Int)) rfl rfl rfl (ib_lt rfl)) ?_
  refine pwl_nil ?_
  refine pw_cond (b := decide (((i : Nat) : Int) < ((((fitP ops).length : Nat)) : Int))) rfl (fun hb1 => ?_) (fun hb1 => ?_)
  ·
    replace hb1 := of_decide_eq_true hb1
    refine pw_skip ?_
    refine pw_seq ?_
    refine pw_block ?_
    refine pw_seq ?_
    refine pw_wk (Wk.ofL (n := 144) (l := [(4, (.d (.v (.bool false)))), (5, (.d (.v (.bool true)))), (6, (.d (.sl 3 false ((fitP ops).map eF)))), (7, (.d (.sl 1 false ((s.take 10).map eU)))), (8, (.d (.sl 1 false ((run (fitP ops) (s.take 10)).1.map eU)))), (9, (.d (.sl 1 false ((run (fitP ops) (s.take 10)).2.1.map eI)))), (10, (.d (.v (.bool ((run (fitP ops) (s.take 10)).2.2.1))))), (11, (.d (.v (.int .i64 ((((run (fitP ops) (s.take 10)).2.2.2 : Nat)) : Int))))), (12, (.app 0 1 [])), (13, (.app 1 1 ((says ((fitP ops).take i)).map eI))), (14, (.d (.v (.bool false)))), (15, (.d (.v (.bool (skips ((fitP ops).take i)))))), (16, (.d (.v (.int .i64 0)))), (17, (.d (.v (.int .i64 0)))), (18, (.d (.v (.int .i64 ((i : Nat) : Int)))))]) (S := ⟨[], [(([] : List Int).map eI).length, ((says ((fitP ops).take i)).map eI).length]⟩) rfl rfl (.cons .rfl' (.cons .rfl' (.cons .rfl' (.cons .rfl' (.cons .rfl' (.cons .rfl' (.cons .rfl' (.cons .rfl' (.cons .rfl' (.cons .rfl' (.cons .rfl' (.cons .rfl' (.cons .rfl' (.cons .rfl' (.cons .rfl' .nil)))))))))))))))) ?_
    by_cases hc2 : (skips ((fitP ops).take i)) = true
    ·
      refine pw_wk (Wk.ofL (n := 144) (l := [(4, (.d (.v (.bool false)))), (5, (.d (.v (.bool true)))), (6, (.d (.sl 3 false ((fitP ops).map eF)))), (7, (.d (.sl 1 false ((s.take 10).map eU)))), (8, (.d (.sl 1 false ((run (fitP ops) (s.take 10)).1.map eU)))), (9, (.d (.sl 1 false ((run (fitP ops) (s.take 10)).2.1.map eI)))), (10, (.d (.v (.bool ((run (fitP ops) (s.take 10)).2.2.1))))), (11, (.d (.v (.int .i64 ((((run (fitP ops) (s.take 10)).2.2.2 : Nat)) : Int))))), (12, (.app 0 1 [])), (13, (.app 1 1 ((says ((fitP ops).take i)).map eI))), (14, (.d (.v (.bool false)))), (15, (.d (.v (.bool true)))), (16, (.d (.v (.int .i64 0)))), (17, (.d (.v (.int .i64 0)))), (18, (.d (.v (.int .i64 ((i : Nat) : Int)))))]) (S := ⟨[], [(([] : List Int).map eI).length, ((says ((fitP ops).take i)).map eI).length]⟩) rfl rfl (.cons .rfl' (.cons .rfl' (.cons .rfl' (.cons .rfl' (.cons .rfl' (.cons .rfl' (.cons .rfl' (.cons .rfl' (.cons .rfl' (.cons .rfl' (.cons .rfl' (.cons (.of_eq (congrArg (fun x => PV.d (.v (.bool x))) (hc2))) (.cons .rfl' (.cons .rfl' (.cons .rfl' .nil)))))))))))))))) ?_
      refine pw_region ?_
      refine pwl_step 1 rfl (o_move (p := (.d (.v (.bool true)))) rfl rfl) ?_
      refine pwl_step 1 rfl (o_move (p := (.d (.v (.bool true)))) rfl rfl) ?_
      refine pwl_step_no rfl rfl ?_
      refine pwl_step_no rfl rfl ?_
      refine pwl_step_no rfl rfl ?_
      refine pwl_step_no rfl rfl ?_
      refine pwl_step_no rfl rfl ?_
      refine pwl_step_no rfl rfl ?_
      refine pwl_step 1 rfl (o_pick_t (p := (.d (.v (.bool true)))) rfl rfl rfl) ?_
      refine pwl_step 1 rfl (o_assign (p := (.d (.v (.bool true)))) rfl rfl) ?_
      refine pwl_nil ?_
      refine pw_seq ?_
      refine pw_wk (Wk.ofL (n := 144) (l := [(4, (.d (.v (.bool false)))), (5, (.d (.v (.bool true)))), (6, (.d (.sl 3 false ((fitP ops).map eF)))), (7, (.d (.sl 1 false ((s.take 10).map eU)))), (8, (.d (.sl 1 false ((run (fitP ops) (s.take 10)).1.map eU)))), (9, (.d (.sl 1 false ((run (fitP ops) (s.take 10)).2.1.map eI)))), (10, (.d (.v (.bool ((run (fitP ops) (s.take 10)).2.2.1))))), (11, (.d (.v (.int .i64 ((((run (fitP ops) (s.take 10)).2.2.2 : Nat)) : Int))))), (12, (.app 0 1 [])), (13, (.app 1 1 ((says ((fitP ops).take i)).map eI))), (14, (.d (.v (.bool false)))), (15, (.d (.v (.bool true)))), (16, (.d (.v (.int .i64 0)))), (17, (.d (.v (.int .i64 0)))), (18, (.d (.v (.int .i64 ((i : Nat) : Int)))))]) (S := ⟨[], [(([] : List Int).map eI).length, ((says ((fitP ops).take i)).map eI).length]⟩) rfl rfl (.cons .rfl' (.cons .rfl' (.cons .rfl' (.cons .rfl' (.cons .rfl' (.cons .rfl' (.cons .rfl' (.cons .rfl' (.cons .rfl' (.cons .rfl' (.cons .rfl' (.cons .rfl' (.cons .rfl' (.cons .rfl' (.cons .rfl' .nil)))))))))))))))) ?_
      refine pw_region ?_
      refine pwl_step 1 rfl (o_move (p := (.d (.sl 3 false ((fitP ops).map eF)))) rfl rfl) ?_
      refine pwl_step 1 rfl (o_move (p := (.d (.v (.int .i64 ((i : Nat) : Int))))) rfl rfl) ?_
      refine pwl_step 1 rfl (opS_index (sz := 3) (es := ((fitP ops).map eF)) (k := .i64) (n := ((i : Nat) : Int)) (e := [(.v (.int .u8 (((fitP ops).getD i default).op))), (.v (.int .i64 (((fitP ops).getD i default).a))), (.v (.int .i64 (((fitP ops).getD i default).b)))]) rfl Try.underlying22 sz32 rfl rfl (by omega) (map_get (xs := (fitP ops)) (i := i) (by omega))) ?_
      refine pwl_step 1 rfl (opS_field_rp (cs := [(.v (.int .u8 (((fitP ops).getD i default).op))), (.v (.int .i64 (((fitP ops).getD i default).a))), (.v (.int .i64 (((fitP ops).getD i default).b)))]) rfl Try.underlying32 rfl sz5 (of_decide_eq_true rfl) rfl) ?_
      refine pwl_step 1 rfl (opS_load_rp (c := (.v (.int .u8 (((fitP ops).getD i default).op)))) (cs := [(.v (.int .i64 (((fitP ops).getD i default).a))), (.v (.int .i64 (((fitP ops).getD i default).b)))]) rfl Try.underlying5 rfl rfl) ?_
      refine pwl_step 1 rfl (opS_bin (k := .u8) (m := (((fitP ops).getD i default).op)) (n := 0) rfl rfl rfl (ib_eq rfl)) ?_
      refine pwl_nil ?_
      refine pw_cond (b := decide ((((fitP ops).getD i default).op) = 0)) rfl (fun hb3 => ?_) (fun hb3 => ?_)
      ·
        replace hb3 := of_decide_eq_true hb3
        refine pw_wk (Wk.ofL (n := 144) (l := [(4, (.d (.v (.bool false)))), (5, (.d (.v (.bool true)))), (6, (.d (.sl 3 false ((fitP ops).map eF)))), (7, (.d (.sl 1 false ((s.take 10).map eU)))), (8, (.d (.sl 1 false ((run (fitP ops) (s.take 10)).1.map eU)))), (9, (.d (.sl 1 false ((run (fitP ops) (s.take 10)).2.1.map eI)))), (10, (.d (.v (.bool ((run (fitP ops) (s.take 10)).2.2.1))))), (11, (.d (.v (.int .i64 ((((run (fitP ops) (s.take 10)).2.2.2 : Nat)) : Int))))), (12, (.app 0 1 [])), (13, (.app 1 1 ((says ((fitP ops).take i)).map eI))), (14, (.d (.v (.bool false)))), (15, (.d (.v (.bool true)))), (16, (.d (.v (.int .i64 0)))), (17, (.d (.v (.int .i64 0)))), (18, (.d (.v (.int .i64 ((i : Nat) : Int)))))]) (S := ⟨[], [(([] : List Int).map eI).length, ((says ((fitP ops).take i)).map eI).length]⟩) rfl rfl (.cons .rfl' (.cons .rfl' (.cons .rfl' (.cons .rfl' (.cons .rfl' (.cons .rfl' (.cons .rfl' (.cons .rfl' (.cons .rfl' (.cons .rfl' (.cons .rfl' (.cons .rfl' (.cons .rfl' (.cons .rfl' (.cons .rfl' .nil)))))))))))))))) ?_
        refine pw_region ?_
        refine pwl_step 1 rfl (o_move (p := (.app 1 1 ((says ((fitP ops).take i)).map eI))) rfl rfl) ?_
        refine pwl_step 1 rfl (o_move (p := (.d (.sl 3 false ((fitP ops).map eF)))) rfl rfl) ?_
        refine pwl_step 1 rfl (o_move (p := (.d (.v (.int .i64 ((i : Nat) : Int))))) rfl rfl) ?_
        refine pwl_step 1 rfl (opS_index (sz := 3) (es := ((fitP ops).map eF)) (k := .i64) (n := ((i : Nat) : Int)) (e := [(.v (.int .u8 (((fitP ops).getD i default).op))), (.v (.int .i64 (((fitP ops).getD i default).a))), (.v (.int .i64 (((fitP ops).getD i default).b)))]) rfl Try.underlying22 sz32 rfl rfl (by omega) (map_get (xs := (fitP ops)) (i := i) (by omega))) ?_
        refine pwl_step 1 rfl (opS_field_rp (cs := [(.v (.int .u8 (((fitP ops).getD i default).op))), (.v (.int .i64 (((fitP ops).getD i default).a))), (.v (.int .i64 (((fitP ops).getD i default).b)))]) rfl Try.underlying32 rfl sz3 (of_decide_eq_true rfl) rfl) ?_
        refine pwl_step 1 rfl (opS_load_rp (c := (.v (.int .i64 (((fitP ops).getD i default).a)))) (cs := [(.v (.int .i64 (((fitP ops).getD i default).b)))]) rfl Try.underlying3 rfl rfl) ?_
        refine pwl_step 1 rfl (o_buildSlice (sz := 1) (es := [([(.v (.int .i64 (((fitP ops).getD i default).a)))] : List D)]) rfl Try.underlying28 ti3 (of_decide_eq_true rfl) (of_decide_eq_true rfl) rfl rfl rfl) ?_
        refine pwl_step 1 rfl (o_append_tag (sz := 1) (t := 1) (es := ((says ((fitP ops).take i)).map eI)) (ys := [([(.v (.int .i64 (((fitP ops).getD i default).a)))] : List D)]) rfl Try.underlying28 ti3 (of_decide_eq_true rfl) rfl rfl (by first | rfl | simp) (by simp only [List.length_map, List.length_append, List.length_cons, List.length_nil, List.length_take]; omega) (by simp only [List.length_map, List.length_append, List.length_cons, List.length_nil, List.length_take]; omega)) ?_
        refine pwl_step 1 rfl (o_assign (p := (.app 1 1 (((says ((fitP ops).take i)).map eI) ++ [([(.v (.int .i64 (((fitP ops).getD i default).a)))] : List D)]))) rfl rfl) ?_
        refine pwl_nil ?_
        refine pw_region ?_
        refine pwl_step 1 rfl (o_move (p := (.d (.v (.int .i64 ((i : Nat) : Int))))) rfl rfl) ?_
        refine pwl_step 1 rfl (opS_bin (k := .i64) (m := ((i : Nat) : Int)) (n := 1) rfl rfl rfl (ib_add (by omega) (by omega))) ?_
        refine pwl_step 1 rfl (o_assign (p := (.d (.v (.int .i64 (((i : Nat) : Int) + 1))))) rfl rfl) ?_
        refine pwl_nil ?_
        exact ⟨i + 1, by omega, by simp only []; omega, Wk.ofL rfl (by show (⟨[], [(([] : List Int).map eI).length, ((says ((fitP ops).take i)).map eI).length + [([(.v (.int .i64 (((fitP ops).getD i default).a)))] : List D)].length]⟩ : Sx) = _; rw [says_next0 (by omega) hb3]; simp) (.cons .rfl' (.cons .rfl' (.cons .rfl' (.cons .rfl' (.cons .rfl' (.cons .rfl' (.cons .rfl' (.cons .rfl' (.cons .rfl' (.cons (PVle.of_eq (p := (.app 1 1 (((says ((fitP ops).take i)).map eI) ++ [([(.v (.int .i64 (((fitP ops).getD i default).a)))] : List D)]))) (q := _) (by rw [says_next0 (by omega) hb3]; simp [eI])) (.cons .rfl' (.cons (PVle.of_eq (p := (.d (.v (.bool true)))) (q := _) (by rw [skips_next (by omega)]; simp [hc2])) (.cons .rfl' (.cons .rfl' (.cons (PVle.of_eq (p := (.d (.v (.int .i64 (((i : Nat) : Int) + 1))))) (q := _) (by first | rfl | (congr 3; omega))) .nil)))))))))))))))⟩
      ·
        replace hb3 := of_decide_eq_false hb3
        refine pw_skip ?_
        refine pw_region ?_
        refine pwl_step 1 rfl (o_move (p := (.d (.v (.int .i64 ((i : Nat) : Int))))) rfl rfl) ?_
        refine pwl_step 1 rfl (opS_bin (k := .i64) (m := ((i : Nat) : Int)) (n := 1) rfl rfl rfl (ib_add (by omega) (by omega))) ?_
        refine pwl_step 1 rfl (o_assign (p := (.d (.v (.int .i64 (((i : Nat) : Int) + 1))))) rfl rfl) ?_
        refine pwl_nil ?_
        exact ⟨i + 1, by omega, by simp only []; omega, Wk.ofL rfl (by show (⟨[], [(([] : List Int).map eI).length, ((says ((fitP ops).take i)).map eI).length]⟩ : Sx) = _; rw [says_next1 (by omega) hb3]) (.cons .rfl' (.cons .rfl' (.cons .rfl' (.cons .rfl' (.cons .rfl' (.cons .rfl' (.cons .rfl' (.cons .rfl' (.cons .rfl' (.cons (PVle.of_eq (p := (.app 1 1 ((says ((fitP ops).take i)).map eI))) (q := _) (by rw [says_next1 (by omega) hb3])) (.cons .rfl' (.cons (PVle.of_eq (p := (.d (.v (.bool true)))) (q := _) (by rw [skips_next (by omega)]; simp [hc2])) (.cons .rfl' (.cons .rfl' (.cons (PVle.of_eq (p := (.d (.v (.int .i64 (((i : Nat) : Int) + 1))))) (q := _) (by first | rfl | (congr 3; omega))) .nil)))))))))))))))⟩
    ·
      refine pw_wk (Wk.ofL (n := 144) (l := [(4, (.d (.v (.bool false)))), (5, (.d (.v (.bool true)))), (6, (.d (.sl 3 false ((fitP ops).map eF)))), (7, (.d (.sl 1 false ((s.take 10).map eU)))), (8, (.d (.sl 1 false ((run (fitP ops) (s.take 10)).1.map eU)))), (9, (.d (.sl 1 false ((run (fitP ops) (s.take 10)).2.1.map eI)))), (10, (.d (.v (.bool ((run (fitP ops) (s.take 10)).2.2.1))))), (11, (.d (.v (.int .i64 ((((run (fitP ops) (s.take 10)).2.2.2 : Nat)) : Int))))), (12, (.app 0 1 [])), (13, (.app 1 1 ((says ((fitP ops).take i)).map eI))), (14, (.d (.v (.bool false)))), (15, (.d (.v (.bool false)))), (16, (.d (.v (.int .i64 0)))), (17, (.d (.v (.int .i64 0)))), (18, (.d (.v (.int .i64 ((i : Nat) : Int)))))]) (S := ⟨[], [(([] : List Int).map eI).length, ((says ((fitP ops).take i)).map eI).length]⟩) rfl rfl (.cons .rfl' (.cons .rfl' (.cons .rfl' (.cons .rfl' (.cons .rfl' (.cons .rfl' (.cons .rfl' (.cons .rfl' (.cons .rfl' (.cons .rfl' (.cons .rfl' (.cons (.of_eq (congrArg (fun x => PV.d (.v (.bool x))) (eq_false_of_ne_true hc2))) (.cons .rfl' (.cons .rfl' (.cons .rfl' .nil)))))))))))))))) ?_
      refine pw_region ?_
      refine pwl_step 1 rfl (o_move (p := (.d (.v (.bool false)))) rfl rfl) ?_
      refine pwl_step 1 rfl (o_move (p := (.d (.v (.bool false)))) rfl rfl) ?_
      refine pwl_step_yes 1 rfl rfl (o_move (p := (.d (.sl 3 false ((fitP ops).map eF)))) rfl rfl) ?_
      refine pwl_step_yes 1 rfl rfl (o_move (p := (.d (.v (.int .i64 ((i : Nat) : Int))))) rfl rfl) ?_
      refine pwl_step_yes 1 rfl rfl (opS_index (sz := 3) (es := ((fitP ops).map eF)) (k := .i64) (n := ((i : Nat) : Int)) (e := [(.v (.int .u8 (((fitP ops).getD i default).op))), (.v (.int .i64 (((fitP ops).getD i default).a))), (.v (.int .i64 (((fitP ops).getD i default).b)))]) rfl Try.underlying22 sz32 rfl rfl (by omega) (map_get (xs := (fitP ops)) (i := i) (by omega))) ?_
      refine pwl_step_yes 1 rfl rfl (opS_field_rp (cs := [(.v (.int .u8 (((fitP ops).getD i default).op))), (.v (.int .i64 (((fitP ops).getD i default).a))), (.v (.int .i64 (((fitP ops).getD i default).b)))]) rfl Try.underlying32 rfl sz5 (of_decide_eq_true rfl) rfl) ?_
      refine pwl_step_yes 1 rfl rfl (opS_load_rp (c := (.v (.int .u8 (((fitP ops).getD i default).op)))) (cs := [(.v (.int .i64 (((fitP ops).getD i default).a))), (.v (.int .i64 (((fitP ops).getD i default).b)))]) rfl Try.underlying5 rfl rfl) ?_
      refine pwl_step_yes 1 rfl rfl (opS_bin (k := .u8) (m := (((fitP ops).getD i default).op)) (n := 3) rfl rfl rfl (ib_eq rfl)) ?_
      refine pwl_step 1 rfl (o_pick_f (p := (.d (.v (.bool (decide ((((fitP ops).getD i default).op) = 3)))))) rfl rfl rfl) ?_
      refine pwl_step 1 rfl (o_assign (p := (.d (.v (.bool (decide ((((fitP ops).getD i default).op) = 3)))))) rfl rfl) ?_
      refine pwl_nil ?_
      refine pw_seq ?_
      refine pw_wk (Wk.ofL (n := 144) (l := [(4, (.d (.v (.bool false)))), (5, (.d (.v (.bool true)))), (6, (.d (.sl 3 false ((fitP ops).map eF)))), (7, (.d (.sl 1 false ((s.take 10).map eU)))), (8, (.d (.sl 1 false ((run (fitP ops) (s.take 10)).1.map eU)))), (9, (.d (.sl 1 false ((run (fitP ops) (s.take 10)).2.1.map eI)))), (10, (.d (.v (.bool ((run (fitP ops) (s.take 10)).2.2.1))))), (11, (.d (.v (.int .i64 ((((run (fitP ops) (s.take 10)).2.2.2 : Nat)) : Int))))), (12, (.app 0 1 [])), (13, (.app 1 1 ((says ((fitP ops).take i)).map eI))), (14, (.d (.v (.bool false)))), (15, (.d (.v (.bool (decide ((((fitP ops).getD i default).op) = 3)))))), (16, (.d (.v (.int .i64 0)))), (17, (.d (.v (.int .i64 0)))), (18, (.d (.v (.int .i64 ((i : Nat) : Int)))))]) (S := ⟨[], [(([] : List Int).map eI).length, ((says ((fitP ops).take i)).map eI).length]⟩) rfl rfl (.cons .rfl' (.cons .rfl' (.cons .rfl' (.cons .rfl' (.cons .rfl' (.cons .rfl' (.cons .rfl' (.cons .rfl' (.cons .rfl' (.cons .rfl' (.cons .rfl' (.cons .rfl' (.cons .rfl' (.cons .rfl' (.cons .rfl' .nil)))))))))))))))) ?_
      refine pw_region ?_
      refine pwl_step 1 rfl (o_move (p := (.d (.sl 3 false ((fitP ops).map eF)))) rfl rfl) ?_
      refine pwl_step 1 rfl (o_move (p := (.d (.v (.int .i64 ((i : Nat) : Int))))) rfl rfl) ?_
      refine pwl_step 1 rfl (opS_index (sz := 3) (es := ((fitP ops).map eF)) (k := .i64) (n := ((i : Nat) : Int)) (e := [(.v (.int .u8 (((fitP ops).getD i default).op))), (.v (.int .i64 (((fitP ops).getD i default).a))), (.v (.int .i64 (((fitP ops).getD i default).b)))]) rfl Try.underlying22 sz32 rfl rfl (by omega) (map_get (xs := (fitP ops)) (i := i) (by omega))) ?_
      refine pwl_step 1 rfl (opS_field_rp (cs := [(.v (.int .u8 (((fitP ops).getD i default).op))), (.v (.int .i64 (((fitP ops).getD i default).a))), (.v (.int .i64 (((fitP ops).getD i default).b)))]) rfl Try.underlying32 rfl sz5 (of_decide_eq_true rfl) rfl) ?_
      refine pwl_step 1 rfl (opS_load_rp (c := (.v (.int .u8 (((fitP ops).getD i default).op)))) (cs := [(.v (.int .i64 (((fitP ops).getD i default).a))), (.v (.int .i64 (((fitP ops).getD i default).b)))]) rfl Try.underlying5 rfl rfl) ?_
      refine pwl_step 1 rfl (opS_bin (k := .u8) (m := (((fitP ops).getD i default).op)) (n := 0) rfl rfl rfl (ib_eq rfl)) ?_
      refine pwl_nil ?_
      refine pw_cond (b := decide ((((fitP ops).getD i default).op) = 0)) rfl (fun hb4 => ?_) (fun hb4 => ?_)
      ·
        replace hb4 := of_decide_eq_true hb4
        refine pw_wk (Wk.ofL (n := 144) (l := [(4, (.d (.v (.bool false)))), (5, (.d (.v (.bool true)))), (6, (.d (.sl 3 false ((fitP ops).map eF)))), (7, (.d (.sl 1 false ((s.take 10).map eU)))), (8, (.d (.sl 1 false ((run (fitP ops) (s.take 10)).1.map eU)))), (9, (.d (.sl 1 false ((run (fitP ops) (s.take 10)).2.1.map eI)))), (10, (.d (.v (.bool ((run (fitP ops) (s.take 10)).2.2.1))))), (11, (.d (.v (.int .i64 ((((run (fitP ops) (s.take 10)).2.2.2 : Nat)) : Int))))), (12, (.app 0 1 [])), (13, (.app 1 1 ((says ((fitP ops).take i)).map eI))), (14, (.d (.v (.bool false)))), (15, (.d (.v (.bool (decide ((((fitP ops).getD i default).op) = 3)))))), (16, (.d (.v (.int .i64 0)))), (17, (.d (.v (.int .i64 0)))), (18, (.d (.v (.int .i64 ((i : Nat) : Int)))))]) (S := ⟨[], [(([] : List Int).map eI).length, ((says ((fitP ops).take i)).map eI).length]⟩) rfl rfl (.cons .rfl' (.cons .rfl' (.cons .rfl' (.cons .rfl' (.cons .rfl' (.cons .rfl' (.cons .rfl' (.cons .rfl' (.cons .rfl' (.cons .rfl' (.cons .rfl' (.cons .rfl' (.cons .rfl' (.cons .rfl' (.cons .rfl' .nil)))))))))))))))) ?_
        refine pw_region ?_
        refine pwl_step 1 rfl (o_move (p := (.app 1 1 ((says ((fitP ops).take i)).map eI))) rfl rfl) ?_
        refine pwl_step 1 rfl (o_move (p := (.d (.sl 3 false ((fitP ops).map eF)))) rfl rfl) ?_
        refine pwl_step 1 rfl (o_move (p := (.d (.v (.int .i64 ((i : Nat) : Int))))) rfl rfl) ?_
        refine pwl_step 1 rfl (opS_index (sz := 3) (es := ((fitP ops).map eF)) (k := .i64) (n := ((i : Nat) : Int)) (e := [(.v (.int .u8 (((fitP ops).getD i default).op))), (.v (.int .i64 (((fitP ops).getD i default).a))), (.v (.int .i64 (((fitP ops).getD i default).b)))]) rfl Try.underlying22 sz32 rfl rfl (by omega) (map_get (xs := (fitP ops)) (i := i) (by omega))) ?_
        refine pwl_step 1 rfl (opS_field_rp (cs := [(.v (.int .u8 (((fitP ops).getD i default).op))), (.v (.int .i64 (((fitP ops).getD i default).a))), (.v (.int .i64 (((fitP ops).getD i default).b)))]) rfl Try.underlying32 rfl sz3 (of_decide_eq_true rfl) rfl) ?_
        refine pwl_step 1 rfl (opS_load_rp (c := (.v (.int .i64 (((fitP ops).getD i default).a)))) (cs := [(.v (.int .i64 (((fitP ops).getD i default).b)))]) rfl Try.underlying3 rfl rfl) ?_
        refine pwl_step 1 rfl (o_buildSlice (sz := 1) (es := [([(.v (.int .i64 (((fitP ops).getD i default).a)))] : List D)]) rfl Try.underlying28 ti3 (of_decide_eq_true rfl) (of_decide_eq_true rfl) rfl rfl rfl) ?_
        refine pwl_step 1 rfl (o_append_tag (sz := 1) (t := 1) (es := ((says ((fitP ops).take i)).map eI)) (ys := [([(.v (.int .i64 (((fitP ops).getD i default).a)))] : List D)]) rfl Try.underlying28 ti3 (of_decide_eq_true rfl) rfl rfl (by first | rfl | simp) (by simp only [List.length_map, List.length_append, List.length_cons, List.length_nil, List.length_take]; omega) (by simp only [List.length_map, List.length_append, List.length_cons, List.length_nil, List.length_take]; omega)) ?_
        refine pwl_step 1 rfl (o_assign (p := (.app 1 1 (((says ((fitP ops).take i)).map eI) ++ [([(.v (.int .i64 (((fitP ops).getD i default).a)))] : List D)]))) rfl rfl) ?_
        refine pwl_nil ?_
        refine pw_region ?_
        refine pwl_step 1 rfl (o_move (p := (.d (.v (.int .i64 ((i : Nat) : Int))))) rfl rfl) ?_
        refine pwl_step 1 rfl (opS_bin (k := .i64) (m := ((i : Nat) : Int)) (n := 1) rfl rfl rfl (ib_add (by omega) (by omega))) ?_
        refine pwl_step 1 rfl (o_assign (p := (.d (.v (.int .i64 (((i : Nat) : Int) + 1))))) rfl rfl) ?_
        refine pwl_nil ?_
        exact ⟨i + 1, by omega, by simp only []; omega, Wk.ofL rfl (by show (⟨[], [(([] : List Int).map eI).length, ((says ((fitP ops).take i)).map eI).length + [([(.v (.int .i64 (((fitP ops).getD i default).a)))] : List D)].length]⟩ : Sx) = _; rw [says_next0 (by omega) hb4]; simp) (.cons .rfl' (.cons .rfl' (.cons .rfl' (.cons .rfl' (.cons .rfl' (.cons .rfl' (.cons .rfl' (.cons .rfl' (.cons .rfl' (.cons (PVle.of_eq (p := (.app 1 1 (((says ((fitP ops).take i)).map eI) ++ [([(.v (.int .i64 (((fitP ops).getD i default).a)))] : List D)]))) (q := _) (by rw [says_next0 (by omega) hb4]; simp [eI])) (.cons .rfl' (.cons (PVle.of_eq (p := (.d (.v (.bool (decide ((((fitP ops).getD i default).op) = 3)))))) (q := _) (by rw [skips_next (by omega)]; simp [hc2])) (.cons .rfl' (.cons .rfl' (.cons (PVle.of_eq (p := (.d (.v (.int .i64 (((i : Nat) : Int) + 1))))) (q := _) (by first | rfl | (congr 3; omega))) .nil)))))))))))))))⟩
      ·
        replace hb4 := of_decide_eq_false hb4
        refine pw_skip ?_
        refine pw_region ?_
        refine pwl_step 1 rfl (o_move (p := (.d (.v (.int .i64 ((i : Nat) : Int))))) rfl rfl) ?_
        refine pwl_step 1 rfl (opS_bin (k := .i64) (m := ((i : Nat) : Int)) (n := 1) rfl rfl rfl (ib_add (by omega) (by omega))) ?_
        refine pwl_step 1 rfl (o_assign (p := (.d (.v (.int .i64 (((i : Nat) : Int) + 1))))) rfl rfl) ?_
        refine pwl_nil ?_
        exact ⟨i + 1, by omega, by simp only []; omega, Wk.ofL rfl (by show (⟨[], [(([] : List Int).map eI).length, ((says ((fitP ops).take i)).map eI).length]⟩ : Sx) = _; rw [says_next1 (by omega) hb4]) (.cons .rfl' (.cons .rfl' (.cons .rfl' (.cons .rfl' (.cons .rfl' (.cons .rfl' (.cons .rfl' (.cons .rfl' (.cons .rfl' (.cons (PVle.of_eq (p := (.app 1 1 ((says ((fitP ops).take i)).map eI))) (q := _) (by rw [says_next1 (by omega) hb4])) (.cons .rfl' (.cons (PVle.of_eq (p := (.d (.v (.bool (decide ((((fitP ops).getD i default).op) = 3)))))) (q := _) (by rw [skips_next (by omega)]; simp [hc2])) (.cons .rfl' (.cons .rfl' (.cons (PVle.of_eq (p := (.d (.v (.int .i64 (((i : Nat) : Int) + 1))))) (q := _) (by first | rfl | (congr 3; omega))) .nil)))))))))))))))⟩
  ·
    replace hb1 := of_decide_eq_false hb1
    refine pw_exit ?_
    refine pw_seq ?_
    refine pw_block ?_
    refine pw_loop' (α := Nat × Nat × Nat × List Int × List Int × Bool) (fun (x : Nat × Nat × Nat × List Int × List Int × Bool) => match x with | (f, k, n, t, said, held) => St.ofL 144 [(5, (.d (.v (.bool true)))), (6, (.d (.sl 3 false ((fitP ops).map eF)))), (7, (.d (.sl 1 false (t.map eU)))), (8, (.d (.sl 1 false ((run (fitP ops) (s.take 10)).1.map eU)))), (9, (.d (.sl 1 false ((run (fitP ops) (s.take 10)).2.1.map eI)))), (10, (.d (.v (.bool ((run (fitP ops) (s.take 10)).2.2.1))))), (11, (.d (.v (.int .i64 ((((run (fitP ops) (s.take 10)).2.2.2 : Nat)) : Int))))), (12, (.app 0 1 (said.map eI))), (13, (.app 1 1 ((says ((fitP ops).take i)).map eI))), (14, (.d (.v (.bool held)))), (15, (.d (.v (.bool (skips ((fitP ops).take i)))))), (16, (.d (.v (.int .i64 ((k : Nat) : Int))))), (17, (.d (.v (.int .i64 ((n : Nat) : Int)))))] ⟨[], [(said.map eI).length, ((says ((fitP ops).take i)).map eI).length]⟩) (fun (x : Nat × Nat × Nat × List Int × List Int × Bool) => match x with | (f, k, n, t, said, held) => (fitP ops).length ≤ f + k ∧ n + f = (fitP ops).length ∧ t.length = (s.take 10).length ∧ said.length ≤ n ∧ runF (fitP ops) f k t said held n = run (fitP ops) (s.take 10)) (fun (x : Nat × Nat × Nat × List Int × List Int × Bool) => match x with | (f, k, n, t, said, held) => f) ((fitP ops).length, 0, 0, (s.take 10), [], false) (⟨by omega, by omega, rfl, Nat.le_refl _, rfl⟩) (Wk.ofL rfl (rfl) (.cons .rfl' (.cons .rfl' (.cons (PVle.of_eq (p := (.d (.sl 1 false ((s.take 10).map eU)))) (q := _) (by first | rfl | simp)) (.cons .rfl' (.cons .rfl' (.cons .rfl' (.cons .rfl' (.cons (PVle.of_eq (p := (.app 0 1 [])) (q := _) (by first | rfl | simp)) (.cons .rfl' (.cons (PVle.of_eq (p := (.d (.v (.bool false)))) (q := _) (by first | rfl | simp [hb1])) (.cons .rfl' (.cons (PVle.of_eq (p := (.d (.v (.int .i64 0)))) (q := _) (by first | rfl | (congr 3; omega))) (.cons (PVle.of_eq (p := (.d (.v (.int .i64 0)))) (q := _) (by first | rfl | (congr 3; omega))) .nil)))))))))))))) ?_
    rintro ⟨f, k, n, t, said, held⟩ ⟨hf, hn, ht, hsd, hE⟩
    have hst := step_good (fitP ops) k t hfo; have ht10 : (s.take 10).length ≤ 10 := (by rw [List.length_take]; omega)
    refine pw_seq ?_
    refine pw_seq ?_
    refine pw_wk (Wk.ofL (n := 144) (l := [(5, (.d (.v (.bool true)))), (6, (.d (.sl 3 false ((fitP ops).map eF)))), (7, (.d (.sl 1 false (t.map eU)))), (8, (.d (.sl 1 false ((run (fitP ops) (s.take 10)).1.map eU)))), (9, (.d (.sl 1 false ((run (fitP ops) (s.take 10)).2.1.map eI)))), (10, (.d (.v (.bool ((run (fitP ops) (s.take 10)).2.2.1))))), (11, (.d (.v (.int .i64 ((((run (fitP ops) (s.take 10)).2.2.2 : Nat)) : Int))))), (12, (.app 0 1 (said.map eI))), (13, (.app 1 1 ((says ((fitP ops).take i)).map eI))), (14, (.d (.v (.bool held)))), (15, (.d (.v (.bool (skips ((fitP ops).take i)))))), (16, (.d (.v (.int .i64 ((k : Nat) : Int))))), (17, (.d (.v (.int .i64 ((n : Nat) : Int)))))]) (S := ⟨[], [(said.map eI).length, ((says ((fitP ops).take i)).map eI).length]⟩) rfl rfl (.cons .rfl' (.cons .rfl' (.cons .rfl' (.cons .rfl' (.cons .rfl' (.cons .rfl' (.cons .rfl' (.cons .rfl' (.cons .rfl' (.cons .rfl' (.cons .rfl' (.cons .rfl' (.cons .rfl' .nil)))))))))))))) ?_
    by_cases hc5 : ((k : Nat) : Int) < ((((fitP ops).length : Nat)) : Int)
    ·
      refine pw_region ?_
      refine pwl_step 1 rfl (o_move (p := (.d (.v (.int .i64 ((k : Nat) : Int))))) rfl rfl) ?_
      refine pwl_step 1 rfl (o_move (p := (.d (.sl 3 false ((fitP ops).map eF)))) rfl rfl) ?_
      refine pwl_step 1 rfl (o_len (sz := 3) (es := ((fitP ops).map eF)) (n := (fitP ops).length) rfl Try.underlying22 rfl (by simp)) ?_
      refine pwl_step 1 rfl (opS_bin (k := .i64) (m := ((k : Nat) : Int)) (n := ((((fitP ops).length : Nat)) : Int)) rfl rfl rfl (ib_lt (decide_eq_true hc5))) ?_
      refine pwl_step 1 rfl (o_move (p := (.d (.v (.bool true)))) rfl rfl) ?_
      refine pwl_step_yes 1 rfl rfl (o_move (p := (.d (.v (.int .i64 ((n : Nat) : Int))))) rfl rfl) ?_
      refine pwl_step_yes 1 rfl rfl (opS_bin (k := .i64) (m := ((n : Nat) : Int)) (n := 20) rfl rfl rfl (ib_lt rfl)) ?_
      refine pwl_step 1 rfl (o_pick_t (p := (.d (.v (.bool (decide (((n : Nat) : Int) < 20)))))) rfl rfl rfl) ?_
      refine pwl_nil ?_
      refine pw_cond (b := decide (((n : Nat) : Int) < 20)) rfl (fun hb6 => ?_) (fun hb6 => ?_)
      ·
        replace hb6 := of_decide_eq_true hb6
        refine pw_skip ?_
        refine pw_block ?_
        refine pw_seq ?_
        refine pw_wk (Wk.ofL (n := 144) (l := [(5, (.d (.v (.bool true)))), (6, (.d (.sl 3 false ((fitP ops).map eF)))), (7, (.d (.sl 1 false (t.map eU)))), (8, (.d (.sl 1 false ((run (fitP ops) (s.take 10)).1.map eU)))), (9, (.d (.sl 1 false ((run (fitP ops) (s.take 10)).2.1.map eI)))), (10, (.d (.v (.bool ((run (fitP ops) (s.take 10)).2.2.1))))), (11, (.d (.v (.int .i64 ((((run (fitP ops) (s.take 10)).2.2.2 : Nat)) : Int))))), (12, (.app 0 1 (said.map eI))), (13, (.app 1 1 ((says ((fitP ops).take i)).map eI))), (14, (.d (.v (.bool held)))), (15, (.d (.v (.bool (skips ((fitP ops).take i)))))), (16, (.d (.v (.int .i64 ((k : Nat) : Int))))), (17, (.d (.v (.int .i64 ((n : Nat) : Int)))))]) (S := ⟨[], [(said.map eI).length, ((says ((fitP ops).take i)).map eI).length]⟩) rfl rfl (.cons .rfl' (.cons .rfl' (.cons .rfl' (.cons .rfl' (.cons .rfl' (.cons .rfl' (.cons .rfl' (.cons .rfl' (.cons .rfl' (.cons .rfl' (.cons .rfl' (.cons .rfl' (.cons .rfl' .nil)))))))))))))) ?_
        refine pw_region ?_
        refine pwl_step 1 rfl (o_move (p := (.d (.sl 3 false ((fitP ops).map eF)))) rfl rfl) ?_
        refine pwl_step 1 rfl (o_move (p := (.d (.v (.int .i64 ((k : Nat) : Int))))) rfl rfl) ?_
        refine pwl_step 1 rfl (o_move (p := (.d (.sl 1 false (t.map eU)))) rfl rfl) ?_
        refine pwl_step 1 rfl (opS_call («as» := [(.d (.sl 3 false ((fitP ops).map eF))), (.d (.v (.int .i64 ((k : Nat) : Int)))), (.d (.sl 1 false (t.map eU)))]) (r := (.tup [(.d (.v (.int .i64 ((step (fitP ops) ((k : Nat) : Int) t).1)))), (.d (.sl 1 false ((step (fitP ops) ((k : Nat) : Int) t).2.1.map eU))), (.d (.sl 1 false ((step (fitP ops) ((k : Nat) : Int) t).2.2.1.map eI))), (.d (.v (.bool ((step (fitP ops) ((k : Nat) : Int) t).2.2.2))))])) rfl fnok12 rfl (args_ok (by exact .cons (.of_canon rfl) (.cons (.of_canon rfl) (.cons (.of_canon rfl) (.nil))))) (PF.at (step_ok (fitP ops) ((k : Nat) : Int) t (by omega) (by omega) hfo) _)) ?_
        refine pwl_step 1 rfl (o_move (p := (.tup [(.d (.v (.int .i64 ((step (fitP ops) ((k : Nat) : Int) t).1)))), (.d (.sl 1 false ((step (fitP ops) ((k : Nat) : Int) t).2.1.map eU))), (.d (.sl 1 false ((step (fitP ops) ((k : Nat) : Int) t).2.2.1.map eI))), (.d (.v (.bool ((step (fitP ops) ((k : Nat) : Int) t).2.2.2))))])) rfl rfl) ?_
        refine pwl_step 1 rfl (opS_extract (cs := [(.d (.v (.int .i64 ((step (fitP ops) ((k : Nat) : Int) t).1)))), (.d (.sl 1 false ((step (fitP ops) ((k : Nat) : Int) t).2.1.map eU))), (.d (.sl 1 false ((step (fitP ops) ((k : Nat) : Int) t).2.2.1.map eI))), (.d (.v (.bool ((step (fitP ops) ((k : Nat) : Int) t).2.2.2))))]) (p := (.d (.v (.int .i64 ((step (fitP ops) ((k : Nat) : Int) t).1))))) rfl rfl rfl) ?_
        refine pwl_step 1 rfl (opS_extract (cs := [(.d (.v (.int .i64 ((step (fitP ops) ((k : Nat) : Int) t).1)))), (.d (.sl 1 false ((step (fitP ops) ((k : Nat) : Int) t).2.1.map eU))), (.d (.sl 1 false ((step (fitP ops) ((k : Nat) : Int) t).2.2.1.map eI))), (.d (.v (.bool ((step (fitP ops) ((k : Nat) : Int) t).2.2.2))))]) (p := (.d (.sl 1 false ((step (fitP ops) ((k : Nat) : Int) t).2.1.map eU)))) rfl rfl rfl) ?_
        refine pwl_step 1 rfl (opS_extract (cs := [(.d (.v (.int .i64 ((step (fitP ops) ((k : Nat) : Int) t).1)))), (.d (.sl 1 false ((step (fitP ops) ((k : Nat) : Int) t).2.1.map eU))), (.d (.sl 1 false ((step (fitP ops) ((k : Nat) : Int) t).2.2.1.map eI))), (.d (.v (.bool ((step (fitP ops) ((k : Nat) : Int) t).2.2.2))))]) (p := (.d (.sl 1 false ((step (fitP ops) ((k : Nat) : Int) t).2.2.1.map eI)))) rfl rfl rfl) ?_
        refine pwl_step 1 rfl (opS_extract (cs := [(.d (.v (.int .i64 ((step (fitP ops) ((k : Nat) : Int) t).1)))), (.d (.sl 1 false ((step (fitP ops) ((k : Nat) : Int) t).2.1.map eU))), (.d (.sl 1 false ((step (fitP ops) ((k : Nat) : Int) t).2.2.1.map eI))), (.d (.v (.bool ((step (fitP ops) ((k : Nat) : Int) t).2.2.2))))]) (p := (.d (.v (.bool ((step (fitP ops) ((k : Nat) : Int) t).2.2.2))))) rfl rfl rfl) ?_
        refine pwl_step 1 rfl (o_assign (p := (.d (.v (.int .i64 ((step (fitP ops) ((k : Nat) : Int) t).1))))) rfl rfl) ?_
        refine pwl_step 1 rfl (o_assign (p := (.d (.sl 1 false ((step (fitP ops) ((k : Nat) : Int) t).2.1.map eU)))) rfl rfl) ?_
        refine pwl_step 1 rfl (o_assign (p := (.d (.sl 1 false ((step (fitP ops) ((k : Nat) : Int) t).2.2.1.map eI)))) rfl rfl) ?_
        refine pwl_step 1 rfl (o_assign (p := (.d (.v (.bool ((step (fitP ops) ((k : Nat) : Int) t).2.2.2))))) rfl rfl) ?_
        refine pwl_nil ?_
        refine pw_seq ?_
        refine pw_seq ?_
        refine pw_region ?_
        refine pwl_step 1 rfl (o_move (p := (.d (.v (.int .i64 ((step (fitP ops) ((k : Nat) : Int) t).1))))) rfl rfl) ?_
        refine pwl_step 1 rfl (o_move (p := (.d (.v (.int .i64 ((k : Nat) : Int))))) rfl rfl) ?_
        refine pwl_step 1 rfl (opS_bin (k := .i64) (m := ((step (fitP ops) ((k : Nat) : Int) t).1)) (n := ((k : Nat) : Int)) rfl rfl rfl (ib_le rfl)) ?_
        refine pwl_nil ?_
        refine pw_cond (b := decide (((step (fitP ops) ((k : Nat) : Int) t).1) ≤ ((k : Nat) : Int))) rfl (fun hb7 => ?_) (fun hb7 => ?_)
        ·
          replace hb7 := of_decide_eq_true hb7
          exfalso; omega
        ·
          replace hb7 := of_decide_eq_false hb7
          refine pw_skip ?_
          refine pw_seq ?_
          refine pw_region ?_
          refine pwl_step 1 rfl (o_move (p := (.d (.v (.int .i64 ((step (fitP ops) ((k : Nat) : Int) t).1))))) rfl rfl) ?_
          refine pwl_step 1 rfl (o_assign (p := (.d (.v (.int .i64 ((step (fitP ops) ((k : Nat) : Int) t).1))))) rfl rfl) ?_
          refine pwl_nil ?_
          refine pw_seq ?_
          refine pw_region ?_
          refine pwl_step 1 rfl (o_move (p := (.d (.sl 1 false ((step (fitP ops) ((k : Nat) : Int) t).2.1.map eU)))) rfl rfl) ?_
          refine pwl_step 1 rfl (o_assign (p := (.d (.sl 1 false ((step (fitP ops) ((k : Nat) : Int) t).2.1.map eU)))) rfl rfl) ?_
          refine pwl_nil ?_
          refine pw_seq ?_
          refine pw_wk (Wk.ofL (n := 144) (l := [(5, (.d (.v (.bool true)))), (6, (.d (.sl 3 false ((fitP ops).map eF)))), (7, (.d (.sl 1 false ((step (fitP ops) ((k : Nat) : Int) t).2.1.map eU)))), (8, (.d (.sl 1 false ((run (fitP ops) (s.take 10)).1.map eU)))), (9, (.d (.sl 1 false ((run (fitP ops) (s.take 10)).2.1.map eI)))), (10, (.d (.v (.bool ((run (fitP ops) (s.take 10)).2.2.1))))), (11, (.d (.v (.int .i64 ((((run (fitP ops) (s.take 10)).2.2.2 : Nat)) : Int))))), (12, (.app 0 1 (said.map eI))), (13, (.app 1 1 ((says ((fitP ops).take i)).map eI))), (14, (.d (.v (.bool held)))), (15, (.d (.v (.bool (skips ((fitP ops).take i)))))), (16, (.d (.v (.int .i64 ((step (fitP ops) ((k : Nat) : Int) t).1))))), (17, (.d (.v (.int .i64 ((n : Nat) : Int))))), (21, (.d (.sl 1 false ((step (fitP ops) ((k : Nat) : Int) t).2.2.1.map eI)))), (22, (.d (.v (.bool ((step (fitP ops) ((k : Nat) : Int) t).2.2.2)))))]) (S := ⟨[], [(said.map eI).length, ((says ((fitP ops).take i)).map eI).length]⟩) rfl rfl (.cons .rfl' (.cons .rfl' (.cons .rfl' (.cons .rfl' (.cons .rfl' (.cons .rfl' (.cons .rfl' (.cons .rfl' (.cons .rfl' (.cons .rfl' (.cons .rfl' (.cons .rfl' (.cons .rfl' (.cons .rfl' (.cons .rfl' .nil)))))))))))))))) ?_
          refine pw_region ?_
          refine pwl_step 1 rfl (o_move (p := (.app 0 1 (said.map eI))) rfl rfl) ?_
          refine pwl_step 1 rfl (o_move (p := (.d (.sl 1 false ((step (fitP ops) ((k : Nat) : Int) t).2.2.1.map eI)))) rfl rfl) ?_
          refine pwl_step 1 rfl (o_append_tag (sz := 1) (t := 0) (es := (said.map eI)) (ys := ((step (fitP ops) ((k : Nat) : Int) t).2.2.1.map eI)) rfl Try.underlying28 ti3 (of_decide_eq_true rfl) rfl rfl (by first | rfl | simp) (by simp only [List.length_map, List.length_append, List.length_cons, List.length_nil, List.length_take]; omega) (by simp only [List.length_map, List.length_append, List.length_cons, List.length_nil, List.length_take]; omega)) ?_
          refine pwl_step 1 rfl (o_assign (p := (.app 0 1 ((said.map eI) ++ ((step (fitP ops) ((k : Nat) : Int) t).2.2.1.map eI)))) rfl rfl) ?_
          refine pwl_nil ?_
          refine pw_seq ?_
          refine pw_wk (Wk.ofL (n := 144) (l := [(5, (.d (.v (.bool true)))), (6, (.d (.sl 3 false ((fitP ops).map eF)))), (7, (.d (.sl 1 false ((step (fitP ops) ((k : Nat) : Int) t).2.1.map eU)))), (8, (.d (.sl 1 false ((run (fitP ops) (s.take 10)).1.map eU)))), (9, (.d (.sl 1 false ((run (fitP ops) (s.take 10)).2.1.map eI)))), (10, (.d (.v (.bool ((run (fitP ops) (s.take 10)).2.2.1))))), (11, (.d (.v (.int .i64 ((((run (fitP ops) (s.take 10)).2.2.2 : Nat)) : Int))))), (12, (.app 0 1 ((said.map eI) ++ ((step (fitP ops) ((k : Nat) : Int) t).2.2.1.map eI)))), (13, (.app 1 1 ((says ((fitP ops).take i)).map eI))), (14, (.d (.v (.bool held)))), (15, (.d (.v (.bool (skips ((fitP ops).take i)))))), (16, (.d (.v (.int .i64 ((step (fitP ops) ((k : Nat) : Int) t).1))))), (17, (.d (.v (.int .i64 ((n : Nat) : Int))))), (22, (.d (.v (.bool ((step (fitP ops) ((k : Nat) : Int) t).2.2.2)))))]) (S := ⟨[], [(said.map eI).length + ((step (fitP ops) ((k : Nat) : Int) t).2.2.1.map eI).length, ((says ((fitP ops).take i)).map eI).length]⟩) rfl rfl (.cons .rfl' (.cons .rfl' (.cons .rfl' (.cons .rfl' (.cons .rfl' (.cons .rfl' (.cons .rfl' (.cons .rfl' (.cons .rfl' (.cons .rfl' (.cons .rfl' (.cons .rfl' (.cons .rfl' (.cons .rfl' .nil))))))))))))))) ?_
          by_cases hc8 : held = true
          ·
            refine pw_wk (Wk.ofL (n := 144) (l := [(5, (.d (.v (.bool true)))), (6, (.d (.sl 3 false ((fitP ops).map eF)))), (7, (.d (.sl 1 false ((step (fitP ops) ((k : Nat) : Int) t).2.1.map eU)))), (8, (.d (.sl 1 false ((run (fitP ops) (s.take 10)).1.map eU)))), (9, (.d (.sl 1 false ((run (fitP ops) (s.take 10)).2.1.map eI)))), (10, (.d (.v (.bool ((run (fitP ops) (s.take 10)).2.2.1))))), (11, (.d (.v (.int .i64 ((((run (fitP ops) (s.take 10)).2.2.2 : Nat)) : Int))))), (12, (.app 0 1 ((said.map eI) ++ ((step (fitP ops) ((k : Nat) : Int) t).2.2.1.map eI)))), (13, (.app 1 1 ((says ((fitP ops).take i)).map eI))), (14, (.d (.v (.bool true)))), (15, (.d (.v (.bool (skips ((fitP ops).take i)))))), (16, (.d (.v (.int .i64 ((step (fitP ops) ((k : Nat) : Int) t).1))))), (17, (.d (.v (.int .i64 ((n : Nat) : Int))))), (22, (.d (.v (.bool ((step (fitP ops) ((k : Nat) : Int) t).2.2.2)))))]) (S := ⟨[], [(said.map eI).length + ((step (fitP ops) ((k : Nat) : Int) t).2.2.1.map eI).length, ((says ((fitP ops).take i)).map eI).length]⟩) rfl rfl (.cons .rfl' (.cons .rfl' (.cons .rfl' (.cons .rfl' (.cons .rfl' (.cons .rfl' (.cons .rfl' (.cons .rfl' (.cons .rfl' (.cons (.of_eq (congrArg (fun x => PV.d (.v (.bool x))) (hc8))) (.cons .rfl' (.cons .rfl' (.cons .rfl' (.cons .rfl' .nil))))))))))))))) ?_
            refine pw_region ?_
            refine pwl_step 1 rfl (o_move (p := (.d (.v (.bool true)))) rfl rfl) ?_
            refine pwl_step 1 rfl (o_move (p := (.d (.v (.bool true)))) rfl rfl) ?_
            refine pwl_step_no rfl rfl ?_
            refine pwl_step 1 rfl (o_pick_t (p := (.d (.v (.bool true)))) rfl rfl rfl) ?_
            refine pwl_step 1 rfl (o_assign (p := (.d (.v (.bool true)))) rfl rfl) ?_
            refine pwl_nil ?_
            refine pw_region ?_
            refine pwl_step 1 rfl (o_move (p := (.d (.v (.int .i64 ((n : Nat) : Int))))) rfl rfl) ?_
            refine pwl_step 1 rfl (opS_bin (k := .i64) (m := ((n : Nat) : Int)) (n := 1) rfl rfl rfl (ib_add (by omega) (by omega))) ?_
            refine pwl_step 1 rfl (o_assign (p := (.d (.v (.int .i64 (((n : Nat) : Int) + 1))))) rfl rfl) ?_
            refine pwl_nil ?_
            exact ⟨⟨f - 1, (step (fitP ops) k t).1.toNat, n + 1, (step (fitP ops) k t).2.1, said ++ (step (fitP ops) k t).2.2.1, held || (step (fitP ops) k t).2.2.2⟩, ⟨by omega, by omega, by omega, by rw [List.length_append]; omega, (runF_next (by omega) (by omega)).symm.trans hE⟩, by simp only []; omega, Wk.ofL rfl (by show (⟨[], [(said.map eI).length + ((step (fitP ops) ((k : Nat) : Int) t).2.2.1.map eI).length, ((says ((fitP ops).take i)).map eI).length]⟩ : Sx) = _; simp) (.cons .rfl' (.cons .rfl' (.cons (PVle.of_eq (p := (.d (.sl 1 false ((step (fitP ops) ((k : Nat) : Int) t).2.1.map eU)))) (q := _) (by first | rfl | simp)) (.cons .rfl' (.cons .rfl' (.cons .rfl' (.cons .rfl' (.cons (PVle.of_eq (p := (.app 0 1 ((said.map eI) ++ ((step (fitP ops) ((k : Nat) : Int) t).2.2.1.map eI)))) (q := _) (by first | rfl | simp)) (.cons .rfl' (.cons (PVle.of_eq (p := (.d (.v (.bool true)))) (q := _) (by first | rfl | simp [hb1, hb6, hb7, hc5, hc8])) (.cons .rfl' (.cons (PVle.of_eq (p := (.d (.v (.int .i64 ((step (fitP ops) ((k : Nat) : Int) t).1))))) (q := _) (by first | rfl | (congr 3; omega))) (.cons (PVle.of_eq (p := (.d (.v (.int .i64 (((n : Nat) : Int) + 1))))) (q := _) (by first | rfl | (congr 3; omega))) .nil)))))))))))))⟩
          ·
            refine pw_wk (Wk.ofL (n := 144) (l := [(5, (.d (.v (.bool true)))), (6, (.d (.sl 3 false ((fitP ops).map eF)))), (7, (.d (.sl 1 false ((step (fitP ops) ((k : Nat) : Int) t).2.1.map eU)))), (8, (.d (.sl 1 false ((run (fitP ops) (s.take 10)).1.map eU)))), (9, (.d (.sl 1 false ((run (fitP ops) (s.take 10)).2.1.map eI)))), (10, (.d (.v (.bool ((run (fitP ops) (s.take 10)).2.2.1))))), (11, (.d (.v (.int .i64 ((((run (fitP ops) (s.take 10)).2.2.2 : Nat)) : Int))))), (12, (.app 0 1 ((said.map eI) ++ ((step (fitP ops) ((k : Nat) : Int) t).2.2.1.map eI)))), (13, (.app 1 1 ((says ((fitP ops).take i)).map eI))), (14, (.d (.v (.bool false)))), (15, (.d (.v (.bool (skips ((fitP ops).take i)))))), (16, (.d (.v (.int .i64 ((step (fitP ops) ((k : Nat) : Int) t).1))))), (17, (.d (.v (.int .i64 ((n : Nat) : Int))))), (22, (.d (.v (.bool ((step (fitP ops) ((k : Nat) : Int) t).2.2.2)))))]) (S := ⟨[], [(said.map eI).length + ((step (fitP ops) ((k : Nat) : Int) t).2.2.1.map eI).length, ((says ((fitP ops).take i)).map eI).length]⟩) rfl rfl (.cons .rfl' (.cons .rfl' (.cons .rfl' (.cons .rfl' (.cons .rfl' (.cons .rfl' (.cons .rfl' (.cons .rfl' (.cons .rfl' (.cons (.of_eq (congrArg (fun x => PV.d (.v (.bool x))) (eq_false_of_ne_true hc8))) (.cons .rfl' (.cons .rfl' (.cons .rfl' (.cons .rfl' .nil))))))))))))))) ?_
            refine pw_region ?_
            refine pwl_step 1 rfl (o_move (p := (.d (.v (.bool false)))) rfl rfl) ?_
            refine pwl_step 1 rfl (o_move (p := (.d (.v (.bool false)))) rfl rfl) ?_
            refine pwl_step_yes 1 rfl rfl (o_move (p := (.d (.v (.bool ((step (fitP ops) ((k : Nat) : Int) t).2.2.2))))) rfl rfl) ?_
            refine pwl_step 1 rfl (o_pick_f (p := (.d (.v (.bool ((step (fitP ops) ((k : Nat) : Int) t).2.2.2))))) rfl rfl rfl) ?_
            refine pwl_step 1 rfl (o_assign (p := (.d (.v (.bool ((step (fitP ops) ((k : Nat) : Int) t).2.2.2))))) rfl rfl) ?_
            refine pwl_nil ?_
            refine pw_region ?_
            refine pwl_step 1 rfl (o_move (p := (.d (.v (.int .i64 ((n : Nat) : Int))))) rfl rfl) ?_
            refine pwl_step 1 rfl (opS_bin (k := .i64) (m := ((n : Nat) : Int)) (n := 1) rfl rfl rfl (ib_add (by omega) (by omega))) ?_
            refine pwl_step 1 rfl (o_assign (p := (.d (.v (.int .i64 (((n : Nat) : Int) + 1))))) rfl rfl) ?_
            refine pwl_nil ?_
            exact ⟨⟨f - 1, (step (fitP ops) k t).1.toNat, n + 1, (step (fitP ops) k t).2.1, said ++ (step (fitP ops) k t).2.2.1, held || (step (fitP ops) k t).2.2.2⟩, ⟨by omega, by omega, by omega, by rw [List.length_append]; omega, (runF_next (by omega) (by omega)).symm.trans hE⟩, by simp only []; omega, Wk.ofL rfl (by show (⟨[], [(said.map eI).length + ((step (fitP ops) ((k : Nat) : Int) t).2.2.1.map eI).length, ((says ((fitP ops).take i)).map eI).length]⟩ : Sx) = _; simp) (.cons .rfl' (.cons .rfl' (.cons (PVle.of_eq (p := (.d (.sl 1 false ((step (fitP ops) ((k : Nat) : Int) t).2.1.map eU)))) (q := _) (by first | rfl | simp)) (.cons .rfl' (.cons .rfl' (.cons .rfl' (.cons .rfl' (.cons (PVle.of_eq (p := (.app 0 1 ((said.map eI) ++ ((step (fitP ops) ((k : Nat) : Int) t).2.2.1.map eI)))) (q := _) (by first | rfl | simp)) (.cons .rfl' (.cons (PVle.of_eq (p := (.d (.v (.bool ((step (fitP ops) ((k : Nat) : Int) t).2.2.2))))) (q := _) (by first | rfl | simp [hb1, hb6, hb7, hc5, hc8])) (.cons .rfl' (.cons (PVle.of_eq (p := (.d (.v (.int .i64 ((step (fitP ops) ((k : Nat) : Int) t).1))))) (q := _) (by first | rfl | (congr 3; omega))) (.cons (PVle.of_eq (p := (.d (.v (.int .i64 (((n : Nat) : Int) + 1))))) (q := _) (by first | rfl | (congr 3; omega))) .nil)))))))))))))⟩
      ·
        replace hb6 := of_decide_eq_false hb6
        exfalso; omega
    ·
      have hR : run (fitP ops) (s.take 10) = (t, said, held, n) := by rw [← hE, runF_end (by omega)]
      have hR1 : (run (fitP ops) (s.take 10)).1 = t := by rw [hR]; try simp
      have hR2 : (run (fitP ops) (s.take 10)).2.1 = said := by rw [hR]; try simp
      have hR3 : (((run (fitP ops) (s.take 10)).2.2.1) == held) = true := by rw [hR]; try simp
      have hR4 : ((((run (fitP ops) (s.take 10)).2.2.2 : Nat)) : Int) = ((n : Nat) : Int) := by rw [hR]; try simp
      refine pw_region ?_
      refine pwl_step 1 rfl (o_move (p := (.d (.v (.int .i64 ((k : Nat) : Int))))) rfl rfl) ?_
      refine pwl_step 1 rfl (o_move (p := (.d (.sl 3 false ((fitP ops).map eF)))) rfl rfl) ?_
      refine pwl_step 1 rfl (o_len (sz := 3) (es := ((fitP ops).map eF)) (n := (fitP ops).length) rfl Try.underlying22 rfl (by simp)) ?_
      refine pwl_step 1 rfl (opS_bin (k := .i64) (m := ((k : Nat) : Int)) (n := ((((fitP ops).length : Nat)) : Int)) rfl rfl rfl (ib_lt (decide_eq_false hc5))) ?_
      refine pwl_step 1 rfl (o_move (p := (.d (.v (.bool false)))) rfl rfl) ?_
      refine pwl_step_no rfl rfl ?_
      refine pwl_step_no rfl rfl ?_
      refine pwl_step 1 rfl (o_pick_f (p := (.d (.v (.bool false)))) rfl rfl rfl) ?_
      refine pwl_nil ?_
      refine pw_cond (b := false) rfl (fun h => by cases h) (fun _ => ?_)
      refine pw_exit ?_
      refine pw_seq ?_
      refine pw_wk (Wk.ofL (n := 144) (l := [(5, (.d (.v (.bool true)))), (6, (.d (.sl 3 false ((fitP ops).map eF)))), (7, (.d (.sl 1 false (t.map eU)))), (8, (.d (.sl 1 false ((run (fitP ops) (s.take 10)).1.map eU)))), (9, (.d (.sl 1 false ((run (fitP ops) (s.take 10)).2.1.map eI)))), (10, (.d (.v (.bool ((run (fitP ops) (s.take 10)).2.2.1))))), (11, (.d (.v (.int .i64 ((((run (fitP ops) (s.take 10)).2.2.2 : Nat)) : Int))))), (12, (.app 0 1 (said.map eI))), (13, (.app 1 1 ((says ((fitP ops).take i)).map eI))), (14, (.d (.v (.bool held)))), (15, (.d (.v (.bool (skips ((fitP ops).take i)))))), (17, (.d (.v (.int .i64 ((n : Nat) : Int)))))]) (S := ⟨[], [(said.map eI).length, ((says ((fitP ops).take i)).map eI).length]⟩) rfl rfl (.cons .rfl' (.cons .rfl' (.cons .rfl' (.cons .rfl' (.cons .rfl' (.cons .rfl' (.cons .rfl' (.cons .rfl' (.cons .rfl' (.cons .rfl' (.cons .rfl' (.cons .rfl' .nil))))))))))))) ?_
      refine pw_region ?_
      refine pwl_step 1 rfl (o_move (p := (.d (.sl 1 false ((run (fitP ops) (s.take 10)).1.map eU)))) rfl rfl) ?_
      refine pwl_step 1 rfl (o_move (p := (.d (.sl 1 false (t.map eU)))) rfl rfl) ?_
      refine pwl_step 1 rfl (opS_call («as» := [(.d (.sl 1 false ((run (fitP ops) (s.take 10)).1.map eU))), (.d (.sl 1 false (t.map eU)))]) (r := (.d (.v (.bool true)))) rfl fnok13 rfl (args_ok (by exact .cons (.of_canon rfl) (.cons (.of_canon rfl) (.nil)))) (PC.res_eq (PF.at (words_ok ((run (fitP ops) (s.take 10)).1) t) _) (congrArg (fun x => PV.d (.v (.bool x))) (decide_eq_true hR1)))) ?_
      refine pwl_step 1 rfl (o_assign (p := (.d (.v (.bool true)))) rfl rfl) ?_
      refine pwl_nil ?_
      refine pw_seq ?_
      refine pw_wk (Wk.ofL (n := 144) (l := [(5, (.d (.v (.bool true)))), (6, (.d (.sl 3 false ((fitP ops).map eF)))), (9, (.d (.sl 1 false ((run (fitP ops) (s.take 10)).2.1.map eI)))), (10, (.d (.v (.bool ((run (fitP ops) (s.take 10)).2.2.1))))), (11, (.d (.v (.int .i64 ((((run (fitP ops) (s.take 10)).2.2.2 : Nat)) : Int))))), (12, (.app 0 1 (said.map eI))), (13, (.app 1 1 ((says ((fitP ops).take i)).map eI))), (14, (.d (.v (.bool held)))), (15, (.d (.v (.bool (skips ((fitP ops).take i)))))), (17, (.d (.v (.int .i64 ((n : Nat) : Int))))), (23, (.d (.v (.bool true))))]) (S := ⟨[], [(said.map eI).length, ((says ((fitP ops).take i)).map eI).length]⟩) rfl rfl (.cons .rfl' (.cons .rfl' (.cons .rfl' (.cons .rfl' (.cons .rfl' (.cons .rfl' (.cons .rfl' (.cons .rfl' (.cons .rfl' (.cons .rfl' (.cons .rfl' .nil)))))))))))) ?_
      refine pw_region ?_
      refine pwl_step 1 rfl (o_move (p := (.d (.sl 1 false ((run (fitP ops) (s.take 10)).2.1.map eI)))) rfl rfl) ?_
      refine pwl_step 1 rfl (o_move (p := (.app 0 1 (said.map eI))) rfl rfl) ?_
      refine pwl_step 1 rfl (opS_call («as» := [(.d (.sl 1 false ((run (fitP ops) (s.take 10)).2.1.map eI))), (.d (.sl 1 false (said.map eI)))]) (r := (.d (.v (.bool true)))) rfl fnok14 rfl (args_ok (by exact .cons (.of_canon rfl) (.cons (.of_canon rfl) (.nil)))) (PC.res_eq (PF.at (ints_ok ((run (fitP ops) (s.take 10)).2.1) said) _) (congrArg (fun x => PV.d (.v (.bool x))) (decide_eq_true hR2)))) ?_
      refine pwl_step 1 rfl (o_assign (p := (.d (.v (.bool true)))) rfl rfl) ?_
      refine pwl_nil ?_
      refine pw_seq ?_
      refine pw_wk (Wk.ofL (n := 144) (l := [(5, (.d (.v (.bool true)))), (6, (.d (.sl 3 false ((fitP ops).map eF)))), (9, (.d (.sl 1 false ((run (fitP ops) (s.take 10)).2.1.map eI)))), (10, (.d (.v (.bool ((run (fitP ops) (s.take 10)).2.2.1))))), (11, (.d (.v (.int .i64 ((((run (fitP ops) (s.take 10)).2.2.2 : Nat)) : Int))))), (13, (.app 1 1 ((says ((fitP ops).take i)).map eI))), (14, (.d (.v (.bool held)))), (15, (.d (.v (.bool (skips ((fitP ops).take i)))))), (17, (.d (.v (.int .i64 ((n : Nat) : Int))))), (23, (.d (.v (.bool true)))), (24, (.d (.v (.bool true))))]) (S := ⟨[], [(said.map eI).length, ((says ((fitP ops).take i)).map eI).length]⟩) rfl rfl (.cons .rfl' (.cons .rfl' (.cons .rfl' (.cons .rfl' (.cons .rfl' (.cons .rfl' (.cons .rfl' (.cons .rfl' (.cons .rfl' (.cons .rfl' (.cons .rfl' .nil)))))))))))) ?_
      refine pw_region ?_
      refine pwl_step 1 rfl (o_move (p := (.d (.sl 1 false ((run (fitP ops) (s.take 10)).2.1.map eI)))) rfl rfl) ?_
      refine pwl_step 1 rfl (o_move (p := (.app 1 1 ((says ((fitP ops).take i)).map eI))) rfl rfl) ?_
      refine pwl_step 1 rfl (opS_call («as» := [(.d (.sl 1 false ((run (fitP ops) (s.take 10)).2.1.map eI))), (.d (.sl 1 false ((says ((fitP ops).take i)).map eI)))]) (r := (.d (.v (.bool (decide ((run (fitP ops) (s.take 10)).2.1 = (says ((fitP ops).take i)))))))) rfl fnok14 rfl (args_ok (by exact .cons (.of_canon rfl) (.cons (.of_canon rfl) (.nil)))) (PF.at (ints_ok ((run (fitP ops) (s.take 10)).2.1) (says ((fitP ops).take i))) _)) ?_
      refine pwl_step 1 rfl (o_assign (p := (.d (.v (.bool (decide ((run (fitP ops) (s.take 10)).2.1 = (says ((fitP ops).take i)))))))) rfl rfl) ?_
      refine pwl_nil ?_
      refine pw_seq ?_
      refine pw_wk (Wk.ofL (n := 144) (l := [(5, (.d (.v (.bool true)))), (6, (.d (.sl 3 false ((fitP ops).map eF)))), (10, (.d (.v (.bool ((run (fitP ops) (s.take 10)).2.2.1))))), (11, (.d (.v (.int .i64 ((((run (fitP ops) (s.take 10)).2.2.2 : Nat)) : Int))))), (14, (.d (.v (.bool held)))), (15, (.d (.v (.bool (skips ((fitP ops).take i)))))), (17, (.d (.v (.int .i64 ((n : Nat) : Int))))), (23, (.d (.v (.bool true)))), (24, (.d (.v (.bool true)))), (25, (.d (.v (.bool (decide ((run (fitP ops) (s.take 10)).2.1 = (says ((fitP ops).take i))))))))]) (S := ⟨[], [(said.map eI).length, ((says ((fitP ops).take i)).map eI).length]⟩) rfl rfl (.cons .rfl' (.cons .rfl' (.cons .rfl' (.cons .rfl' (.cons .rfl' (.cons .rfl' (.cons .rfl' (.cons .rfl' (.cons .rfl' (.cons .rfl' .nil))))))))))) ?_
      by_cases hc9 : (skips ((fitP ops).take i)) = true
      ·
        refine pw_wk (Wk.ofL (n := 144) (l := [(5, (.d (.v (.bool true)))), (6, (.d (.sl 3 false ((fitP ops).map eF)))), (10, (.d (.v (.bool ((run (fitP ops) (s.take 10)).2.2.1))))), (11, (.d (.v (.int .i64 ((((run (fitP ops) (s.take 10)).2.2.2 : Nat)) : Int))))), (14, (.d (.v (.bool held)))), (15, (.d (.v (.bool true)))), (17, (.d (.v (.int .i64 ((n : Nat) : Int))))), (23, (.d (.v (.bool true)))), (24, (.d (.v (.bool true)))), (25, (.d (.v (.bool (decide ((run (fitP ops) (s.take 10)).2.1 = (says ((fitP ops).take i))))))))]) (S := ⟨[], [(said.map eI).length, ((says ((fitP ops).take i)).map eI).length]⟩) rfl rfl (.cons .rfl' (.cons .rfl' (.cons .rfl' (.cons .rfl' (.cons .rfl' (.cons (.of_eq (congrArg (fun x => PV.d (.v (.bool x))) (hc9))) (.cons .rfl' (.cons .rfl' (.cons .rfl' (.cons .rfl' .nil))))))))))) ?_
        refine pw_region ?_
        refine pwl_step 1 rfl (o_move (p := (.d (.v (.bool true)))) rfl rfl) ?_
        refine pwl_step 1 rfl (o_move (p := (.d (.v (.bool true)))) rfl rfl) ?_
        refine pwl_step_yes 1 rfl rfl (o_move (p := (.d (.v (.bool true)))) rfl rfl) ?_
        refine pwl_step 1 rfl (o_pick_t (p := (.d (.v (.bool true)))) rfl rfl rfl) ?_
        refine pwl_step 1 rfl (o_move (p := (.d (.v (.bool true)))) rfl rfl) ?_
        refine pwl_step_yes 1 rfl rfl (o_move (p := (.d (.v (.bool true)))) rfl rfl) ?_
        refine pwl_step 1 rfl (o_pick_t (p := (.d (.v (.bool true)))) rfl rfl rfl) ?_
        refine pwl_step 1 rfl (o_move (p := (.d (.v (.bool true)))) rfl rfl) ?_
        refine pwl_step_yes 1 rfl rfl (o_move (p := (.d (.v (.bool ((run (fitP ops) (s.take 10)).2.2.1))))) rfl rfl) ?_
        refine pwl_step_yes 1 rfl rfl (o_move (p := (.d (.v (.bool held)))) rfl rfl) ?_
        refine pwl_step_yes 1 rfl rfl (o_eqb_eql (m := ((run (fitP ops) (s.take 10)).2.2.1)) (n := held) (r := true) rfl Try.underlying4 rfl rfl hR3) ?_
        refine pwl_step 1 rfl (o_pick_t (p := (.d (.v (.bool true)))) rfl rfl rfl) ?_
        refine pwl_step 1 rfl (o_move (p := (.d (.v (.bool true)))) rfl rfl) ?_
        refine pwl_step_yes 1 rfl rfl (o_move (p := (.d (.v (.int .i64 ((((run (fitP ops) (s.take 10)).2.2.2 : Nat)) : Int))))) rfl rfl) ?_
        refine pwl_step_yes 1 rfl rfl (o_move (p := (.d (.v (.int .i64 ((n : Nat) : Int))))) rfl rfl) ?_
        refine pwl_step_yes 1 rfl rfl (opS_bin (k := .i64) (m := ((((run (fitP ops) (s.take 10)).2.2.2 : Nat)) : Int)) (n := ((n : Nat) : Int)) rfl rfl rfl (ib_eq (decide_eq_true hR4))) ?_
        refine pwl_step 1 rfl (o_pick_t (p := (.d (.v (.bool true)))) rfl rfl rfl) ?_
        refine pwl_step 1 rfl (o_move (p := (.d (.v (.bool true)))) rfl rfl) ?_
        refine pwl_step_yes 1 rfl rfl (o_move (p := (.d (.v (.bool true)))) rfl rfl) ?_
        refine pwl_step_yes 1 rfl rfl (o_move (p := (.d (.v (.bool true)))) rfl rfl) ?_
        refine pwl_step_no rfl rfl ?_
        refine pwl_step_no rfl rfl ?_
        refine pwl_step_no rfl rfl ?_
        refine pwl_step_no rfl rfl ?_
        refine pwl_step_no rfl rfl ?_
        refine pwl_step_no rfl rfl ?_
        refine pwl_step_no rfl rfl ?_
        refine pwl_step_yes 1 rfl rfl (o_pick_t (p := (.d (.v (.bool true)))) rfl rfl rfl) ?_
        refine pwl_step 1 rfl (o_pick_t (p := (.d (.v (.bool true)))) rfl rfl rfl) ?_
        refine pwl_step 1 rfl (o_assign (p := (.d (.v (.bool true)))) rfl rfl) ?_
        refine pwl_nil ?_
        refine pw_ret ?_
        exact ⟨.inr rfl, rfl, rfl, rfl, ⟨_, (.cons _ _ _ _ (.tmp (of_decide_eq_true rfl) (PVle.of_canon (p := (.d (.v (.bool true)))) (by rfl))) .nil), rfl⟩⟩
      ·
        have hL := law_parts (fitP ops) (s.take 10) (by have := hc9; rw [show (fitP ops).take i = fitP ops from List.take_of_length_le (by omega)] at this; simpa using this)
        have hL1 : (run (fitP ops) (s.take 10)).2.1 = (says ((fitP ops).take i)) := by rw [show (fitP ops).take i = fitP ops from List.take_of_length_le (by omega)]; exact hL.1
        have hL2 : ((((run (fitP ops) (s.take 10)).2.2.2 : Nat)) : Int) = ((((fitP ops).length : Nat)) : Int) := by rw [hL.2]
        refine pw_wk (Wk.ofL (n := 144) (l := [(5, (.d (.v (.bool true)))), (6, (.d (.sl 3 false ((fitP ops).map eF)))), (10, (.d (.v (.bool ((run (fitP ops) (s.take 10)).2.2.1))))), (11, (.d (.v (.int .i64 ((((run (fitP ops) (s.take 10)).2.2.2 : Nat)) : Int))))), (14, (.d (.v (.bool held)))), (15, (.d (.v (.bool false)))), (17, (.d (.v (.int .i64 ((n : Nat) : Int))))), (23, (.d (.v (.bool true)))), (24, (.d (.v (.bool true)))), (25, (.d (.v (.bool true))))]) (S := ⟨[], [(said.map eI).length, ((says ((fitP ops).take i)).map eI).length]⟩) rfl rfl (.cons .rfl' (.cons .rfl' (.cons .rfl' (.cons .rfl' (.cons .rfl' (.cons (.of_eq (congrArg (fun x => PV.d (.v (.bool x))) (eq_false_of_ne_true hc9))) (.cons .rfl' (.cons .rfl' (.cons .rfl' (.cons (.of_eq (congrArg (fun x => PV.d (.v (.bool x))) (decide_eq_true hL1))) .nil))))))))))) ?_
        refine pw_region ?_
        refine pwl_step 1 rfl (o_move (p := (.d (.v (.bool true)))) rfl rfl) ?_
        refine pwl_step 1 rfl (o_move (p := (.d (.v (.bool true)))) rfl rfl) ?_
        refine pwl_step_yes 1 rfl rfl (o_move (p := (.d (.v (.bool true)))) rfl rfl) ?_
        refine pwl_step 1 rfl (o_pick_t (p := (.d (.v (.bool true)))) rfl rfl rfl) ?_
        refine pwl_step 1 rfl (o_move (p := (.d (.v (.bool true)))) rfl rfl) ?_
        refine pwl_step_yes 1 rfl rfl (o_move (p := (.d (.v (.bool true)))) rfl rfl) ?_
        refine pwl_step 1 rfl (o_pick_t (p := (.d (.v (.bool true)))) rfl rfl rfl) ?_
        refine pwl_step 1 rfl (o_move (p := (.d (.v (.bool true)))) rfl rfl) ?_
        refine pwl_step_yes 1 rfl rfl (o_move (p := (.d (.v (.bool ((run (fitP ops) (s.take 10)).2.2.1))))) rfl rfl) ?_
        refine pwl_step_yes 1 rfl rfl (o_move (p := (.d (.v (.bool held)))) rfl rfl) ?_
        refine pwl_step_yes 1 rfl rfl (o_eqb_eql (m := ((run (fitP ops) (s.take 10)).2.2.1)) (n := held) (r := true) rfl Try.underlying4 rfl rfl hR3) ?_
        refine pwl_step 1 rfl (o_pick_t (p := (.d (.v (.bool true)))) rfl rfl rfl) ?_
        refine pwl_step 1 rfl (o_move (p := (.d (.v (.bool true)))) rfl rfl) ?_
        refine pwl_step_yes 1 rfl rfl (o_move (p := (.d (.v (.int .i64 ((((run (fitP ops) (s.take 10)).2.2.2 : Nat)) : Int))))) rfl rfl) ?_
        refine pwl_step_yes 1 rfl rfl (o_move (p := (.d (.v (.int .i64 ((n : Nat) : Int))))) rfl rfl) ?_
        refine pwl_step_yes 1 rfl rfl (opS_bin (k := .i64) (m := ((((run (fitP ops) (s.take 10)).2.2.2 : Nat)) : Int)) (n := ((n : Nat) : Int)) rfl rfl rfl (ib_eq (decide_eq_true hR4))) ?_
        refine pwl_step 1 rfl (o_pick_t (p := (.d (.v (.bool true)))) rfl rfl rfl) ?_
        refine pwl_step 1 rfl (o_move (p := (.d (.v (.bool true)))) rfl rfl) ?_
        refine pwl_step_yes 1 rfl rfl (o_move (p := (.d (.v (.bool false)))) rfl rfl) ?_
        refine pwl_step_yes 1 rfl rfl (o_move (p := (.d (.v (.bool false)))) rfl rfl) ?_
        refine pwl_step_yes 1 rfl rfl (o_move (p := (.d (.v (.bool true)))) rfl rfl) ?_
        refine pwl_step_yes 1 rfl rfl (o_move (p := (.d (.v (.bool true)))) rfl rfl) ?_
        refine pwl_step_yes 1 rfl rfl (o_move (p := (.d (.v (.int .i64 ((((run (fitP ops) (s.take 10)).2.2.2 : Nat)) : Int))))) rfl rfl) ?_
        refine pwl_step_yes 1 rfl rfl (o_move (p := (.d (.sl 3 false ((fitP ops).map eF)))) rfl rfl) ?_
        refine pwl_step_yes 1 rfl rfl (o_len (sz := 3) (es := ((fitP ops).map eF)) (n := (fitP ops).length) rfl Try.underlying22 rfl (by simp)) ?_
        refine pwl_step_yes 1 rfl rfl (opS_bin (k := .i64) (m := ((((run (fitP ops) (s.take 10)).2.2.2 : Nat)) : Int)) (n := ((((fitP ops).length : Nat)) : Int)) rfl rfl rfl (ib_eq (decide_eq_true hL2))) ?_
        refine pwl_step_yes 1 rfl rfl (o_pick_t (p := (.d (.v (.bool true)))) rfl rfl rfl) ?_
        refine pwl_step_yes 1 rfl rfl (o_pick_f (p := (.d (.v (.bool true)))) rfl rfl rfl) ?_
        refine pwl_step 1 rfl (o_pick_t (p := (.d (.v (.bool true)))) rfl rfl rfl) ?_
        refine pwl_step 1 rfl (o_assign (p := (.d (.v (.bool true)))) rfl rfl) ?_
        refine pwl_nil ?_
        refine pw_ret ?_
        exact ⟨.inr rfl, rfl, rfl, rfl, ⟨_, (.cons _ _ _ _ (.tmp (of_decide_eq_true rfl) (PVle.of_canon (p := (.d (.v (.bool true)))) (by rfl))) .nil), rfl⟩⟩
end Go.Proofs.Ytopmocpjgjbdbaa
