/- Right -/
import Derived.Test.YtopmocpjgjbdbaaF7
namespace Go.Proofs.Ytopmocpjgjbdbaa
open Go.Pv

def kA (c : Int) : Int := if c = 0 then 99 else if c = 1 then 5 else if c = 2 then 5 else if c = 3 then 5 else 0
def kB (c : Int) : Int := if c = 2 then 5 else if c = 3 then 8 else 0
def one (o : FOp) : Bool := decide (o.op < 5) && (decide (0 ≤ o.a ∧ o.a ≤ kA o.op) && decide (0 ≤ o.b ∧ o.b ≤ kB o.op))
def okp (p : List FOp) : Bool := decide (p.length ≤ 8) && p.all one
def right (l : List (List FOp)) : Bool := decide (l.length ≤ 8) && l.all okp
theorem one_0 {o : FOp} (h : o.op = 0) : one o = decide ((0 ≤ o.a ∧ o.a ≤ 99) ∧ (0 ≤ o.b ∧ o.b ≤ 0)) := by unfold one; rw [h]; simp [kA, kB]
theorem one_1 {o : FOp} (h : o.op = 1) : one o = decide ((0 ≤ o.a ∧ o.a ≤ 5) ∧ (0 ≤ o.b ∧ o.b ≤ 0)) := by unfold one; rw [h]; simp [kA, kB]
theorem one_2 {o : FOp} (h : o.op = 2) : one o = decide ((0 ≤ o.a ∧ o.a ≤ 5) ∧ (0 ≤ o.b ∧ o.b ≤ 5)) := by unfold one; rw [h]; simp [kA, kB]
theorem one_3 {o : FOp} (h : o.op = 3) : one o = decide ((0 ≤ o.a ∧ o.a ≤ 5) ∧ (0 ≤ o.b ∧ o.b ≤ 8)) := by unfold one; rw [h]; simp [kA, kB]
theorem one_4 {o : FOp} (h : o.op = 4) : one o = decide ((0 ≤ o.a ∧ o.a ≤ 0) ∧ (0 ≤ o.b ∧ o.b ≤ 0)) := by unfold one; rw [h]; simp [kA, kB]
theorem one_5 {o : FOp} (h : 5 ≤ o.op) : one o = false := by unfold one; rw [decide_eq_false (by omega)]; rfl
theorem map_get_op {xs : List FOp} {i : Nat} {c : Int} (h : i < xs.length) (hc : (xs.getD i default).op = c) : (xs.map eF)[i]? = some [.v (.int .u8 c), .v (.int .i64 (xs.getD i default).a), .v (.int .i64 (xs.getD i default).b)] := by
  rw [map_get h, ← hc]; rfl
theorem all_next {α : Type} [Inhabited α] {f : α → Bool} {xs : List α} {k : Nat} (h : k < xs.length) (h1 : (xs.take k).all f = true) (h2 : f (xs.getD k default) = true) : (xs.take (k + 1)).all f = true := by
  rw [take_one h, List.all_append, h1]; simpa using h2
theorem okp_of {p : List FOp} {j : Nat} (h : ¬ j < p.length) (h8 : ¬ 8 < p.length) (h1 : (p.take j).all one = true) : okp p = true := by
  rw [List.take_of_length_le (by omega)] at h1
  unfold okp; rw [h1, decide_eq_true (by omega)]; rfl
theorem all_not {α : Type} [Inhabited α] {f : α → Bool} {xs : List α} {k : Nat} (h : k < xs.length) (h2 : f (xs.getD k default) = false) : xs.all f = false := by
  rw [List.all_eq_false]
  have e : xs.getD k default = xs[k] := by simp [List.getD, h]
  exact ⟨xs[k], List.getElem_mem h, by rw [← e, h2]; simp⟩
theorem right_bad {l : List (List FOp)} {i j : Nat} (h : i < l.length) (hj : j < (l.getD i default).length) (h2 : one ((l.getD i default).getD j default) = false) : right l = false := by
  unfold right; rw [all_not h (by unfold okp; rw [all_not hj h2, Bool.and_false]), Bool.and_false]
theorem right_long {l : List (List FOp)} {i : Nat} (h : i < l.length) (h2 : 8 < (l.getD i default).length) : right l = false := by
  unfold right; rw [all_not h (by unfold okp; rw [decide_eq_false (by omega)]; rfl), Bool.and_false]
theorem right_end {l : List (List FOp)} {i : Nat} (h : (l.take i).all okp = true) (hi : ¬ i < l.length) : right l = decide (((l.length : Nat) : Int) ≤ 8) := by
  rw [List.take_of_length_le (by omega)] at h
  unfold right; rw [h, Bool.and_true]; exact decide_eq_decide.2 (by omega)
set_option maxRecDepth 20000 in
theorem right_ok (l : List (List FOp)) (hop : ∀ i j, j < (l.getD i default).length → 0 ≤ ((l.getD i default).getD j default).op ∧ ((l.getD i default).getD j default).op ≤ 255) : PF Try.prog 15 [(.sl 1 false (l.map eL))] (.d (.v (.bool (right l)))) := by
  refine pc_intro Try.func15 rfl (of_decide_eq_true rfl) (fun g0 w0 hb0 ht0 => ?_)
  refine pw_len (i := 0) (sz := 1) (es := l.map eL) (of_decide_eq_true rfl) rfl (fun hl0 => ?_)
  simp only [List.length_map] at hl0
  refine pw_seq ?_
  refine pw_region ?_
  refine pwl_step 1 rfl (o_assign (p := (.d (.v (.bool false)))) rfl rfl) ?_
  refine pwl_nil ?_
  refine pw_seq ?_
  refine pw_region ?_
  refine pwl_step 1 rfl (opS_call («as» := []) (r := (.agg [(.d (.v (.int .i64 99))), (.d (.v (.int .i64 0))), (.fn 25 [] []), (.d (.v (.int .i64 5))), (.d (.v (.int .i64 0))), (.fn 26 [] []), (.d (.v (.int .i64 5))), (.d (.v (.int .i64 5))), (.fn 28 [] []), (.d (.v (.int .i64 5))), (.d (.v (.int .i64 8))), (.fn 29 [] []), (.d (.v (.int .i64 0))), (.d (.v (.int .i64 0))), (.fn 30 [] [])])) rfl fnok23 rfl (args_ok (by exact .nil)) (PF.at kinds_ok _)) ?_
  refine pwl_step 1 rfl (o_alloc rfl ti53 zs53) ?_
  refine pwl_step 1 rfl (opS_store (b := 0) (off := 0) (cs := [(.d (.v (.int .i64 0))), (.d (.v (.int .i64 0))), (.d (.v .nilFunc)), (.d (.v (.int .i64 0))), (.d (.v (.int .i64 0))), (.d (.v .nilFunc)), (.d (.v (.int .i64 0))), (.d (.v (.int .i64 0))), (.d (.v .nilFunc)), (.d (.v (.int .i64 0))), (.d (.v (.int .i64 0))), (.d (.v .nilFunc)), (.d (.v (.int .i64 0))), (.d (.v (.int .i64 0))), (.d (.v .nilFunc))]) (ps := [(.d (.v (.int .i64 99))), (.d (.v (.int .i64 0))), (.fn 25 [] []), (.d (.v (.int .i64 5))), (.d (.v (.int .i64 0))), (.fn 26 [] []), (.d (.v (.int .i64 5))), (.d (.v (.int .i64 5))), (.fn 28 [] []), (.d (.v (.int .i64 5))), (.d (.v (.int .i64 8))), (.fn 29 [] []), (.d (.v (.int .i64 0))), (.d (.v (.int .i64 0))), (.fn 30 [] [])]) rfl sz53 rfl rfl rfl rfl (of_decide_eq_true rfl) (List.cons_ne_nil _ _)) ?_
  refine pwl_nil ?_
  refine pw_seq ?_
  refine pw_seq ?_
  refine pw_region ?_
  refine pwl_step 1 rfl (o_move (p := (.d (.sl 1 false (l.map eL)))) rfl rfl) ?_
  refine pwl_step 1 rfl (o_len (sz := 1) (es := (l.map eL)) (n := l.length) rfl Try.underlying25 rfl (by simp)) ?_
  refine pwl_step 1 rfl (o_move (p := (.d (.v (.int .i64 0)))) rfl rfl) ?_
  refine pwl_nil ?_
  refine pw_block ?_
  refine pw_loop' (α := Nat) (fun (x : Nat) => match x with | i => St.ofL 55 [(0, (.d (.sl 1 false (l.map eL)))), (3, (.ptr 0 0)), (9, (.d (.sl 1 false (l.map eL)))), (10, (.d (.v (.int .i64 (((l.length : Nat)) : Int))))), (11, (.d (.v (.int .i64 ((i : Nat) : Int)))))] ⟨[some [(.d (.v (.int .i64 99))), (.d (.v (.int .i64 0))), (.fn 25 [] []), (.d (.v (.int .i64 5))), (.d (.v (.int .i64 0))), (.fn 26 [] []), (.d (.v (.int .i64 5))), (.d (.v (.int .i64 5))), (.fn 28 [] []), (.d (.v (.int .i64 5))), (.d (.v (.int .i64 8))), (.fn 29 [] []), (.d (.v (.int .i64 0))), (.d (.v (.int .i64 0))), (.fn 30 [] [])]], []⟩) (fun (x : Nat) => match x with | i => i ≤ l.length ∧ (l.take i).all okp = true) (fun (x : Nat) => match x with | i => l.length - i) 0 (⟨Nat.zero_le _, rfl⟩) (Wk.ofL rfl (rfl) (.cons .rfl' (.cons .rfl' (.cons .rfl' (.cons .rfl' (.cons (PVle.of_eq (p := (.d (.v (.int .i64 0)))) (q := _) (by first | rfl | (congr 3; omega))) .nil)))))) ?_
  rintro i ⟨hi, hE⟩
  refine pw_seq ?_
  refine pw_region ?_
  refine pwl_step 1 rfl (opS_bin (k := .i64) (m := ((i : Nat) : Int)) (n := (((l.length : Nat)) : Int)) rfl rfl rfl (ib_lt rfl)) ?_
  refine pwl_nil ?_
  refine pw_seq ?_
  refine pw_cond (b := decide (((i : Nat) : Int) < (((l.length : Nat)) : Int))) rfl (fun hb1 => ?_) (fun hb1 => ?_)
  ·
    replace hb1 := of_decide_eq_true hb1
    refine pw_skip ?_
    refine pw_seq ?_
    refine pw_block ?_
    refine pw_seq ?_
    refine pw_region ?_
    refine pwl_step 1 rfl (opS_index (sz := 1) (es := (l.map eL)) (k := .i64) (n := ((i : Nat) : Int)) (e := [(.sl 3 false ((l.getD i default).map eF))]) rfl Try.underlying25 sz22 rfl rfl (by omega) (map_get (xs := l) (i := i) (by omega))) ?_
    refine pwl_step 1 rfl (opS_load_rp (c := (.sl 3 false ((l.getD i default).map eF))) (cs := []) rfl Try.underlying22 rfl rfl) ?_
    refine pwl_step 1 rfl (o_assign (p := (.d (.sl 3 false ((l.getD i default).map eF)))) rfl rfl) ?_
    refine pwl_nil ?_
    refine pw_seq ?_
    refine pw_seq ?_
    refine pw_len (i := 5) (sz := 3) (es := (l.getD i default).map eF) (of_decide_eq_true rfl) rfl (fun hlp => ?_)
    simp only [List.length_map] at hlp
    refine pw_region ?_
    refine pwl_step 1 rfl (o_move (p := (.d (.sl 3 false ((l.getD i default).map eF)))) rfl rfl) ?_
    refine pwl_step 1 rfl (o_len (sz := 3) (es := ((l.getD i default).map eF)) (n := (l.getD i default).length) rfl Try.underlying22 rfl (by simp)) ?_
    refine pwl_step 1 rfl (o_move (p := (.d (.v (.int .i64 0)))) rfl rfl) ?_
    refine pwl_nil ?_
    refine pw_block ?_
    refine pw_loop' (α := Nat) (fun (x : Nat) => match x with | j => St.ofL 55 [(0, (.d (.sl 1 false (l.map eL)))), (3, (.ptr 0 0)), (5, (.d (.sl 3 false ((l.getD i default).map eF)))), (9, (.d (.sl 1 false (l.map eL)))), (10, (.d (.v (.int .i64 (((l.length : Nat)) : Int))))), (11, (.d (.v (.int .i64 ((i : Nat) : Int))))), (15, (.d (.sl 3 false ((l.getD i default).map eF)))), (16, (.d (.v (.int .i64 ((((l.getD i default).length : Nat)) : Int))))), (17, (.d (.v (.int .i64 ((j : Nat) : Int)))))] ⟨[some [(.d (.v (.int .i64 99))), (.d (.v (.int .i64 0))), (.fn 25 [] []), (.d (.v (.int .i64 5))), (.d (.v (.int .i64 0))), (.fn 26 [] []), (.d (.v (.int .i64 5))), (.d (.v (.int .i64 5))), (.fn 28 [] []), (.d (.v (.int .i64 5))), (.d (.v (.int .i64 8))), (.fn 29 [] []), (.d (.v (.int .i64 0))), (.d (.v (.int .i64 0))), (.fn 30 [] [])]], []⟩) (fun (x : Nat) => match x with | j => j ≤ (l.getD i default).length ∧ ((l.getD i default).take j).all one = true) (fun (x : Nat) => match x with | j => (l.getD i default).length - j) 0 (⟨Nat.zero_le _, rfl⟩) (Wk.ofL rfl (rfl) (.cons .rfl' (.cons .rfl' (.cons .rfl' (.cons .rfl' (.cons .rfl' (.cons .rfl' (.cons .rfl' (.cons .rfl' (.cons (PVle.of_eq (p := (.d (.v (.int .i64 0)))) (q := _) (by first | rfl | (congr 3; omega))) .nil)))))))))) ?_
    rintro j ⟨hj, hE1⟩
    refine pw_seq ?_
    refine pw_region ?_
    refine pwl_step 1 rfl (opS_bin (k := .i64) (m := ((j : Nat) : Int)) (n := ((((l.getD i default).length : Nat)) : Int)) rfl rfl rfl (ib_lt rfl)) ?_
    refine pwl_nil ?_
    refine pw_seq ?_
    refine pw_cond (b := decide (((j : Nat) : Int) < ((((l.getD i default).length : Nat)) : Int))) rfl (fun hb2 => ?_) (fun hb2 => ?_)
    ·
      replace hb2 := of_decide_eq_true hb2
      refine pw_skip ?_
      refine pw_seq ?_
      refine pw_block ?_
      refine pw_seq ?_
      refine pw_wk (Wk.ofL (n := 55) (l := [(0, (.d (.sl 1 false (l.map eL)))), (3, (.ptr 0 0)), (5, (.d (.sl 3 false ((l.getD i default).map eF)))), (9, (.d (.sl 1 false (l.map eL)))), (10, (.d (.v (.int .i64 (((l.length : Nat)) : Int))))), (11, (.d (.v (.int .i64 ((i : Nat) : Int))))), (15, (.d (.sl 3 false ((l.getD i default).map eF)))), (16, (.d (.v (.int .i64 ((((l.getD i default).length : Nat)) : Int))))), (17, (.d (.v (.int .i64 ((j : Nat) : Int)))))]) (S := ⟨[some [(.d (.v (.int .i64 99))), (.d (.v (.int .i64 0))), (.fn 25 [] []), (.d (.v (.int .i64 5))), (.d (.v (.int .i64 0))), (.fn 26 [] []), (.d (.v (.int .i64 5))), (.d (.v (.int .i64 5))), (.fn 28 [] []), (.d (.v (.int .i64 5))), (.d (.v (.int .i64 8))), (.fn 29 [] []), (.d (.v (.int .i64 0))), (.d (.v (.int .i64 0))), (.fn 30 [] [])]], []⟩) rfl rfl (.cons .rfl' (.cons .rfl' (.cons .rfl' (.cons .rfl' (.cons .rfl' (.cons .rfl' (.cons .rfl' (.cons .rfl' (.cons .rfl' .nil)))))))))) ?_
      have hx := hop i j (by omega); have hq0 : ((l.getD i default).getD j default).op = 0 ∨ ((l.getD i default).getD j default).op = 1 ∨ ((l.getD i default).getD j default).op = 2 ∨ ((l.getD i default).getD j default).op = 3 ∨ ((l.getD i default).getD j default).op = 4 ∨ 5 ≤ ((l.getD i default).getD j default).op := (by omega); rcases hq0 with hq | hq | hq | hq | hq | hq
      ·
        have hcell := map_get_op (xs := l.getD i default) (i := j) (by omega) hq
        refine pw_region ?_
        refine pwl_step 1 rfl (opS_index (sz := 3) (es := ((l.getD i default).map eF)) (k := .i64) (n := ((j : Nat) : Int)) (e := [(.v (.int .u8 0)), (.v (.int .i64 (((l.getD i default).getD j default).a))), (.v (.int .i64 (((l.getD i default).getD j default).b)))]) rfl Try.underlying22 sz32 rfl rfl (by omega) hcell) ?_
        refine pwl_step 1 rfl (opS_load_rp_agg (cs := [(.v (.int .u8 0)), (.v (.int .i64 (((l.getD i default).getD j default).a))), (.v (.int .i64 (((l.getD i default).getD j default).b)))]) rfl Try.underlying32 rfl sz32 rfl (of_decide_eq_true rfl)) ?_
        refine pwl_step 1 rfl (o_alloc rfl ti32 zs32) ?_
        refine pwl_step 1 rfl (opS_store (b := 1) (off := 0) (cs := [(.d (.v (.int .u8 0))), (.d (.v (.int .i64 0))), (.d (.v (.int .i64 0)))]) (ps := [(.d (.v (.int .u8 0))), (.d (.v (.int .i64 (((l.getD i default).getD j default).a)))), (.d (.v (.int .i64 (((l.getD i default).getD j default).b))))]) rfl sz32 rfl rfl rfl rfl (of_decide_eq_true rfl) (List.cons_ne_nil _ _)) ?_
        refine pwl_nil ?_
        refine pw_seq ?_
        refine pw_wk (Wk.ofL (n := 55) (l := [(0, (.d (.sl 1 false (l.map eL)))), (3, (.ptr 0 0)), (5, (.d (.sl 3 false ((l.getD i default).map eF)))), (7, (.ptr 1 0)), (9, (.d (.sl 1 false (l.map eL)))), (10, (.d (.v (.int .i64 (((l.length : Nat)) : Int))))), (11, (.d (.v (.int .i64 ((i : Nat) : Int))))), (15, (.d (.sl 3 false ((l.getD i default).map eF)))), (16, (.d (.v (.int .i64 ((((l.getD i default).length : Nat)) : Int))))), (17, (.d (.v (.int .i64 ((j : Nat) : Int)))))]) (S := ⟨[some [(.d (.v (.int .i64 99))), (.d (.v (.int .i64 0))), (.fn 25 [] []), (.d (.v (.int .i64 5))), (.d (.v (.int .i64 0))), (.fn 26 [] []), (.d (.v (.int .i64 5))), (.d (.v (.int .i64 5))), (.fn 28 [] []), (.d (.v (.int .i64 5))), (.d (.v (.int .i64 8))), (.fn 29 [] []), (.d (.v (.int .i64 0))), (.d (.v (.int .i64 0))), (.fn 30 [] [])], some [(.d (.v (.int .u8 0))), (.d (.v (.int .i64 (((l.getD i default).getD j default).a)))), (.d (.v (.int .i64 (((l.getD i default).getD j default).b))))]], []⟩) rfl rfl (.cons .rfl' (.cons .rfl' (.cons .rfl' (.cons .rfl' (.cons .rfl' (.cons .rfl' (.cons .rfl' (.cons .rfl' (.cons .rfl' (.cons .rfl' .nil))))))))))) ?_
        by_cases hc3 : 0 ≤ (((l.getD i default).getD j default).a) ∧ (((l.getD i default).getD j default).a) ≤ 99
        ·
          refine pw_quiet Trymixed (by kernel_rfl) ?_
          refine q_step 1 rfl (opS_field_ptr (b := 1) (off := 0) rfl Try.underlying32 rfl sz5 (of_decide_eq_true rfl) rfl) ?_
          refine q_step 1 rfl (opS_load_box (b := 1) (off := 0) (cs := [(.d (.v (.int .u8 0))), (.d (.v (.int .i64 (((l.getD i default).getD j default).a)))), (.d (.v (.int .i64 (((l.getD i default).getD j default).b))))]) (p := (.d (.v (.int .u8 0)))) rfl Try.underlying5 rfl rfl rfl rfl) ?_
          refine q_step 1 rfl (o_conv (k := .u8) (k' := .i64) (n := 0) rfl (by rw [Try.underlying5]; rfl) Try.underlying3 rfl (Go.IntWalk.i64_in _ ⟨by omega, by omega⟩)) ?_
          refine q_step 1 rfl (opS_bin (k := .i64) (m := 0) (n := 5) rfl rfl rfl (ib_ge (c := false) rfl)) ?_
          refine q_step 1 rfl (o_move (p := (.d (.v (.bool false)))) rfl rfl) ?_
          refine q_step_yes 1 rfl rfl (opS_field_ptr (b := 1) (off := 0) rfl Try.underlying32 rfl sz3 (of_decide_eq_true rfl) rfl) ?_
          refine q_step_yes 1 rfl rfl (opS_load_box (b := 1) (off := 1) (cs := [(.d (.v (.int .u8 0))), (.d (.v (.int .i64 (((l.getD i default).getD j default).a)))), (.d (.v (.int .i64 (((l.getD i default).getD j default).b))))]) (p := (.d (.v (.int .i64 (((l.getD i default).getD j default).a))))) rfl Try.underlying3 rfl rfl rfl rfl) ?_
          refine q_step_yes 1 rfl rfl (opS_field_ptr (b := 1) (off := 0) rfl Try.underlying32 rfl sz5 (of_decide_eq_true rfl) rfl) ?_
          refine q_step_yes 1 rfl rfl (opS_load_box (b := 1) (off := 0) (cs := [(.d (.v (.int .u8 0))), (.d (.v (.int .i64 (((l.getD i default).getD j default).a)))), (.d (.v (.int .i64 (((l.getD i default).getD j default).b))))]) (p := (.d (.v (.int .u8 0)))) rfl Try.underlying5 rfl rfl rfl rfl) ?_
          refine q_step_yes 1 rfl rfl (opS_index_arr_ptr (b := 0) (off := 0) (k := .u8) (n := 0) rfl Try.underlying53 sz52 rfl rfl (of_decide_eq_true rfl)) ?_
          refine q_step_yes 1 rfl rfl (opS_field_ptr (b := 0) (off := 0) rfl Try.underlying52 rfl sz3 (of_decide_eq_true rfl) rfl) ?_
          refine q_step_yes 1 rfl rfl (opS_load_box (b := 0) (off := 0) (cs := [(.d (.v (.int .i64 99))), (.d (.v (.int .i64 0))), (.fn 25 [] []), (.d (.v (.int .i64 5))), (.d (.v (.int .i64 0))), (.fn 26 [] []), (.d (.v (.int .i64 5))), (.d (.v (.int .i64 5))), (.fn 28 [] []), (.d (.v (.int .i64 5))), (.d (.v (.int .i64 8))), (.fn 29 [] []), (.d (.v (.int .i64 0))), (.d (.v (.int .i64 0))), (.fn 30 [] [])]) (p := (.d (.v (.int .i64 99)))) rfl Try.underlying3 rfl rfl rfl rfl) ?_
          refine q_step_yes 1 rfl rfl (opS_call («as» := [(.d (.v (.int .i64 (((l.getD i default).getD j default).a)))), (.d (.v (.int .i64 0))), (.d (.v (.int .i64 99)))]) (r := (.d (.v (.bool true)))) rfl fnok22 rfl (args_ok (by exact .cons (.of_canon rfl) (.cons (.of_canon rfl) (.cons (.of_canon rfl) (.nil))))) (PC.res_eq (PF.at (within_ok (((l.getD i default).getD j default).a) 0 99) _) (congrArg (fun x => PV.d (.v (.bool x))) (decide_eq_true hc3)))) ?_
          refine q_step_yes 1 rfl rfl (opS_not (b := true) rfl rfl) ?_
          refine q_step 1 rfl (o_pick_f (p := (.d (.v (.bool false)))) rfl rfl rfl) ?_
          refine q_step 1 rfl (o_move (p := (.d (.v (.bool false)))) rfl rfl) ?_
          refine q_step_yes 1 rfl rfl (opS_field_ptr (b := 1) (off := 0) rfl Try.underlying32 rfl sz3 (of_decide_eq_true rfl) rfl) ?_
          refine q_step_yes 1 rfl rfl (opS_load_box (b := 1) (off := 2) (cs := [(.d (.v (.int .u8 0))), (.d (.v (.int .i64 (((l.getD i default).getD j default).a)))), (.d (.v (.int .i64 (((l.getD i default).getD j default).b))))]) (p := (.d (.v (.int .i64 (((l.getD i default).getD j default).b))))) rfl Try.underlying3 rfl rfl rfl rfl) ?_
          refine q_step_yes 1 rfl rfl (opS_field_ptr (b := 1) (off := 0) rfl Try.underlying32 rfl sz5 (of_decide_eq_true rfl) rfl) ?_
          refine q_step_yes 1 rfl rfl (opS_load_box (b := 1) (off := 0) (cs := [(.d (.v (.int .u8 0))), (.d (.v (.int .i64 (((l.getD i default).getD j default).a)))), (.d (.v (.int .i64 (((l.getD i default).getD j default).b))))]) (p := (.d (.v (.int .u8 0)))) rfl Try.underlying5 rfl rfl rfl rfl) ?_
          refine q_step_yes 1 rfl rfl (opS_index_arr_ptr (b := 0) (off := 0) (k := .u8) (n := 0) rfl Try.underlying53 sz52 rfl rfl (of_decide_eq_true rfl)) ?_
          refine q_step_yes 1 rfl rfl (opS_field_ptr (b := 0) (off := 0) rfl Try.underlying52 rfl sz3 (of_decide_eq_true rfl) rfl) ?_
          refine q_step_yes 1 rfl rfl (opS_load_box (b := 0) (off := 1) (cs := [(.d (.v (.int .i64 99))), (.d (.v (.int .i64 0))), (.fn 25 [] []), (.d (.v (.int .i64 5))), (.d (.v (.int .i64 0))), (.fn 26 [] []), (.d (.v (.int .i64 5))), (.d (.v (.int .i64 5))), (.fn 28 [] []), (.d (.v (.int .i64 5))), (.d (.v (.int .i64 8))), (.fn 29 [] []), (.d (.v (.int .i64 0))), (.d (.v (.int .i64 0))), (.fn 30 [] [])]) (p := (.d (.v (.int .i64 0)))) rfl Try.underlying3 rfl rfl rfl rfl) ?_
          refine q_step_yes 1 rfl rfl (opS_call («as» := [(.d (.v (.int .i64 (((l.getD i default).getD j default).b)))), (.d (.v (.int .i64 0))), (.d (.v (.int .i64 0)))]) (r := (.d (.v (.bool (decide (0 ≤ (((l.getD i default).getD j default).b) ∧ (((l.getD i default).getD j default).b) ≤ 0)))))) rfl fnok22 rfl (args_ok (by exact .cons (.of_canon rfl) (.cons (.of_canon rfl) (.cons (.of_canon rfl) (.nil))))) (PF.at (within_ok (((l.getD i default).getD j default).b) 0 0) _)) ?_
          refine q_step_yes 1 rfl rfl (opS_not (b := decide (0 ≤ (((l.getD i default).getD j default).b) ∧ (((l.getD i default).getD j default).b) ≤ 0)) rfl rfl) ?_
          refine q_step 1 rfl (o_pick_f (p := (.d (.v (.bool (!decide (0 ≤ (((l.getD i default).getD j default).b) ∧ (((l.getD i default).getD j default).b) ≤ 0)))))) rfl rfl rfl) ?_
          refine q_nil ?_
          refine pw_cond (b := !decide (0 ≤ (((l.getD i default).getD j default).b) ∧ (((l.getD i default).getD j default).b) ≤ 0)) rfl (fun hb4 => ?_) (fun hb4 => ?_)
          ·
            replace hb4 := not_dec_true hb4
            refine pw_seq ?_
            refine pw_region ?_
            refine pwl_step 1 rfl (o_assign (p := (.d (.v (.bool false)))) rfl rfl) ?_
            refine pwl_nil ?_
            refine pw_ret ?_
            exact ⟨.inr rfl, rfl, rfl, rfl, ⟨_, (.cons _ _ _ _ (.tmp (of_decide_eq_true rfl) (PVle.of_canon (p := (.d (.v (.bool false)))) (by simp only [PV.canon]; first | (rw [right_end hE (by omega)]) | (rw [right_long (i := i) (by omega) (by omega)]) | (rw [right_bad (i := i) (j := j) (by omega) (by omega) (by first | (rw [one_0 hq]; exact decide_eq_false (by omega)) | (rw [one_1 hq]; exact decide_eq_false (by omega)) | (rw [one_2 hq]; exact decide_eq_false (by omega)) | (rw [one_3 hq]; exact decide_eq_false (by omega)) | (rw [one_4 hq]; exact decide_eq_false (by omega)) | exact one_5 hq)])))) .nil), rfl⟩⟩
          ·
            replace hb4 := not_dec_false hb4
            refine pw_skip ?_
            refine pw_region ?_
            refine pwl_step 1 rfl (opS_bin (k := .i64) (m := ((j : Nat) : Int)) (n := 1) rfl rfl rfl (ib_add (by omega) (by omega))) ?_
            refine pwl_step 1 rfl (o_move (p := (.d (.v (.int .i64 (((j : Nat) : Int) + 1))))) rfl rfl) ?_
            refine pwl_nil ?_
            exact ⟨j + 1, ⟨by omega, all_next (by omega) hE1 (by first | (rw [one_0 hq]; exact decide_eq_true (by omega)) | (rw [one_1 hq]; exact decide_eq_true (by omega)) | (rw [one_2 hq]; exact decide_eq_true (by omega)) | (rw [one_3 hq]; exact decide_eq_true (by omega)) | (rw [one_4 hq]; exact decide_eq_true (by omega)))⟩, by simp only []; omega, Wk.ofL_cut (nb := 1) (nt := 0) (by exact hb0.gl (by decide)) (by rw [ht0]; decide) rfl (rfl) (.cons .rfl' (.cons .rfl' (.cons .rfl' (.cons .rfl' (.cons .rfl' (.cons .rfl' (.cons .rfl' (.cons .rfl' (.cons (PVle.of_eq (p := (.d (.v (.int .i64 (((j : Nat) : Int) + 1))))) (q := _) (by first | rfl | (congr 3; omega))) .nil))))))))) rfl (okB_cons rfl rfl)⟩
        ·
          refine pw_quiet Trymixed (by kernel_rfl) ?_
          refine q_step 1 rfl (opS_field_ptr (b := 1) (off := 0) rfl Try.underlying32 rfl sz5 (of_decide_eq_true rfl) rfl) ?_
          refine q_step 1 rfl (opS_load_box (b := 1) (off := 0) (cs := [(.d (.v (.int .u8 0))), (.d (.v (.int .i64 (((l.getD i default).getD j default).a)))), (.d (.v (.int .i64 (((l.getD i default).getD j default).b))))]) (p := (.d (.v (.int .u8 0)))) rfl Try.underlying5 rfl rfl rfl rfl) ?_
          refine q_step 1 rfl (o_conv (k := .u8) (k' := .i64) (n := 0) rfl (by rw [Try.underlying5]; rfl) Try.underlying3 rfl (Go.IntWalk.i64_in _ ⟨by omega, by omega⟩)) ?_
          refine q_step 1 rfl (opS_bin (k := .i64) (m := 0) (n := 5) rfl rfl rfl (ib_ge (c := false) rfl)) ?_
          refine q_step 1 rfl (o_move (p := (.d (.v (.bool false)))) rfl rfl) ?_
          refine q_step_yes 1 rfl rfl (opS_field_ptr (b := 1) (off := 0) rfl Try.underlying32 rfl sz3 (of_decide_eq_true rfl) rfl) ?_
          refine q_step_yes 1 rfl rfl (opS_load_box (b := 1) (off := 1) (cs := [(.d (.v (.int .u8 0))), (.d (.v (.int .i64 (((l.getD i default).getD j default).a)))), (.d (.v (.int .i64 (((l.getD i default).getD j default).b))))]) (p := (.d (.v (.int .i64 (((l.getD i default).getD j default).a))))) rfl Try.underlying3 rfl rfl rfl rfl) ?_
          refine q_step_yes 1 rfl rfl (opS_field_ptr (b := 1) (off := 0) rfl Try.underlying32 rfl sz5 (of_decide_eq_true rfl) rfl) ?_
          refine q_step_yes 1 rfl rfl (opS_load_box (b := 1) (off := 0) (cs := [(.d (.v (.int .u8 0))), (.d (.v (.int .i64 (((l.getD i default).getD j default).a)))), (.d (.v (.int .i64 (((l.getD i default).getD j default).b))))]) (p := (.d (.v (.int .u8 0)))) rfl Try.underlying5 rfl rfl rfl rfl) ?_
          refine q_step_yes 1 rfl rfl (opS_index_arr_ptr (b := 0) (off := 0) (k := .u8) (n := 0) rfl Try.underlying53 sz52 rfl rfl (of_decide_eq_true rfl)) ?_
          refine q_step_yes 1 rfl rfl (opS_field_ptr (b := 0) (off := 0) rfl Try.underlying52 rfl sz3 (of_decide_eq_true rfl) rfl) ?_
          refine q_step_yes 1 rfl rfl (opS_load_box (b := 0) (off := 0) (cs := [(.d (.v (.int .i64 99))), (.d (.v (.int .i64 0))), (.fn 25 [] []), (.d (.v (.int .i64 5))), (.d (.v (.int .i64 0))), (.fn 26 [] []), (.d (.v (.int .i64 5))), (.d (.v (.int .i64 5))), (.fn 28 [] []), (.d (.v (.int .i64 5))), (.d (.v (.int .i64 8))), (.fn 29 [] []), (.d (.v (.int .i64 0))), (.d (.v (.int .i64 0))), (.fn 30 [] [])]) (p := (.d (.v (.int .i64 99)))) rfl Try.underlying3 rfl rfl rfl rfl) ?_
          refine q_step_yes 1 rfl rfl (opS_call («as» := [(.d (.v (.int .i64 (((l.getD i default).getD j default).a)))), (.d (.v (.int .i64 0))), (.d (.v (.int .i64 99)))]) (r := (.d (.v (.bool false)))) rfl fnok22 rfl (args_ok (by exact .cons (.of_canon rfl) (.cons (.of_canon rfl) (.cons (.of_canon rfl) (.nil))))) (PC.res_eq (PF.at (within_ok (((l.getD i default).getD j default).a) 0 99) _) (congrArg (fun x => PV.d (.v (.bool x))) (decide_eq_false hc3)))) ?_
          refine q_step_yes 1 rfl rfl (opS_not (b := false) rfl rfl) ?_
          refine q_step 1 rfl (o_pick_f (p := (.d (.v (.bool true)))) rfl rfl rfl) ?_
          refine q_step 1 rfl (o_move (p := (.d (.v (.bool true)))) rfl rfl) ?_
          refine q_step_no rfl rfl ?_
          refine q_step_no rfl rfl ?_
          refine q_step_no rfl rfl ?_
          refine q_step_no rfl rfl ?_
          refine q_step_no rfl rfl ?_
          refine q_step_no rfl rfl ?_
          refine q_step_no rfl rfl ?_
          refine q_step_no rfl rfl ?_
          refine q_step_no rfl rfl ?_
          refine q_step 1 rfl (o_pick_t (p := (.d (.v (.bool true)))) rfl rfl rfl) ?_
          refine q_nil ?_
          refine pw_cond (b := true) rfl (fun _ => ?_) (fun h => by cases h)
          refine pw_seq ?_
          refine pw_region ?_
          refine pwl_step 1 rfl (o_assign (p := (.d (.v (.bool false)))) rfl rfl) ?_
          refine pwl_nil ?_
          refine pw_ret ?_
          exact ⟨.inr rfl, rfl, rfl, rfl, ⟨_, (.cons _ _ _ _ (.tmp (of_decide_eq_true rfl) (PVle.of_canon (p := (.d (.v (.bool false)))) (by simp only [PV.canon]; first | (rw [right_end hE (by omega)]) | (rw [right_long (i := i) (by omega) (by omega)]) | (rw [right_bad (i := i) (j := j) (by omega) (by omega) (by first | (rw [one_0 hq]; exact decide_eq_false (by omega)) | (rw [one_1 hq]; exact decide_eq_false (by omega)) | (rw [one_2 hq]; exact decide_eq_false (by omega)) | (rw [one_3 hq]; exact decide_eq_false (by omega)) | (rw [one_4 hq]; exact decide_eq_false (by omega)) | exact one_5 hq)])))) .nil), rfl⟩⟩
      ·
        have hcell := map_get_op (xs := l.getD i default) (i := j) (by omega) hq
        refine pw_region ?_
        refine pwl_step 1 rfl (opS_index (sz := 3) (es := ((l.getD i default).map eF)) (k := .i64) (n := ((j : Nat) : Int)) (e := [(.v (.int .u8 1)), (.v (.int .i64 (((l.getD i default).getD j default).a))), (.v (.int .i64 (((l.getD i default).getD j default).b)))]) rfl Try.underlying22 sz32 rfl rfl (by omega) hcell) ?_
        refine pwl_step 1 rfl (opS_load_rp_agg (cs := [(.v (.int .u8 1)), (.v (.int .i64 (((l.getD i default).getD j default).a))), (.v (.int .i64 (((l.getD i default).getD j default).b)))]) rfl Try.underlying32 rfl sz32 rfl (of_decide_eq_true rfl)) ?_
        refine pwl_step 1 rfl (o_alloc rfl ti32 zs32) ?_
        refine pwl_step 1 rfl (opS_store (b := 1) (off := 0) (cs := [(.d (.v (.int .u8 0))), (.d (.v (.int .i64 0))), (.d (.v (.int .i64 0)))]) (ps := [(.d (.v (.int .u8 1))), (.d (.v (.int .i64 (((l.getD i default).getD j default).a)))), (.d (.v (.int .i64 (((l.getD i default).getD j default).b))))]) rfl sz32 rfl rfl rfl rfl (of_decide_eq_true rfl) (List.cons_ne_nil _ _)) ?_
        refine pwl_nil ?_
        refine pw_seq ?_
        refine pw_wk (Wk.ofL (n := 55) (l := [(0, (.d (.sl 1 false (l.map eL)))), (3, (.ptr 0 0)), (5, (.d (.sl 3 false ((l.getD i default).map eF)))), (7, (.ptr 1 0)), (9, (.d (.sl 1 false (l.map eL)))), (10, (.d (.v (.int .i64 (((l.length : Nat)) : Int))))), (11, (.d (.v (.int .i64 ((i : Nat) : Int))))), (15, (.d (.sl 3 false ((l.getD i default).map eF)))), (16, (.d (.v (.int .i64 ((((l.getD i default).length : Nat)) : Int))))), (17, (.d (.v (.int .i64 ((j : Nat) : Int)))))]) (S := ⟨[some [(.d (.v (.int .i64 99))), (.d (.v (.int .i64 0))), (.fn 25 [] []), (.d (.v (.int .i64 5))), (.d (.v (.int .i64 0))), (.fn 26 [] []), (.d (.v (.int .i64 5))), (.d (.v (.int .i64 5))), (.fn 28 [] []), (.d (.v (.int .i64 5))), (.d (.v (.int .i64 8))), (.fn 29 [] []), (.d (.v (.int .i64 0))), (.d (.v (.int .i64 0))), (.fn 30 [] [])], some [(.d (.v (.int .u8 1))), (.d (.v (.int .i64 (((l.getD i default).getD j default).a)))), (.d (.v (.int .i64 (((l.getD i default).getD j default).b))))]], []⟩) rfl rfl (.cons .rfl' (.cons .rfl' (.cons .rfl' (.cons .rfl' (.cons .rfl' (.cons .rfl' (.cons .rfl' (.cons .rfl' (.cons .rfl' (.cons .rfl' .nil))))))))))) ?_
        by_cases hc5 : 0 ≤ (((l.getD i default).getD j default).a) ∧ (((l.getD i default).getD j default).a) ≤ 5
        ·
          refine pw_quiet Trymixed (by kernel_rfl) ?_
          refine q_step 1 rfl (opS_field_ptr (b := 1) (off := 0) rfl Try.underlying32 rfl sz5 (of_decide_eq_true rfl) rfl) ?_
          refine q_step 1 rfl (opS_load_box (b := 1) (off := 0) (cs := [(.d (.v (.int .u8 1))), (.d (.v (.int .i64 (((l.getD i default).getD j default).a)))), (.d (.v (.int .i64 (((l.getD i default).getD j default).b))))]) (p := (.d (.v (.int .u8 1)))) rfl Try.underlying5 rfl rfl rfl rfl) ?_
          refine q_step 1 rfl (o_conv (k := .u8) (k' := .i64) (n := 1) rfl (by rw [Try.underlying5]; rfl) Try.underlying3 rfl (Go.IntWalk.i64_in _ ⟨by omega, by omega⟩)) ?_
          refine q_step 1 rfl (opS_bin (k := .i64) (m := 1) (n := 5) rfl rfl rfl (ib_ge (c := false) rfl)) ?_
          refine q_step 1 rfl (o_move (p := (.d (.v (.bool false)))) rfl rfl) ?_
          refine q_step_yes 1 rfl rfl (opS_field_ptr (b := 1) (off := 0) rfl Try.underlying32 rfl sz3 (of_decide_eq_true rfl) rfl) ?_
          refine q_step_yes 1 rfl rfl (opS_load_box (b := 1) (off := 1) (cs := [(.d (.v (.int .u8 1))), (.d (.v (.int .i64 (((l.getD i default).getD j default).a)))), (.d (.v (.int .i64 (((l.getD i default).getD j default).b))))]) (p := (.d (.v (.int .i64 (((l.getD i default).getD j default).a))))) rfl Try.underlying3 rfl rfl rfl rfl) ?_
          refine q_step_yes 1 rfl rfl (opS_field_ptr (b := 1) (off := 0) rfl Try.underlying32 rfl sz5 (of_decide_eq_true rfl) rfl) ?_
          refine q_step_yes 1 rfl rfl (opS_load_box (b := 1) (off := 0) (cs := [(.d (.v (.int .u8 1))), (.d (.v (.int .i64 (((l.getD i default).getD j default).a)))), (.d (.v (.int .i64 (((l.getD i default).getD j default).b))))]) (p := (.d (.v (.int .u8 1)))) rfl Try.underlying5 rfl rfl rfl rfl) ?_
          refine q_step_yes 1 rfl rfl (opS_index_arr_ptr (b := 0) (off := 0) (k := .u8) (n := 1) rfl Try.underlying53 sz52 rfl rfl (of_decide_eq_true rfl)) ?_
          refine q_step_yes 1 rfl rfl (opS_field_ptr (b := 0) (off := 3) rfl Try.underlying52 rfl sz3 (of_decide_eq_true rfl) rfl) ?_
          refine q_step_yes 1 rfl rfl (opS_load_box (b := 0) (off := 3) (cs := [(.d (.v (.int .i64 99))), (.d (.v (.int .i64 0))), (.fn 25 [] []), (.d (.v (.int .i64 5))), (.d (.v (.int .i64 0))), (.fn 26 [] []), (.d (.v (.int .i64 5))), (.d (.v (.int .i64 5))), (.fn 28 [] []), (.d (.v (.int .i64 5))), (.d (.v (.int .i64 8))), (.fn 29 [] []), (.d (.v (.int .i64 0))), (.d (.v (.int .i64 0))), (.fn 30 [] [])]) (p := (.d (.v (.int .i64 5)))) rfl Try.underlying3 rfl rfl rfl rfl) ?_
          refine q_step_yes 1 rfl rfl (opS_call («as» := [(.d (.v (.int .i64 (((l.getD i default).getD j default).a)))), (.d (.v (.int .i64 0))), (.d (.v (.int .i64 5)))]) (r := (.d (.v (.bool true)))) rfl fnok22 rfl (args_ok (by exact .cons (.of_canon rfl) (.cons (.of_canon rfl) (.cons (.of_canon rfl) (.nil))))) (PC.res_eq (PF.at (within_ok (((l.getD i default).getD j default).a) 0 5) _) (congrArg (fun x => PV.d (.v (.bool x))) (decide_eq_true hc5)))) ?_
          refine q_step_yes 1 rfl rfl (opS_not (b := true) rfl rfl) ?_
          refine q_step 1 rfl (o_pick_f (p := (.d (.v (.bool false)))) rfl rfl rfl) ?_
          refine q_step 1 rfl (o_move (p := (.d (.v (.bool false)))) rfl rfl) ?_
          refine q_step_yes 1 rfl rfl (opS_field_ptr (b := 1) (off := 0) rfl Try.underlying32 rfl sz3 (of_decide_eq_true rfl) rfl) ?_
          refine q_step_yes 1 rfl rfl (opS_load_box (b := 1) (off := 2) (cs := [(.d (.v (.int .u8 1))), (.d (.v (.int .i64 (((l.getD i default).getD j default).a)))), (.d (.v (.int .i64 (((l.getD i default).getD j default).b))))]) (p := (.d (.v (.int .i64 (((l.getD i default).getD j default).b))))) rfl Try.underlying3 rfl rfl rfl rfl) ?_
          refine q_step_yes 1 rfl rfl (opS_field_ptr (b := 1) (off := 0) rfl Try.underlying32 rfl sz5 (of_decide_eq_true rfl) rfl) ?_
          refine q_step_yes 1 rfl rfl (opS_load_box (b := 1) (off := 0) (cs := [(.d (.v (.int .u8 1))), (.d (.v (.int .i64 (((l.getD i default).getD j default).a)))), (.d (.v (.int .i64 (((l.getD i default).getD j default).b))))]) (p := (.d (.v (.int .u8 1)))) rfl Try.underlying5 rfl rfl rfl rfl) ?_
          refine q_step_yes 1 rfl rfl (opS_index_arr_ptr (b := 0) (off := 0) (k := .u8) (n := 1) rfl Try.underlying53 sz52 rfl rfl (of_decide_eq_true rfl)) ?_
          refine q_step_yes 1 rfl rfl (opS_field_ptr (b := 0) (off := 3) rfl Try.underlying52 rfl sz3 (of_decide_eq_true rfl) rfl) ?_
          refine q_step_yes 1 rfl rfl (opS_load_box (b := 0) (off := 4) (cs := [(.d (.v (.int .i64 99))), (.d (.v (.int .i64 0))), (.fn 25 [] []), (.d (.v (.int .i64 5))), (.d (.v (.int .i64 0))), (.fn 26 [] []), (.d (.v (.int .i64 5))), (.d (.v (.int .i64 5))), (.fn 28 [] []), (.d (.v (.int .i64 5))), (.d (.v (.int .i64 8))), (.fn 29 [] []), (.d (.v (.int .i64 0))), (.d (.v (.int .i64 0))), (.fn 30 [] [])]) (p := (.d (.v (.int .i64 0)))) rfl Try.underlying3 rfl rfl rfl rfl) ?_
          refine q_step_yes 1 rfl rfl (opS_call («as» := [(.d (.v (.int .i64 (((l.getD i default).getD j default).b)))), (.d (.v (.int .i64 0))), (.d (.v (.int .i64 0)))]) (r := (.d (.v (.bool (decide (0 ≤ (((l.getD i default).getD j default).b) ∧ (((l.getD i default).getD j default).b) ≤ 0)))))) rfl fnok22 rfl (args_ok (by exact .cons (.of_canon rfl) (.cons (.of_canon rfl) (.cons (.of_canon rfl) (.nil))))) (PF.at (within_ok (((l.getD i default).getD j default).b) 0 0) _)) ?_
          refine q_step_yes 1 rfl rfl (opS_not (b := decide (0 ≤ (((l.getD i default).getD j default).b) ∧ (((l.getD i default).getD j default).b) ≤ 0)) rfl rfl) ?_
          refine q_step 1 rfl (o_pick_f (p := (.d (.v (.bool (!decide (0 ≤ (((l.getD i default).getD j default).b) ∧ (((l.getD i default).getD j default).b) ≤ 0)))))) rfl rfl rfl) ?_
          refine q_nil ?_
          refine pw_cond (b := !decide (0 ≤ (((l.getD i default).getD j default).b) ∧ (((l.getD i default).getD j default).b) ≤ 0)) rfl (fun hb6 => ?_) (fun hb6 => ?_)
          ·
            replace hb6 := not_dec_true hb6
            refine pw_seq ?_
            refine pw_region ?_
            refine pwl_step 1 rfl (o_assign (p := (.d (.v (.bool false)))) rfl rfl) ?_
            refine pwl_nil ?_
            refine pw_ret ?_
            exact ⟨.inr rfl, rfl, rfl, rfl, ⟨_, (.cons _ _ _ _ (.tmp (of_decide_eq_true rfl) (PVle.of_canon (p := (.d (.v (.bool false)))) (by simp only [PV.canon]; first | (rw [right_end hE (by omega)]) | (rw [right_long (i := i) (by omega) (by omega)]) | (rw [right_bad (i := i) (j := j) (by omega) (by omega) (by first | (rw [one_0 hq]; exact decide_eq_false (by omega)) | (rw [one_1 hq]; exact decide_eq_false (by omega)) | (rw [one_2 hq]; exact decide_eq_false (by omega)) | (rw [one_3 hq]; exact decide_eq_false (by omega)) | (rw [one_4 hq]; exact decide_eq_false (by omega)) | exact one_5 hq)])))) .nil), rfl⟩⟩
          ·
            replace hb6 := not_dec_false hb6
            refine pw_skip ?_
            refine pw_region ?_
            refine pwl_step 1 rfl (opS_bin (k := .i64) (m := ((j : Nat) : Int)) (n := 1) rfl rfl rfl (ib_add (by omega) (by omega))) ?_
            refine pwl_step 1 rfl (o_move (p := (.d (.v (.int .i64 (((j : Nat) : Int) + 1))))) rfl rfl) ?_
            refine pwl_nil ?_
            exact ⟨j + 1, ⟨by omega, all_next (by omega) hE1 (by first | (rw [one_0 hq]; exact decide_eq_true (by omega)) | (rw [one_1 hq]; exact decide_eq_true (by omega)) | (rw [one_2 hq]; exact decide_eq_true (by omega)) | (rw [one_3 hq]; exact decide_eq_true (by omega)) | (rw [one_4 hq]; exact decide_eq_true (by omega)))⟩, by simp only []; omega, Wk.ofL_cut (nb := 1) (nt := 0) (by exact hb0.gl (by decide)) (by rw [ht0]; decide) rfl (rfl) (.cons .rfl' (.cons .rfl' (.cons .rfl' (.cons .rfl' (.cons .rfl' (.cons .rfl' (.cons .rfl' (.cons .rfl' (.cons (PVle.of_eq (p := (.d (.v (.int .i64 (((j : Nat) : Int) + 1))))) (q := _) (by first | rfl | (congr 3; omega))) .nil))))))))) rfl (okB_cons rfl rfl)⟩
        ·
          refine pw_quiet Trymixed (by kernel_rfl) ?_
          refine q_step 1 rfl (opS_field_ptr (b := 1) (off := 0) rfl Try.underlying32 rfl sz5 (of_decide_eq_true rfl) rfl) ?_
          refine q_step 1 rfl (opS_load_box (b := 1) (off := 0) (cs := [(.d (.v (.int .u8 1))), (.d (.v (.int .i64 (((l.getD i default).getD j default).a)))), (.d (.v (.int .i64 (((l.getD i default).getD j default).b))))]) (p := (.d (.v (.int .u8 1)))) rfl Try.underlying5 rfl rfl rfl rfl) ?_
          refine q_step 1 rfl (o_conv (k := .u8) (k' := .i64) (n := 1) rfl (by rw [Try.underlying5]; rfl) Try.underlying3 rfl (Go.IntWalk.i64_in _ ⟨by omega, by omega⟩)) ?_
          refine q_step 1 rfl (opS_bin (k := .i64) (m := 1) (n := 5) rfl rfl rfl (ib_ge (c := false) rfl)) ?_
          refine q_step 1 rfl (o_move (p := (.d (.v (.bool false)))) rfl rfl) ?_
          refine q_step_yes 1 rfl rfl (opS_field_ptr (b := 1) (off := 0) rfl Try.underlying32 rfl sz3 (of_decide_eq_true rfl) rfl) ?_
          refine q_step_yes 1 rfl rfl (opS_load_box (b := 1) (off := 1) (cs := [(.d (.v (.int .u8 1))), (.d (.v (.int .i64 (((l.getD i default).getD j default).a)))), (.d (.v (.int .i64 (((l.getD i default).getD j default).b))))]) (p := (.d (.v (.int .i64 (((l.getD i default).getD j default).a))))) rfl Try.underlying3 rfl rfl rfl rfl) ?_
          refine q_step_yes 1 rfl rfl (opS_field_ptr (b := 1) (off := 0) rfl Try.underlying32 rfl sz5 (of_decide_eq_true rfl) rfl) ?_
          refine q_step_yes 1 rfl rfl (opS_load_box (b := 1) (off := 0) (cs := [(.d (.v (.int .u8 1))), (.d (.v (.int .i64 (((l.getD i default).getD j default).a)))), (.d (.v (.int .i64 (((l.getD i default).getD j default).b))))]) (p := (.d (.v (.int .u8 1)))) rfl Try.underlying5 rfl rfl rfl rfl) ?_
          refine q_step_yes 1 rfl rfl (opS_index_arr_ptr (b := 0) (off := 0) (k := .u8) (n := 1) rfl Try.underlying53 sz52 rfl rfl (of_decide_eq_true rfl)) ?_
          refine q_step_yes 1 rfl rfl (opS_field_ptr (b := 0) (off := 3) rfl Try.underlying52 rfl sz3 (of_decide_eq_true rfl) rfl) ?_
          refine q_step_yes 1 rfl rfl (opS_load_box (b := 0) (off := 3) (cs := [(.d (.v (.int .i64 99))), (.d (.v (.int .i64 0))), (.fn 25 [] []), (.d (.v (.int .i64 5))), (.d (.v (.int .i64 0))), (.fn 26 [] []), (.d (.v (.int .i64 5))), (.d (.v (.int .i64 5))), (.fn 28 [] []), (.d (.v (.int .i64 5))), (.d (.v (.int .i64 8))), (.fn 29 [] []), (.d (.v (.int .i64 0))), (.d (.v (.int .i64 0))), (.fn 30 [] [])]) (p := (.d (.v (.int .i64 5)))) rfl Try.underlying3 rfl rfl rfl rfl) ?_
          refine q_step_yes 1 rfl rfl (opS_call («as» := [(.d (.v (.int .i64 (((l.getD i default).getD j default).a)))), (.d (.v (.int .i64 0))), (.d (.v (.int .i64 5)))]) (r := (.d (.v (.bool false)))) rfl fnok22 rfl (args_ok (by exact .cons (.of_canon rfl) (.cons (.of_canon rfl) (.cons (.of_canon rfl) (.nil))))) (PC.res_eq (PF.at (within_ok (((l.getD i default).getD j default).a) 0 5) _) (congrArg (fun x => PV.d (.v (.bool x))) (decide_eq_false hc5)))) ?_
          refine q_step_yes 1 rfl rfl (opS_not (b := false) rfl rfl) ?_
          refine q_step 1 rfl (o_pick_f (p := (.d (.v (.bool true)))) rfl rfl rfl) ?_
          refine q_step 1 rfl (o_move (p := (.d (.v (.bool true)))) rfl rfl) ?_
          refine q_step_no rfl rfl ?_
          refine q_step_no rfl rfl ?_
          refine q_step_no rfl rfl ?_
          refine q_step_no rfl rfl ?_
          refine q_step_no rfl rfl ?_
          refine q_step_no rfl rfl ?_
          refine q_step_no rfl rfl ?_
          refine q_step_no rfl rfl ?_
          refine q_step_no rfl rfl ?_
          refine q_step 1 rfl (o_pick_t (p := (.d (.v (.bool true)))) rfl rfl rfl) ?_
          refine q_nil ?_
          refine pw_cond (b := true) rfl (fun _ => ?_) (fun h => by cases h)
          refine pw_seq ?_
          refine pw_region ?_
          refine pwl_step 1 rfl (o_assign (p := (.d (.v (.bool false)))) rfl rfl) ?_
          refine pwl_nil ?_
          refine pw_ret ?_
          exact ⟨.inr rfl, rfl, rfl, rfl, ⟨_, (.cons _ _ _ _ (.tmp (of_decide_eq_true rfl) (PVle.of_canon (p := (.d (.v (.bool false)))) (by simp only [PV.canon]; first | (rw [right_end hE (by omega)]) | (rw [right_long (i := i) (by omega) (by omega)]) | (rw [right_bad (i := i) (j := j) (by omega) (by omega) (by first | (rw [one_0 hq]; exact decide_eq_false (by omega)) | (rw [one_1 hq]; exact decide_eq_false (by omega)) | (rw [one_2 hq]; exact decide_eq_false (by omega)) | (rw [one_3 hq]; exact decide_eq_false (by omega)) | (rw [one_4 hq]; exact decide_eq_false (by omega)) | exact one_5 hq)])))) .nil), rfl⟩⟩
      ·
        have hcell := map_get_op (xs := l.getD i default) (i := j) (by omega) hq
        refine pw_region ?_
        refine pwl_step 1 rfl (opS_index (sz := 3) (es := ((l.getD i default).map eF)) (k := .i64) (n := ((j : Nat) : Int)) (e := [(.v (.int .u8 2)), (.v (.int .i64 (((l.getD i default).getD j default).a))), (.v (.int .i64 (((l.getD i default).getD j default).b)))]) rfl Try.underlying22 sz32 rfl rfl (by omega) hcell) ?_
        refine pwl_step 1 rfl (opS_load_rp_agg (cs := [(.v (.int .u8 2)), (.v (.int .i64 (((l.getD i default).getD j default).a))), (.v (.int .i64 (((l.getD i default).getD j default).b)))]) rfl Try.underlying32 rfl sz32 rfl (of_decide_eq_true rfl)) ?_
        refine pwl_step 1 rfl (o_alloc rfl ti32 zs32) ?_
        refine pwl_step 1 rfl (opS_store (b := 1) (off := 0) (cs := [(.d (.v (.int .u8 0))), (.d (.v (.int .i64 0))), (.d (.v (.int .i64 0)))]) (ps := [(.d (.v (.int .u8 2))), (.d (.v (.int .i64 (((l.getD i default).getD j default).a)))), (.d (.v (.int .i64 (((l.getD i default).getD j default).b))))]) rfl sz32 rfl rfl rfl rfl (of_decide_eq_true rfl) (List.cons_ne_nil _ _)) ?_
        refine pwl_nil ?_
        refine pw_seq ?_
        refine pw_wk (Wk.ofL (n := 55) (l := [(0, (.d (.sl 1 false (l.map eL)))), (3, (.ptr 0 0)), (5, (.d (.sl 3 false ((l.getD i default).map eF)))), (7, (.ptr 1 0)), (9, (.d (.sl 1 false (l.map eL)))), (10, (.d (.v (.int .i64 (((l.length : Nat)) : Int))))), (11, (.d (.v (.int .i64 ((i : Nat) : Int))))), (15, (.d (.sl 3 false ((l.getD i default).map eF)))), (16, (.d (.v (.int .i64 ((((l.getD i default).length : Nat)) : Int))))), (17, (.d (.v (.int .i64 ((j : Nat) : Int)))))]) (S := ⟨[some [(.d (.v (.int .i64 99))), (.d (.v (.int .i64 0))), (.fn 25 [] []), (.d (.v (.int .i64 5))), (.d (.v (.int .i64 0))), (.fn 26 [] []), (.d (.v (.int .i64 5))), (.d (.v (.int .i64 5))), (.fn 28 [] []), (.d (.v (.int .i64 5))), (.d (.v (.int .i64 8))), (.fn 29 [] []), (.d (.v (.int .i64 0))), (.d (.v (.int .i64 0))), (.fn 30 [] [])], some [(.d (.v (.int .u8 2))), (.d (.v (.int .i64 (((l.getD i default).getD j default).a)))), (.d (.v (.int .i64 (((l.getD i default).getD j default).b))))]], []⟩) rfl rfl (.cons .rfl' (.cons .rfl' (.cons .rfl' (.cons .rfl' (.cons .rfl' (.cons .rfl' (.cons .rfl' (.cons .rfl' (.cons .rfl' (.cons .rfl' .nil))))))))))) ?_
        by_cases hc7 : 0 ≤ (((l.getD i default).getD j default).a) ∧ (((l.getD i default).getD j default).a) ≤ 5
        ·
          refine pw_quiet Trymixed (by kernel_rfl) ?_
          refine q_step 1 rfl (opS_field_ptr (b := 1) (off := 0) rfl Try.underlying32 rfl sz5 (of_decide_eq_true rfl) rfl) ?_
          refine q_step 1 rfl (opS_load_box (b := 1) (off := 0) (cs := [(.d (.v (.int .u8 2))), (.d (.v (.int .i64 (((l.getD i default).getD j default).a)))), (.d (.v (.int .i64 (((l.getD i default).getD j default).b))))]) (p := (.d (.v (.int .u8 2)))) rfl Try.underlying5 rfl rfl rfl rfl) ?_
          refine q_step 1 rfl (o_conv (k := .u8) (k' := .i64) (n := 2) rfl (by rw [Try.underlying5]; rfl) Try.underlying3 rfl (Go.IntWalk.i64_in _ ⟨by omega, by omega⟩)) ?_
          refine q_step 1 rfl (opS_bin (k := .i64) (m := 2) (n := 5) rfl rfl rfl (ib_ge (c := false) rfl)) ?_
          refine q_step 1 rfl (o_move (p := (.d (.v (.bool false)))) rfl rfl) ?_
          refine q_step_yes 1 rfl rfl (opS_field_ptr (b := 1) (off := 0) rfl Try.underlying32 rfl sz3 (of_decide_eq_true rfl) rfl) ?_
          refine q_step_yes 1 rfl rfl (opS_load_box (b := 1) (off := 1) (cs := [(.d (.v (.int .u8 2))), (.d (.v (.int .i64 (((l.getD i default).getD j default).a)))), (.d (.v (.int .i64 (((l.getD i default).getD j default).b))))]) (p := (.d (.v (.int .i64 (((l.getD i default).getD j default).a))))) rfl Try.underlying3 rfl rfl rfl rfl) ?_
          refine q_step_yes 1 rfl rfl (opS_field_ptr (b := 1) (off := 0) rfl Try.underlying32 rfl sz5 (of_decide_eq_true rfl) rfl) ?_
          refine q_step_yes 1 rfl rfl (opS_load_box (b := 1) (off := 0) (cs := [(.d (.v (.int .u8 2))), (.d (.v (.int .i64 (((l.getD i default).getD j default).a)))), (.d (.v (.int .i64 (((l.getD i default).getD j default).b))))]) (p := (.d (.v (.int .u8 2)))) rfl Try.underlying5 rfl rfl rfl rfl) ?_
          refine q_step_yes 1 rfl rfl (opS_index_arr_ptr (b := 0) (off := 0) (k := .u8) (n := 2) rfl Try.underlying53 sz52 rfl rfl (of_decide_eq_true rfl)) ?_
          refine q_step_yes 1 rfl rfl (opS_field_ptr (b := 0) (off := 6) rfl Try.underlying52 rfl sz3 (of_decide_eq_true rfl) rfl) ?_
          refine q_step_yes 1 rfl rfl (opS_load_box (b := 0) (off := 6) (cs := [(.d (.v (.int .i64 99))), (.d (.v (.int .i64 0))), (.fn 25 [] []), (.d (.v (.int .i64 5))), (.d (.v (.int .i64 0))), (.fn 26 [] []), (.d (.v (.int .i64 5))), (.d (.v (.int .i64 5))), (.fn 28 [] []), (.d (.v (.int .i64 5))), (.d (.v (.int .i64 8))), (.fn 29 [] []), (.d (.v (.int .i64 0))), (.d (.v (.int .i64 0))), (.fn 30 [] [])]) (p := (.d (.v (.int .i64 5)))) rfl Try.underlying3 rfl rfl rfl rfl) ?_
          refine q_step_yes 1 rfl rfl (opS_call («as» := [(.d (.v (.int .i64 (((l.getD i default).getD j default).a)))), (.d (.v (.int .i64 0))), (.d (.v (.int .i64 5)))]) (r := (.d (.v (.bool true)))) rfl fnok22 rfl (args_ok (by exact .cons (.of_canon rfl) (.cons (.of_canon rfl) (.cons (.of_canon rfl) (.nil))))) (PC.res_eq (PF.at (within_ok (((l.getD i default).getD j default).a) 0 5) _) (congrArg (fun x => PV.d (.v (.bool x))) (decide_eq_true hc7)))) ?_
          refine q_step_yes 1 rfl rfl (opS_not (b := true) rfl rfl) ?_
          refine q_step 1 rfl (o_pick_f (p := (.d (.v (.bool false)))) rfl rfl rfl) ?_
          refine q_step 1 rfl (o_move (p := (.d (.v (.bool false)))) rfl rfl) ?_
          refine q_step_yes 1 rfl rfl (opS_field_ptr (b := 1) (off := 0) rfl Try.underlying32 rfl sz3 (of_decide_eq_true rfl) rfl) ?_
          refine q_step_yes 1 rfl rfl (opS_load_box (b := 1) (off := 2) (cs := [(.d (.v (.int .u8 2))), (.d (.v (.int .i64 (((l.getD i default).getD j default).a)))), (.d (.v (.int .i64 (((l.getD i default).getD j default).b))))]) (p := (.d (.v (.int .i64 (((l.getD i default).getD j default).b))))) rfl Try.underlying3 rfl rfl rfl rfl) ?_
          refine q_step_yes 1 rfl rfl (opS_field_ptr (b := 1) (off := 0) rfl Try.underlying32 rfl sz5 (of_decide_eq_true rfl) rfl) ?_
          refine q_step_yes 1 rfl rfl (opS_load_box (b := 1) (off := 0) (cs := [(.d (.v (.int .u8 2))), (.d (.v (.int .i64 (((l.getD i default).getD j default).a)))), (.d (.v (.int .i64 (((l.getD i default).getD j default).b))))]) (p := (.d (.v (.int .u8 2)))) rfl Try.underlying5 rfl rfl rfl rfl) ?_
          refine q_step_yes 1 rfl rfl (opS_index_arr_ptr (b := 0) (off := 0) (k := .u8) (n := 2) rfl Try.underlying53 sz52 rfl rfl (of_decide_eq_true rfl)) ?_
          refine q_step_yes 1 rfl rfl (opS_field_ptr (b := 0) (off := 6) rfl Try.underlying52 rfl sz3 (of_decide_eq_true rfl) rfl) ?_
          refine q_step_yes 1 rfl rfl (opS_load_box (b := 0) (off := 7) (cs := [(.d (.v (.int .i64 99))), (.d (.v (.int .i64 0))), (.fn 25 [] []), (.d (.v (.int .i64 5))), (.d (.v (.int .i64 0))), (.fn 26 [] []), (.d (.v (.int .i64 5))), (.d (.v (.int .i64 5))), (.fn 28 [] []), (.d (.v (.int .i64 5))), (.d (.v (.int .i64 8))), (.fn 29 [] []), (.d (.v (.int .i64 0))), (.d (.v (.int .i64 0))), (.fn 30 [] [])]) (p := (.d (.v (.int .i64 5)))) rfl Try.underlying3 rfl rfl rfl rfl) ?_
          refine q_step_yes 1 rfl rfl (opS_call («as» := [(.d (.v (.int .i64 (((l.getD i default).getD j default).b)))), (.d (.v (.int .i64 0))), (.d (.v (.int .i64 5)))]) (r := (.d (.v (.bool (decide (0 ≤ (((l.getD i default).getD j default).b) ∧ (((l.getD i default).getD j default).b) ≤ 5)))))) rfl fnok22 rfl (args_ok (by exact .cons (.of_canon rfl) (.cons (.of_canon rfl) (.cons (.of_canon rfl) (.nil))))) (PF.at (within_ok (((l.getD i default).getD j default).b) 0 5) _)) ?_
          refine q_step_yes 1 rfl rfl (opS_not (b := decide (0 ≤ (((l.getD i default).getD j default).b) ∧ (((l.getD i default).getD j default).b) ≤ 5)) rfl rfl) ?_
          refine q_step 1 rfl (o_pick_f (p := (.d (.v (.bool (!decide (0 ≤ (((l.getD i default).getD j default).b) ∧ (((l.getD i default).getD j default).b) ≤ 5)))))) rfl rfl rfl) ?_
          refine q_nil ?_
          refine pw_cond (b := !decide (0 ≤ (((l.getD i default).getD j default).b) ∧ (((l.getD i default).getD j default).b) ≤ 5)) rfl (fun hb8 => ?_) (fun hb8 => ?_)
          ·
            replace hb8 := not_dec_true hb8
            refine pw_seq ?_
            refine pw_region ?_
            refine pwl_step 1 rfl (o_assign (p := (.d (.v (.bool false)))) rfl rfl) ?_
            refine pwl_nil ?_
            refine pw_ret ?_
            exact ⟨.inr rfl, rfl, rfl, rfl, ⟨_, (.cons _ _ _ _ (.tmp (of_decide_eq_true rfl) (PVle.of_canon (p := (.d (.v (.bool false)))) (by simp only [PV.canon]; first | (rw [right_end hE (by omega)]) | (rw [right_long (i := i) (by omega) (by omega)]) | (rw [right_bad (i := i) (j := j) (by omega) (by omega) (by first | (rw [one_0 hq]; exact decide_eq_false (by omega)) | (rw [one_1 hq]; exact decide_eq_false (by omega)) | (rw [one_2 hq]; exact decide_eq_false (by omega)) | (rw [one_3 hq]; exact decide_eq_false (by omega)) | (rw [one_4 hq]; exact decide_eq_false (by omega)) | exact one_5 hq)])))) .nil), rfl⟩⟩
          ·
            replace hb8 := not_dec_false hb8
            refine pw_skip ?_
            refine pw_region ?_
            refine pwl_step 1 rfl (opS_bin (k := .i64) (m := ((j : Nat) : Int)) (n := 1) rfl rfl rfl (ib_add (by omega) (by omega))) ?_
            refine pwl_step 1 rfl (o_move (p := (.d (.v (.int .i64 (((j : Nat) : Int) + 1))))) rfl rfl) ?_
            refine pwl_nil ?_
            exact ⟨j + 1, ⟨by omega, all_next (by omega) hE1 (by first | (rw [one_0 hq]; exact decide_eq_true (by omega)) | (rw [one_1 hq]; exact decide_eq_true (by omega)) | (rw [one_2 hq]; exact decide_eq_true (by omega)) | (rw [one_3 hq]; exact decide_eq_true (by omega)) | (rw [one_4 hq]; exact decide_eq_true (by omega)))⟩, by simp only []; omega, Wk.ofL_cut (nb := 1) (nt := 0) (by exact hb0.gl (by decide)) (by rw [ht0]; decide) rfl (rfl) (.cons .rfl' (.cons .rfl' (.cons .rfl' (.cons .rfl' (.cons .rfl' (.cons .rfl' (.cons .rfl' (.cons .rfl' (.cons (PVle.of_eq (p := (.d (.v (.int .i64 (((j : Nat) : Int) + 1))))) (q := _) (by first | rfl | (congr 3; omega))) .nil))))))))) rfl (okB_cons rfl rfl)⟩
        ·
          refine pw_quiet Trymixed (by kernel_rfl) ?_
          refine q_step 1 rfl (opS_field_ptr (b := 1) (off := 0) rfl Try.underlying32 rfl sz5 (of_decide_eq_true rfl) rfl) ?_
          refine q_step 1 rfl (opS_load_box (b := 1) (off := 0) (cs := [(.d (.v (.int .u8 2))), (.d (.v (.int .i64 (((l.getD i default).getD j default).a)))), (.d (.v (.int .i64 (((l.getD i default).getD j default).b))))]) (p := (.d (.v (.int .u8 2)))) rfl Try.underlying5 rfl rfl rfl rfl) ?_
          refine q_step 1 rfl (o_conv (k := .u8) (k' := .i64) (n := 2) rfl (by rw [Try.underlying5]; rfl) Try.underlying3 rfl (Go.IntWalk.i64_in _ ⟨by omega, by omega⟩)) ?_
          refine q_step 1 rfl (opS_bin (k := .i64) (m := 2) (n := 5) rfl rfl rfl (ib_ge (c := false) rfl)) ?_
          refine q_step 1 rfl (o_move (p := (.d (.v (.bool false)))) rfl rfl) ?_
          refine q_step_yes 1 rfl rfl (opS_field_ptr (b := 1) (off := 0) rfl Try.underlying32 rfl sz3 (of_decide_eq_true rfl) rfl) ?_
          refine q_step_yes 1 rfl rfl (opS_load_box (b := 1) (off := 1) (cs := [(.d (.v (.int .u8 2))), (.d (.v (.int .i64 (((l.getD i default).getD j default).a)))), (.d (.v (.int .i64 (((l.getD i default).getD j default).b))))]) (p := (.d (.v (.int .i64 (((l.getD i default).getD j default).a))))) rfl Try.underlying3 rfl rfl rfl rfl) ?_
          refine q_step_yes 1 rfl rfl (opS_field_ptr (b := 1) (off := 0) rfl Try.underlying32 rfl sz5 (of_decide_eq_true rfl) rfl) ?_
          refine q_step_yes 1 rfl rfl (opS_load_box (b := 1) (off := 0) (cs := [(.d (.v (.int .u8 2))), (.d (.v (.int .i64 (((l.getD i default).getD j default).a)))), (.d (.v (.int .i64 (((l.getD i default).getD j default).b))))]) (p := (.d (.v (.int .u8 2)))) rfl Try.underlying5 rfl rfl rfl rfl) ?_
          refine q_step_yes 1 rfl rfl (opS_index_arr_ptr (b := 0) (off := 0) (k := .u8) (n := 2) rfl Try.underlying53 sz52 rfl rfl (of_decide_eq_true rfl)) ?_
          refine q_step_yes 1 rfl rfl (opS_field_ptr (b := 0) (off := 6) rfl Try.underlying52 rfl sz3 (of_decide_eq_true rfl) rfl) ?_
          refine q_step_yes 1 rfl rfl (opS_load_box (b := 0) (off := 6) (cs := [(.d (.v (.int .i64 99))), (.d (.v (.int .i64 0))), (.fn 25 [] []), (.d (.v (.int .i64 5))), (.d (.v (.int .i64 0))), (.fn 26 [] []), (.d (.v (.int .i64 5))), (.d (.v (.int .i64 5))), (.fn 28 [] []), (.d (.v (.int .i64 5))), (.d (.v (.int .i64 8))), (.fn 29 [] []), (.d (.v (.int .i64 0))), (.d (.v (.int .i64 0))), (.fn 30 [] [])]) (p := (.d (.v (.int .i64 5)))) rfl Try.underlying3 rfl rfl rfl rfl) ?_
          refine q_step_yes 1 rfl rfl (opS_call («as» := [(.d (.v (.int .i64 (((l.getD i default).getD j default).a)))), (.d (.v (.int .i64 0))), (.d (.v (.int .i64 5)))]) (r := (.d (.v (.bool false)))) rfl fnok22 rfl (args_ok (by exact .cons (.of_canon rfl) (.cons (.of_canon rfl) (.cons (.of_canon rfl) (.nil))))) (PC.res_eq (PF.at (within_ok (((l.getD i default).getD j default).a) 0 5) _) (congrArg (fun x => PV.d (.v (.bool x))) (decide_eq_false hc7)))) ?_
          refine q_step_yes 1 rfl rfl (opS_not (b := false) rfl rfl) ?_
          refine q_step 1 rfl (o_pick_f (p := (.d (.v (.bool true)))) rfl rfl rfl) ?_
          refine q_step 1 rfl (o_move (p := (.d (.v (.bool true)))) rfl rfl) ?_
          refine q_step_no rfl rfl ?_
          refine q_step_no rfl rfl ?_
          refine q_step_no rfl rfl ?_
          refine q_step_no rfl rfl ?_
          refine q_step_no rfl rfl ?_
          refine q_step_no rfl rfl ?_
          refine q_step_no rfl rfl ?_
          refine q_step_no rfl rfl ?_
          refine q_step_no rfl rfl ?_
          refine q_step 1 rfl (o_pick_t (p := (.d (.v (.bool true)))) rfl rfl rfl) ?_
          refine q_nil ?_
          refine pw_cond (b := true) rfl (fun _ => ?_) (fun h => by cases h)
          refine pw_seq ?_
          refine pw_region ?_
          refine pwl_step 1 rfl (o_assign (p := (.d (.v (.bool false)))) rfl rfl) ?_
          refine pwl_nil ?_
          refine pw_ret ?_
          exact ⟨.inr rfl, rfl, rfl, rfl, ⟨_, (.cons _ _ _ _ (.tmp (of_decide_eq_true rfl) (PVle.of_canon (p := (.d (.v (.bool false)))) (by simp only [PV.canon]; first | (rw [right_end hE (by omega)]) | (rw [right_long (i := i) (by omega) (by omega)]) | (rw [right_bad (i := i) (j := j) (by omega) (by omega) (by first | (rw [one_0 hq]; exact decide_eq_false (by omega)) | (rw [one_1 hq]; exact decide_eq_false (by omega)) | (rw [one_2 hq]; exact decide_eq_false (by omega)) | (rw [one_3 hq]; exact decide_eq_false (by omega)) | (rw [one_4 hq]; exact decide_eq_false (by omega)) | exact one_5 hq)])))) .nil), rfl⟩⟩
      ·
        have hcell := map_get_op (xs := l.getD i default) (i := j) (by omega) hq
        refine pw_region ?_
        refine pwl_step 1 rfl (opS_index (sz := 3) (es := ((l.getD i default).map eF)) (k := .i64) (n := ((j : Nat) : Int)) (e := [(.v (.int .u8 3)), (.v (.int .i64 (((l.getD i default).getD j default).a))), (.v (.int .i64 (((l.getD i default).getD j default).b)))]) rfl Try.underlying22 sz32 rfl rfl (by omega) hcell) ?_
        refine pwl_step 1 rfl (opS_load_rp_agg (cs := [(.v (.int .u8 3)), (.v (.int .i64 (((l.getD i default).getD j default).a))), (.v (.int .i64 (((l.getD i default).getD j default).b)))]) rfl Try.underlying32 rfl sz32 rfl (of_decide_eq_true rfl)) ?_
        refine pwl_step 1 rfl (o_alloc rfl ti32 zs32) ?_
        refine pwl_step 1 rfl (opS_store (b := 1) (off := 0) (cs := [(.d (.v (.int .u8 0))), (.d (.v (.int .i64 0))), (.d (.v (.int .i64 0)))]) (ps := [(.d (.v (.int .u8 3))), (.d (.v (.int .i64 (((l.getD i default).getD j default).a)))), (.d (.v (.int .i64 (((l.getD i default).getD j default).b))))]) rfl sz32 rfl rfl rfl rfl (of_decide_eq_true rfl) (List.cons_ne_nil _ _)) ?_
        refine pwl_nil ?_
        refine pw_seq ?_
        refine pw_wk (Wk.ofL (n := 55) (l := [(0, (.d (.sl 1 false (l.map eL)))), (3, (.ptr 0 0)), (5, (.d (.sl 3 false ((l.getD i default).map eF)))), (7, (.ptr 1 0)), (9, (.d (.sl 1 false (l.map eL)))), (10, (.d (.v (.int .i64 (((l.length : Nat)) : Int))))), (11, (.d (.v (.int .i64 ((i : Nat) : Int))))), (15, (.d (.sl 3 false ((l.getD i default).map eF)))), (16, (.d (.v (.int .i64 ((((l.getD i default).length : Nat)) : Int))))), (17, (.d (.v (.int .i64 ((j : Nat) : Int)))))]) (S := ⟨[some [(.d (.v (.int .i64 99))), (.d (.v (.int .i64 0))), (.fn 25 [] []), (.d (.v (.int .i64 5))), (.d (.v (.int .i64 0))), (.fn 26 [] []), (.d (.v (.int .i64 5))), (.d (.v (.int .i64 5))), (.fn 28 [] []), (.d (.v (.int .i64 5))), (.d (.v (.int .i64 8))), (.fn 29 [] []), (.d (.v (.int .i64 0))), (.d (.v (.int .i64 0))), (.fn 30 [] [])], some [(.d (.v (.int .u8 3))), (.d (.v (.int .i64 (((l.getD i default).getD j default).a)))), (.d (.v (.int .i64 (((l.getD i default).getD j default).b))))]], []⟩) rfl rfl (.cons .rfl' (.cons .rfl' (.cons .rfl' (.cons .rfl' (.cons .rfl' (.cons .rfl' (.cons .rfl' (.cons .rfl' (.cons .rfl' (.cons .rfl' .nil))))))))))) ?_
        by_cases hc9 : 0 ≤ (((l.getD i default).getD j default).a) ∧ (((l.getD i default).getD j default).a) ≤ 5
        ·
          refine pw_quiet Trymixed (by kernel_rfl) ?_
          refine q_step 1 rfl (opS_field_ptr (b := 1) (off := 0) rfl Try.underlying32 rfl sz5 (of_decide_eq_true rfl) rfl) ?_
          refine q_step 1 rfl (opS_load_box (b := 1) (off := 0) (cs := [(.d (.v (.int .u8 3))), (.d (.v (.int .i64 (((l.getD i default).getD j default).a)))), (.d (.v (.int .i64 (((l.getD i default).getD j default).b))))]) (p := (.d (.v (.int .u8 3)))) rfl Try.underlying5 rfl rfl rfl rfl) ?_
          refine q_step 1 rfl (o_conv (k := .u8) (k' := .i64) (n := 3) rfl (by rw [Try.underlying5]; rfl) Try.underlying3 rfl (Go.IntWalk.i64_in _ ⟨by omega, by omega⟩)) ?_
          refine q_step 1 rfl (opS_bin (k := .i64) (m := 3) (n := 5) rfl rfl rfl (ib_ge (c := false) rfl)) ?_
          refine q_step 1 rfl (o_move (p := (.d (.v (.bool false)))) rfl rfl) ?_
          refine q_step_yes 1 rfl rfl (opS_field_ptr (b := 1) (off := 0) rfl Try.underlying32 rfl sz3 (of_decide_eq_true rfl) rfl) ?_
          refine q_step_yes 1 rfl rfl (opS_load_box (b := 1) (off := 1) (cs := [(.d (.v (.int .u8 3))), (.d (.v (.int .i64 (((l.getD i default).getD j default).a)))), (.d (.v (.int .i64 (((l.getD i default).getD j default).b))))]) (p := (.d (.v (.int .i64 (((l.getD i default).getD j default).a))))) rfl Try.underlying3 rfl rfl rfl rfl) ?_
          refine q_step_yes 1 rfl rfl (opS_field_ptr (b := 1) (off := 0) rfl Try.underlying32 rfl sz5 (of_decide_eq_true rfl) rfl) ?_
          refine q_step_yes 1 rfl rfl (opS_load_box (b := 1) (off := 0) (cs := [(.d (.v (.int .u8 3))), (.d (.v (.int .i64 (((l.getD i default).getD j default).a)))), (.d (.v (.int .i64 (((l.getD i default).getD j default).b))))]) (p := (.d (.v (.int .u8 3)))) rfl Try.underlying5 rfl rfl rfl rfl) ?_
          refine q_step_yes 1 rfl rfl (opS_index_arr_ptr (b := 0) (off := 0) (k := .u8) (n := 3) rfl Try.underlying53 sz52 rfl rfl (of_decide_eq_true rfl)) ?_
          refine q_step_yes 1 rfl rfl (opS_field_ptr (b := 0) (off := 9) rfl Try.underlying52 rfl sz3 (of_decide_eq_true rfl) rfl) ?_
          refine q_step_yes 1 rfl rfl (opS_load_box (b := 0) (off := 9) (cs := [(.d (.v (.int .i64 99))), (.d (.v (.int .i64 0))), (.fn 25 [] []), (.d (.v (.int .i64 5))), (.d (.v (.int .i64 0))), (.fn 26 [] []), (.d (.v (.int .i64 5))), (.d (.v (.int .i64 5))), (.fn 28 [] []), (.d (.v (.int .i64 5))), (.d (.v (.int .i64 8))), (.fn 29 [] []), (.d (.v (.int .i64 0))), (.d (.v (.int .i64 0))), (.fn 30 [] [])]) (p := (.d (.v (.int .i64 5)))) rfl Try.underlying3 rfl rfl rfl rfl) ?_
          refine q_step_yes 1 rfl rfl (opS_call («as» := [(.d (.v (.int .i64 (((l.getD i default).getD j default).a)))), (.d (.v (.int .i64 0))), (.d (.v (.int .i64 5)))]) (r := (.d (.v (.bool true)))) rfl fnok22 rfl (args_ok (by exact .cons (.of_canon rfl) (.cons (.of_canon rfl) (.cons (.of_canon rfl) (.nil))))) (PC.res_eq (PF.at (within_ok (((l.getD i default).getD j default).a) 0 5) _) (congrArg (fun x => PV.d (.v (.bool x))) (decide_eq_true hc9)))) ?_
          refine q_step_yes 1 rfl rfl (opS_not (b := true) rfl rfl) ?_
          refine q_step 1 rfl (o_pick_f (p := (.d (.v (.bool false)))) rfl rfl rfl) ?_
          refine q_step 1 rfl (o_move (p := (.d (.v (.bool false)))) rfl rfl) ?_
          refine q_step_yes 1 rfl rfl (opS_field_ptr (b := 1) (off := 0) rfl Try.underlying32 rfl sz3 (of_decide_eq_true rfl) rfl) ?_
          refine q_step_yes 1 rfl rfl (opS_load_box (b := 1) (off := 2) (cs := [(.d (.v (.int .u8 3))), (.d (.v (.int .i64 (((l.getD i default).getD j default).a)))), (.d (.v (.int .i64 (((l.getD i default).getD j default).b))))]) (p := (.d (.v (.int .i64 (((l.getD i default).getD j default).b))))) rfl Try.underlying3 rfl rfl rfl rfl) ?_
          refine q_step_yes 1 rfl rfl (opS_field_ptr (b := 1) (off := 0) rfl Try.underlying32 rfl sz5 (of_decide_eq_true rfl) rfl) ?_
          refine q_step_yes 1 rfl rfl (opS_load_box (b := 1) (off := 0) (cs := [(.d (.v (.int .u8 3))), (.d (.v (.int .i64 (((l.getD i default).getD j default).a)))), (.d (.v (.int .i64 (((l.getD i default).getD j default).b))))]) (p := (.d (.v (.int .u8 3)))) rfl Try.underlying5 rfl rfl rfl rfl) ?_
          refine q_step_yes 1 rfl rfl (opS_index_arr_ptr (b := 0) (off := 0) (k := .u8) (n := 3) rfl Try.underlying53 sz52 rfl rfl (of_decide_eq_true rfl)) ?_
          refine q_step_yes 1 rfl rfl (opS_field_ptr (b := 0) (off := 9) rfl Try.underlying52 rfl sz3 (of_decide_eq_true rfl) rfl) ?_
          refine q_step_yes 1 rfl rfl (opS_load_box (b := 0) (off := 10) (cs := [(.d (.v (.int .i64 99))), (.d (.v (.int .i64 0))), (.fn 25 [] []), (.d (.v (.int .i64 5))), (.d (.v (.int .i64 0))), (.fn 26 [] []), (.d (.v (.int .i64 5))), (.d (.v (.int .i64 5))), (.fn 28 [] []), (.d (.v (.int .i64 5))), (.d (.v (.int .i64 8))), (.fn 29 [] []), (.d (.v (.int .i64 0))), (.d (.v (.int .i64 0))), (.fn 30 [] [])]) (p := (.d (.v (.int .i64 8)))) rfl Try.underlying3 rfl rfl rfl rfl) ?_
          refine q_step_yes 1 rfl rfl (opS_call («as» := [(.d (.v (.int .i64 (((l.getD i default).getD j default).b)))), (.d (.v (.int .i64 0))), (.d (.v (.int .i64 8)))]) (r := (.d (.v (.bool (decide (0 ≤ (((l.getD i default).getD j default).b) ∧ (((l.getD i default).getD j default).b) ≤ 8)))))) rfl fnok22 rfl (args_ok (by exact .cons (.of_canon rfl) (.cons (.of_canon rfl) (.cons (.of_canon rfl) (.nil))))) (PF.at (within_ok (((l.getD i default).getD j default).b) 0 8) _)) ?_
          refine q_step_yes 1 rfl rfl (opS_not (b := decide (0 ≤ (((l.getD i default).getD j default).b) ∧ (((l.getD i default).getD j default).b) ≤ 8)) rfl rfl) ?_
          refine q_step 1 rfl (o_pick_f (p := (.d (.v (.bool (!decide (0 ≤ (((l.getD i default).getD j default).b) ∧ (((l.getD i default).getD j default).b) ≤ 8)))))) rfl rfl rfl) ?_
          refine q_nil ?_
          refine pw_cond (b := !decide (0 ≤ (((l.getD i default).getD j default).b) ∧ (((l.getD i default).getD j default).b) ≤ 8)) rfl (fun hb10 => ?_) (fun hb10 => ?_)
          ·
            replace hb10 := not_dec_true hb10
            refine pw_seq ?_
            refine pw_region ?_
            refine pwl_step 1 rfl (o_assign (p := (.d (.v (.bool false)))) rfl rfl) ?_
            refine pwl_nil ?_
            refine pw_ret ?_
            exact ⟨.inr rfl, rfl, rfl, rfl, ⟨_, (.cons _ _ _ _ (.tmp (of_decide_eq_true rfl) (PVle.of_canon (p := (.d (.v (.bool false)))) (by simp only [PV.canon]; first | (rw [right_end hE (by omega)]) | (rw [right_long (i := i) (by omega) (by omega)]) | (rw [right_bad (i := i) (j := j) (by omega) (by omega) (by first | (rw [one_0 hq]; exact decide_eq_false (by omega)) | (rw [one_1 hq]; exact decide_eq_false (by omega)) | (rw [one_2 hq]; exact decide_eq_false (by omega)) | (rw [one_3 hq]; exact decide_eq_false (by omega)) | (rw [one_4 hq]; exact decide_eq_false (by omega)) | exact one_5 hq)])))) .nil), rfl⟩⟩
          ·
            replace hb10 := not_dec_false hb10
            refine pw_skip ?_
            refine pw_region ?_
            refine pwl_step 1 rfl (opS_bin (k := .i64) (m := ((j : Nat) : Int)) (n := 1) rfl rfl rfl (ib_add (by omega) (by omega))) ?_
            refine pwl_step 1 rfl (o_move (p := (.d (.v (.int .i64 (((j : Nat) : Int) + 1))))) rfl rfl) ?_
            refine pwl_nil ?_
            exact ⟨j + 1, ⟨by omega, all_next (by omega) hE1 (by first | (rw [one_0 hq]; exact decide_eq_true (by omega)) | (rw [one_1 hq]; exact decide_eq_true (by omega)) | (rw [one_2 hq]; exact decide_eq_true (by omega)) | (rw [one_3 hq]; exact decide_eq_true (by omega)) | (rw [one_4 hq]; exact decide_eq_true (by omega)))⟩, by simp only []; omega, Wk.ofL_cut (nb := 1) (nt := 0) (by exact hb0.gl (by decide)) (by rw [ht0]; decide) rfl (rfl) (.cons .rfl' (.cons .rfl' (.cons .rfl' (.cons .rfl' (.cons .rfl' (.cons .rfl' (.cons .rfl' (.cons .rfl' (.cons (PVle.of_eq (p := (.d (.v (.int .i64 (((j : Nat) : Int) + 1))))) (q := _) (by first | rfl | (congr 3; omega))) .nil))))))))) rfl (okB_cons rfl rfl)⟩
        ·
          refine pw_quiet Trymixed (by kernel_rfl) ?_
          refine q_step 1 rfl (opS_field_ptr (b := 1) (off := 0) rfl Try.underlying32 rfl sz5 (of_decide_eq_true rfl) rfl) ?_
          refine q_step 1 rfl (opS_load_box (b := 1) (off := 0) (cs := [(.d (.v (.int .u8 3))), (.d (.v (.int .i64 (((l.getD i default).getD j default).a)))), (.d (.v (.int .i64 (((l.getD i default).getD j default).b))))]) (p := (.d (.v (.int .u8 3)))) rfl Try.underlying5 rfl rfl rfl rfl) ?_
          refine q_step 1 rfl (o_conv (k := .u8) (k' := .i64) (n := 3) rfl (by rw [Try.underlying5]; rfl) Try.underlying3 rfl (Go.IntWalk.i64_in _ ⟨by omega, by omega⟩)) ?_
          refine q_step 1 rfl (opS_bin (k := .i64) (m := 3) (n := 5) rfl rfl rfl (ib_ge (c := false) rfl)) ?_
          refine q_step 1 rfl (o_move (p := (.d (.v (.bool false)))) rfl rfl) ?_
          refine q_step_yes 1 rfl rfl (opS_field_ptr (b := 1) (off := 0) rfl Try.underlying32 rfl sz3 (of_decide_eq_true rfl) rfl) ?_
          refine q_step_yes 1 rfl rfl (opS_load_box (b := 1) (off := 1) (cs := [(.d (.v (.int .u8 3))), (.d (.v (.int .i64 (((l.getD i default).getD j default).a)))), (.d (.v (.int .i64 (((l.getD i default).getD j default).b))))]) (p := (.d (.v (.int .i64 (((l.getD i default).getD j default).a))))) rfl Try.underlying3 rfl rfl rfl rfl) ?_
          refine q_step_yes 1 rfl rfl (opS_field_ptr (b := 1) (off := 0) rfl Try.underlying32 rfl sz5 (of_decide_eq_true rfl) rfl) ?_
          refine q_step_yes 1 rfl rfl (opS_load_box (b := 1) (off := 0) (cs := [(.d (.v (.int .u8 3))), (.d (.v (.int .i64 (((l.getD i default).getD j default).a)))), (.d (.v (.int .i64 (((l.getD i default).getD j default).b))))]) (p := (.d (.v (.int .u8 3)))) rfl Try.underlying5 rfl rfl rfl rfl) ?_
          refine q_step_yes 1 rfl rfl (opS_index_arr_ptr (b := 0) (off := 0) (k := .u8) (n := 3) rfl Try.underlying53 sz52 rfl rfl (of_decide_eq_true rfl)) ?_
          refine q_step_yes 1 rfl rfl (opS_field_ptr (b := 0) (off := 9) rfl Try.underlying52 rfl sz3 (of_decide_eq_true rfl) rfl) ?_
          refine q_step_yes 1 rfl rfl (opS_load_box (b := 0) (off := 9) (cs := [(.d (.v (.int .i64 99))), (.d (.v (.int .i64 0))), (.fn 25 [] []), (.d (.v (.int .i64 5))), (.d (.v (.int .i64 0))), (.fn 26 [] []), (.d (.v (.int .i64 5))), (.d (.v (.int .i64 5))), (.fn 28 [] []), (.d (.v (.int .i64 5))), (.d (.v (.int .i64 8))), (.fn 29 [] []), (.d (.v (.int .i64 0))), (.d (.v (.int .i64 0))), (.fn 30 [] [])]) (p := (.d (.v (.int .i64 5)))) rfl Try.underlying3 rfl rfl rfl rfl) ?_
          refine q_step_yes 1 rfl rfl (opS_call («as» := [(.d (.v (.int .i64 (((l.getD i default).getD j default).a)))), (.d (.v (.int .i64 0))), (.d (.v (.int .i64 5)))]) (r := (.d (.v (.bool false)))) rfl fnok22 rfl (args_ok (by exact .cons (.of_canon rfl) (.cons (.of_canon rfl) (.cons (.of_canon rfl) (.nil))))) (PC.res_eq (PF.at (within_ok (((l.getD i default).getD j default).a) 0 5) _) (congrArg (fun x => PV.d (.v (.bool x))) (decide_eq_false hc9)))) ?_
          refine q_step_yes 1 rfl rfl (opS_not (b := false) rfl rfl) ?_
          refine q_step 1 rfl (o_pick_f (p := (.d (.v (.bool true)))) rfl rfl rfl) ?_
          refine q_step 1 rfl (o_move (p := (.d (.v (.bool true)))) rfl rfl) ?_
          refine q_step_no rfl rfl ?_
          refine q_step_no rfl rfl ?_
          refine q_step_no rfl rfl ?_
          refine q_step_no rfl rfl ?_
          refine q_step_no rfl rfl ?_
          refine q_step_no rfl rfl ?_
          refine q_step_no rfl rfl ?_
          refine q_step_no rfl rfl ?_
          refine q_step_no rfl rfl ?_
          refine q_step 1 rfl (o_pick_t (p := (.d (.v (.bool true)))) rfl rfl rfl) ?_
          refine q_nil ?_
          refine pw_cond (b := true) rfl (fun _ => ?_) (fun h => by cases h)
          refine pw_seq ?_
          refine pw_region ?_
          refine pwl_step 1 rfl (o_assign (p := (.d (.v (.bool false)))) rfl rfl) ?_
          refine pwl_nil ?_
          refine pw_ret ?_
          exact ⟨.inr rfl, rfl, rfl, rfl, ⟨_, (.cons _ _ _ _ (.tmp (of_decide_eq_true rfl) (PVle.of_canon (p := (.d (.v (.bool false)))) (by simp only [PV.canon]; first | (rw [right_end hE (by omega)]) | (rw [right_long (i := i) (by omega) (by omega)]) | (rw [right_bad (i := i) (j := j) (by omega) (by omega) (by first | (rw [one_0 hq]; exact decide_eq_false (by omega)) | (rw [one_1 hq]; exact decide_eq_false (by omega)) | (rw [one_2 hq]; exact decide_eq_false (by omega)) | (rw [one_3 hq]; exact decide_eq_false (by omega)) | (rw [one_4 hq]; exact decide_eq_false (by omega)) | exact one_5 hq)])))) .nil), rfl⟩⟩
      ·
        have hcell := map_get_op (xs := l.getD i default) (i := j) (by omega) hq
        refine pw_region ?_
        refine pwl_step 1 rfl (opS_index (sz := 3) (es := ((l.getD i default).map eF)) (k := .i64) (n := ((j : Nat) : Int)) (e := [(.v (.int .u8 4)), (.v (.int .i64 (((l.getD i default).getD j default).a))), (.v (.int .i64 (((l.getD i default).getD j default).b)))]) rfl Try.underlying22 sz32 rfl rfl (by omega) hcell) ?_
        refine pwl_step 1 rfl (opS_load_rp_agg (cs := [(.v (.int .u8 4)), (.v (.int .i64 (((l.getD i default).getD j default).a))), (.v (.int .i64 (((l.getD i default).getD j default).b)))]) rfl Try.underlying32 rfl sz32 rfl (of_decide_eq_true rfl)) ?_
        refine pwl_step 1 rfl (o_alloc rfl ti32 zs32) ?_
        refine pwl_step 1 rfl (opS_store (b := 1) (off := 0) (cs := [(.d (.v (.int .u8 0))), (.d (.v (.int .i64 0))), (.d (.v (.int .i64 0)))]) (ps := [(.d (.v (.int .u8 4))), (.d (.v (.int .i64 (((l.getD i default).getD j default).a)))), (.d (.v (.int .i64 (((l.getD i default).getD j default).b))))]) rfl sz32 rfl rfl rfl rfl (of_decide_eq_true rfl) (List.cons_ne_nil _ _)) ?_
        refine pwl_nil ?_
        refine pw_seq ?_
        refine pw_wk (Wk.ofL (n := 55) (l := [(0, (.d (.sl 1 false (l.map eL)))), (3, (.ptr 0 0)), (5, (.d (.sl 3 false ((l.getD i default).map eF)))), (7, (.ptr 1 0)), (9, (.d (.sl 1 false (l.map eL)))), (10, (.d (.v (.int .i64 (((l.length : Nat)) : Int))))), (11, (.d (.v (.int .i64 ((i : Nat) : Int))))), (15, (.d (.sl 3 false ((l.getD i default).map eF)))), (16, (.d (.v (.int .i64 ((((l.getD i default).length : Nat)) : Int))))), (17, (.d (.v (.int .i64 ((j : Nat) : Int)))))]) (S := ⟨[some [(.d (.v (.int .i64 99))), (.d (.v (.int .i64 0))), (.fn 25 [] []), (.d (.v (.int .i64 5))), (.d (.v (.int .i64 0))), (.fn 26 [] []), (.d (.v (.int .i64 5))), (.d (.v (.int .i64 5))), (.fn 28 [] []), (.d (.v (.int .i64 5))), (.d (.v (.int .i64 8))), (.fn 29 [] []), (.d (.v (.int .i64 0))), (.d (.v (.int .i64 0))), (.fn 30 [] [])], some [(.d (.v (.int .u8 4))), (.d (.v (.int .i64 (((l.getD i default).getD j default).a)))), (.d (.v (.int .i64 (((l.getD i default).getD j default).b))))]], []⟩) rfl rfl (.cons .rfl' (.cons .rfl' (.cons .rfl' (.cons .rfl' (.cons .rfl' (.cons .rfl' (.cons .rfl' (.cons .rfl' (.cons .rfl' (.cons .rfl' .nil))))))))))) ?_
        by_cases hc11 : 0 ≤ (((l.getD i default).getD j default).a) ∧ (((l.getD i default).getD j default).a) ≤ 0
        ·
          refine pw_quiet Trymixed (by kernel_rfl) ?_
          refine q_step 1 rfl (opS_field_ptr (b := 1) (off := 0) rfl Try.underlying32 rfl sz5 (of_decide_eq_true rfl) rfl) ?_
          refine q_step 1 rfl (opS_load_box (b := 1) (off := 0) (cs := [(.d (.v (.int .u8 4))), (.d (.v (.int .i64 (((l.getD i default).getD j default).a)))), (.d (.v (.int .i64 (((l.getD i default).getD j default).b))))]) (p := (.d (.v (.int .u8 4)))) rfl Try.underlying5 rfl rfl rfl rfl) ?_
          refine q_step 1 rfl (o_conv (k := .u8) (k' := .i64) (n := 4) rfl (by rw [Try.underlying5]; rfl) Try.underlying3 rfl (Go.IntWalk.i64_in _ ⟨by omega, by omega⟩)) ?_
          refine q_step 1 rfl (opS_bin (k := .i64) (m := 4) (n := 5) rfl rfl rfl (ib_ge (c := false) rfl)) ?_
          refine q_step 1 rfl (o_move (p := (.d (.v (.bool false)))) rfl rfl) ?_
          refine q_step_yes 1 rfl rfl (opS_field_ptr (b := 1) (off := 0) rfl Try.underlying32 rfl sz3 (of_decide_eq_true rfl) rfl) ?_
          refine q_step_yes 1 rfl rfl (opS_load_box (b := 1) (off := 1) (cs := [(.d (.v (.int .u8 4))), (.d (.v (.int .i64 (((l.getD i default).getD j default).a)))), (.d (.v (.int .i64 (((l.getD i default).getD j default).b))))]) (p := (.d (.v (.int .i64 (((l.getD i default).getD j default).a))))) rfl Try.underlying3 rfl rfl rfl rfl) ?_
          refine q_step_yes 1 rfl rfl (opS_field_ptr (b := 1) (off := 0) rfl Try.underlying32 rfl sz5 (of_decide_eq_true rfl) rfl) ?_
          refine q_step_yes 1 rfl rfl (opS_load_box (b := 1) (off := 0) (cs := [(.d (.v (.int .u8 4))), (.d (.v (.int .i64 (((l.getD i default).getD j default).a)))), (.d (.v (.int .i64 (((l.getD i default).getD j default).b))))]) (p := (.d (.v (.int .u8 4)))) rfl Try.underlying5 rfl rfl rfl rfl) ?_
          refine q_step_yes 1 rfl rfl (opS_index_arr_ptr (b := 0) (off := 0) (k := .u8) (n := 4) rfl Try.underlying53 sz52 rfl rfl (of_decide_eq_true rfl)) ?_
          refine q_step_yes 1 rfl rfl (opS_field_ptr (b := 0) (off := 12) rfl Try.underlying52 rfl sz3 (of_decide_eq_true rfl) rfl) ?_
          refine q_step_yes 1 rfl rfl (opS_load_box (b := 0) (off := 12) (cs := [(.d (.v (.int .i64 99))), (.d (.v (.int .i64 0))), (.fn 25 [] []), (.d (.v (.int .i64 5))), (.d (.v (.int .i64 0))), (.fn 26 [] []), (.d (.v (.int .i64 5))), (.d (.v (.int .i64 5))), (.fn 28 [] []), (.d (.v (.int .i64 5))), (.d (.v (.int .i64 8))), (.fn 29 [] []), (.d (.v (.int .i64 0))), (.d (.v (.int .i64 0))), (.fn 30 [] [])]) (p := (.d (.v (.int .i64 0)))) rfl Try.underlying3 rfl rfl rfl rfl) ?_
          refine q_step_yes 1 rfl rfl (opS_call («as» := [(.d (.v (.int .i64 (((l.getD i default).getD j default).a)))), (.d (.v (.int .i64 0))), (.d (.v (.int .i64 0)))]) (r := (.d (.v (.bool true)))) rfl fnok22 rfl (args_ok (by exact .cons (.of_canon rfl) (.cons (.of_canon rfl) (.cons (.of_canon rfl) (.nil))))) (PC.res_eq (PF.at (within_ok (((l.getD i default).getD j default).a) 0 0) _) (congrArg (fun x => PV.d (.v (.bool x))) (decide_eq_true hc11)))) ?_
          refine q_step_yes 1 rfl rfl (opS_not (b := true) rfl rfl) ?_
          refine q_step 1 rfl (o_pick_f (p := (.d (.v (.bool false)))) rfl rfl rfl) ?_
          refine q_step 1 rfl (o_move (p := (.d (.v (.bool false)))) rfl rfl) ?_
          refine q_step_yes 1 rfl rfl (opS_field_ptr (b := 1) (off := 0) rfl Try.underlying32 rfl sz3 (of_decide_eq_true rfl) rfl) ?_
          refine q_step_yes 1 rfl rfl (opS_load_box (b := 1) (off := 2) (cs := [(.d (.v (.int .u8 4))), (.d (.v (.int .i64 (((l.getD i default).getD j default).a)))), (.d (.v (.int .i64 (((l.getD i default).getD j default).b))))]) (p := (.d (.v (.int .i64 (((l.getD i default).getD j default).b))))) rfl Try.underlying3 rfl rfl rfl rfl) ?_
          refine q_step_yes 1 rfl rfl (opS_field_ptr (b := 1) (off := 0) rfl Try.underlying32 rfl sz5 (of_decide_eq_true rfl) rfl) ?_
          refine q_step_yes 1 rfl rfl (opS_load_box (b := 1) (off := 0) (cs := [(.d (.v (.int .u8 4))), (.d (.v (.int .i64 (((l.getD i default).getD j default).a)))), (.d (.v (.int .i64 (((l.getD i default).getD j default).b))))]) (p := (.d (.v (.int .u8 4)))) rfl Try.underlying5 rfl rfl rfl rfl) ?_
          refine q_step_yes 1 rfl rfl (opS_index_arr_ptr (b := 0) (off := 0) (k := .u8) (n := 4) rfl Try.underlying53 sz52 rfl rfl (of_decide_eq_true rfl)) ?_
          refine q_step_yes 1 rfl rfl (opS_field_ptr (b := 0) (off := 12) rfl Try.underlying52 rfl sz3 (of_decide_eq_true rfl) rfl) ?_
          refine q_step_yes 1 rfl rfl (opS_load_box (b := 0) (off := 13) (cs := [(.d (.v (.int .i64 99))), (.d (.v (.int .i64 0))), (.fn 25 [] []), (.d (.v (.int .i64 5))), (.d (.v (.int .i64 0))), (.fn 26 [] []), (.d (.v (.int .i64 5))), (.d (.v (.int .i64 5))), (.fn 28 [] []), (.d (.v (.int .i64 5))), (.d (.v (.int .i64 8))), (.fn 29 [] []), (.d (.v (.int .i64 0))), (.d (.v (.int .i64 0))), (.fn 30 [] [])]) (p := (.d (.v (.int .i64 0)))) rfl Try.underlying3 rfl rfl rfl rfl) ?_
          refine q_step_yes 1 rfl rfl (opS_call («as» := [(.d (.v (.int .i64 (((l.getD i default).getD j default).b)))), (.d (.v (.int .i64 0))), (.d (.v (.int .i64 0)))]) (r := (.d (.v (.bool (decide (0 ≤ (((l.getD i default).getD j default).b) ∧ (((l.getD i default).getD j default).b) ≤ 0)))))) rfl fnok22 rfl (args_ok (by exact .cons (.of_canon rfl) (.cons (.of_canon rfl) (.cons (.of_canon rfl) (.nil))))) (PF.at (within_ok (((l.getD i default).getD j default).b) 0 0) _)) ?_
          refine q_step_yes 1 rfl rfl (opS_not (b := decide (0 ≤ (((l.getD i default).getD j default).b) ∧ (((l.getD i default).getD j default).b) ≤ 0)) rfl rfl) ?_
          refine q_step 1 rfl (o_pick_f (p := (.d (.v (.bool (!decide (0 ≤ (((l.getD i default).getD j default).b) ∧ (((l.getD i default).getD j default).b) ≤ 0)))))) rfl rfl rfl) ?_
          refine q_nil ?_
          refine pw_cond (b := !decide (0 ≤ (((l.getD i default).getD j default).b) ∧ (((l.getD i default).getD j default).b) ≤ 0)) rfl (fun hb12 => ?_) (fun hb12 => ?_)
          ·
            replace hb12 := not_dec_true hb12
            refine pw_seq ?_
            refine pw_region ?_
            refine pwl_step 1 rfl (o_assign (p := (.d (.v (.bool false)))) rfl rfl) ?_
            refine pwl_nil ?_
            refine pw_ret ?_
            exact ⟨.inr rfl, rfl, rfl, rfl, ⟨_, (.cons _ _ _ _ (.tmp (of_decide_eq_true rfl) (PVle.of_canon (p := (.d (.v (.bool false)))) (by simp only [PV.canon]; first | (rw [right_end hE (by omega)]) | (rw [right_long (i := i) (by omega) (by omega)]) | (rw [right_bad (i := i) (j := j) (by omega) (by omega) (by first | (rw [one_0 hq]; exact decide_eq_false (by omega)) | (rw [one_1 hq]; exact decide_eq_false (by omega)) | (rw [one_2 hq]; exact decide_eq_false (by omega)) | (rw [one_3 hq]; exact decide_eq_false (by omega)) | (rw [one_4 hq]; exact decide_eq_false (by omega)) | exact one_5 hq)])))) .nil), rfl⟩⟩
          ·
            replace hb12 := not_dec_false hb12
            refine pw_skip ?_
            refine pw_region ?_
            refine pwl_step 1 rfl (opS_bin (k := .i64) (m := ((j : Nat) : Int)) (n := 1) rfl rfl rfl (ib_add (by omega) (by omega))) ?_
            refine pwl_step 1 rfl (o_move (p := (.d (.v (.int .i64 (((j : Nat) : Int) + 1))))) rfl rfl) ?_
            refine pwl_nil ?_
            exact ⟨j + 1, ⟨by omega, all_next (by omega) hE1 (by first | (rw [one_0 hq]; exact decide_eq_true (by omega)) | (rw [one_1 hq]; exact decide_eq_true (by omega)) | (rw [one_2 hq]; exact decide_eq_true (by omega)) | (rw [one_3 hq]; exact decide_eq_true (by omega)) | (rw [one_4 hq]; exact decide_eq_true (by omega)))⟩, by simp only []; omega, Wk.ofL_cut (nb := 1) (nt := 0) (by exact hb0.gl (by decide)) (by rw [ht0]; decide) rfl (rfl) (.cons .rfl' (.cons .rfl' (.cons .rfl' (.cons .rfl' (.cons .rfl' (.cons .rfl' (.cons .rfl' (.cons .rfl' (.cons (PVle.of_eq (p := (.d (.v (.int .i64 (((j : Nat) : Int) + 1))))) (q := _) (by first | rfl | (congr 3; omega))) .nil))))))))) rfl (okB_cons rfl rfl)⟩
        ·
          refine pw_quiet Trymixed (by kernel_rfl) ?_
          refine q_step 1 rfl (opS_field_ptr (b := 1) (off := 0) rfl Try.underlying32 rfl sz5 (of_decide_eq_true rfl) rfl) ?_
          refine q_step 1 rfl (opS_load_box (b := 1) (off := 0) (cs := [(.d (.v (.int .u8 4))), (.d (.v (.int .i64 (((l.getD i default).getD j default).a)))), (.d (.v (.int .i64 (((l.getD i default).getD j default).b))))]) (p := (.d (.v (.int .u8 4)))) rfl Try.underlying5 rfl rfl rfl rfl) ?_
          refine q_step 1 rfl (o_conv (k := .u8) (k' := .i64) (n := 4) rfl (by rw [Try.underlying5]; rfl) Try.underlying3 rfl (Go.IntWalk.i64_in _ ⟨by omega, by omega⟩)) ?_
          refine q_step 1 rfl (opS_bin (k := .i64) (m := 4) (n := 5) rfl rfl rfl (ib_ge (c := false) rfl)) ?_
          refine q_step 1 rfl (o_move (p := (.d (.v (.bool false)))) rfl rfl) ?_
          refine q_step_yes 1 rfl rfl (opS_field_ptr (b := 1) (off := 0) rfl Try.underlying32 rfl sz3 (of_decide_eq_true rfl) rfl) ?_
          refine q_step_yes 1 rfl rfl (opS_load_box (b := 1) (off := 1) (cs := [(.d (.v (.int .u8 4))), (.d (.v (.int .i64 (((l.getD i default).getD j default).a)))), (.d (.v (.int .i64 (((l.getD i default).getD j default).b))))]) (p := (.d (.v (.int .i64 (((l.getD i default).getD j default).a))))) rfl Try.underlying3 rfl rfl rfl rfl) ?_
          refine q_step_yes 1 rfl rfl (opS_field_ptr (b := 1) (off := 0) rfl Try.underlying32 rfl sz5 (of_decide_eq_true rfl) rfl) ?_
          refine q_step_yes 1 rfl rfl (opS_load_box (b := 1) (off := 0) (cs := [(.d (.v (.int .u8 4))), (.d (.v (.int .i64 (((l.getD i default).getD j default).a)))), (.d (.v (.int .i64 (((l.getD i default).getD j default).b))))]) (p := (.d (.v (.int .u8 4)))) rfl Try.underlying5 rfl rfl rfl rfl) ?_
          refine q_step_yes 1 rfl rfl (opS_index_arr_ptr (b := 0) (off := 0) (k := .u8) (n := 4) rfl Try.underlying53 sz52 rfl rfl (of_decide_eq_true rfl)) ?_
          refine q_step_yes 1 rfl rfl (opS_field_ptr (b := 0) (off := 12) rfl Try.underlying52 rfl sz3 (of_decide_eq_true rfl) rfl) ?_
          refine q_step_yes 1 rfl rfl (opS_load_box (b := 0) (off := 12) (cs := [(.d (.v (.int .i64 99))), (.d (.v (.int .i64 0))), (.fn 25 [] []), (.d (.v (.int .i64 5))), (.d (.v (.int .i64 0))), (.fn 26 [] []), (.d (.v (.int .i64 5))), (.d (.v (.int .i64 5))), (.fn 28 [] []), (.d (.v (.int .i64 5))), (.d (.v (.int .i64 8))), (.fn 29 [] []), (.d (.v (.int .i64 0))), (.d (.v (.int .i64 0))), (.fn 30 [] [])]) (p := (.d (.v (.int .i64 0)))) rfl Try.underlying3 rfl rfl rfl rfl) ?_
          refine q_step_yes 1 rfl rfl (opS_call («as» := [(.d (.v (.int .i64 (((l.getD i default).getD j default).a)))), (.d (.v (.int .i64 0))), (.d (.v (.int .i64 0)))]) (r := (.d (.v (.bool false)))) rfl fnok22 rfl (args_ok (by exact .cons (.of_canon rfl) (.cons (.of_canon rfl) (.cons (.of_canon rfl) (.nil))))) (PC.res_eq (PF.at (within_ok (((l.getD i default).getD j default).a) 0 0) _) (congrArg (fun x => PV.d (.v (.bool x))) (decide_eq_false hc11)))) ?_
          refine q_step_yes 1 rfl rfl (opS_not (b := false) rfl rfl) ?_
          refine q_step 1 rfl (o_pick_f (p := (.d (.v (.bool true)))) rfl rfl rfl) ?_
          refine q_step 1 rfl (o_move (p := (.d (.v (.bool true)))) rfl rfl) ?_
          refine q_step_no rfl rfl ?_
          refine q_step_no rfl rfl ?_
          refine q_step_no rfl rfl ?_
          refine q_step_no rfl rfl ?_
          refine q_step_no rfl rfl ?_
          refine q_step_no rfl rfl ?_
          refine q_step_no rfl rfl ?_
          refine q_step_no rfl rfl ?_
          refine q_step_no rfl rfl ?_
          refine q_step 1 rfl (o_pick_t (p := (.d (.v (.bool true)))) rfl rfl rfl) ?_
          refine q_nil ?_
          refine pw_cond (b := true) rfl (fun _ => ?_) (fun h => by cases h)
          refine pw_seq ?_
          refine pw_region ?_
          refine pwl_step 1 rfl (o_assign (p := (.d (.v (.bool false)))) rfl rfl) ?_
          refine pwl_nil ?_
          refine pw_ret ?_
          exact ⟨.inr rfl, rfl, rfl, rfl, ⟨_, (.cons _ _ _ _ (.tmp (of_decide_eq_true rfl) (PVle.of_canon (p := (.d (.v (.bool false)))) (by simp only [PV.canon]; first | (rw [right_end hE (by omega)]) | (rw [right_long (i := i) (by omega) (by omega)]) | (rw [right_bad (i := i) (j := j) (by omega) (by omega) (by first | (rw [one_0 hq]; exact decide_eq_false (by omega)) | (rw [one_1 hq]; exact decide_eq_false (by omega)) | (rw [one_2 hq]; exact decide_eq_false (by omega)) | (rw [one_3 hq]; exact decide_eq_false (by omega)) | (rw [one_4 hq]; exact decide_eq_false (by omega)) | exact one_5 hq)])))) .nil), rfl⟩⟩
      ·
        have hcell := map_get_op (xs := l.getD i default) (i := j) (by omega) (rfl : ((l.getD i default).getD j default).op = ((l.getD i default).getD j default).op)
        refine pw_region ?_
        refine pwl_step 1 rfl (opS_index (sz := 3) (es := ((l.getD i default).map eF)) (k := .i64) (n := ((j : Nat) : Int)) (e := [(.v (.int .u8 (((l.getD i default).getD j default).op))), (.v (.int .i64 (((l.getD i default).getD j default).a))), (.v (.int .i64 (((l.getD i default).getD j default).b)))]) rfl Try.underlying22 sz32 rfl rfl (by omega) hcell) ?_
        refine pwl_step 1 rfl (opS_load_rp_agg (cs := [(.v (.int .u8 (((l.getD i default).getD j default).op))), (.v (.int .i64 (((l.getD i default).getD j default).a))), (.v (.int .i64 (((l.getD i default).getD j default).b)))]) rfl Try.underlying32 rfl sz32 rfl (of_decide_eq_true rfl)) ?_
        refine pwl_step 1 rfl (o_alloc rfl ti32 zs32) ?_
        refine pwl_step 1 rfl (opS_store (b := 1) (off := 0) (cs := [(.d (.v (.int .u8 0))), (.d (.v (.int .i64 0))), (.d (.v (.int .i64 0)))]) (ps := [(.d (.v (.int .u8 (((l.getD i default).getD j default).op)))), (.d (.v (.int .i64 (((l.getD i default).getD j default).a)))), (.d (.v (.int .i64 (((l.getD i default).getD j default).b))))]) rfl sz32 rfl rfl rfl rfl (of_decide_eq_true rfl) (List.cons_ne_nil _ _)) ?_
        refine pwl_nil ?_
        refine pw_seq ?_
        refine pw_wk (Wk.ofL (n := 55) (l := [(0, (.d (.sl 1 false (l.map eL)))), (3, (.ptr 0 0)), (5, (.d (.sl 3 false ((l.getD i default).map eF)))), (7, (.ptr 1 0)), (9, (.d (.sl 1 false (l.map eL)))), (10, (.d (.v (.int .i64 (((l.length : Nat)) : Int))))), (11, (.d (.v (.int .i64 ((i : Nat) : Int))))), (15, (.d (.sl 3 false ((l.getD i default).map eF)))), (16, (.d (.v (.int .i64 ((((l.getD i default).length : Nat)) : Int))))), (17, (.d (.v (.int .i64 ((j : Nat) : Int)))))]) (S := ⟨[some [(.d (.v (.int .i64 99))), (.d (.v (.int .i64 0))), (.fn 25 [] []), (.d (.v (.int .i64 5))), (.d (.v (.int .i64 0))), (.fn 26 [] []), (.d (.v (.int .i64 5))), (.d (.v (.int .i64 5))), (.fn 28 [] []), (.d (.v (.int .i64 5))), (.d (.v (.int .i64 8))), (.fn 29 [] []), (.d (.v (.int .i64 0))), (.d (.v (.int .i64 0))), (.fn 30 [] [])], some [(.d (.v (.int .u8 (((l.getD i default).getD j default).op)))), (.d (.v (.int .i64 (((l.getD i default).getD j default).a)))), (.d (.v (.int .i64 (((l.getD i default).getD j default).b))))]], []⟩) rfl rfl (.cons .rfl' (.cons .rfl' (.cons .rfl' (.cons .rfl' (.cons .rfl' (.cons .rfl' (.cons .rfl' (.cons .rfl' (.cons .rfl' (.cons .rfl' .nil))))))))))) ?_
        refine pw_quiet Trymixed (by kernel_rfl) ?_
        refine q_step 1 rfl (opS_field_ptr (b := 1) (off := 0) rfl Try.underlying32 rfl sz5 (of_decide_eq_true rfl) rfl) ?_
        refine q_step 1 rfl (opS_load_box (b := 1) (off := 0) (cs := [(.d (.v (.int .u8 (((l.getD i default).getD j default).op)))), (.d (.v (.int .i64 (((l.getD i default).getD j default).a)))), (.d (.v (.int .i64 (((l.getD i default).getD j default).b))))]) (p := (.d (.v (.int .u8 (((l.getD i default).getD j default).op))))) rfl Try.underlying5 rfl rfl rfl rfl) ?_
        refine q_step 1 rfl (o_conv (k := .u8) (k' := .i64) (n := (((l.getD i default).getD j default).op)) rfl (by rw [Try.underlying5]; rfl) Try.underlying3 rfl (Go.IntWalk.i64_in _ ⟨by omega, by omega⟩)) ?_
        refine q_step 1 rfl (opS_bin (k := .i64) (m := (((l.getD i default).getD j default).op)) (n := 5) rfl rfl rfl (ib_ge (decide_eq_true hq))) ?_
        refine q_step 1 rfl (o_move (p := (.d (.v (.bool true)))) rfl rfl) ?_
        refine q_step_no rfl rfl ?_
        refine q_step_no rfl rfl ?_
        refine q_step_no rfl rfl ?_
        refine q_step_no rfl rfl ?_
        refine q_step_no rfl rfl ?_
        refine q_step_no rfl rfl ?_
        refine q_step_no rfl rfl ?_
        refine q_step_no rfl rfl ?_
        refine q_step_no rfl rfl ?_
        refine q_step 1 rfl (o_pick_t (p := (.d (.v (.bool true)))) rfl rfl rfl) ?_
        refine q_step 1 rfl (o_move (p := (.d (.v (.bool true)))) rfl rfl) ?_
        refine q_step_no rfl rfl ?_
        refine q_step_no rfl rfl ?_
        refine q_step_no rfl rfl ?_
        refine q_step_no rfl rfl ?_
        refine q_step_no rfl rfl ?_
        refine q_step_no rfl rfl ?_
        refine q_step_no rfl rfl ?_
        refine q_step_no rfl rfl ?_
        refine q_step_no rfl rfl ?_
        refine q_step 1 rfl (o_pick_t (p := (.d (.v (.bool true)))) rfl rfl rfl) ?_
        refine q_nil ?_
        refine pw_cond (b := true) rfl (fun _ => ?_) (fun h => by cases h)
        refine pw_seq ?_
        refine pw_region ?_
        refine pwl_step 1 rfl (o_assign (p := (.d (.v (.bool false)))) rfl rfl) ?_
        refine pwl_nil ?_
        refine pw_ret ?_
        exact ⟨.inr rfl, rfl, rfl, rfl, ⟨_, (.cons _ _ _ _ (.tmp (of_decide_eq_true rfl) (PVle.of_canon (p := (.d (.v (.bool false)))) (by simp only [PV.canon]; first | (rw [right_end hE (by omega)]) | (rw [right_long (i := i) (by omega) (by omega)]) | (rw [right_bad (i := i) (j := j) (by omega) (by omega) (by first | (rw [one_0 hq]; exact decide_eq_false (by omega)) | (rw [one_1 hq]; exact decide_eq_false (by omega)) | (rw [one_2 hq]; exact decide_eq_false (by omega)) | (rw [one_3 hq]; exact decide_eq_false (by omega)) | (rw [one_4 hq]; exact decide_eq_false (by omega)) | exact one_5 hq)])))) .nil), rfl⟩⟩
    ·
      replace hb2 := of_decide_eq_false hb2
      refine pw_exit ?_
      refine pw_seq ?_
      refine pw_region ?_
      refine pwl_step 1 rfl (o_move (p := (.d (.sl 3 false ((l.getD i default).map eF)))) rfl rfl) ?_
      refine pwl_step 1 rfl (o_len (sz := 3) (es := ((l.getD i default).map eF)) (n := (l.getD i default).length) rfl Try.underlying22 rfl (by simp)) ?_
      refine pwl_step 1 rfl (opS_bin (k := .i64) (m := ((((l.getD i default).length : Nat)) : Int)) (n := 8) rfl rfl rfl (ib_gt rfl)) ?_
      refine pwl_nil ?_
      refine pw_cond (b := decide (8 < ((((l.getD i default).length : Nat)) : Int))) rfl (fun hb13 => ?_) (fun hb13 => ?_)
      ·
        replace hb13 := of_decide_eq_true hb13
        refine pw_seq ?_
        refine pw_region ?_
        refine pwl_step 1 rfl (o_assign (p := (.d (.v (.bool false)))) rfl rfl) ?_
        refine pwl_nil ?_
        refine pw_ret ?_
        exact ⟨.inr rfl, rfl, rfl, rfl, ⟨_, (.cons _ _ _ _ (.tmp (of_decide_eq_true rfl) (PVle.of_canon (p := (.d (.v (.bool false)))) (by simp only [PV.canon]; first | (rw [right_end hE (by omega)]) | (rw [right_long (i := i) (by omega) (by omega)]) | (rw [right_bad (i := i) (j := j) (by omega) (by omega) (by first | (rw [one_0 hq]; exact decide_eq_false (by omega)) | (rw [one_1 hq]; exact decide_eq_false (by omega)) | (rw [one_2 hq]; exact decide_eq_false (by omega)) | (rw [one_3 hq]; exact decide_eq_false (by omega)) | (rw [one_4 hq]; exact decide_eq_false (by omega)) | exact one_5 hq)])))) .nil), rfl⟩⟩
      ·
        replace hb13 := of_decide_eq_false hb13
        refine pw_skip ?_
        refine pw_region ?_
        refine pwl_step 1 rfl (opS_bin (k := .i64) (m := ((i : Nat) : Int)) (n := 1) rfl rfl rfl (ib_add (by omega) (by omega))) ?_
        refine pwl_step 1 rfl (o_move (p := (.d (.v (.int .i64 (((i : Nat) : Int) + 1))))) rfl rfl) ?_
        refine pwl_nil ?_
        exact ⟨i + 1, ⟨by omega, all_next (by omega) hE (okp_of (by omega) (by omega) hE1)⟩, by simp only []; omega, Wk.ofL rfl (rfl) (.cons .rfl' (.cons .rfl' (.cons .rfl' (.cons .rfl' (.cons (PVle.of_eq (p := (.d (.v (.int .i64 (((i : Nat) : Int) + 1))))) (q := _) (by first | rfl | (congr 3; omega))) .nil)))))⟩
  ·
    replace hb1 := of_decide_eq_false hb1
    refine pw_exit ?_
    refine pw_seq ?_
    refine pw_wk (Wk.ofL (n := 55) (l := [(0, (.d (.sl 1 false (l.map eL))))]) (S := ⟨[some [(.d (.v (.int .i64 99))), (.d (.v (.int .i64 0))), (.fn 25 [] []), (.d (.v (.int .i64 5))), (.d (.v (.int .i64 0))), (.fn 26 [] []), (.d (.v (.int .i64 5))), (.d (.v (.int .i64 5))), (.fn 28 [] []), (.d (.v (.int .i64 5))), (.d (.v (.int .i64 8))), (.fn 29 [] []), (.d (.v (.int .i64 0))), (.d (.v (.int .i64 0))), (.fn 30 [] [])]], []⟩) rfl rfl (.cons .rfl' .nil)) ?_
    refine pw_region ?_
    refine pwl_step 1 rfl (o_move (p := (.d (.sl 1 false (l.map eL)))) rfl rfl) ?_
    refine pwl_step 1 rfl (o_len (sz := 1) (es := (l.map eL)) (n := l.length) rfl Try.underlying25 rfl (by simp)) ?_
    refine pwl_step 1 rfl (opS_bin (k := .i64) (m := (((l.length : Nat)) : Int)) (n := 8) rfl rfl rfl (ib_le rfl)) ?_
    refine pwl_step 1 rfl (o_assign (p := (.d (.v (.bool (decide ((((l.length : Nat)) : Int) ≤ 8)))))) rfl rfl) ?_
    refine pwl_nil ?_
    refine pw_ret ?_
    exact ⟨.inr rfl, rfl, rfl, rfl, ⟨_, (.cons _ _ _ _ (.tmp (of_decide_eq_true rfl) (PVle.of_canon (p := (.d (.v (.bool (decide ((((l.length : Nat)) : Int) ≤ 8)))))) (by simp only [PV.canon]; first | (rw [right_end hE (by omega)]) | (rw [right_long (i := i) (by omega) (by omega)]) | (rw [right_bad (i := i) (j := j) (by omega) (by omega) (by first | (rw [one_0 hq]; exact decide_eq_false (by omega)) | (rw [one_1 hq]; exact decide_eq_false (by omega)) | (rw [one_2 hq]; exact decide_eq_false (by omega)) | (rw [one_3 hq]; exact decide_eq_false (by omega)) | (rw [one_4 hq]; exact decide_eq_false (by omega)) | exact one_5 hq)])))) .nil), rfl⟩⟩
end Go.Proofs.Ytopmocpjgjbdbaa
