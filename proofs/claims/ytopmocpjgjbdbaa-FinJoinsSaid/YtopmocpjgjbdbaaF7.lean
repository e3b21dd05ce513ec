/- fit -/
import Derived.Test.YtopmocpjgjbdbaaF6
import Derived.Test.YtopmocpjgjbdbaaPvN
namespace Go.Proofs.Ytopmocpjgjbdbaa
open Go.Pv
theorem ti22 : TI Try.prog 22 1 24 (.slice none 0 0) := ti_of (by kernel_rfl) rfl rfl
theorem pl32 (fs : Array Field) (h : Try.prog.underlying 32 = some (.struct fs)) (w : World) : (fs.mapM fun f => (do pure (f.offset, ← sizeOf f.type) : Sem (Nat × Nat))).run Try.prog w = .ok #[(0, 1), (1, 1), (2, 1)] w := by
  rw [Try.underlying32] at h
  cases h
  kernel_rfl
def fit1 (o : FOp) : FOp :=
  if o.op % 5 = 0 then ⟨0, o.a % 64, 0⟩ else if o.op % 5 = 1 then ⟨1, o.a % 8 % 6, 0⟩ else if o.op % 5 = 2 then ⟨2, o.a % 8 % 6, o.b % 8 % 6⟩ else if o.op % 5 = 3 then ⟨3, o.a % 8 % 6, o.b % 8⟩ else ⟨4, 0, 0⟩
def fitP (ops : List FOp) : List FOp := (ops.take 8).map fit1
theorem fit_end {p : List FOp} {j : Nat} (h : j = 8 ∨ (p.length ≤ j ∧ j ≤ 8)) : (p.take j).map fit1 = fitP p := by
  unfold fitP
  congr 1
  rw [List.take_eq_take_iff]; omega
theorem fit1_0 {o : FOp} (h : o.op % 5 = 0) : eF (fit1 o) = [.v (.int .u8 (o.op % 5)), .v (.int .i64 (o.a % 64)), .v (.int .i64 0)] := by
  unfold fit1; rw [if_pos h, h]; rfl
theorem fit1_1 {o : FOp} (h0 : ¬ o.op % 5 = 0) (h : o.op % 5 = 1) : eF (fit1 o) = [.v (.int .u8 (o.op % 5)), .v (.int .i64 (o.a % 8 % 6)), .v (.int .i64 0)] := by
  unfold fit1; rw [if_neg h0, if_pos h, h]; rfl
theorem fit1_2 {o : FOp} (h0 : ¬ o.op % 5 = 0) (h1 : ¬ o.op % 5 = 1) (h : o.op % 5 = 2) : eF (fit1 o) = [.v (.int .u8 (o.op % 5)), .v (.int .i64 (o.a % 8 % 6)), .v (.int .i64 (o.b % 8 % 6))] := by
  unfold fit1; rw [if_neg h0, if_neg h1, if_pos h, h]; rfl
theorem fit1_3 {o : FOp} (h0 : ¬ o.op % 5 = 0) (h1 : ¬ o.op % 5 = 1) (h2 : ¬ o.op % 5 = 2) (h : o.op % 5 = 3) : eF (fit1 o) = [.v (.int .u8 (o.op % 5)), .v (.int .i64 (o.a % 8 % 6)), .v (.int .i64 (o.b % 8))] := by
  unfold fit1; rw [if_neg h0, if_neg h1, if_neg h2, if_pos h, h]; rfl
theorem fit1_4 {o : FOp} (h0 : ¬ o.op % 5 = 0) (h1 : ¬ o.op % 5 = 1) (h2 : ¬ o.op % 5 = 2) (h3 : ¬ o.op % 5 = 3) (hp : 0 ≤ o.op) : eF (fit1 o) = [.v (.int .u8 (o.op % 5)), .v (.int .i64 0), .v (.int .i64 0)] := by
  unfold fit1; rw [if_neg h0, if_neg h1, if_neg h2, if_neg h3, show o.op % 5 = 4 by omega]; rfl
theorem take_one {α : Type} [Inhabited α] {xs : List α} {k : Nat} (h : k < xs.length) : xs.take (k + 1) = xs.take k ++ [xs.getD k default] := by
  rw [List.take_succ_eq_append_getElem h]; simp [List.getD, h]
set_option maxRecDepth 20000 in
theorem fit_ok (l : List (List FOp)) (hl : l.length ≤ 8) (hop : ∀ i j, j < (l.getD i default).length → 0 ≤ ((l.getD i default).getD j default).op ∧ ((l.getD i default).getD j default).op ≤ 255) : PF Try.prog 9 [(.sl 1 false (l.map eL))] (.d (.sl 1 false ((l.map fitP).map eL))) := by
  refine pc_intro Try.func9 rfl (of_decide_eq_true rfl) (fun g0 w0 hb0 ht0 => ?_)
  refine pw_len (i := 0) (sz := 1) (es := l.map eL) (of_decide_eq_true rfl) rfl (fun hl0 => ?_)
  simp only [List.length_map] at hl0
  refine pw_seq ?_
  refine pw_region ?_
  refine pwl_step 1 rfl (o_assign (p := (.d (.sl 1 true []))) rfl rfl) ?_
  refine pwl_nil ?_
  refine pw_seq ?_
  refine pw_region ?_
  refine pwl_step 1 rfl (o_buildSlice (sz := 1) (es := []) rfl Try.underlying25 ti22 (of_decide_eq_true rfl) (of_decide_eq_true rfl) rfl rfl rfl) ?_
  refine pwl_step 1 rfl (o_assign (p := (.d (.sl 1 true []))) rfl rfl) ?_
  refine pwl_nil ?_
  refine pw_seq ?_
  refine pw_seq ?_
  refine pw_region ?_
  refine pwl_step 1 rfl (o_assign (p := (.d (.v (.int .i64 0)))) rfl rfl) ?_
  refine pwl_nil ?_
  refine pw_block ?_
  refine pw_wk (Wk.retag (d := 3) (sz := 1) (es := []) rfl (of_decide_eq_true rfl)) ?_
  refine pw_loop' (α := Nat) (fun (x : Nat) => match x with | i => St.ofL 126 [(0, (.d (.sl 1 false (l.map eL)))), (2, (.d (.sl 1 true []))), (3, (.app 0 1 (((l.take i).map fitP).map eL))), (4, (.d (.v (.int .i64 ((i : Nat) : Int)))))] ⟨[], [(((l.take i).map fitP).map eL).length]⟩) (fun (x : Nat) => match x with | i => i ≤ l.length ∧ i ≤ 8) (fun (x : Nat) => match x with | i => 8 - i) 0 (⟨Nat.zero_le _, by omega⟩) (Wk.ofL rfl (rfl) (.cons .rfl' (.cons .rfl' (.cons (PVle.of_eq (p := (.app 0 1 [])) (q := _) (by first | rfl | simp)) (.cons (PVle.of_eq (p := (.d (.v (.int .i64 0)))) (q := _) (by first | rfl | (congr 3; omega))) .nil))))) ?_
  rintro i ⟨hi, hi8⟩
  refine pw_seq ?_
  refine pw_seq ?_
  refine pw_wk (Wk.ofL (n := 126) (l := [(0, (.d (.sl 1 false (l.map eL)))), (2, (.d (.sl 1 true []))), (3, (.app 0 1 (((l.take i).map fitP).map eL))), (4, (.d (.v (.int .i64 ((i : Nat) : Int)))))]) (S := ⟨[], [(((l.take i).map fitP).map eL).length]⟩) rfl rfl (.cons .rfl' (.cons .rfl' (.cons .rfl' (.cons .rfl' .nil))))) ?_
  by_cases hc1 : ((i : Nat) : Int) < (((l.length : Nat)) : Int)
  ·
    refine pw_region ?_
    refine pwl_step 1 rfl (o_move (p := (.d (.v (.int .i64 ((i : Nat) : Int))))) rfl rfl) ?_
    refine pwl_step 1 rfl (o_move (p := (.d (.sl 1 false (l.map eL)))) rfl rfl) ?_
    refine pwl_step 1 rfl (o_len (sz := 1) (es := (l.map eL)) (n := l.length) rfl Try.underlying25 rfl (by simp)) ?_
    refine pwl_step 1 rfl (opS_bin (k := .i64) (m := ((i : Nat) : Int)) (n := (((l.length : Nat)) : Int)) rfl rfl rfl (ib_lt (decide_eq_true hc1))) ?_
    refine pwl_step 1 rfl (o_move (p := (.d (.v (.bool true)))) rfl rfl) ?_
    refine pwl_step_yes 1 rfl rfl (o_move (p := (.d (.v (.int .i64 ((i : Nat) : Int))))) rfl rfl) ?_
    refine pwl_step_yes 1 rfl rfl (opS_bin (k := .i64) (m := ((i : Nat) : Int)) (n := 8) rfl rfl rfl (ib_lt rfl)) ?_
    refine pwl_step 1 rfl (o_pick_t (p := (.d (.v (.bool (decide (((i : Nat) : Int) < 8)))))) rfl rfl rfl) ?_
    refine pwl_nil ?_
    refine pw_cond (b := decide (((i : Nat) : Int) < 8)) rfl (fun hb2 => ?_) (fun hb2 => ?_)
    ·
      replace hb2 := of_decide_eq_true hb2
      refine pw_skip ?_
      refine pw_seq ?_
      refine pw_block ?_
      refine pw_seq ?_
      refine pw_region ?_
      refine pwl_step 1 rfl (o_buildSlice (sz := 3) (es := []) rfl Try.underlying22 ti32 (of_decide_eq_true rfl) (of_decide_eq_true rfl) rfl rfl rfl) ?_
      refine pwl_step 1 rfl (o_assign (p := (.d (.sl 3 true []))) rfl rfl) ?_
      refine pwl_nil ?_
      refine pw_seq ?_
      refine pw_seq ?_
      refine pw_region ?_
      refine pwl_step 1 rfl (o_assign (p := (.d (.v (.int .i64 0)))) rfl rfl) ?_
      refine pwl_nil ?_
      refine pw_block ?_
      refine pw_wk (Wk.retag (d := 5) (sz := 3) (es := []) rfl (of_decide_eq_true rfl)) ?_
      refine pw_loop' (α := Nat) (fun (x : Nat) => match x with | j => St.ofL 126 [(0, (.d (.sl 1 false (l.map eL)))), (2, (.d (.sl 1 true []))), (3, (.app 0 1 (((l.take i).map fitP).map eL))), (4, (.d (.v (.int .i64 ((i : Nat) : Int))))), (5, (.app 1 3 ((((l.getD i default).take j).map fit1).map eF))), (6, (.d (.v (.int .i64 ((j : Nat) : Int)))))] ⟨[], [(((l.take i).map fitP).map eL).length, ((((l.getD i default).take j).map fit1).map eF).length]⟩) (fun (x : Nat) => match x with | j => j ≤ (l.getD i default).length ∧ j ≤ 8) (fun (x : Nat) => match x with | j => 8 - j) 0 (⟨Nat.zero_le _, by omega⟩) (Wk.ofL rfl (rfl) (.cons .rfl' (.cons .rfl' (.cons .rfl' (.cons .rfl' (.cons (PVle.of_eq (p := (.app 1 3 [])) (q := _) (by first | rfl | simp)) (.cons (PVle.of_eq (p := (.d (.v (.int .i64 0)))) (q := _) (by first | rfl | (congr 3; omega))) .nil))))))) ?_
      rintro j ⟨hj, hj8⟩
      have hx : j < (l.getD i default).length → 0 ≤ ((l.getD i default).getD j default).op ∧ ((l.getD i default).getD j default).op ≤ 255 := fun h => hop _ _ h
      refine pw_seq ?_
      refine pw_seq ?_
      refine pw_wk (Wk.ofL (n := 126) (l := [(0, (.d (.sl 1 false (l.map eL)))), (2, (.d (.sl 1 true []))), (3, (.app 0 1 (((l.take i).map fitP).map eL))), (4, (.d (.v (.int .i64 ((i : Nat) : Int))))), (5, (.app 1 3 ((((l.getD i default).take j).map fit1).map eF))), (6, (.d (.v (.int .i64 ((j : Nat) : Int)))))]) (S := ⟨[], [(((l.take i).map fitP).map eL).length, ((((l.getD i default).take j).map fit1).map eF).length]⟩) rfl rfl (.cons .rfl' (.cons .rfl' (.cons .rfl' (.cons .rfl' (.cons .rfl' (.cons .rfl' .nil))))))) ?_
      by_cases hc3 : ((j : Nat) : Int) < ((((l.getD i default).length : Nat)) : Int)
      ·
        refine pw_region ?_
        refine pwl_step 1 rfl (o_move (p := (.d (.v (.int .i64 ((j : Nat) : Int))))) rfl rfl) ?_
        refine pwl_step 1 rfl (o_move (p := (.d (.sl 1 false (l.map eL)))) rfl rfl) ?_
        refine pwl_step 1 rfl (o_move (p := (.d (.v (.int .i64 ((i : Nat) : Int))))) rfl rfl) ?_
        refine pwl_step 1 rfl (opS_index (sz := 1) (es := (l.map eL)) (k := .i64) (n := ((i : Nat) : Int)) (e := [(.sl 3 false ((l.getD i default).map eF))]) rfl Try.underlying25 sz22 rfl rfl (by omega) (map_get (xs := l) (i := i) (by omega))) ?_
        refine pwl_step 1 rfl (opS_load_rp (c := (.sl 3 false ((l.getD i default).map eF))) (cs := []) rfl Try.underlying22 rfl rfl) ?_
        refine pwl_step 1 rfl (o_len (sz := 3) (es := ((l.getD i default).map eF)) (n := (l.getD i default).length) rfl Try.underlying22 rfl (by simp)) ?_
        refine pwl_step 1 rfl (opS_bin (k := .i64) (m := ((j : Nat) : Int)) (n := ((((l.getD i default).length : Nat)) : Int)) rfl rfl rfl (ib_lt (decide_eq_true hc3))) ?_
        refine pwl_step 1 rfl (o_move (p := (.d (.v (.bool true)))) rfl rfl) ?_
        refine pwl_step_yes 1 rfl rfl (o_move (p := (.d (.v (.int .i64 ((j : Nat) : Int))))) rfl rfl) ?_
        refine pwl_step_yes 1 rfl rfl (opS_bin (k := .i64) (m := ((j : Nat) : Int)) (n := 8) rfl rfl rfl (ib_lt rfl)) ?_
        refine pwl_step 1 rfl (o_pick_t (p := (.d (.v (.bool (decide (((j : Nat) : Int) < 8)))))) rfl rfl rfl) ?_
        refine pwl_nil ?_
        refine pw_cond (b := decide (((j : Nat) : Int) < 8)) rfl (fun hb4 => ?_) (fun hb4 => ?_)
        ·
          replace hb4 := of_decide_eq_true hb4
          refine pw_skip ?_
          refine pw_seq ?_
          refine pw_block ?_
          refine pw_seq ?_
          refine pw_wk (Wk.ofL (n := 126) (l := [(0, (.d (.sl 1 false (l.map eL)))), (2, (.d (.sl 1 true []))), (3, (.app 0 1 (((l.take i).map fitP).map eL))), (4, (.d (.v (.int .i64 ((i : Nat) : Int))))), (5, (.app 1 3 ((((l.getD i default).take j).map fit1).map eF))), (6, (.d (.v (.int .i64 ((j : Nat) : Int)))))]) (S := ⟨[], [(((l.take i).map fitP).map eL).length, ((((l.getD i default).take j).map fit1).map eF).length]⟩) rfl rfl (.cons .rfl' (.cons .rfl' (.cons .rfl' (.cons .rfl' (.cons .rfl' (.cons .rfl' .nil))))))) ?_
          refine pw_region ?_
          refine pwl_step 1 rfl (o_move (p := (.d (.sl 1 false (l.map eL)))) rfl rfl) ?_
          refine pwl_step 1 rfl (o_move (p := (.d (.v (.int .i64 ((i : Nat) : Int))))) rfl rfl) ?_
          refine pwl_step 1 rfl (opS_index (sz := 1) (es := (l.map eL)) (k := .i64) (n := ((i : Nat) : Int)) (e := [(.sl 3 false ((l.getD i default).map eF))]) rfl Try.underlying25 sz22 rfl rfl (by omega) (map_get (xs := l) (i := i) (by omega))) ?_
          refine pwl_step 1 rfl (opS_load_rp (c := (.sl 3 false ((l.getD i default).map eF))) (cs := []) rfl Try.underlying22 rfl rfl) ?_
          refine pwl_step 1 rfl (o_move (p := (.d (.v (.int .i64 ((j : Nat) : Int))))) rfl rfl) ?_
          refine pwl_step 1 rfl (opS_index (sz := 3) (es := ((l.getD i default).map eF)) (k := .i64) (n := ((j : Nat) : Int)) (e := [(.v (.int .u8 (((l.getD i default).getD j default).op))), (.v (.int .i64 (((l.getD i default).getD j default).a))), (.v (.int .i64 (((l.getD i default).getD j default).b)))]) rfl Try.underlying22 sz32 rfl rfl (by omega) (map_get (xs := (l.getD i default)) (i := j) (by omega))) ?_
          refine pwl_step 1 rfl (opS_field_rp (cs := [(.v (.int .u8 (((l.getD i default).getD j default).op))), (.v (.int .i64 (((l.getD i default).getD j default).a))), (.v (.int .i64 (((l.getD i default).getD j default).b)))]) rfl Try.underlying32 rfl sz5 (of_decide_eq_true rfl) rfl) ?_
          refine pwl_step 1 rfl (opS_load_rp (c := (.v (.int .u8 (((l.getD i default).getD j default).op)))) (cs := [(.v (.int .i64 (((l.getD i default).getD j default).a))), (.v (.int .i64 (((l.getD i default).getD j default).b)))]) rfl Try.underlying5 rfl rfl) ?_
          refine pwl_step 1 rfl (opS_bin (k := .u8) (m := (((l.getD i default).getD j default).op)) (n := 5) rfl rfl rfl (ib_rem (by omega) (by omega))) ?_
          refine pwl_step 1 rfl (o_build (cs := [(.d (.v (.int .u8 (((l.getD i default).getD j default).op % 5)))), (.d (.v (.int .i64 0))), (.d (.v (.int .i64 0)))]) rfl Try.underlying32 ti32 zs32 (pl32 _ Try.underlying32) rfl) ?_
          refine pwl_step 1 rfl (o_alloc rfl ti32 zs32) ?_
          refine pwl_step 1 rfl (opS_store (b := 0) (off := 0) (cs := [(.d (.v (.int .u8 0))), (.d (.v (.int .i64 0))), (.d (.v (.int .i64 0)))]) (ps := [(.d (.v (.int .u8 (((l.getD i default).getD j default).op % 5)))), (.d (.v (.int .i64 0))), (.d (.v (.int .i64 0)))]) rfl sz32 rfl rfl rfl rfl (of_decide_eq_true rfl) (List.cons_ne_nil _ _)) ?_
          refine pwl_nil ?_
          refine pw_seq ?_
          refine pw_seq ?_
          refine pw_region ?_
          refine pwl_step 1 rfl (opS_field_ptr (b := 0) (off := 0) rfl Try.underlying32 rfl sz5 (of_decide_eq_true rfl) rfl) ?_
          refine pwl_step 1 rfl (opS_load_box (b := 0) (off := 0) (cs := [(.d (.v (.int .u8 (((l.getD i default).getD j default).op % 5)))), (.d (.v (.int .i64 0))), (.d (.v (.int .i64 0)))]) (p := (.d (.v (.int .u8 (((l.getD i default).getD j default).op % 5))))) rfl Try.underlying5 rfl rfl rfl rfl) ?_
          refine pwl_nil ?_
          refine pw_block ?_
          refine pw_seq ?_
          refine pw_region ?_
          refine pwl_step 1 rfl (opS_bin (k := .u8) (m := (((l.getD i default).getD j default).op % 5)) (n := 0) rfl rfl rfl (ib_eq rfl)) ?_
          refine pwl_step 1 rfl (o_assign (p := (.d (.v (.bool (decide ((((l.getD i default).getD j default).op % 5) = 0)))))) rfl rfl) ?_
          refine pwl_nil ?_
          refine pw_cond (b := decide ((((l.getD i default).getD j default).op % 5) = 0)) rfl (fun hb5 => ?_) (fun hb5 => ?_)
          ·
            replace hb5 := of_decide_eq_true hb5
            refine pw_wk (Wk.ofL (n := 126) (l := [(0, (.d (.sl 1 false (l.map eL)))), (2, (.d (.sl 1 true []))), (3, (.app 0 1 (((l.take i).map fitP).map eL))), (4, (.d (.v (.int .i64 ((i : Nat) : Int))))), (5, (.app 1 3 ((((l.getD i default).take j).map fit1).map eF))), (6, (.d (.v (.int .i64 ((j : Nat) : Int))))), (7, (.ptr 0 0))]) (S := ⟨[some [(.d (.v (.int .u8 (((l.getD i default).getD j default).op % 5)))), (.d (.v (.int .i64 0))), (.d (.v (.int .i64 0)))]], [(((l.take i).map fitP).map eL).length, ((((l.getD i default).take j).map fit1).map eF).length]⟩) rfl rfl (.cons .rfl' (.cons .rfl' (.cons .rfl' (.cons .rfl' (.cons .rfl' (.cons .rfl' (.cons .rfl' .nil)))))))) ?_
            refine pw_region ?_
            refine pwl_step 1 rfl (o_move (p := (.d (.sl 1 false (l.map eL)))) rfl rfl) ?_
            refine pwl_step 1 rfl (o_move (p := (.d (.v (.int .i64 ((i : Nat) : Int))))) rfl rfl) ?_
            refine pwl_step 1 rfl (opS_index (sz := 1) (es := (l.map eL)) (k := .i64) (n := ((i : Nat) : Int)) (e := [(.sl 3 false ((l.getD i default).map eF))]) rfl Try.underlying25 sz22 rfl rfl (by omega) (map_get (xs := l) (i := i) (by omega))) ?_
            refine pwl_step 1 rfl (opS_load_rp (c := (.sl 3 false ((l.getD i default).map eF))) (cs := []) rfl Try.underlying22 rfl rfl) ?_
            refine pwl_step 1 rfl (o_move (p := (.d (.v (.int .i64 ((j : Nat) : Int))))) rfl rfl) ?_
            refine pwl_step 1 rfl (opS_index (sz := 3) (es := ((l.getD i default).map eF)) (k := .i64) (n := ((j : Nat) : Int)) (e := [(.v (.int .u8 (((l.getD i default).getD j default).op))), (.v (.int .i64 (((l.getD i default).getD j default).a))), (.v (.int .i64 (((l.getD i default).getD j default).b)))]) rfl Try.underlying22 sz32 rfl rfl (by omega) (map_get (xs := (l.getD i default)) (i := j) (by omega))) ?_
            refine pwl_step 1 rfl (opS_field_rp (cs := [(.v (.int .u8 (((l.getD i default).getD j default).op))), (.v (.int .i64 (((l.getD i default).getD j default).a))), (.v (.int .i64 (((l.getD i default).getD j default).b)))]) rfl Try.underlying32 rfl sz3 (of_decide_eq_true rfl) rfl) ?_
            refine pwl_step 1 rfl (opS_load_rp (c := (.v (.int .i64 (((l.getD i default).getD j default).a)))) (cs := [(.v (.int .i64 (((l.getD i default).getD j default).b)))]) rfl Try.underlying3 rfl rfl) ?_
            refine pwl_step 1 rfl (opS_bin (k := .i64) (m := (((l.getD i default).getD j default).a)) (n := 63) rfl rfl rfl (ib_and63 _)) ?_
            refine pwl_step 1 rfl (opS_field_ptr (b := 0) (off := 0) rfl Try.underlying32 rfl sz3 (of_decide_eq_true rfl) rfl) ?_
            refine pwl_step 1 rfl (opS_store (b := 0) (off := 1) (cs := [(.d (.v (.int .u8 (((l.getD i default).getD j default).op % 5)))), (.d (.v (.int .i64 0))), (.d (.v (.int .i64 0)))]) (ps := [(.d (.v (.int .i64 (((l.getD i default).getD j default).a % 64))))]) rfl sz3 rfl rfl rfl rfl (of_decide_eq_true rfl) (List.cons_ne_nil _ _)) ?_
            refine pwl_nil ?_
            refine pw_wk (Wk.ofL (n := 126) (l := [(0, (.d (.sl 1 false (l.map eL)))), (2, (.d (.sl 1 true []))), (3, (.app 0 1 (((l.take i).map fitP).map eL))), (4, (.d (.v (.int .i64 ((i : Nat) : Int))))), (5, (.app 1 3 ((((l.getD i default).take j).map fit1).map eF))), (6, (.d (.v (.int .i64 ((j : Nat) : Int))))), (7, (.ptr 0 0))]) (S := ⟨[some [(.d (.v (.int .u8 (((l.getD i default).getD j default).op % 5)))), (.d (.v (.int .i64 (((l.getD i default).getD j default).a % 64)))), (.d (.v (.int .i64 0)))]], [(((l.take i).map fitP).map eL).length, ((((l.getD i default).take j).map fit1).map eF).length]⟩) rfl rfl (.cons .rfl' (.cons .rfl' (.cons .rfl' (.cons .rfl' (.cons .rfl' (.cons .rfl' (.cons .rfl' .nil)))))))) ?_
            refine pw_region ?_
            refine pwl_step 1 rfl (o_move (p := (.app 1 3 ((((l.getD i default).take j).map fit1).map eF))) rfl rfl) ?_
            refine pwl_step 1 rfl (opS_load_box_agg (b := 0) (off := 0) (cs := [(.d (.v (.int .u8 (((l.getD i default).getD j default).op % 5)))), (.d (.v (.int .i64 (((l.getD i default).getD j default).a % 64)))), (.d (.v (.int .i64 0)))]) rfl Try.underlying32 rfl sz32 rfl rfl (of_decide_eq_true rfl) (List.cons_ne_nil _ _)) ?_
            refine pwl_step 1 rfl (o_buildSlice (sz := 3) (es := [([(.v (.int .u8 (((l.getD i default).getD j default).op % 5))), (.v (.int .i64 (((l.getD i default).getD j default).a % 64))), (.v (.int .i64 0))] : List D)]) rfl Try.underlying22 ti32 (of_decide_eq_true rfl) (of_decide_eq_true rfl) rfl rfl rfl) ?_
            refine pwl_step 3 rfl (o_append_tag (sz := 3) (t := 1) (es := (((l.getD i default).take j).map fit1).map eF) (ys := [([(.v (.int .u8 (((l.getD i default).getD j default).op % 5))), (.v (.int .i64 (((l.getD i default).getD j default).a % 64))), (.v (.int .i64 0))] : List D)]) rfl Try.underlying22 ti32 (of_decide_eq_true rfl) rfl rfl (by first | rfl | simp) (by simp only [List.length_map, List.length_append, List.length_cons, List.length_nil, List.length_take]; omega) (by simp only [List.length_map, List.length_append, List.length_cons, List.length_nil, List.length_take]; omega)) ?_
            refine pwl_step 1 rfl (o_assign (p := (.app 1 3 (((((l.getD i default).take j).map fit1).map eF) ++ [([(.v (.int .u8 (((l.getD i default).getD j default).op % 5))), (.v (.int .i64 (((l.getD i default).getD j default).a % 64))), (.v (.int .i64 0))] : List D)]))) rfl rfl) ?_
            refine pwl_nil ?_
            refine pw_region ?_
            refine pwl_step 1 rfl (o_move (p := (.d (.v (.int .i64 ((j : Nat) : Int))))) rfl rfl) ?_
            refine pwl_step 1 rfl (opS_bin (k := .i64) (m := ((j : Nat) : Int)) (n := 1) rfl rfl rfl (ib_add (by omega) (by omega))) ?_
            refine pwl_step 1 rfl (o_assign (p := (.d (.v (.int .i64 (((j : Nat) : Int) + 1))))) rfl rfl) ?_
            refine pwl_nil ?_
            exact ⟨j + 1, ⟨by omega, by omega⟩, by simp only []; omega, Wk.ofL_cut (nb := 0) (nt := 2) (by exact hb0.gl (by decide)) (by rw [ht0]; decide) rfl (by show (⟨[], [(((l.take i).map fitP).map eL).length, ((((l.getD i default).take j).map fit1).map eF).length + [([(.v (.int .u8 (((l.getD i default).getD j default).op % 5))), (.v (.int .i64 (((l.getD i default).getD j default).a % 64))), (.v (.int .i64 0))] : List D)].length]⟩ : Sx) = _; simp only [List.length_map, List.length_append, List.length_take, List.length_cons, List.length_nil]; congr 3; omega) (.cons .rfl' (.cons .rfl' (.cons .rfl' (.cons .rfl' (.cons (PVle.of_eq (p := (.app 1 3 (((((l.getD i default).take j).map fit1).map eF) ++ [([(.v (.int .u8 (((l.getD i default).getD j default).op % 5))), (.v (.int .i64 (((l.getD i default).getD j default).a % 64))), (.v (.int .i64 0))] : List D)]))) (q := _) (by rw [take_one (xs := l.getD i default) (k := j) (by omega)]; simp only [List.map_append, List.map_cons, List.map_nil]; rw [fit1_0 hb5])) (.cons (PVle.of_eq (p := (.d (.v (.int .i64 (((j : Nat) : Int) + 1))))) (q := _) (by first | rfl | (congr 3; omega))) .nil)))))) rfl rfl⟩
          ·
            replace hb5 := of_decide_eq_false hb5
            refine pw_seq ?_
            refine pw_region ?_
            refine pwl_step 1 rfl (opS_bin (k := .u8) (m := (((l.getD i default).getD j default).op % 5)) (n := 1) rfl rfl rfl (ib_eq rfl)) ?_
            refine pwl_step 1 rfl (o_assign (p := (.d (.v (.bool (decide ((((l.getD i default).getD j default).op % 5) = 1)))))) rfl rfl) ?_
            refine pwl_nil ?_
            refine pw_cond (b := decide ((((l.getD i default).getD j default).op % 5) = 1)) rfl (fun hb6 => ?_) (fun hb6 => ?_)
            ·
              replace hb6 := of_decide_eq_true hb6
              refine pw_wk (Wk.ofL (n := 126) (l := [(0, (.d (.sl 1 false (l.map eL)))), (2, (.d (.sl 1 true []))), (3, (.app 0 1 (((l.take i).map fitP).map eL))), (4, (.d (.v (.int .i64 ((i : Nat) : Int))))), (5, (.app 1 3 ((((l.getD i default).take j).map fit1).map eF))), (6, (.d (.v (.int .i64 ((j : Nat) : Int))))), (7, (.ptr 0 0))]) (S := ⟨[some [(.d (.v (.int .u8 (((l.getD i default).getD j default).op % 5)))), (.d (.v (.int .i64 0))), (.d (.v (.int .i64 0)))]], [(((l.take i).map fitP).map eL).length, ((((l.getD i default).take j).map fit1).map eF).length]⟩) rfl rfl (.cons .rfl' (.cons .rfl' (.cons .rfl' (.cons .rfl' (.cons .rfl' (.cons .rfl' (.cons .rfl' .nil)))))))) ?_
              refine pw_region ?_
              refine pwl_step 1 rfl (o_move (p := (.d (.sl 1 false (l.map eL)))) rfl rfl) ?_
              refine pwl_step 1 rfl (o_move (p := (.d (.v (.int .i64 ((i : Nat) : Int))))) rfl rfl) ?_
              refine pwl_step 1 rfl (opS_index (sz := 1) (es := (l.map eL)) (k := .i64) (n := ((i : Nat) : Int)) (e := [(.sl 3 false ((l.getD i default).map eF))]) rfl Try.underlying25 sz22 rfl rfl (by omega) (map_get (xs := l) (i := i) (by omega))) ?_
              refine pwl_step 1 rfl (opS_load_rp (c := (.sl 3 false ((l.getD i default).map eF))) (cs := []) rfl Try.underlying22 rfl rfl) ?_
              refine pwl_step 1 rfl (o_move (p := (.d (.v (.int .i64 ((j : Nat) : Int))))) rfl rfl) ?_
              refine pwl_step 1 rfl (opS_index (sz := 3) (es := ((l.getD i default).map eF)) (k := .i64) (n := ((j : Nat) : Int)) (e := [(.v (.int .u8 (((l.getD i default).getD j default).op))), (.v (.int .i64 (((l.getD i default).getD j default).a))), (.v (.int .i64 (((l.getD i default).getD j default).b)))]) rfl Try.underlying22 sz32 rfl rfl (by omega) (map_get (xs := (l.getD i default)) (i := j) (by omega))) ?_
              refine pwl_step 1 rfl (opS_field_rp (cs := [(.v (.int .u8 (((l.getD i default).getD j default).op))), (.v (.int .i64 (((l.getD i default).getD j default).a))), (.v (.int .i64 (((l.getD i default).getD j default).b)))]) rfl Try.underlying32 rfl sz3 (of_decide_eq_true rfl) rfl) ?_
              refine pwl_step 1 rfl (opS_load_rp (c := (.v (.int .i64 (((l.getD i default).getD j default).a)))) (cs := [(.v (.int .i64 (((l.getD i default).getD j default).b)))]) rfl Try.underlying3 rfl rfl) ?_
              refine pwl_step 1 rfl (opS_bin (k := .i64) (m := (((l.getD i default).getD j default).a)) (n := 7) rfl rfl rfl (ib_and7 _)) ?_
              refine pwl_step 1 rfl (opS_bin (k := .i64) (m := (((l.getD i default).getD j default).a % 8)) (n := 6) rfl rfl rfl (ib_rem (by omega) (by omega))) ?_
              refine pwl_step 1 rfl (opS_field_ptr (b := 0) (off := 0) rfl Try.underlying32 rfl sz3 (of_decide_eq_true rfl) rfl) ?_
              refine pwl_step 1 rfl (opS_store (b := 0) (off := 1) (cs := [(.d (.v (.int .u8 (((l.getD i default).getD j default).op % 5)))), (.d (.v (.int .i64 0))), (.d (.v (.int .i64 0)))]) (ps := [(.d (.v (.int .i64 ((((l.getD i default).getD j default).a % 8) % 6))))]) rfl sz3 rfl rfl rfl rfl (of_decide_eq_true rfl) (List.cons_ne_nil _ _)) ?_
              refine pwl_nil ?_
              refine pw_wk (Wk.ofL (n := 126) (l := [(0, (.d (.sl 1 false (l.map eL)))), (2, (.d (.sl 1 true []))), (3, (.app 0 1 (((l.take i).map fitP).map eL))), (4, (.d (.v (.int .i64 ((i : Nat) : Int))))), (5, (.app 1 3 ((((l.getD i default).take j).map fit1).map eF))), (6, (.d (.v (.int .i64 ((j : Nat) : Int))))), (7, (.ptr 0 0))]) (S := ⟨[some [(.d (.v (.int .u8 (((l.getD i default).getD j default).op % 5)))), (.d (.v (.int .i64 ((((l.getD i default).getD j default).a % 8) % 6)))), (.d (.v (.int .i64 0)))]], [(((l.take i).map fitP).map eL).length, ((((l.getD i default).take j).map fit1).map eF).length]⟩) rfl rfl (.cons .rfl' (.cons .rfl' (.cons .rfl' (.cons .rfl' (.cons .rfl' (.cons .rfl' (.cons .rfl' .nil)))))))) ?_
              refine pw_region ?_
              refine pwl_step 1 rfl (o_move (p := (.app 1 3 ((((l.getD i default).take j).map fit1).map eF))) rfl rfl) ?_
              refine pwl_step 1 rfl (opS_load_box_agg (b := 0) (off := 0) (cs := [(.d (.v (.int .u8 (((l.getD i default).getD j default).op % 5)))), (.d (.v (.int .i64 ((((l.getD i default).getD j default).a % 8) % 6)))), (.d (.v (.int .i64 0)))]) rfl Try.underlying32 rfl sz32 rfl rfl (of_decide_eq_true rfl) (List.cons_ne_nil _ _)) ?_
              refine pwl_step 1 rfl (o_buildSlice (sz := 3) (es := [([(.v (.int .u8 (((l.getD i default).getD j default).op % 5))), (.v (.int .i64 ((((l.getD i default).getD j default).a % 8) % 6))), (.v (.int .i64 0))] : List D)]) rfl Try.underlying22 ti32 (of_decide_eq_true rfl) (of_decide_eq_true rfl) rfl rfl rfl) ?_
              refine pwl_step 3 rfl (o_append_tag (sz := 3) (t := 1) (es := (((l.getD i default).take j).map fit1).map eF) (ys := [([(.v (.int .u8 (((l.getD i default).getD j default).op % 5))), (.v (.int .i64 ((((l.getD i default).getD j default).a % 8) % 6))), (.v (.int .i64 0))] : List D)]) rfl Try.underlying22 ti32 (of_decide_eq_true rfl) rfl rfl (by first | rfl | simp) (by simp only [List.length_map, List.length_append, List.length_cons, List.length_nil, List.length_take]; omega) (by simp only [List.length_map, List.length_append, List.length_cons, List.length_nil, List.length_take]; omega)) ?_
              refine pwl_step 1 rfl (o_assign (p := (.app 1 3 (((((l.getD i default).take j).map fit1).map eF) ++ [([(.v (.int .u8 (((l.getD i default).getD j default).op % 5))), (.v (.int .i64 ((((l.getD i default).getD j default).a % 8) % 6))), (.v (.int .i64 0))] : List D)]))) rfl rfl) ?_
              refine pwl_nil ?_
              refine pw_region ?_
              refine pwl_step 1 rfl (o_move (p := (.d (.v (.int .i64 ((j : Nat) : Int))))) rfl rfl) ?_
              refine pwl_step 1 rfl (opS_bin (k := .i64) (m := ((j : Nat) : Int)) (n := 1) rfl rfl rfl (ib_add (by omega) (by omega))) ?_
              refine pwl_step 1 rfl (o_assign (p := (.d (.v (.int .i64 (((j : Nat) : Int) + 1))))) rfl rfl) ?_
              refine pwl_nil ?_
              exact ⟨j + 1, ⟨by omega, by omega⟩, by simp only []; omega, Wk.ofL_cut (nb := 0) (nt := 2) (by exact hb0.gl (by decide)) (by rw [ht0]; decide) rfl (by show (⟨[], [(((l.take i).map fitP).map eL).length, ((((l.getD i default).take j).map fit1).map eF).length + [([(.v (.int .u8 (((l.getD i default).getD j default).op % 5))), (.v (.int .i64 ((((l.getD i default).getD j default).a % 8) % 6))), (.v (.int .i64 0))] : List D)].length]⟩ : Sx) = _; simp only [List.length_map, List.length_append, List.length_take, List.length_cons, List.length_nil]; congr 3; omega) (.cons .rfl' (.cons .rfl' (.cons .rfl' (.cons .rfl' (.cons (PVle.of_eq (p := (.app 1 3 (((((l.getD i default).take j).map fit1).map eF) ++ [([(.v (.int .u8 (((l.getD i default).getD j default).op % 5))), (.v (.int .i64 ((((l.getD i default).getD j default).a % 8) % 6))), (.v (.int .i64 0))] : List D)]))) (q := _) (by rw [take_one (xs := l.getD i default) (k := j) (by omega)]; simp only [List.map_append, List.map_cons, List.map_nil]; rw [fit1_1 hb5 hb6])) (.cons (PVle.of_eq (p := (.d (.v (.int .i64 (((j : Nat) : Int) + 1))))) (q := _) (by first | rfl | (congr 3; omega))) .nil)))))) rfl rfl⟩
            ·
              replace hb6 := of_decide_eq_false hb6
              refine pw_seq ?_
              refine pw_region ?_
              refine pwl_step 1 rfl (opS_bin (k := .u8) (m := (((l.getD i default).getD j default).op % 5)) (n := 2) rfl rfl rfl (ib_eq rfl)) ?_
              refine pwl_step 1 rfl (o_assign (p := (.d (.v (.bool (decide ((((l.getD i default).getD j default).op % 5) = 2)))))) rfl rfl) ?_
              refine pwl_nil ?_
              refine pw_cond (b := decide ((((l.getD i default).getD j default).op % 5) = 2)) rfl (fun hb7 => ?_) (fun hb7 => ?_)
              ·
                replace hb7 := of_decide_eq_true hb7
                refine pw_seq ?_
                refine pw_wk (Wk.ofL (n := 126) (l := [(0, (.d (.sl 1 false (l.map eL)))), (2, (.d (.sl 1 true []))), (3, (.app 0 1 (((l.take i).map fitP).map eL))), (4, (.d (.v (.int .i64 ((i : Nat) : Int))))), (5, (.app 1 3 ((((l.getD i default).take j).map fit1).map eF))), (6, (.d (.v (.int .i64 ((j : Nat) : Int))))), (7, (.ptr 0 0))]) (S := ⟨[some [(.d (.v (.int .u8 (((l.getD i default).getD j default).op % 5)))), (.d (.v (.int .i64 0))), (.d (.v (.int .i64 0)))]], [(((l.take i).map fitP).map eL).length, ((((l.getD i default).take j).map fit1).map eF).length]⟩) rfl rfl (.cons .rfl' (.cons .rfl' (.cons .rfl' (.cons .rfl' (.cons .rfl' (.cons .rfl' (.cons .rfl' .nil)))))))) ?_
                refine pw_region ?_
                refine pwl_step 1 rfl (o_move (p := (.d (.sl 1 false (l.map eL)))) rfl rfl) ?_
                refine pwl_step 1 rfl (o_move (p := (.d (.v (.int .i64 ((i : Nat) : Int))))) rfl rfl) ?_
                refine pwl_step 1 rfl (opS_index (sz := 1) (es := (l.map eL)) (k := .i64) (n := ((i : Nat) : Int)) (e := [(.sl 3 false ((l.getD i default).map eF))]) rfl Try.underlying25 sz22 rfl rfl (by omega) (map_get (xs := l) (i := i) (by omega))) ?_
                refine pwl_step 1 rfl (opS_load_rp (c := (.sl 3 false ((l.getD i default).map eF))) (cs := []) rfl Try.underlying22 rfl rfl) ?_
                refine pwl_step 1 rfl (o_move (p := (.d (.v (.int .i64 ((j : Nat) : Int))))) rfl rfl) ?_
                refine pwl_step 1 rfl (opS_index (sz := 3) (es := ((l.getD i default).map eF)) (k := .i64) (n := ((j : Nat) : Int)) (e := [(.v (.int .u8 (((l.getD i default).getD j default).op))), (.v (.int .i64 (((l.getD i default).getD j default).a))), (.v (.int .i64 (((l.getD i default).getD j default).b)))]) rfl Try.underlying22 sz32 rfl rfl (by omega) (map_get (xs := (l.getD i default)) (i := j) (by omega))) ?_
                refine pwl_step 1 rfl (opS_field_rp (cs := [(.v (.int .u8 (((l.getD i default).getD j default).op))), (.v (.int .i64 (((l.getD i default).getD j default).a))), (.v (.int .i64 (((l.getD i default).getD j default).b)))]) rfl Try.underlying32 rfl sz3 (of_decide_eq_true rfl) rfl) ?_
                refine pwl_step 1 rfl (opS_load_rp (c := (.v (.int .i64 (((l.getD i default).getD j default).a)))) (cs := [(.v (.int .i64 (((l.getD i default).getD j default).b)))]) rfl Try.underlying3 rfl rfl) ?_
                refine pwl_step 1 rfl (opS_bin (k := .i64) (m := (((l.getD i default).getD j default).a)) (n := 7) rfl rfl rfl (ib_and7 _)) ?_
                refine pwl_step 1 rfl (opS_bin (k := .i64) (m := (((l.getD i default).getD j default).a % 8)) (n := 6) rfl rfl rfl (ib_rem (by omega) (by omega))) ?_
                refine pwl_step 1 rfl (opS_field_ptr (b := 0) (off := 0) rfl Try.underlying32 rfl sz3 (of_decide_eq_true rfl) rfl) ?_
                refine pwl_step 1 rfl (opS_store (b := 0) (off := 1) (cs := [(.d (.v (.int .u8 (((l.getD i default).getD j default).op % 5)))), (.d (.v (.int .i64 0))), (.d (.v (.int .i64 0)))]) (ps := [(.d (.v (.int .i64 ((((l.getD i default).getD j default).a % 8) % 6))))]) rfl sz3 rfl rfl rfl rfl (of_decide_eq_true rfl) (List.cons_ne_nil _ _)) ?_
                refine pwl_nil ?_
                refine pw_wk (Wk.ofL (n := 126) (l := [(0, (.d (.sl 1 false (l.map eL)))), (2, (.d (.sl 1 true []))), (3, (.app 0 1 (((l.take i).map fitP).map eL))), (4, (.d (.v (.int .i64 ((i : Nat) : Int))))), (5, (.app 1 3 ((((l.getD i default).take j).map fit1).map eF))), (6, (.d (.v (.int .i64 ((j : Nat) : Int))))), (7, (.ptr 0 0))]) (S := ⟨[some [(.d (.v (.int .u8 (((l.getD i default).getD j default).op % 5)))), (.d (.v (.int .i64 ((((l.getD i default).getD j default).a % 8) % 6)))), (.d (.v (.int .i64 0)))]], [(((l.take i).map fitP).map eL).length, ((((l.getD i default).take j).map fit1).map eF).length]⟩) rfl rfl (.cons .rfl' (.cons .rfl' (.cons .rfl' (.cons .rfl' (.cons .rfl' (.cons .rfl' (.cons .rfl' .nil)))))))) ?_
                refine pw_region ?_
                refine pwl_step 1 rfl (o_move (p := (.d (.sl 1 false (l.map eL)))) rfl rfl) ?_
                refine pwl_step 1 rfl (o_move (p := (.d (.v (.int .i64 ((i : Nat) : Int))))) rfl rfl) ?_
                refine pwl_step 1 rfl (opS_index (sz := 1) (es := (l.map eL)) (k := .i64) (n := ((i : Nat) : Int)) (e := [(.sl 3 false ((l.getD i default).map eF))]) rfl Try.underlying25 sz22 rfl rfl (by omega) (map_get (xs := l) (i := i) (by omega))) ?_
                refine pwl_step 1 rfl (opS_load_rp (c := (.sl 3 false ((l.getD i default).map eF))) (cs := []) rfl Try.underlying22 rfl rfl) ?_
                refine pwl_step 1 rfl (o_move (p := (.d (.v (.int .i64 ((j : Nat) : Int))))) rfl rfl) ?_
                refine pwl_step 1 rfl (opS_index (sz := 3) (es := ((l.getD i default).map eF)) (k := .i64) (n := ((j : Nat) : Int)) (e := [(.v (.int .u8 (((l.getD i default).getD j default).op))), (.v (.int .i64 (((l.getD i default).getD j default).a))), (.v (.int .i64 (((l.getD i default).getD j default).b)))]) rfl Try.underlying22 sz32 rfl rfl (by omega) (map_get (xs := (l.getD i default)) (i := j) (by omega))) ?_
                refine pwl_step 1 rfl (opS_field_rp (cs := [(.v (.int .u8 (((l.getD i default).getD j default).op))), (.v (.int .i64 (((l.getD i default).getD j default).a))), (.v (.int .i64 (((l.getD i default).getD j default).b)))]) rfl Try.underlying32 rfl sz3 (of_decide_eq_true rfl) rfl) ?_
                refine pwl_step 1 rfl (opS_load_rp (c := (.v (.int .i64 (((l.getD i default).getD j default).b)))) (cs := []) rfl Try.underlying3 rfl rfl) ?_
                refine pwl_step 1 rfl (opS_bin (k := .i64) (m := (((l.getD i default).getD j default).b)) (n := 7) rfl rfl rfl (ib_and7 _)) ?_
                refine pwl_step 1 rfl (opS_bin (k := .i64) (m := (((l.getD i default).getD j default).b % 8)) (n := 6) rfl rfl rfl (ib_rem (by omega) (by omega))) ?_
                refine pwl_step 1 rfl (opS_field_ptr (b := 0) (off := 0) rfl Try.underlying32 rfl sz3 (of_decide_eq_true rfl) rfl) ?_
                refine pwl_step 1 rfl (opS_store (b := 0) (off := 2) (cs := [(.d (.v (.int .u8 (((l.getD i default).getD j default).op % 5)))), (.d (.v (.int .i64 ((((l.getD i default).getD j default).a % 8) % 6)))), (.d (.v (.int .i64 0)))]) (ps := [(.d (.v (.int .i64 ((((l.getD i default).getD j default).b % 8) % 6))))]) rfl sz3 rfl rfl rfl rfl (of_decide_eq_true rfl) (List.cons_ne_nil _ _)) ?_
                refine pwl_nil ?_
                refine pw_wk (Wk.ofL (n := 126) (l := [(0, (.d (.sl 1 false (l.map eL)))), (2, (.d (.sl 1 true []))), (3, (.app 0 1 (((l.take i).map fitP).map eL))), (4, (.d (.v (.int .i64 ((i : Nat) : Int))))), (5, (.app 1 3 ((((l.getD i default).take j).map fit1).map eF))), (6, (.d (.v (.int .i64 ((j : Nat) : Int))))), (7, (.ptr 0 0))]) (S := ⟨[some [(.d (.v (.int .u8 (((l.getD i default).getD j default).op % 5)))), (.d (.v (.int .i64 ((((l.getD i default).getD j default).a % 8) % 6)))), (.d (.v (.int .i64 ((((l.getD i default).getD j default).b % 8) % 6))))]], [(((l.take i).map fitP).map eL).length, ((((l.getD i default).take j).map fit1).map eF).length]⟩) rfl rfl (.cons .rfl' (.cons .rfl' (.cons .rfl' (.cons .rfl' (.cons .rfl' (.cons .rfl' (.cons .rfl' .nil)))))))) ?_
                refine pw_region ?_
                refine pwl_step 1 rfl (o_move (p := (.app 1 3 ((((l.getD i default).take j).map fit1).map eF))) rfl rfl) ?_
                refine pwl_step 1 rfl (opS_load_box_agg (b := 0) (off := 0) (cs := [(.d (.v (.int .u8 (((l.getD i default).getD j default).op % 5)))), (.d (.v (.int .i64 ((((l.getD i default).getD j default).a % 8) % 6)))), (.d (.v (.int .i64 ((((l.getD i default).getD j default).b % 8) % 6))))]) rfl Try.underlying32 rfl sz32 rfl rfl (of_decide_eq_true rfl) (List.cons_ne_nil _ _)) ?_
                refine pwl_step 1 rfl (o_buildSlice (sz := 3) (es := [([(.v (.int .u8 (((l.getD i default).getD j default).op % 5))), (.v (.int .i64 ((((l.getD i default).getD j default).a % 8) % 6))), (.v (.int .i64 ((((l.getD i default).getD j default).b % 8) % 6)))] : List D)]) rfl Try.underlying22 ti32 (of_decide_eq_true rfl) (of_decide_eq_true rfl) rfl rfl rfl) ?_
                refine pwl_step 3 rfl (o_append_tag (sz := 3) (t := 1) (es := (((l.getD i default).take j).map fit1).map eF) (ys := [([(.v (.int .u8 (((l.getD i default).getD j default).op % 5))), (.v (.int .i64 ((((l.getD i default).getD j default).a % 8) % 6))), (.v (.int .i64 ((((l.getD i default).getD j default).b % 8) % 6)))] : List D)]) rfl Try.underlying22 ti32 (of_decide_eq_true rfl) rfl rfl (by first | rfl | simp) (by simp only [List.length_map, List.length_append, List.length_cons, List.length_nil, List.length_take]; omega) (by simp only [List.length_map, List.length_append, List.length_cons, List.length_nil, List.length_take]; omega)) ?_
                refine pwl_step 1 rfl (o_assign (p := (.app 1 3 (((((l.getD i default).take j).map fit1).map eF) ++ [([(.v (.int .u8 (((l.getD i default).getD j default).op % 5))), (.v (.int .i64 ((((l.getD i default).getD j default).a % 8) % 6))), (.v (.int .i64 ((((l.getD i default).getD j default).b % 8) % 6)))] : List D)]))) rfl rfl) ?_
                refine pwl_nil ?_
                refine pw_region ?_
                refine pwl_step 1 rfl (o_move (p := (.d (.v (.int .i64 ((j : Nat) : Int))))) rfl rfl) ?_
                refine pwl_step 1 rfl (opS_bin (k := .i64) (m := ((j : Nat) : Int)) (n := 1) rfl rfl rfl (ib_add (by omega) (by omega))) ?_
                refine pwl_step 1 rfl (o_assign (p := (.d (.v (.int .i64 (((j : Nat) : Int) + 1))))) rfl rfl) ?_
                refine pwl_nil ?_
                exact ⟨j + 1, ⟨by omega, by omega⟩, by simp only []; omega, Wk.ofL_cut (nb := 0) (nt := 2) (by exact hb0.gl (by decide)) (by rw [ht0]; decide) rfl (by show (⟨[], [(((l.take i).map fitP).map eL).length, ((((l.getD i default).take j).map fit1).map eF).length + [([(.v (.int .u8 (((l.getD i default).getD j default).op % 5))), (.v (.int .i64 ((((l.getD i default).getD j default).a % 8) % 6))), (.v (.int .i64 ((((l.getD i default).getD j default).b % 8) % 6)))] : List D)].length]⟩ : Sx) = _; simp only [List.length_map, List.length_append, List.length_take, List.length_cons, List.length_nil]; congr 3; omega) (.cons .rfl' (.cons .rfl' (.cons .rfl' (.cons .rfl' (.cons (PVle.of_eq (p := (.app 1 3 (((((l.getD i default).take j).map fit1).map eF) ++ [([(.v (.int .u8 (((l.getD i default).getD j default).op % 5))), (.v (.int .i64 ((((l.getD i default).getD j default).a % 8) % 6))), (.v (.int .i64 ((((l.getD i default).getD j default).b % 8) % 6)))] : List D)]))) (q := _) (by rw [take_one (xs := l.getD i default) (k := j) (by omega)]; simp only [List.map_append, List.map_cons, List.map_nil]; rw [fit1_2 hb5 hb6 hb7])) (.cons (PVle.of_eq (p := (.d (.v (.int .i64 (((j : Nat) : Int) + 1))))) (q := _) (by first | rfl | (congr 3; omega))) .nil)))))) rfl rfl⟩
              ·
                replace hb7 := of_decide_eq_false hb7
                refine pw_seq ?_
                refine pw_region ?_
                refine pwl_step 1 rfl (opS_bin (k := .u8) (m := (((l.getD i default).getD j default).op % 5)) (n := 3) rfl rfl rfl (ib_eq rfl)) ?_
                refine pwl_step 1 rfl (o_assign (p := (.d (.v (.bool (decide ((((l.getD i default).getD j default).op % 5) = 3)))))) rfl rfl) ?_
                refine pwl_nil ?_
                refine pw_cond (b := decide ((((l.getD i default).getD j default).op % 5) = 3)) rfl (fun hb8 => ?_) (fun hb8 => ?_)
                ·
                  replace hb8 := of_decide_eq_true hb8
                  refine pw_seq ?_
                  refine pw_wk (Wk.ofL (n := 126) (l := [(0, (.d (.sl 1 false (l.map eL)))), (2, (.d (.sl 1 true []))), (3, (.app 0 1 (((l.take i).map fitP).map eL))), (4, (.d (.v (.int .i64 ((i : Nat) : Int))))), (5, (.app 1 3 ((((l.getD i default).take j).map fit1).map eF))), (6, (.d (.v (.int .i64 ((j : Nat) : Int))))), (7, (.ptr 0 0))]) (S := ⟨[some [(.d (.v (.int .u8 (((l.getD i default).getD j default).op % 5)))), (.d (.v (.int .i64 0))), (.d (.v (.int .i64 0)))]], [(((l.take i).map fitP).map eL).length, ((((l.getD i default).take j).map fit1).map eF).length]⟩) rfl rfl (.cons .rfl' (.cons .rfl' (.cons .rfl' (.cons .rfl' (.cons .rfl' (.cons .rfl' (.cons .rfl' .nil)))))))) ?_
                  refine pw_region ?_
                  refine pwl_step 1 rfl (o_move (p := (.d (.sl 1 false (l.map eL)))) rfl rfl) ?_
                  refine pwl_step 1 rfl (o_move (p := (.d (.v (.int .i64 ((i : Nat) : Int))))) rfl rfl) ?_
                  refine pwl_step 1 rfl (opS_index (sz := 1) (es := (l.map eL)) (k := .i64) (n := ((i : Nat) : Int)) (e := [(.sl 3 false ((l.getD i default).map eF))]) rfl Try.underlying25 sz22 rfl rfl (by omega) (map_get (xs := l) (i := i) (by omega))) ?_
                  refine pwl_step 1 rfl (opS_load_rp (c := (.sl 3 false ((l.getD i default).map eF))) (cs := []) rfl Try.underlying22 rfl rfl) ?_
                  refine pwl_step 1 rfl (o_move (p := (.d (.v (.int .i64 ((j : Nat) : Int))))) rfl rfl) ?_
                  refine pwl_step 1 rfl (opS_index (sz := 3) (es := ((l.getD i default).map eF)) (k := .i64) (n := ((j : Nat) : Int)) (e := [(.v (.int .u8 (((l.getD i default).getD j default).op))), (.v (.int .i64 (((l.getD i default).getD j default).a))), (.v (.int .i64 (((l.getD i default).getD j default).b)))]) rfl Try.underlying22 sz32 rfl rfl (by omega) (map_get (xs := (l.getD i default)) (i := j) (by omega))) ?_
                  refine pwl_step 1 rfl (opS_field_rp (cs := [(.v (.int .u8 (((l.getD i default).getD j default).op))), (.v (.int .i64 (((l.getD i default).getD j default).a))), (.v (.int .i64 (((l.getD i default).getD j default).b)))]) rfl Try.underlying32 rfl sz3 (of_decide_eq_true rfl) rfl) ?_
                  refine pwl_step 1 rfl (opS_load_rp (c := (.v (.int .i64 (((l.getD i default).getD j default).a)))) (cs := [(.v (.int .i64 (((l.getD i default).getD j default).b)))]) rfl Try.underlying3 rfl rfl) ?_
                  refine pwl_step 1 rfl (opS_bin (k := .i64) (m := (((l.getD i default).getD j default).a)) (n := 7) rfl rfl rfl (ib_and7 _)) ?_
                  refine pwl_step 1 rfl (opS_bin (k := .i64) (m := (((l.getD i default).getD j default).a % 8)) (n := 6) rfl rfl rfl (ib_rem (by omega) (by omega))) ?_
                  refine pwl_step 1 rfl (opS_field_ptr (b := 0) (off := 0) rfl Try.underlying32 rfl sz3 (of_decide_eq_true rfl) rfl) ?_
                  refine pwl_step 1 rfl (opS_store (b := 0) (off := 1) (cs := [(.d (.v (.int .u8 (((l.getD i default).getD j default).op % 5)))), (.d (.v (.int .i64 0))), (.d (.v (.int .i64 0)))]) (ps := [(.d (.v (.int .i64 ((((l.getD i default).getD j default).a % 8) % 6))))]) rfl sz3 rfl rfl rfl rfl (of_decide_eq_true rfl) (List.cons_ne_nil _ _)) ?_
                  refine pwl_nil ?_
                  refine pw_wk (Wk.ofL (n := 126) (l := [(0, (.d (.sl 1 false (l.map eL)))), (2, (.d (.sl 1 true []))), (3, (.app 0 1 (((l.take i).map fitP).map eL))), (4, (.d (.v (.int .i64 ((i : Nat) : Int))))), (5, (.app 1 3 ((((l.getD i default).take j).map fit1).map eF))), (6, (.d (.v (.int .i64 ((j : Nat) : Int))))), (7, (.ptr 0 0))]) (S := ⟨[some [(.d (.v (.int .u8 (((l.getD i default).getD j default).op % 5)))), (.d (.v (.int .i64 ((((l.getD i default).getD j default).a % 8) % 6)))), (.d (.v (.int .i64 0)))]], [(((l.take i).map fitP).map eL).length, ((((l.getD i default).take j).map fit1).map eF).length]⟩) rfl rfl (.cons .rfl' (.cons .rfl' (.cons .rfl' (.cons .rfl' (.cons .rfl' (.cons .rfl' (.cons .rfl' .nil)))))))) ?_
                  refine pw_region ?_
                  refine pwl_step 1 rfl (o_move (p := (.d (.sl 1 false (l.map eL)))) rfl rfl) ?_
                  refine pwl_step 1 rfl (o_move (p := (.d (.v (.int .i64 ((i : Nat) : Int))))) rfl rfl) ?_
                  refine pwl_step 1 rfl (opS_index (sz := 1) (es := (l.map eL)) (k := .i64) (n := ((i : Nat) : Int)) (e := [(.sl 3 false ((l.getD i default).map eF))]) rfl Try.underlying25 sz22 rfl rfl (by omega) (map_get (xs := l) (i := i) (by omega))) ?_
                  refine pwl_step 1 rfl (opS_load_rp (c := (.sl 3 false ((l.getD i default).map eF))) (cs := []) rfl Try.underlying22 rfl rfl) ?_
                  refine pwl_step 1 rfl (o_move (p := (.d (.v (.int .i64 ((j : Nat) : Int))))) rfl rfl) ?_
                  refine pwl_step 1 rfl (opS_index (sz := 3) (es := ((l.getD i default).map eF)) (k := .i64) (n := ((j : Nat) : Int)) (e := [(.v (.int .u8 (((l.getD i default).getD j default).op))), (.v (.int .i64 (((l.getD i default).getD j default).a))), (.v (.int .i64 (((l.getD i default).getD j default).b)))]) rfl Try.underlying22 sz32 rfl rfl (by omega) (map_get (xs := (l.getD i default)) (i := j) (by omega))) ?_
                  refine pwl_step 1 rfl (opS_field_rp (cs := [(.v (.int .u8 (((l.getD i default).getD j default).op))), (.v (.int .i64 (((l.getD i default).getD j default).a))), (.v (.int .i64 (((l.getD i default).getD j default).b)))]) rfl Try.underlying32 rfl sz3 (of_decide_eq_true rfl) rfl) ?_
                  refine pwl_step 1 rfl (opS_load_rp (c := (.v (.int .i64 (((l.getD i default).getD j default).b)))) (cs := []) rfl Try.underlying3 rfl rfl) ?_
                  refine pwl_step 1 rfl (opS_bin (k := .i64) (m := (((l.getD i default).getD j default).b)) (n := 7) rfl rfl rfl (ib_and7 _)) ?_
                  refine pwl_step 1 rfl (opS_field_ptr (b := 0) (off := 0) rfl Try.underlying32 rfl sz3 (of_decide_eq_true rfl) rfl) ?_
                  refine pwl_step 1 rfl (opS_store (b := 0) (off := 2) (cs := [(.d (.v (.int .u8 (((l.getD i default).getD j default).op % 5)))), (.d (.v (.int .i64 ((((l.getD i default).getD j default).a % 8) % 6)))), (.d (.v (.int .i64 0)))]) (ps := [(.d (.v (.int .i64 (((l.getD i default).getD j default).b % 8))))]) rfl sz3 rfl rfl rfl rfl (of_decide_eq_true rfl) (List.cons_ne_nil _ _)) ?_
                  refine pwl_nil ?_
                  refine pw_wk (Wk.ofL (n := 126) (l := [(0, (.d (.sl 1 false (l.map eL)))), (2, (.d (.sl 1 true []))), (3, (.app 0 1 (((l.take i).map fitP).map eL))), (4, (.d (.v (.int .i64 ((i : Nat) : Int))))), (5, (.app 1 3 ((((l.getD i default).take j).map fit1).map eF))), (6, (.d (.v (.int .i64 ((j : Nat) : Int))))), (7, (.ptr 0 0))]) (S := ⟨[some [(.d (.v (.int .u8 (((l.getD i default).getD j default).op % 5)))), (.d (.v (.int .i64 ((((l.getD i default).getD j default).a % 8) % 6)))), (.d (.v (.int .i64 (((l.getD i default).getD j default).b % 8))))]], [(((l.take i).map fitP).map eL).length, ((((l.getD i default).take j).map fit1).map eF).length]⟩) rfl rfl (.cons .rfl' (.cons .rfl' (.cons .rfl' (.cons .rfl' (.cons .rfl' (.cons .rfl' (.cons .rfl' .nil)))))))) ?_
                  refine pw_region ?_
                  refine pwl_step 1 rfl (o_move (p := (.app 1 3 ((((l.getD i default).take j).map fit1).map eF))) rfl rfl) ?_
                  refine pwl_step 1 rfl (opS_load_box_agg (b := 0) (off := 0) (cs := [(.d (.v (.int .u8 (((l.getD i default).getD j default).op % 5)))), (.d (.v (.int .i64 ((((l.getD i default).getD j default).a % 8) % 6)))), (.d (.v (.int .i64 (((l.getD i default).getD j default).b % 8))))]) rfl Try.underlying32 rfl sz32 rfl rfl (of_decide_eq_true rfl) (List.cons_ne_nil _ _)) ?_
                  refine pwl_step 1 rfl (o_buildSlice (sz := 3) (es := [([(.v (.int .u8 (((l.getD i default).getD j default).op % 5))), (.v (.int .i64 ((((l.getD i default).getD j default).a % 8) % 6))), (.v (.int .i64 (((l.getD i default).getD j default).b % 8)))] : List D)]) rfl Try.underlying22 ti32 (of_decide_eq_true rfl) (of_decide_eq_true rfl) rfl rfl rfl) ?_
                  refine pwl_step 3 rfl (o_append_tag (sz := 3) (t := 1) (es := (((l.getD i default).take j).map fit1).map eF) (ys := [([(.v (.int .u8 (((l.getD i default).getD j default).op % 5))), (.v (.int .i64 ((((l.getD i default).getD j default).a % 8) % 6))), (.v (.int .i64 (((l.getD i default).getD j default).b % 8)))] : List D)]) rfl Try.underlying22 ti32 (of_decide_eq_true rfl) rfl rfl (by first | rfl | simp) (by simp only [List.length_map, List.length_append, List.length_cons, List.length_nil, List.length_take]; omega) (by simp only [List.length_map, List.length_append, List.length_cons, List.length_nil, List.length_take]; omega)) ?_
                  refine pwl_step 1 rfl (o_assign (p := (.app 1 3 (((((l.getD i default).take j).map fit1).map eF) ++ [([(.v (.int .u8 (((l.getD i default).getD j default).op % 5))), (.v (.int .i64 ((((l.getD i default).getD j default).a % 8) % 6))), (.v (.int .i64 (((l.getD i default).getD j default).b % 8)))] : List D)]))) rfl rfl) ?_
                  refine pwl_nil ?_
                  refine pw_region ?_
                  refine pwl_step 1 rfl (o_move (p := (.d (.v (.int .i64 ((j : Nat) : Int))))) rfl rfl) ?_
                  refine pwl_step 1 rfl (opS_bin (k := .i64) (m := ((j : Nat) : Int)) (n := 1) rfl rfl rfl (ib_add (by omega) (by omega))) ?_
                  refine pwl_step 1 rfl (o_assign (p := (.d (.v (.int .i64 (((j : Nat) : Int) + 1))))) rfl rfl) ?_
                  refine pwl_nil ?_
                  exact ⟨j + 1, ⟨by omega, by omega⟩, by simp only []; omega, Wk.ofL_cut (nb := 0) (nt := 2) (by exact hb0.gl (by decide)) (by rw [ht0]; decide) rfl (by show (⟨[], [(((l.take i).map fitP).map eL).length, ((((l.getD i default).take j).map fit1).map eF).length + [([(.v (.int .u8 (((l.getD i default).getD j default).op % 5))), (.v (.int .i64 ((((l.getD i default).getD j default).a % 8) % 6))), (.v (.int .i64 (((l.getD i default).getD j default).b % 8)))] : List D)].length]⟩ : Sx) = _; simp only [List.length_map, List.length_append, List.length_take, List.length_cons, List.length_nil]; congr 3; omega) (.cons .rfl' (.cons .rfl' (.cons .rfl' (.cons .rfl' (.cons (PVle.of_eq (p := (.app 1 3 (((((l.getD i default).take j).map fit1).map eF) ++ [([(.v (.int .u8 (((l.getD i default).getD j default).op % 5))), (.v (.int .i64 ((((l.getD i default).getD j default).a % 8) % 6))), (.v (.int .i64 (((l.getD i default).getD j default).b % 8)))] : List D)]))) (q := _) (by rw [take_one (xs := l.getD i default) (k := j) (by omega)]; simp only [List.map_append, List.map_cons, List.map_nil]; rw [fit1_3 hb5 hb6 hb7 hb8])) (.cons (PVle.of_eq (p := (.d (.v (.int .i64 (((j : Nat) : Int) + 1))))) (q := _) (by first | rfl | (congr 3; omega))) .nil)))))) rfl rfl⟩
                ·
                  replace hb8 := of_decide_eq_false hb8
                  refine pw_skip ?_
                  refine pw_wk (Wk.ofL (n := 126) (l := [(0, (.d (.sl 1 false (l.map eL)))), (2, (.d (.sl 1 true []))), (3, (.app 0 1 (((l.take i).map fitP).map eL))), (4, (.d (.v (.int .i64 ((i : Nat) : Int))))), (5, (.app 1 3 ((((l.getD i default).take j).map fit1).map eF))), (6, (.d (.v (.int .i64 ((j : Nat) : Int))))), (7, (.ptr 0 0))]) (S := ⟨[some [(.d (.v (.int .u8 (((l.getD i default).getD j default).op % 5)))), (.d (.v (.int .i64 0))), (.d (.v (.int .i64 0)))]], [(((l.take i).map fitP).map eL).length, ((((l.getD i default).take j).map fit1).map eF).length]⟩) rfl rfl (.cons .rfl' (.cons .rfl' (.cons .rfl' (.cons .rfl' (.cons .rfl' (.cons .rfl' (.cons .rfl' .nil)))))))) ?_
                  refine pw_region ?_
                  refine pwl_step 1 rfl (o_move (p := (.app 1 3 ((((l.getD i default).take j).map fit1).map eF))) rfl rfl) ?_
                  refine pwl_step 1 rfl (opS_load_box_agg (b := 0) (off := 0) (cs := [(.d (.v (.int .u8 (((l.getD i default).getD j default).op % 5)))), (.d (.v (.int .i64 0))), (.d (.v (.int .i64 0)))]) rfl Try.underlying32 rfl sz32 rfl rfl (of_decide_eq_true rfl) (List.cons_ne_nil _ _)) ?_
                  refine pwl_step 1 rfl (o_buildSlice (sz := 3) (es := [([(.v (.int .u8 (((l.getD i default).getD j default).op % 5))), (.v (.int .i64 0)), (.v (.int .i64 0))] : List D)]) rfl Try.underlying22 ti32 (of_decide_eq_true rfl) (of_decide_eq_true rfl) rfl rfl rfl) ?_
                  refine pwl_step 3 rfl (o_append_tag (sz := 3) (t := 1) (es := (((l.getD i default).take j).map fit1).map eF) (ys := [([(.v (.int .u8 (((l.getD i default).getD j default).op % 5))), (.v (.int .i64 0)), (.v (.int .i64 0))] : List D)]) rfl Try.underlying22 ti32 (of_decide_eq_true rfl) rfl rfl (by first | rfl | simp) (by simp only [List.length_map, List.length_append, List.length_cons, List.length_nil, List.length_take]; omega) (by simp only [List.length_map, List.length_append, List.length_cons, List.length_nil, List.length_take]; omega)) ?_
                  refine pwl_step 1 rfl (o_assign (p := (.app 1 3 (((((l.getD i default).take j).map fit1).map eF) ++ [([(.v (.int .u8 (((l.getD i default).getD j default).op % 5))), (.v (.int .i64 0)), (.v (.int .i64 0))] : List D)]))) rfl rfl) ?_
                  refine pwl_nil ?_
                  refine pw_region ?_
                  refine pwl_step 1 rfl (o_move (p := (.d (.v (.int .i64 ((j : Nat) : Int))))) rfl rfl) ?_
                  refine pwl_step 1 rfl (opS_bin (k := .i64) (m := ((j : Nat) : Int)) (n := 1) rfl rfl rfl (ib_add (by omega) (by omega))) ?_
                  refine pwl_step 1 rfl (o_assign (p := (.d (.v (.int .i64 (((j : Nat) : Int) + 1))))) rfl rfl) ?_
                  refine pwl_nil ?_
                  exact ⟨j + 1, ⟨by omega, by omega⟩, by simp only []; omega, Wk.ofL_cut (nb := 0) (nt := 2) (by exact hb0.gl (by decide)) (by rw [ht0]; decide) rfl (by show (⟨[], [(((l.take i).map fitP).map eL).length, ((((l.getD i default).take j).map fit1).map eF).length + [([(.v (.int .u8 (((l.getD i default).getD j default).op % 5))), (.v (.int .i64 0)), (.v (.int .i64 0))] : List D)].length]⟩ : Sx) = _; simp only [List.length_map, List.length_append, List.length_take, List.length_cons, List.length_nil]; congr 3; omega) (.cons .rfl' (.cons .rfl' (.cons .rfl' (.cons .rfl' (.cons (PVle.of_eq (p := (.app 1 3 (((((l.getD i default).take j).map fit1).map eF) ++ [([(.v (.int .u8 (((l.getD i default).getD j default).op % 5))), (.v (.int .i64 0)), (.v (.int .i64 0))] : List D)]))) (q := _) (by rw [take_one (xs := l.getD i default) (k := j) (by omega)]; simp only [List.map_append, List.map_cons, List.map_nil]; rw [fit1_4 hb5 hb6 hb7 hb8 (hx (by omega)).1])) (.cons (PVle.of_eq (p := (.d (.v (.int .i64 (((j : Nat) : Int) + 1))))) (q := _) (by first | rfl | (congr 3; omega))) .nil)))))) rfl rfl⟩
        ·
          replace hb4 := of_decide_eq_false hb4
          refine pw_exit ?_
          refine pw_wk (Wk.ofL (n := 126) (l := [(0, (.d (.sl 1 false (l.map eL)))), (2, (.d (.sl 1 true []))), (3, (.app 0 1 (((l.take i).map fitP).map eL))), (4, (.d (.v (.int .i64 ((i : Nat) : Int))))), (5, (.app 1 3 ((((l.getD i default).take j).map fit1).map eF)))]) (S := ⟨[], [(((l.take i).map fitP).map eL).length, ((((l.getD i default).take j).map fit1).map eF).length]⟩) rfl rfl (.cons .rfl' (.cons .rfl' (.cons .rfl' (.cons .rfl' (.cons .rfl' .nil)))))) ?_
          refine pw_region ?_
          refine pwl_step 1 rfl (o_move (p := (.app 0 1 (((l.take i).map fitP).map eL))) rfl rfl) ?_
          refine pwl_step 1 rfl (o_move (p := (.app 1 3 ((((l.getD i default).take j).map fit1).map eF))) rfl rfl) ?_
          refine pwl_step 1 rfl (o_buildSlice (sz := 1) (es := [([(.sl 3 false ((((l.getD i default).take j).map fit1).map eF))] : List D)]) rfl Try.underlying25 ti22 (of_decide_eq_true rfl) (of_decide_eq_true rfl) rfl rfl rfl) ?_
          refine pwl_step 1 rfl (o_append_tag (sz := 1) (t := 0) (es := ((l.take i).map fitP).map eL) (ys := [([(.sl 3 false ((((l.getD i default).take j).map fit1).map eF))] : List D)]) rfl Try.underlying25 ti22 (of_decide_eq_true rfl) rfl rfl (by first | rfl | simp) (by simp only [List.length_map, List.length_append, List.length_cons, List.length_nil, List.length_take]; omega) (by simp only [List.length_map, List.length_append, List.length_cons, List.length_nil, List.length_take]; omega)) ?_
          refine pwl_step 1 rfl (o_assign (p := (.app 0 1 ((((l.take i).map fitP).map eL) ++ [([(.sl 3 false ((((l.getD i default).take j).map fit1).map eF))] : List D)]))) rfl rfl) ?_
          refine pwl_nil ?_
          refine pw_region ?_
          refine pwl_step 1 rfl (o_move (p := (.d (.v (.int .i64 ((i : Nat) : Int))))) rfl rfl) ?_
          refine pwl_step 1 rfl (opS_bin (k := .i64) (m := ((i : Nat) : Int)) (n := 1) rfl rfl rfl (ib_add (by omega) (by omega))) ?_
          refine pwl_step 1 rfl (o_assign (p := (.d (.v (.int .i64 (((i : Nat) : Int) + 1))))) rfl rfl) ?_
          refine pwl_nil ?_
          exact ⟨i + 1, ⟨by omega, by omega⟩, by simp only []; omega, Wk.ofL_cut (nb := 0) (nt := 1) (by exact hb0.gl (by decide)) (by rw [ht0]; decide) rfl (by show (⟨[], [(((l.take i).map fitP).map eL).length + [([(.sl 3 false ((((l.getD i default).take j).map fit1).map eF))] : List D)].length]⟩ : Sx) = _; simp only [List.length_map, List.length_append, List.length_take, List.length_cons, List.length_nil]; congr 2; omega) (.cons .rfl' (.cons .rfl' (.cons (PVle.of_eq (p := (.app 0 1 ((((l.take i).map fitP).map eL) ++ [([(.sl 3 false ((((l.getD i default).take j).map fit1).map eF))] : List D)]))) (q := _) (by rw [take_one (xs := l) (k := i) (by omega)]; simp only [List.map_append, List.map_cons, List.map_nil]; rw [fit_end (by omega)]; rfl)) (.cons (PVle.of_eq (p := (.d (.v (.int .i64 (((i : Nat) : Int) + 1))))) (q := _) (by first | rfl | (congr 3; omega))) .nil)))) rfl rfl⟩
      ·
        refine pw_region ?_
        refine pwl_step 1 rfl (o_move (p := (.d (.v (.int .i64 ((j : Nat) : Int))))) rfl rfl) ?_
        refine pwl_step 1 rfl (o_move (p := (.d (.sl 1 false (l.map eL)))) rfl rfl) ?_
        refine pwl_step 1 rfl (o_move (p := (.d (.v (.int .i64 ((i : Nat) : Int))))) rfl rfl) ?_
        refine pwl_step 1 rfl (opS_index (sz := 1) (es := (l.map eL)) (k := .i64) (n := ((i : Nat) : Int)) (e := [(.sl 3 false ((l.getD i default).map eF))]) rfl Try.underlying25 sz22 rfl rfl (by omega) (map_get (xs := l) (i := i) (by omega))) ?_
        refine pwl_step 1 rfl (opS_load_rp (c := (.sl 3 false ((l.getD i default).map eF))) (cs := []) rfl Try.underlying22 rfl rfl) ?_
        refine pwl_step 1 rfl (o_len (sz := 3) (es := ((l.getD i default).map eF)) (n := (l.getD i default).length) rfl Try.underlying22 rfl (by simp)) ?_
        refine pwl_step 1 rfl (opS_bin (k := .i64) (m := ((j : Nat) : Int)) (n := ((((l.getD i default).length : Nat)) : Int)) rfl rfl rfl (ib_lt (decide_eq_false hc3))) ?_
        refine pwl_step 1 rfl (o_move (p := (.d (.v (.bool false)))) rfl rfl) ?_
        refine pwl_step_no rfl rfl ?_
        refine pwl_step_no rfl rfl ?_
        refine pwl_step 1 rfl (o_pick_f (p := (.d (.v (.bool false)))) rfl rfl rfl) ?_
        refine pwl_nil ?_
        refine pw_cond (b := false) rfl (fun h => by cases h) (fun _ => ?_)
        refine pw_exit ?_
        refine pw_wk (Wk.ofL (n := 126) (l := [(0, (.d (.sl 1 false (l.map eL)))), (2, (.d (.sl 1 true []))), (3, (.app 0 1 (((l.take i).map fitP).map eL))), (4, (.d (.v (.int .i64 ((i : Nat) : Int))))), (5, (.app 1 3 ((((l.getD i default).take j).map fit1).map eF)))]) (S := ⟨[], [(((l.take i).map fitP).map eL).length, ((((l.getD i default).take j).map fit1).map eF).length]⟩) rfl rfl (.cons .rfl' (.cons .rfl' (.cons .rfl' (.cons .rfl' (.cons .rfl' .nil)))))) ?_
        refine pw_region ?_
        refine pwl_step 1 rfl (o_move (p := (.app 0 1 (((l.take i).map fitP).map eL))) rfl rfl) ?_
        refine pwl_step 1 rfl (o_move (p := (.app 1 3 ((((l.getD i default).take j).map fit1).map eF))) rfl rfl) ?_
        refine pwl_step 1 rfl (o_buildSlice (sz := 1) (es := [([(.sl 3 false ((((l.getD i default).take j).map fit1).map eF))] : List D)]) rfl Try.underlying25 ti22 (of_decide_eq_true rfl) (of_decide_eq_true rfl) rfl rfl rfl) ?_
        refine pwl_step 1 rfl (o_append_tag (sz := 1) (t := 0) (es := ((l.take i).map fitP).map eL) (ys := [([(.sl 3 false ((((l.getD i default).take j).map fit1).map eF))] : List D)]) rfl Try.underlying25 ti22 (of_decide_eq_true rfl) rfl rfl (by first | rfl | simp) (by simp only [List.length_map, List.length_append, List.length_cons, List.length_nil, List.length_take]; omega) (by simp only [List.length_map, List.length_append, List.length_cons, List.length_nil, List.length_take]; omega)) ?_
        refine pwl_step 1 rfl (o_assign (p := (.app 0 1 ((((l.take i).map fitP).map eL) ++ [([(.sl 3 false ((((l.getD i default).take j).map fit1).map eF))] : List D)]))) rfl rfl) ?_
        refine pwl_nil ?_
        refine pw_region ?_
        refine pwl_step 1 rfl (o_move (p := (.d (.v (.int .i64 ((i : Nat) : Int))))) rfl rfl) ?_
        refine pwl_step 1 rfl (opS_bin (k := .i64) (m := ((i : Nat) : Int)) (n := 1) rfl rfl rfl (ib_add (by omega) (by omega))) ?_
        refine pwl_step 1 rfl (o_assign (p := (.d (.v (.int .i64 (((i : Nat) : Int) + 1))))) rfl rfl) ?_
        refine pwl_nil ?_
        exact ⟨i + 1, ⟨by omega, by omega⟩, by simp only []; omega, Wk.ofL_cut (nb := 0) (nt := 1) (by exact hb0.gl (by decide)) (by rw [ht0]; decide) rfl (by show (⟨[], [(((l.take i).map fitP).map eL).length + [([(.sl 3 false ((((l.getD i default).take j).map fit1).map eF))] : List D)].length]⟩ : Sx) = _; simp only [List.length_map, List.length_append, List.length_take, List.length_cons, List.length_nil]; congr 2; omega) (.cons .rfl' (.cons .rfl' (.cons (PVle.of_eq (p := (.app 0 1 ((((l.take i).map fitP).map eL) ++ [([(.sl 3 false ((((l.getD i default).take j).map fit1).map eF))] : List D)]))) (q := _) (by rw [take_one (xs := l) (k := i) (by omega)]; simp only [List.map_append, List.map_cons, List.map_nil]; rw [fit_end (by omega)]; rfl)) (.cons (PVle.of_eq (p := (.d (.v (.int .i64 (((i : Nat) : Int) + 1))))) (q := _) (by first | rfl | (congr 3; omega))) .nil)))) rfl rfl⟩
    ·
      replace hb2 := of_decide_eq_false hb2
      refine pw_exit ?_
      refine pw_seq ?_
      refine pw_region ?_
      refine pwl_step 1 rfl (o_move (p := (.app 0 1 (((l.take i).map fitP).map eL))) rfl rfl) ?_
      refine pwl_step 1 rfl (o_assign (p := (.app 0 1 (((l.take i).map fitP).map eL))) rfl rfl) ?_
      refine pwl_nil ?_
      refine pw_ret ?_
      exact ⟨.inr rfl, rfl, rfl, rfl, ⟨_, (.cons _ _ _ _ (.tmp (of_decide_eq_true rfl) (PVle.of_canon (p := (.app 0 1 (((l.take i).map fitP).map eL))) (by simp only [PV.canon]; rw [List.take_of_length_le]; omega))) .nil), rfl⟩⟩
  ·
    refine pw_region ?_
    refine pwl_step 1 rfl (o_move (p := (.d (.v (.int .i64 ((i : Nat) : Int))))) rfl rfl) ?_
    refine pwl_step 1 rfl (o_move (p := (.d (.sl 1 false (l.map eL)))) rfl rfl) ?_
    refine pwl_step 1 rfl (o_len (sz := 1) (es := (l.map eL)) (n := l.length) rfl Try.underlying25 rfl (by simp)) ?_
    refine pwl_step 1 rfl (opS_bin (k := .i64) (m := ((i : Nat) : Int)) (n := (((l.length : Nat)) : Int)) rfl rfl rfl (ib_lt (decide_eq_false hc1))) ?_
    refine pwl_step 1 rfl (o_move (p := (.d (.v (.bool false)))) rfl rfl) ?_
    refine pwl_step_no rfl rfl ?_
    refine pwl_step_no rfl rfl ?_
    refine pwl_step 1 rfl (o_pick_f (p := (.d (.v (.bool false)))) rfl rfl rfl) ?_
    refine pwl_nil ?_
    refine pw_cond (b := false) rfl (fun h => by cases h) (fun _ => ?_)
    refine pw_exit ?_
    refine pw_seq ?_
    refine pw_region ?_
    refine pwl_step 1 rfl (o_move (p := (.app 0 1 (((l.take i).map fitP).map eL))) rfl rfl) ?_
    refine pwl_step 1 rfl (o_assign (p := (.app 0 1 (((l.take i).map fitP).map eL))) rfl rfl) ?_
    refine pwl_nil ?_
    refine pw_ret ?_
    exact ⟨.inr rfl, rfl, rfl, rfl, ⟨_, (.cons _ _ _ _ (.tmp (of_decide_eq_true rfl) (PVle.of_canon (p := (.app 0 1 (((l.take i).map fitP).map eL))) (by simp only [PV.canon]; rw [List.take_of_length_le]; omega))) .nil), rfl⟩⟩
end Go.Proofs.Ytopmocpjgjbdbaa
