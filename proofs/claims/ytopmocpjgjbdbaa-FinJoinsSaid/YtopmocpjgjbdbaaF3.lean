/- kinds -/
import Derived.Test.YtopmocpjgjbdbaaF2
namespace Go.Proofs.Ytopmocpjgjbdbaa
open Go.Pv
theorem ti3 : TI Try.prog 3 1 8 (.int .i64 0) := ti_of (by kernel_rfl) rfl rfl
theorem sz4 : SizeIs Try.prog 4 1 := sizeIs_of (by kernel_rfl)
theorem sz28 : SizeIs Try.prog 28 1 := sizeIs_of (by kernel_rfl)
theorem ti52 : TI Try.prog 52 3 24 (.agg #[.int .i64 0, .int .i64 0, .nilFunc]) := ti_of (by kernel_rfl) rfl rfl
theorem sz52 : SizeIs Try.prog 52 3 := ti52.size
theorem zs52 : Zs [(.d (.v (.int .i64 0))), (.d (.v (.int .i64 0))), (.d (.v .nilFunc))] (.agg #[.int .i64 0, .int .i64 0, .nilFunc] : Value).cells.toList := .v rfl (.v rfl (.v rfl .nil))
theorem ti53 : TI Try.prog 53 15 120 (.agg #[.int .i64 0, .int .i64 0, .nilFunc, .int .i64 0, .int .i64 0, .nilFunc, .int .i64 0, .int .i64 0, .nilFunc, .int .i64 0, .int .i64 0, .nilFunc, .int .i64 0, .int .i64 0, .nilFunc]) := ti_of (by kernel_rfl) rfl rfl
theorem sz53 : SizeIs Try.prog 53 15 := ti53.size
theorem zs53 : Zs [(.d (.v (.int .i64 0))), (.d (.v (.int .i64 0))), (.d (.v .nilFunc)), (.d (.v (.int .i64 0))), (.d (.v (.int .i64 0))), (.d (.v .nilFunc)), (.d (.v (.int .i64 0))), (.d (.v (.int .i64 0))), (.d (.v .nilFunc)), (.d (.v (.int .i64 0))), (.d (.v (.int .i64 0))), (.d (.v .nilFunc)), (.d (.v (.int .i64 0))), (.d (.v (.int .i64 0))), (.d (.v .nilFunc))] (.agg #[.int .i64 0, .int .i64 0, .nilFunc, .int .i64 0, .int .i64 0, .nilFunc, .int .i64 0, .int .i64 0, .nilFunc, .int .i64 0, .int .i64 0, .nilFunc, .int .i64 0, .int .i64 0, .nilFunc] : Value).cells.toList := .v rfl (.v rfl (.v rfl (.v rfl (.v rfl (.v rfl (.v rfl (.v rfl (.v rfl (.v rfl (.v rfl (.v rfl (.v rfl (.v rfl (.v rfl .nil))))))))))))))
theorem pl52 (fs : Array Field) (h : Try.prog.underlying 52 = some (.struct fs)) (w : World) : (fs.mapM fun f => (do pure (f.offset, ← sizeOf f.type) : Sem (Nat × Nat))).run Try.prog w = .ok #[(0, 1), (1, 1), (2, 1)] w := by
  rw [Try.underlying52] at h
  cases h
  kernel_rfl
theorem fnok27 : FnOk Try.prog 27 := ⟨Try.f27, Try.func27, rfl, rfl⟩
theorem has_one (s : List Int) (a : Int) (hs : s.length ≤ 9223372036854775807) : PC Try.prog 27 [.ptr 1 0, .d (.sl 1 false ([a].map eI))] ⟨[some (row eU s), some [(.ms 0 0 1 s.length), (.d (.sl 1 true [])), (.d (.v (.bool false))), (.d (.v (.int .i64 0)))]], []⟩ ⟨[some (row eU s), some [(.ms 0 0 1 s.length), (.d (.sl 1 true [])), (.d (.v (.bool false))), (.d (.v (.int .i64 0)))]], []⟩ (.d (.v (.bool (decide (0 ≤ a ∧ a < s.length))))) := (has_ok s [a] hs).res_eq (by simp)
theorem has_two (s : List Int) (a b : Int) (hs : s.length ≤ 9223372036854775807) : PC Try.prog 27 [.ptr 1 0, .d (.sl 1 false ([a, b].map eI))] ⟨[some (row eU s), some [(.ms 0 0 1 s.length), (.d (.sl 1 true [])), (.d (.v (.bool false))), (.d (.v (.int .i64 0)))]], []⟩ ⟨[some (row eU s), some [(.ms 0 0 1 s.length), (.d (.sl 1 true [])), (.d (.v (.bool false))), (.d (.v (.int .i64 0)))]], []⟩ (.d (.v (.bool (decide ((0 ≤ a ∧ a < s.length) ∧ (0 ≤ b ∧ b < s.length)))))) := (has_ok s [a, b] hs).res_eq (by simp)
def clr (a : Int) (s : List Int) : List Int := if 0 ≤ a ∧ a < s.length then s.set a.toNat 0 else s
def mov (a b : Int) (s : List Int) : List Int := if (0 ≤ a ∧ a < s.length) ∧ (0 ≤ b ∧ b < s.length) then s.set a.toNat (s.getD b.toNat default) else s
def skp (a b : Int) (s : List Int) : Int := if (0 ≤ a ∧ a < s.length) ∧ s.getD a.toNat default = 0 then b else 0
set_option maxRecDepth 20000 in
theorem kinds_ok  : PF Try.prog 23 [] (.agg [(.d (.v (.int .i64 99))), (.d (.v (.int .i64 0))), (.fn 25 [] []), (.d (.v (.int .i64 5))), (.d (.v (.int .i64 0))), (.fn 26 [] []), (.d (.v (.int .i64 5))), (.d (.v (.int .i64 5))), (.fn 28 [] []), (.d (.v (.int .i64 5))), (.d (.v (.int .i64 8))), (.fn 29 [] []), (.d (.v (.int .i64 0))), (.d (.v (.int .i64 0))), (.fn 30 [] [])]) := by
  refine pc_intro Try.func23 rfl (of_decide_eq_true rfl) (fun g0 w0 hb0 ht0 => ?_)
  refine pw_seq ?_
  refine pw_region ?_
  refine pwl_step 1 rfl (o_alloc rfl ti53 zs53) ?_
  refine pwl_nil ?_
  refine pw_seq ?_
  refine pw_wk (Wk.ofL (n := 7) (l := [(0, (.ptr 0 0))]) (S := ⟨[some [(.d (.v (.int .i64 0))), (.d (.v (.int .i64 0))), (.d (.v .nilFunc)), (.d (.v (.int .i64 0))), (.d (.v (.int .i64 0))), (.d (.v .nilFunc)), (.d (.v (.int .i64 0))), (.d (.v (.int .i64 0))), (.d (.v .nilFunc)), (.d (.v (.int .i64 0))), (.d (.v (.int .i64 0))), (.d (.v .nilFunc)), (.d (.v (.int .i64 0))), (.d (.v (.int .i64 0))), (.d (.v .nilFunc))]], []⟩) rfl rfl (.cons .rfl' .nil)) ?_
  refine pw_region ?_
  refine pwl_step 1 rfl (o_build (cs := [(.d (.v (.int .i64 99))), (.d (.v (.int .i64 0))), (.fn 25 [] [])]) rfl Try.underlying52 ti52 zs52 (pl52 _ Try.underlying52) rfl) ?_
  refine pwl_step 1 rfl (o_build (cs := [(.d (.v (.int .i64 5))), (.d (.v (.int .i64 0))), (.fn 26 [] [])]) rfl Try.underlying52 ti52 zs52 (pl52 _ Try.underlying52) rfl) ?_
  refine pwl_step 1 rfl (o_build (cs := [(.d (.v (.int .i64 5))), (.d (.v (.int .i64 5))), (.fn 28 [] [])]) rfl Try.underlying52 ti52 zs52 (pl52 _ Try.underlying52) rfl) ?_
  refine pwl_step 1 rfl (o_build (cs := [(.d (.v (.int .i64 5))), (.d (.v (.int .i64 8))), (.fn 29 [] [])]) rfl Try.underlying52 ti52 zs52 (pl52 _ Try.underlying52) rfl) ?_
  refine pwl_step 1 rfl (o_build (cs := [(.d (.v (.int .i64 0))), (.d (.v (.int .i64 0))), (.fn 30 [] [])]) rfl Try.underlying52 ti52 zs52 (pl52 _ Try.underlying52) rfl) ?_
  refine pwl_step 1 rfl (o_build_arr (cs := [(.d (.v (.int .i64 99))), (.d (.v (.int .i64 0))), (.fn 25 [] []), (.d (.v (.int .i64 5))), (.d (.v (.int .i64 0))), (.fn 26 [] []), (.d (.v (.int .i64 5))), (.d (.v (.int .i64 5))), (.fn 28 [] []), (.d (.v (.int .i64 5))), (.d (.v (.int .i64 8))), (.fn 29 [] []), (.d (.v (.int .i64 0))), (.d (.v (.int .i64 0))), (.fn 30 [] [])]) rfl Try.underlying53 ti53 zs53 sz52 rfl) ?_
  refine pwl_step 1 rfl (opS_store (b := 0) (off := 0) (cs := [(.d (.v (.int .i64 0))), (.d (.v (.int .i64 0))), (.d (.v .nilFunc)), (.d (.v (.int .i64 0))), (.d (.v (.int .i64 0))), (.d (.v .nilFunc)), (.d (.v (.int .i64 0))), (.d (.v (.int .i64 0))), (.d (.v .nilFunc)), (.d (.v (.int .i64 0))), (.d (.v (.int .i64 0))), (.d (.v .nilFunc)), (.d (.v (.int .i64 0))), (.d (.v (.int .i64 0))), (.d (.v .nilFunc))]) (ps := [(.d (.v (.int .i64 99))), (.d (.v (.int .i64 0))), (.fn 25 [] []), (.d (.v (.int .i64 5))), (.d (.v (.int .i64 0))), (.fn 26 [] []), (.d (.v (.int .i64 5))), (.d (.v (.int .i64 5))), (.fn 28 [] []), (.d (.v (.int .i64 5))), (.d (.v (.int .i64 8))), (.fn 29 [] []), (.d (.v (.int .i64 0))), (.d (.v (.int .i64 0))), (.fn 30 [] [])]) rfl sz53 rfl rfl rfl rfl (of_decide_eq_true rfl) (List.cons_ne_nil _ _)) ?_
  refine pwl_nil ?_
  refine pw_ret ?_
  exact ⟨.inr rfl, rfl, rfl, rfl, ⟨_, (.cons _ _ _ _ (.cell_agg (b := 0) (off := 0) (cs := [(.d (.v (.int .i64 99))), (.d (.v (.int .i64 0))), (.fn 25 [] []), (.d (.v (.int .i64 5))), (.d (.v (.int .i64 0))), (.fn 26 [] []), (.d (.v (.int .i64 5))), (.d (.v (.int .i64 5))), (.fn 28 [] []), (.d (.v (.int .i64 5))), (.d (.v (.int .i64 8))), (.fn 29 [] []), (.d (.v (.int .i64 0))), (.d (.v (.int .i64 0))), (.fn 30 [] [])]) (of_decide_eq_true rfl) rfl Try.underlying53 rfl sz53 rfl (of_decide_eq_true rfl) (List.cons_ne_nil _ _) (PVle.of_canon (p := (.agg [(.d (.v (.int .i64 99))), (.d (.v (.int .i64 0))), (.fn 25 [] []), (.d (.v (.int .i64 5))), (.d (.v (.int .i64 0))), (.fn 26 [] []), (.d (.v (.int .i64 5))), (.d (.v (.int .i64 5))), (.fn 28 [] []), (.d (.v (.int .i64 5))), (.d (.v (.int .i64 8))), (.fn 29 [] []), (.d (.v (.int .i64 0))), (.d (.v (.int .i64 0))), (.fn 30 [] [])])) (by rfl))) .nil), rfl⟩⟩

set_option maxRecDepth 20000 in
theorem kind1_ok (s : List Int) (hs : s.length ≤ 9223372036854775807) (c a b : Int) : PC Try.prog 25 [(.ptr 1 0), (.d (.agg [(.v (.int .u8 c)), (.v (.int .i64 a)), (.v (.int .i64 b))]))] ⟨[some (row eU s), some [(.ms 0 0 1 s.length), (.d (.sl 1 true [])), (.d (.v (.bool false))), (.d (.v (.int .i64 0)))]], []⟩ ⟨[some (row eU s), some [(.ms 0 0 1 s.length), (.d (.sl 1 false [[.v (.int .i64 a)]])), (.d (.v (.bool false))), (.d (.v (.int .i64 0)))]], []⟩ (.tup []) := by
  refine pc_intro Try.func25 rfl (of_decide_eq_true rfl) (fun g0 w0 hb0 ht0 => ?_)
  refine pw_seq ?_
  refine pw_region ?_
  refine pwl_step 1 rfl (opS_box (ps := [(.d (.v (.int .u8 c))), (.d (.v (.int .i64 a))), (.d (.v (.int .i64 b)))]) rfl rfl) ?_
  refine pwl_nil ?_
  refine pw_wk (Wk.ofL (n := 15) (l := [(0, (.ptr 1 0)), (3, (.ptr 2 0))]) (S := ⟨[some (row eU s), some [(.ms 0 0 1 s.length), (.d (.sl 1 true [])), (.d (.v (.bool false))), (.d (.v (.int .i64 0)))], some [(.d (.v (.int .u8 c))), (.d (.v (.int .i64 a))), (.d (.v (.int .i64 b)))]], []⟩) rfl rfl (.cons .rfl' (.cons .rfl' .nil))) ?_
  refine pw_draw (fun L => ⟨[some (row eU s), cond (L 11) (some [(.ms 0 0 1 s.length), (.d (.sl 1 false [([(.v (.int .i64 a))] : List D)])), (.d (.v (.bool false))), (.d (.v (.int .i64 0)))]) (some [(.ms 0 0 1 s.length), (.d (.sl 1 true [])), (.d (.v (.bool false))), (.d (.v (.int .i64 0)))]), some [(.d (.v (.int .u8 c))), (.d (.v (.int .i64 a))), (.d (.v (.int .i64 b)))]], []⟩) Trymixed (by kernel_rfl) rfl ?_
  refine d_step 1 rfl (fun _ _ => (o_move (p := (.ptr 1 0)) rfl rfl)) ?_
  refine d_step 1 rfl (fun _ _ => (o_move (p := (.ptr 1 0)) rfl rfl)) ?_
  refine d_step 1 rfl (fun _ _ => (o_nilCheck_ptr (b := 1) (off := 0) rfl rfl)) ?_
  refine d_step 1 rfl (fun _ _ => (opS_field_ptr (b := 1) (off := 0) rfl Try.underlying48 rfl sz28 (of_decide_eq_true rfl) rfl)) ?_
  refine d_step 1 rfl (fun L hL => by have b11 : L 11 = false := hL.later (j := 11) (by kernel_rfl); (exact o_cast (S := ⟨[some (row eU s), some [(.ms 0 0 1 s.length), (.d (.sl 1 true [])), (.d (.v (.bool false))), (.d (.v (.int .i64 0)))], some [(.d (.v (.int .u8 c))), (.d (.v (.int .i64 a))), (.d (.v (.int .i64 b)))]], []⟩) (by show Sx.mk _ _ = _; rw [b11]; try rfl) (by have c11 : ins L 4 11 = false := (by show (11 == 4 || L 11) = _; rw [b11]; try rfl); show Sx.mk _ _ = _; rw [c11]; try rfl) (opS_load_box (b := 1) (off := 1) (cs := [(.ms 0 0 1 s.length), (.d (.sl 1 true [])), (.d (.v (.bool false))), (.d (.v (.int .i64 0)))]) (p := (.d (.sl 1 true []))) rfl Try.underlying28 rfl rfl rfl rfl))) ?_
  refine d_step 1 rfl (fun _ _ => (opS_field_ptr (b := 2) (off := 0) rfl Try.underlying32 rfl sz3 (of_decide_eq_true rfl) rfl)) ?_
  refine d_step 1 rfl (fun _ _ => (opS_load_box (b := 2) (off := 1) (cs := [(.d (.v (.int .u8 c))), (.d (.v (.int .i64 a))), (.d (.v (.int .i64 b)))]) (p := (.d (.v (.int .i64 a)))) rfl Try.underlying3 rfl rfl rfl rfl)) ?_
  refine d_step 1 rfl (fun _ _ => (o_buildSlice (sz := 1) (es := [([(.v (.int .i64 a))] : List D)]) rfl Try.underlying28 ti3 (of_decide_eq_true rfl) (of_decide_eq_true rfl) rfl rfl rfl)) ?_
  refine d_step 1 rfl (fun _ _ => (o_append_pure (sz := 1) (es := []) (ys := [([(.v (.int .i64 a))] : List D)]) rfl Try.underlying28 ti3 (of_decide_eq_true rfl) rfl rfl (by simp only [List.length_map, List.length_append, List.length_cons, List.length_nil, List.length_take]; omega) (by simp only [List.length_map, List.length_append, List.length_cons, List.length_nil, List.length_take]; omega))) ?_
  refine d_step 1 rfl (fun _ _ => (o_nilCheck_ptr (b := 1) (off := 0) rfl rfl)) ?_
  refine d_step 1 rfl (fun _ _ => (opS_field_ptr (b := 1) (off := 0) rfl Try.underlying48 rfl sz28 (of_decide_eq_true rfl) rfl)) ?_
  refine d_step 1 rfl (fun L hL => by have b11 : L 11 = false := hL.new; (exact o_cast (S := ⟨[some (row eU s), some [(.ms 0 0 1 s.length), (.d (.sl 1 true [])), (.d (.v (.bool false))), (.d (.v (.int .i64 0)))], some [(.d (.v (.int .u8 c))), (.d (.v (.int .i64 a))), (.d (.v (.int .i64 b)))]], []⟩) (by show Sx.mk _ _ = _; rw [b11]; try rfl) (by have c11 : ins L 11 11 = true := (by show (11 == 11 || L 11) = _; rw [b11]; try rfl); show Sx.mk _ _ = _; rw [c11]; try rfl) (opS_store (b := 1) (off := 1) (cs := [(.ms 0 0 1 s.length), (.d (.sl 1 true [])), (.d (.v (.bool false))), (.d (.v (.int .i64 0)))]) (ps := [(.d (.sl 1 false [([(.v (.int .i64 a))] : List D)]))]) rfl sz28 rfl rfl rfl rfl (of_decide_eq_true rfl) (List.cons_ne_nil _ _)))) ?_
  refine d_nil ?_
  exact ⟨.inl rfl, rfl, (okB_row (okB_cons rfl rfl)), rfl, ⟨_, .nil, rfl⟩⟩

set_option maxRecDepth 20000 in
theorem kind2_ok (s : List Int) (hs : s.length ≤ 9223372036854775807) (c a b : Int) : PC Try.prog 26 [(.ptr 1 0), (.d (.agg [(.v (.int .u8 c)), (.v (.int .i64 a)), (.v (.int .i64 b))]))] ⟨[some (row eU s), some [(.ms 0 0 1 s.length), (.d (.sl 1 true [])), (.d (.v (.bool false))), (.d (.v (.int .i64 0)))]], []⟩ ⟨[some (row eU (clr a s)), some [(.ms 0 0 1 s.length), (.d (.sl 1 true [])), (.d (.v (.bool false))), (.d (.v (.int .i64 0)))]], []⟩ (.tup []) := by
  refine pc_intro Try.func26 rfl (of_decide_eq_true rfl) (fun g0 w0 hb0 ht0 => ?_)
  refine pw_seq ?_
  refine pw_region ?_
  refine pwl_step 1 rfl (opS_box (ps := [(.d (.v (.int .u8 c))), (.d (.v (.int .i64 a))), (.d (.v (.int .i64 b)))]) rfl rfl) ?_
  refine pwl_nil ?_
  refine pw_seq ?_
  refine pw_wk (Wk.ofL (n := 16) (l := [(0, (.ptr 1 0)), (3, (.ptr 2 0))]) (S := ⟨[some (row eU s), some [(.ms 0 0 1 s.length), (.d (.sl 1 true [])), (.d (.v (.bool false))), (.d (.v (.int .i64 0)))], some [(.d (.v (.int .u8 c))), (.d (.v (.int .i64 a))), (.d (.v (.int .i64 b)))]], []⟩) rfl rfl (.cons .rfl' (.cons .rfl' .nil))) ?_
  refine pw_region ?_
  refine pwl_step 1 rfl (o_move (p := (.ptr 1 0)) rfl rfl) ?_
  refine pwl_step 1 rfl (opS_field_ptr (b := 2) (off := 0) rfl Try.underlying32 rfl sz3 (of_decide_eq_true rfl) rfl) ?_
  refine pwl_step 1 rfl (opS_load_box (b := 2) (off := 1) (cs := [(.d (.v (.int .u8 c))), (.d (.v (.int .i64 a))), (.d (.v (.int .i64 b)))]) (p := (.d (.v (.int .i64 a)))) rfl Try.underlying3 rfl rfl rfl rfl) ?_
  refine pwl_step 1 rfl (o_buildSlice (sz := 1) (es := [([(.v (.int .i64 a))] : List D)]) rfl Try.underlying28 ti3 (of_decide_eq_true rfl) (of_decide_eq_true rfl) rfl rfl rfl) ?_
  refine pwl_step 1 rfl (opS_call («as» := [(.ptr 1 0), (.d (.sl 1 false ([a].map eI)))]) (r := (.d (.v (.bool (decide (0 ≤ a ∧ a < s.length)))))) rfl fnok27 rfl (args_ok (by exact .cons (.of_canon rfl) (.cons (.of_canon rfl) (.nil)))) (PC.frame (has_one s a hs) [some [(.d (.v (.int .u8 c))), (.d (.v (.int .i64 a))), (.d (.v (.int .i64 b)))]] [] rfl rfl rfl (okB_row (okB_cons rfl rfl)))) ?_
  refine pwl_nil ?_
  refine pw_cond (b := decide (0 ≤ a ∧ a < s.length)) rfl (fun hb1 => ?_) (fun hb1 => ?_)
  ·
    replace hb1 := of_decide_eq_true hb1
    refine pw_wk (Wk.ofL (n := 16) (l := [(0, (.ptr 1 0)), (3, (.ptr 2 0))]) (S := ⟨[some (row eU s), some [(.ms 0 0 1 s.length), (.d (.sl 1 true [])), (.d (.v (.bool false))), (.d (.v (.int .i64 0)))], some [(.d (.v (.int .u8 c))), (.d (.v (.int .i64 a))), (.d (.v (.int .i64 b)))]], []⟩) rfl rfl (.cons .rfl' (.cons .rfl' .nil))) ?_
    refine pw_draw (fun L => ⟨[cond (L 7) (some (row eU (s.set a.toNat 0))) (some (row eU s)), some [(.ms 0 0 1 s.length), (.d (.sl 1 true [])), (.d (.v (.bool false))), (.d (.v (.int .i64 0)))], some [(.d (.v (.int .u8 c))), (.d (.v (.int .i64 a))), (.d (.v (.int .i64 b)))]], []⟩) Trymixed (by kernel_rfl) rfl ?_
    refine d_step 1 rfl (fun _ _ => (o_move (p := (.ptr 1 0)) rfl rfl)) ?_
    refine d_step 1 rfl (fun _ _ => (o_nilCheck_ptr (b := 1) (off := 0) rfl rfl)) ?_
    refine d_step 1 rfl (fun _ _ => (opS_field_ptr (b := 1) (off := 0) rfl Try.underlying48 rfl sz23 (of_decide_eq_true rfl) rfl)) ?_
    refine d_step 1 rfl (fun _ _ => (opS_load_box (b := 1) (off := 0) (cs := [(.ms 0 0 1 s.length), (.d (.sl 1 true [])), (.d (.v (.bool false))), (.d (.v (.int .i64 0)))]) (p := (.ms 0 0 1 s.length)) rfl Try.underlying23 rfl rfl rfl rfl)) ?_
    refine d_step 1 rfl (fun _ _ => (opS_field_ptr (b := 2) (off := 0) rfl Try.underlying32 rfl sz3 (of_decide_eq_true rfl) rfl)) ?_
    refine d_step 1 rfl (fun _ _ => (opS_load_box (b := 2) (off := 1) (cs := [(.d (.v (.int .u8 c))), (.d (.v (.int .i64 a))), (.d (.v (.int .i64 b)))]) (p := (.d (.v (.int .i64 a)))) rfl Try.underlying3 rfl rfl rfl rfl)) ?_
    refine d_step 1 rfl (fun _ _ => (o_index_row (b := 0) (sz := 1) (n := s.length) (j := a.toNat) (k := .i64) (i := a) rfl Try.underlying23 sz39 rfl rfl (by omega) (by omega))) ?_
    refine d_step 1 rfl (fun L hL => by have b7 : L 7 = false := hL.new; (exact o_cast (S := ⟨[some (row eU s), some [(.ms 0 0 1 s.length), (.d (.sl 1 true [])), (.d (.v (.bool false))), (.d (.v (.int .i64 0)))], some [(.d (.v (.int .u8 c))), (.d (.v (.int .i64 a))), (.d (.v (.int .i64 b)))]], []⟩) (by show Sx.mk _ _ = _; rw [b7]; try rfl) (by have c7 : ins L 7 7 = true := (by show (7 == 7 || L 7) = _; rw [b7]; try rfl); show Sx.mk _ _ = _; rw [c7]; try rfl) (o_store_row (f := eU) (xs := s) (b := 0) (n := 1) (m := 1) (i := a.toNat) (k := 0) (x' := 0) (ps := [(.d (.v (.int .u64 0)))]) (ds := [(.v (.int .u64 0))]) rfl sz39 rfl rfl rfl rfl rfl (fun _ => rfl) (by omega) (of_decide_eq_true rfl) (of_decide_eq_true rfl) rfl))) ?_
    refine d_nil ?_
    exact ⟨.inl rfl, (by show _ = Sx.mk [some (row eU (clr a s)), _] []; rw [clr, if_pos hb1]; rfl), (okB_row (okB_cons rfl rfl)), rfl, ⟨_, .nil, rfl⟩⟩
  ·
    replace hb1 := of_decide_eq_false hb1
    refine pw_skip ?_
    exact ⟨.inl rfl, (by show _ = Sx.mk [some (row eU (clr a s)), _] []; rw [clr, if_neg hb1]; rfl), (okB_row (okB_cons rfl rfl)), rfl, ⟨_, .nil, rfl⟩⟩

set_option maxRecDepth 20000 in
theorem kind3_ok (s : List Int) (hs : s.length ≤ 9223372036854775807) (c a b : Int) : PC Try.prog 28 [(.ptr 1 0), (.d (.agg [(.v (.int .u8 c)), (.v (.int .i64 a)), (.v (.int .i64 b))]))] ⟨[some (row eU s), some [(.ms 0 0 1 s.length), (.d (.sl 1 true [])), (.d (.v (.bool false))), (.d (.v (.int .i64 0)))]], []⟩ ⟨[some (row eU (mov a b s)), some [(.ms 0 0 1 s.length), (.d (.sl 1 true [])), (.d (.v (.bool false))), (.d (.v (.int .i64 0)))]], []⟩ (.tup []) := by
  refine pc_intro Try.func28 rfl (of_decide_eq_true rfl) (fun g0 w0 hb0 ht0 => ?_)
  refine pw_seq ?_
  refine pw_region ?_
  refine pwl_step 1 rfl (opS_box (ps := [(.d (.v (.int .u8 c))), (.d (.v (.int .i64 a))), (.d (.v (.int .i64 b)))]) rfl rfl) ?_
  refine pwl_nil ?_
  refine pw_seq ?_
  refine pw_wk (Wk.ofL (n := 26) (l := [(0, (.ptr 1 0)), (3, (.ptr 2 0))]) (S := ⟨[some (row eU s), some [(.ms 0 0 1 s.length), (.d (.sl 1 true [])), (.d (.v (.bool false))), (.d (.v (.int .i64 0)))], some [(.d (.v (.int .u8 c))), (.d (.v (.int .i64 a))), (.d (.v (.int .i64 b)))]], []⟩) rfl rfl (.cons .rfl' (.cons .rfl' .nil))) ?_
  refine pw_region ?_
  refine pwl_step 1 rfl (o_move (p := (.ptr 1 0)) rfl rfl) ?_
  refine pwl_step 1 rfl (opS_field_ptr (b := 2) (off := 0) rfl Try.underlying32 rfl sz3 (of_decide_eq_true rfl) rfl) ?_
  refine pwl_step 1 rfl (opS_load_box (b := 2) (off := 1) (cs := [(.d (.v (.int .u8 c))), (.d (.v (.int .i64 a))), (.d (.v (.int .i64 b)))]) (p := (.d (.v (.int .i64 a)))) rfl Try.underlying3 rfl rfl rfl rfl) ?_
  refine pwl_step 1 rfl (opS_field_ptr (b := 2) (off := 0) rfl Try.underlying32 rfl sz3 (of_decide_eq_true rfl) rfl) ?_
  refine pwl_step 1 rfl (opS_load_box (b := 2) (off := 2) (cs := [(.d (.v (.int .u8 c))), (.d (.v (.int .i64 a))), (.d (.v (.int .i64 b)))]) (p := (.d (.v (.int .i64 b)))) rfl Try.underlying3 rfl rfl rfl rfl) ?_
  refine pwl_step 1 rfl (o_buildSlice (sz := 1) (es := [([(.v (.int .i64 a))] : List D), ([(.v (.int .i64 b))] : List D)]) rfl Try.underlying28 ti3 (of_decide_eq_true rfl) (of_decide_eq_true rfl) rfl rfl rfl) ?_
  refine pwl_step 1 rfl (opS_call («as» := [(.ptr 1 0), (.d (.sl 1 false ([a, b].map eI)))]) (r := (.d (.v (.bool (decide ((0 ≤ a ∧ a < s.length) ∧ (0 ≤ b ∧ b < s.length))))))) rfl fnok27 rfl (args_ok (by exact .cons (.of_canon rfl) (.cons (.of_canon rfl) (.nil)))) (PC.frame (has_two s a b hs) [some [(.d (.v (.int .u8 c))), (.d (.v (.int .i64 a))), (.d (.v (.int .i64 b)))]] [] rfl rfl rfl (okB_row (okB_cons rfl rfl)))) ?_
  refine pwl_nil ?_
  refine pw_cond (b := decide ((0 ≤ a ∧ a < s.length) ∧ (0 ≤ b ∧ b < s.length))) rfl (fun hb1 => ?_) (fun hb1 => ?_)
  ·
    replace hb1 := of_decide_eq_true hb1
    refine pw_wk (Wk.ofL (n := 26) (l := [(0, (.ptr 1 0)), (3, (.ptr 2 0))]) (S := ⟨[some (row eU s), some [(.ms 0 0 1 s.length), (.d (.sl 1 true [])), (.d (.v (.bool false))), (.d (.v (.int .i64 0)))], some [(.d (.v (.int .u8 c))), (.d (.v (.int .i64 a))), (.d (.v (.int .i64 b)))]], []⟩) rfl rfl (.cons .rfl' (.cons .rfl' .nil))) ?_
    refine pw_draw (fun L => ⟨[cond (L 15) (some (row eU (s.set a.toNat (s.getD b.toNat default)))) (some (row eU s)), some [(.ms 0 0 1 s.length), (.d (.sl 1 true [])), (.d (.v (.bool false))), (.d (.v (.int .i64 0)))], some [(.d (.v (.int .u8 c))), (.d (.v (.int .i64 a))), (.d (.v (.int .i64 b)))]], []⟩) Trymixed (by kernel_rfl) rfl ?_
    refine d_step 1 rfl (fun _ _ => (o_move (p := (.ptr 1 0)) rfl rfl)) ?_
    refine d_step 1 rfl (fun _ _ => (o_nilCheck_ptr (b := 1) (off := 0) rfl rfl)) ?_
    refine d_step 1 rfl (fun _ _ => (opS_field_ptr (b := 1) (off := 0) rfl Try.underlying48 rfl sz23 (of_decide_eq_true rfl) rfl)) ?_
    refine d_step 1 rfl (fun _ _ => (opS_load_box (b := 1) (off := 0) (cs := [(.ms 0 0 1 s.length), (.d (.sl 1 true [])), (.d (.v (.bool false))), (.d (.v (.int .i64 0)))]) (p := (.ms 0 0 1 s.length)) rfl Try.underlying23 rfl rfl rfl rfl)) ?_
    refine d_step 1 rfl (fun _ _ => (opS_field_ptr (b := 2) (off := 0) rfl Try.underlying32 rfl sz3 (of_decide_eq_true rfl) rfl)) ?_
    refine d_step 1 rfl (fun _ _ => (opS_load_box (b := 2) (off := 1) (cs := [(.d (.v (.int .u8 c))), (.d (.v (.int .i64 a))), (.d (.v (.int .i64 b)))]) (p := (.d (.v (.int .i64 a)))) rfl Try.underlying3 rfl rfl rfl rfl)) ?_
    refine d_step 1 rfl (fun _ _ => (o_move (p := (.ptr 1 0)) rfl rfl)) ?_
    refine d_step 1 rfl (fun _ _ => (o_nilCheck_ptr (b := 1) (off := 0) rfl rfl)) ?_
    refine d_step 1 rfl (fun _ _ => (opS_field_ptr (b := 1) (off := 0) rfl Try.underlying48 rfl sz23 (of_decide_eq_true rfl) rfl)) ?_
    refine d_step 1 rfl (fun _ _ => (opS_load_box (b := 1) (off := 0) (cs := [(.ms 0 0 1 s.length), (.d (.sl 1 true [])), (.d (.v (.bool false))), (.d (.v (.int .i64 0)))]) (p := (.ms 0 0 1 s.length)) rfl Try.underlying23 rfl rfl rfl rfl)) ?_
    refine d_step 1 rfl (fun _ _ => (opS_field_ptr (b := 2) (off := 0) rfl Try.underlying32 rfl sz3 (of_decide_eq_true rfl) rfl)) ?_
    refine d_step 1 rfl (fun _ _ => (opS_load_box (b := 2) (off := 2) (cs := [(.d (.v (.int .u8 c))), (.d (.v (.int .i64 a))), (.d (.v (.int .i64 b)))]) (p := (.d (.v (.int .i64 b)))) rfl Try.underlying3 rfl rfl rfl rfl)) ?_
    refine d_step 1 rfl (fun _ _ => (o_index_row (b := 0) (sz := 1) (n := s.length) (j := b.toNat) (k := .i64) (i := b) rfl Try.underlying23 sz39 rfl rfl (by omega) (by omega))) ?_
    refine d_step 1 rfl (fun L hL => by have b15 : L 15 = false := hL.later (j := 15) (by kernel_rfl); (exact o_cast (S := ⟨[some (row eU s), some [(.ms 0 0 1 s.length), (.d (.sl 1 true [])), (.d (.v (.bool false))), (.d (.v (.int .i64 0)))], some [(.d (.v (.int .u8 c))), (.d (.v (.int .i64 a))), (.d (.v (.int .i64 b)))]], []⟩) (by show Sx.mk _ _ = _; rw [b15]; try rfl) (by have c15 : ins L 13 15 = false := (by show (15 == 13 || L 15) = _; rw [b15]; try rfl); show Sx.mk _ _ = _; rw [c15]; try rfl) (o_load_row (f := eU) (xs := s) (b := 0) (n := 1) (i := b.toNat) (k := 0) (c := (.v (.int .u64 (s.getD b.toNat default)))) rfl Try.underlying39 rfl rfl rfl (fun _ => rfl) (by omega) (of_decide_eq_true rfl) rfl))) ?_
    refine d_step 1 rfl (fun _ _ => (o_index_row (b := 0) (sz := 1) (n := s.length) (j := a.toNat) (k := .i64) (i := a) rfl Try.underlying23 sz39 rfl rfl (by omega) (by omega))) ?_
    refine d_step 1 rfl (fun L hL => by have b15 : L 15 = false := hL.new; (exact o_cast (S := ⟨[some (row eU s), some [(.ms 0 0 1 s.length), (.d (.sl 1 true [])), (.d (.v (.bool false))), (.d (.v (.int .i64 0)))], some [(.d (.v (.int .u8 c))), (.d (.v (.int .i64 a))), (.d (.v (.int .i64 b)))]], []⟩) (by show Sx.mk _ _ = _; rw [b15]; try rfl) (by have c15 : ins L 15 15 = true := (by show (15 == 15 || L 15) = _; rw [b15]; try rfl); show Sx.mk _ _ = _; rw [c15]; try rfl) (o_store_row (f := eU) (xs := s) (b := 0) (n := 1) (m := 1) (i := a.toNat) (k := 0) (x' := (s.getD b.toNat default)) (ps := [(.d (.v (.int .u64 (s.getD b.toNat default))))]) (ds := [(.v (.int .u64 (s.getD b.toNat default)))]) rfl sz39 rfl rfl rfl rfl rfl (fun _ => rfl) (by omega) (of_decide_eq_true rfl) (of_decide_eq_true rfl) rfl))) ?_
    refine d_nil ?_
    exact ⟨.inl rfl, (by show _ = Sx.mk [some (row eU (mov a b s)), _] []; rw [mov, if_pos hb1]; rfl), (okB_row (okB_cons rfl rfl)), rfl, ⟨_, .nil, rfl⟩⟩
  ·
    replace hb1 := of_decide_eq_false hb1
    refine pw_skip ?_
    exact ⟨.inl rfl, (by show _ = Sx.mk [some (row eU (mov a b s)), _] []; rw [mov, if_neg hb1]; rfl), (okB_row (okB_cons rfl rfl)), rfl, ⟨_, .nil, rfl⟩⟩

set_option maxRecDepth 20000 in
theorem kind4_ok (s : List Int) (hs : s.length ≤ 9223372036854775807) (c a b : Int) : PC Try.prog 29 [(.ptr 1 0), (.d (.agg [(.v (.int .u8 c)), (.v (.int .i64 a)), (.v (.int .i64 b))]))] ⟨[some (row eU s), some [(.ms 0 0 1 s.length), (.d (.sl 1 true [])), (.d (.v (.bool false))), (.d (.v (.int .i64 0)))]], []⟩ ⟨[some (row eU s), some [(.ms 0 0 1 s.length), (.d (.sl 1 true [])), (.d (.v (.bool false))), (.d (.v (.int .i64 (skp a b s))))]], []⟩ (.tup []) := by
  refine pc_intro Try.func29 rfl (of_decide_eq_true rfl) (fun g0 w0 hb0 ht0 => ?_)
  refine pw_seq ?_
  refine pw_region ?_
  refine pwl_step 1 rfl (opS_box (ps := [(.d (.v (.int .u8 c))), (.d (.v (.int .i64 a))), (.d (.v (.int .i64 b)))]) rfl rfl) ?_
  refine pwl_nil ?_
  refine pw_seq ?_
  refine pw_wk (Wk.ofL (n := 25) (l := [(0, (.ptr 1 0)), (3, (.ptr 2 0))]) (S := ⟨[some (row eU s), some [(.ms 0 0 1 s.length), (.d (.sl 1 true [])), (.d (.v (.bool false))), (.d (.v (.int .i64 0)))], some [(.d (.v (.int .u8 c))), (.d (.v (.int .i64 a))), (.d (.v (.int .i64 b)))]], []⟩) rfl rfl (.cons .rfl' (.cons .rfl' .nil))) ?_
  by_cases hc1 : 0 ≤ a ∧ a < s.length
  ·
    refine pw_quiet Trymixed (by kernel_rfl) ?_
    refine q_step 1 rfl (o_move (p := (.ptr 1 0)) rfl rfl) ?_
    refine q_step 1 rfl (opS_field_ptr (b := 2) (off := 0) rfl Try.underlying32 rfl sz3 (of_decide_eq_true rfl) rfl) ?_
    refine q_step 1 rfl (opS_load_box (b := 2) (off := 1) (cs := [(.d (.v (.int .u8 c))), (.d (.v (.int .i64 a))), (.d (.v (.int .i64 b)))]) (p := (.d (.v (.int .i64 a)))) rfl Try.underlying3 rfl rfl rfl rfl) ?_
    refine q_step 1 rfl (o_buildSlice (sz := 1) (es := [([(.v (.int .i64 a))] : List D)]) rfl Try.underlying28 ti3 (of_decide_eq_true rfl) (of_decide_eq_true rfl) rfl rfl rfl) ?_
    refine q_step 1 rfl (opS_call («as» := [(.ptr 1 0), (.d (.sl 1 false ([a].map eI)))]) (r := (.d (.v (.bool true)))) rfl fnok27 rfl (args_ok (by exact .cons (.of_canon rfl) (.cons (.of_canon rfl) (.nil)))) (PC.res_eq (PC.frame (has_one s a hs) [some [(.d (.v (.int .u8 c))), (.d (.v (.int .i64 a))), (.d (.v (.int .i64 b)))]] [] rfl rfl rfl (okB_row (okB_cons rfl rfl))) (congrArg (fun x => PV.d (.v (.bool x))) (decide_eq_true hc1)))) ?_
    refine q_step 1 rfl (o_move (p := (.d (.v (.bool true)))) rfl rfl) ?_
    refine q_step_yes 1 rfl rfl (o_move (p := (.ptr 1 0)) rfl rfl) ?_
    refine q_step_yes 1 rfl rfl (o_nilCheck_ptr (b := 1) (off := 0) rfl rfl) ?_
    refine q_step_yes 1 rfl rfl (opS_field_ptr (b := 1) (off := 0) rfl Try.underlying48 rfl sz23 (of_decide_eq_true rfl) rfl) ?_
    refine q_step_yes 1 rfl rfl (opS_load_box (b := 1) (off := 0) (cs := [(.ms 0 0 1 s.length), (.d (.sl 1 true [])), (.d (.v (.bool false))), (.d (.v (.int .i64 0)))]) (p := (.ms 0 0 1 s.length)) rfl Try.underlying23 rfl rfl rfl rfl) ?_
    refine q_step_yes 1 rfl rfl (opS_field_ptr (b := 2) (off := 0) rfl Try.underlying32 rfl sz3 (of_decide_eq_true rfl) rfl) ?_
    refine q_step_yes 1 rfl rfl (opS_load_box (b := 2) (off := 1) (cs := [(.d (.v (.int .u8 c))), (.d (.v (.int .i64 a))), (.d (.v (.int .i64 b)))]) (p := (.d (.v (.int .i64 a)))) rfl Try.underlying3 rfl rfl rfl rfl) ?_
    refine q_step_yes 1 rfl rfl (o_index_row (b := 0) (sz := 1) (n := s.length) (j := a.toNat) (k := .i64) (i := a) rfl Try.underlying23 sz39 rfl rfl (by omega) (by omega)) ?_
    refine q_step_yes 1 rfl rfl (o_load_row (f := eU) (xs := s) (b := 0) (n := 1) (i := a.toNat) (k := 0) (c := (.v (.int .u64 (s.getD a.toNat default)))) rfl Try.underlying39 rfl rfl rfl (fun _ => rfl) (by omega) (of_decide_eq_true rfl) rfl) ?_
    refine q_step_yes 1 rfl rfl (opS_bin (k := .u64) (m := (s.getD a.toNat default)) (n := 0) rfl rfl rfl (ib_eq rfl)) ?_
    refine q_step 1 rfl (o_pick_t (p := (.d (.v (.bool (decide ((s.getD a.toNat default) = 0)))))) rfl rfl rfl) ?_
    refine q_nil ?_
    refine pw_cond (b := decide ((s.getD a.toNat default) = 0)) rfl (fun hb2 => ?_) (fun hb2 => ?_)
    ·
      replace hb2 := of_decide_eq_true hb2
      refine pw_wk (Wk.ofL (n := 25) (l := [(0, (.ptr 1 0)), (3, (.ptr 2 0))]) (S := ⟨[some (row eU s), some [(.ms 0 0 1 s.length), (.d (.sl 1 true [])), (.d (.v (.bool false))), (.d (.v (.int .i64 0)))], some [(.d (.v (.int .u8 c))), (.d (.v (.int .i64 a))), (.d (.v (.int .i64 b)))]], []⟩) rfl rfl (.cons .rfl' (.cons .rfl' .nil))) ?_
      refine pw_region ?_
      refine pwl_step 1 rfl (o_move (p := (.ptr 1 0)) rfl rfl) ?_
      refine pwl_step 1 rfl (opS_field_ptr (b := 2) (off := 0) rfl Try.underlying32 rfl sz3 (of_decide_eq_true rfl) rfl) ?_
      refine pwl_step 1 rfl (opS_load_box (b := 2) (off := 2) (cs := [(.d (.v (.int .u8 c))), (.d (.v (.int .i64 a))), (.d (.v (.int .i64 b)))]) (p := (.d (.v (.int .i64 b)))) rfl Try.underlying3 rfl rfl rfl rfl) ?_
      refine pwl_step 1 rfl (o_nilCheck_ptr (b := 1) (off := 0) rfl rfl) ?_
      refine pwl_step 1 rfl (opS_field_ptr (b := 1) (off := 0) rfl Try.underlying48 rfl sz3 (of_decide_eq_true rfl) rfl) ?_
      refine pwl_step 1 rfl (opS_store (b := 1) (off := 3) (cs := [(.ms 0 0 1 s.length), (.d (.sl 1 true [])), (.d (.v (.bool false))), (.d (.v (.int .i64 0)))]) (ps := [(.d (.v (.int .i64 b)))]) rfl sz3 rfl rfl rfl rfl (of_decide_eq_true rfl) (List.cons_ne_nil _ _)) ?_
      refine pwl_nil ?_
      exact ⟨.inl rfl, (by show _ = Sx.mk [_, some [_, _, _, .d (.v (.int .i64 (skp a b s)))]] []; rw [skp, if_pos ⟨hc1, hb2⟩]; rfl), (okB_row (okB_cons rfl rfl)), rfl, ⟨_, .nil, rfl⟩⟩
    ·
      replace hb2 := of_decide_eq_false hb2
      refine pw_skip ?_
      exact ⟨.inl rfl, (by show _ = Sx.mk [_, some [_, _, _, .d (.v (.int .i64 (skp a b s)))]] []; rw [skp, if_neg (fun h => hb2 h.2)]; rfl), (okB_row (okB_cons rfl rfl)), rfl, ⟨_, .nil, rfl⟩⟩
  ·
    refine pw_quiet Trymixed (by kernel_rfl) ?_
    refine q_step 1 rfl (o_move (p := (.ptr 1 0)) rfl rfl) ?_
    refine q_step 1 rfl (opS_field_ptr (b := 2) (off := 0) rfl Try.underlying32 rfl sz3 (of_decide_eq_true rfl) rfl) ?_
    refine q_step 1 rfl (opS_load_box (b := 2) (off := 1) (cs := [(.d (.v (.int .u8 c))), (.d (.v (.int .i64 a))), (.d (.v (.int .i64 b)))]) (p := (.d (.v (.int .i64 a)))) rfl Try.underlying3 rfl rfl rfl rfl) ?_
    refine q_step 1 rfl (o_buildSlice (sz := 1) (es := [([(.v (.int .i64 a))] : List D)]) rfl Try.underlying28 ti3 (of_decide_eq_true rfl) (of_decide_eq_true rfl) rfl rfl rfl) ?_
    refine q_step 1 rfl (opS_call («as» := [(.ptr 1 0), (.d (.sl 1 false ([a].map eI)))]) (r := (.d (.v (.bool false)))) rfl fnok27 rfl (args_ok (by exact .cons (.of_canon rfl) (.cons (.of_canon rfl) (.nil)))) (PC.res_eq (PC.frame (has_one s a hs) [some [(.d (.v (.int .u8 c))), (.d (.v (.int .i64 a))), (.d (.v (.int .i64 b)))]] [] rfl rfl rfl (okB_row (okB_cons rfl rfl))) (congrArg (fun x => PV.d (.v (.bool x))) (decide_eq_false hc1)))) ?_
    refine q_step 1 rfl (o_move (p := (.d (.v (.bool false)))) rfl rfl) ?_
    refine q_step_no rfl rfl ?_
    refine q_step_no rfl rfl ?_
    refine q_step_no rfl rfl ?_
    refine q_step_no rfl rfl ?_
    refine q_step_no rfl rfl ?_
    refine q_step_no rfl rfl ?_
    refine q_step_no rfl rfl ?_
    refine q_step_no rfl rfl ?_
    refine q_step_no rfl rfl ?_
    refine q_step 1 rfl (o_pick_f (p := (.d (.v (.bool false)))) rfl rfl rfl) ?_
    refine q_nil ?_
    refine pw_cond (b := false) rfl (fun h => by cases h) (fun _ => ?_)
    refine pw_skip ?_
    exact ⟨.inl rfl, (by show _ = Sx.mk [_, some [_, _, _, .d (.v (.int .i64 (skp a b s)))]] []; rw [skp, if_neg (fun h => hc1 h.1)]; rfl), (okB_row (okB_cons rfl rfl)), rfl, ⟨_, .nil, rfl⟩⟩

set_option maxRecDepth 20000 in
theorem kind5_ok (s : List Int) (hs : s.length ≤ 9223372036854775807) (c a b : Int) : PC Try.prog 30 [(.ptr 1 0), (.d (.agg [(.v (.int .u8 c)), (.v (.int .i64 a)), (.v (.int .i64 b))]))] ⟨[some (row eU s), some [(.ms 0 0 1 s.length), (.d (.sl 1 true [])), (.d (.v (.bool false))), (.d (.v (.int .i64 0)))]], []⟩ ⟨[some (row eU s), some [(.ms 0 0 1 s.length), (.d (.sl 1 true [])), (.d (.v (.bool true))), (.d (.v (.int .i64 0)))]], []⟩ (.tup []) := by
  refine pc_intro Try.func30 rfl (of_decide_eq_true rfl) (fun g0 w0 hb0 ht0 => ?_)
  refine pw_seq ?_
  refine pw_region ?_
  refine pwl_step 1 rfl (opS_box (ps := [(.d (.v (.int .u8 c))), (.d (.v (.int .i64 a))), (.d (.v (.int .i64 b)))]) rfl rfl) ?_
  refine pwl_nil ?_
  refine pw_wk (Wk.ofL (n := 7) (l := [(0, (.ptr 1 0))]) (S := ⟨[some (row eU s), some [(.ms 0 0 1 s.length), (.d (.sl 1 true [])), (.d (.v (.bool false))), (.d (.v (.int .i64 0)))], some [(.d (.v (.int .u8 c))), (.d (.v (.int .i64 a))), (.d (.v (.int .i64 b)))]], []⟩) rfl rfl (.cons .rfl' .nil)) ?_
  refine pw_region ?_
  refine pwl_step 1 rfl (o_move (p := (.ptr 1 0)) rfl rfl) ?_
  refine pwl_step 1 rfl (o_nilCheck_ptr (b := 1) (off := 0) rfl rfl) ?_
  refine pwl_step 1 rfl (opS_field_ptr (b := 1) (off := 0) rfl Try.underlying48 rfl sz4 (of_decide_eq_true rfl) rfl) ?_
  refine pwl_step 1 rfl (opS_store (b := 1) (off := 2) (cs := [(.ms 0 0 1 s.length), (.d (.sl 1 true [])), (.d (.v (.bool false))), (.d (.v (.int .i64 0)))]) (ps := [(.d (.v (.bool true)))]) rfl sz4 rfl rfl rfl rfl (of_decide_eq_true rfl) (List.cons_ne_nil _ _)) ?_
  refine pwl_nil ?_
  exact ⟨.inl rfl, rfl, (okB_row (okB_cons rfl rfl)), rfl, ⟨_, .nil, rfl⟩⟩
end Go.Proofs.Ytopmocpjgjbdbaa
