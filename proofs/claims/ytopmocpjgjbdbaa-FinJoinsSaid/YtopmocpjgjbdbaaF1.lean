/- tries -/
import Derived.Test.YtopmocpjgjbdbaaPvT
import Derived.Test.YtopmocpjgjbdbaaRows
namespace Go.Proofs.Ytopmocpjgjbdbaa
open Go.Pv
structure FOp where
  op : Int
  a : Int
  b : Int
instance : Inhabited FOp := ⟨⟨0, 0, 0⟩⟩
def eU (x : Int) : List D := [.v (.int .u64 x)]
def eI (x : Int) : List D := [.v (.int .i64 x)]
def eF (o : FOp) : List D := [.v (.int .u8 o.op), .v (.int .i64 o.a), .v (.int .i64 o.b)]
def eL (l : List FOp) : List D := [.sl 3 false (l.map eF)]
theorem Trymixed : Try.prog.follows .mixedOrders = true := by kernel_rfl
theorem take_next {α : Type} [Inhabited α] {xs ys : List α} {k : Nat} (h : xs.take k = ys.take k) (h1 : k < xs.length) (h2 : k < ys.length) (he : xs.getD k default = ys.getD k default) : xs.take (k + 1) = ys.take (k + 1) := by
  rw [List.take_succ_eq_append_getElem h1, List.take_succ_eq_append_getElem h2, h]
  congr 1
  simpa [List.getD, h1, h2] using he
theorem sz39 : SizeIs Try.prog 39 1 := sizeIs_of (by kernel_rfl)
set_option maxRecDepth 20000 in
theorem within_ok (n l h : Int) : PF Try.prog 22 [(.v (.int .i64 n)), (.v (.int .i64 l)), (.v (.int .i64 h))] (.d (.v (.bool (decide (l ≤ n ∧ n ≤ h))))) := by
  refine pc_intro Try.func22 rfl (of_decide_eq_true rfl) (fun g0 w0 hb0 ht0 => ?_)
  refine pw_seq ?_
  refine pw_region ?_
  refine pwl_step 1 rfl (o_assign (p := (.d (.v (.bool false)))) rfl rfl) ?_
  refine pwl_nil ?_
  refine pw_seq ?_
  refine pw_wk (Wk.ofL (n := 15) (l := [(0, (.d (.v (.int .i64 n)))), (1, (.d (.v (.int .i64 l)))), (2, (.d (.v (.int .i64 h)))), (6, (.d (.v (.bool false))))]) (S := ⟨[], []⟩) rfl rfl (.cons .rfl' (.cons .rfl' (.cons .rfl' (.cons .rfl' .nil))))) ?_
  by_cases hc1 : l ≤ n
  ·
    refine pw_region ?_
    refine pwl_step 1 rfl (o_move (p := (.d (.v (.int .i64 l)))) rfl rfl) ?_
    refine pwl_step 1 rfl (o_move (p := (.d (.v (.int .i64 n)))) rfl rfl) ?_
    refine pwl_step 1 rfl (opS_bin (k := .i64) (m := l) (n := n) rfl rfl rfl (ib_le (decide_eq_true hc1))) ?_
    refine pwl_step 1 rfl (o_move (p := (.d (.v (.bool true)))) rfl rfl) ?_
    refine pwl_step_yes 1 rfl rfl (o_move (p := (.d (.v (.int .i64 n)))) rfl rfl) ?_
    refine pwl_step_yes 1 rfl rfl (o_move (p := (.d (.v (.int .i64 h)))) rfl rfl) ?_
    refine pwl_step_yes 1 rfl rfl (opS_bin (k := .i64) (m := n) (n := h) rfl rfl rfl (ib_le rfl)) ?_
    refine pwl_step 1 rfl (o_pick_t (p := (.d (.v (.bool (decide (n ≤ h)))))) rfl rfl rfl) ?_
    refine pwl_step 1 rfl (o_assign (p := (.d (.v (.bool (decide (n ≤ h)))))) rfl rfl) ?_
    refine pwl_nil ?_
    refine pw_ret ?_
    exact ⟨.inr rfl, rfl, rfl, rfl, ⟨_, (.cons _ _ _ _ (.tmp (of_decide_eq_true rfl) (PVle.of_canon (p := (.d (.v (.bool (decide (n ≤ h)))))) (by simp [PV.canon]; try omega))) .nil), rfl⟩⟩
  ·
    refine pw_region ?_
    refine pwl_step 1 rfl (o_move (p := (.d (.v (.int .i64 l)))) rfl rfl) ?_
    refine pwl_step 1 rfl (o_move (p := (.d (.v (.int .i64 n)))) rfl rfl) ?_
    refine pwl_step 1 rfl (opS_bin (k := .i64) (m := l) (n := n) rfl rfl rfl (ib_le (decide_eq_false hc1))) ?_
    refine pwl_step 1 rfl (o_move (p := (.d (.v (.bool false)))) rfl rfl) ?_
    refine pwl_step_no rfl rfl ?_
    refine pwl_step_no rfl rfl ?_
    refine pwl_step_no rfl rfl ?_
    refine pwl_step 1 rfl (o_pick_f (p := (.d (.v (.bool false)))) rfl rfl rfl) ?_
    refine pwl_step 1 rfl (o_assign (p := (.d (.v (.bool false)))) rfl rfl) ?_
    refine pwl_nil ?_
    refine pw_ret ?_
    exact ⟨.inr rfl, rfl, rfl, rfl, ⟨_, (.cons _ _ _ _ (.tmp (of_decide_eq_true rfl) (PVle.of_canon (p := (.d (.v (.bool false)))) (by simp [PV.canon]; try omega))) .nil), rfl⟩⟩

set_option maxRecDepth 20000 in
theorem words_ok (xs ys : List Int) : PF Try.prog 13 [(.sl 1 false (xs.map eU)), (.sl 1 false (ys.map eU))] (.d (.v (.bool (decide (xs = ys))))) := by
  refine pc_intro Try.func13 rfl (of_decide_eq_true rfl) (fun g0 w0 hb0 ht0 => ?_)
  refine pw_len (i := 0) (sz := 1) (es := xs.map eU) (of_decide_eq_true rfl) rfl (fun hl0 => ?_)
  simp only [List.length_map] at hl0
  refine pw_seq ?_
  refine pw_region ?_
  refine pwl_step 1 rfl (o_assign (p := (.d (.v (.bool false)))) rfl rfl) ?_
  refine pwl_nil ?_
  refine pw_seq ?_
  refine pw_seq ?_
  refine pw_wk (Wk.ofL (n := 26) (l := [(0, (.d (.sl 1 false (xs.map eU)))), (1, (.d (.sl 1 false (ys.map eU)))), (4, (.d (.v (.bool false))))]) (S := ⟨[], []⟩) rfl rfl (.cons .rfl' (.cons .rfl' (.cons .rfl' .nil)))) ?_
  refine pw_region ?_
  refine pwl_step 1 rfl (o_move (p := (.d (.sl 1 false (xs.map eU)))) rfl rfl) ?_
  refine pwl_step 1 rfl (o_len (sz := 1) (es := (xs.map eU)) (n := xs.length) rfl Try.underlying23 rfl (by simp)) ?_
  refine pwl_step 1 rfl (o_move (p := (.d (.sl 1 false (ys.map eU)))) rfl rfl) ?_
  refine pwl_step 1 rfl (o_len (sz := 1) (es := (ys.map eU)) (n := ys.length) rfl Try.underlying23 rfl (by simp)) ?_
  refine pwl_step 1 rfl (opS_bin (k := .i64) (m := (((xs.length : Nat)) : Int)) (n := (((ys.length : Nat)) : Int)) rfl rfl rfl (ib_ne rfl)) ?_
  refine pwl_nil ?_
  refine pw_cond (b := !decide ((((xs.length : Nat)) : Int) = (((ys.length : Nat)) : Int))) rfl (fun hb1 => ?_) (fun hb1 => ?_)
  ·
    replace hb1 := not_dec_true hb1
    refine pw_seq ?_
    refine pw_region ?_
    refine pwl_step 1 rfl (o_assign (p := (.d (.v (.bool false)))) rfl rfl) ?_
    refine pwl_nil ?_
    refine pw_ret ?_
    exact ⟨.inr rfl, rfl, rfl, rfl, ⟨_, (.cons _ _ _ _ (.tmp (of_decide_eq_true rfl) (PVle.of_canon (p := (.d (.v (.bool false)))) (by simp only [PV.canon]; congr 3; symm; apply decide_eq_false; intro h; exact hb1 (by rw [h])))) .nil), rfl⟩⟩
  ·
    replace hb1 := not_dec_false hb1
    refine pw_skip ?_
    refine pw_seq ?_
    refine pw_seq ?_
    refine pw_region ?_
    refine pwl_step 1 rfl (o_assign (p := (.d (.v (.int .i64 0)))) rfl rfl) ?_
    refine pwl_nil ?_
    refine pw_block ?_
    refine pw_loop' (α := Nat) (fun (x : Nat) => match x with | k => St.ofL 26 [(0, (.d (.sl 1 false (xs.map eU)))), (1, (.d (.sl 1 false (ys.map eU)))), (5, (.d (.v (.int .i64 ((k : Nat) : Int)))))] ⟨[], []⟩) (fun (x : Nat) => match x with | k => k ≤ xs.length ∧ xs.take k = ys.take k) (fun (x : Nat) => match x with | k => xs.length - k) 0 (⟨Nat.zero_le _, by simp⟩) (Wk.ofL rfl (rfl) (.cons .rfl' (.cons .rfl' (.cons (.of_eq (by first | rfl | (congr 3; omega))) .nil)))) ?_
    rintro k ⟨hk, hE⟩
    refine pw_seq ?_
    refine pw_seq ?_
    refine pw_wk (Wk.ofL (n := 26) (l := [(0, (.d (.sl 1 false (xs.map eU)))), (1, (.d (.sl 1 false (ys.map eU)))), (5, (.d (.v (.int .i64 ((k : Nat) : Int)))))]) (S := ⟨[], []⟩) rfl rfl (.cons .rfl' (.cons .rfl' (.cons .rfl' .nil)))) ?_
    refine pw_region ?_
    refine pwl_step 1 rfl (o_move (p := (.d (.v (.int .i64 ((k : Nat) : Int))))) rfl rfl) ?_
    refine pwl_step 1 rfl (o_move (p := (.d (.sl 1 false (xs.map eU)))) rfl rfl) ?_
    refine pwl_step 1 rfl (o_len (sz := 1) (es := (xs.map eU)) (n := xs.length) rfl Try.underlying23 rfl (by simp)) ?_
    refine pwl_step 1 rfl (opS_bin (k := .i64) (m := ((k : Nat) : Int)) (n := (((xs.length : Nat)) : Int)) rfl rfl rfl (ib_lt rfl)) ?_
    refine pwl_nil ?_
    refine pw_cond (b := decide (((k : Nat) : Int) < (((xs.length : Nat)) : Int))) rfl (fun hb2 => ?_) (fun hb2 => ?_)
    ·
      replace hb2 := of_decide_eq_true hb2
      refine pw_skip ?_
      refine pw_seq ?_
      refine pw_block ?_
      refine pw_seq ?_
      refine pw_wk (Wk.ofL (n := 26) (l := [(0, (.d (.sl 1 false (xs.map eU)))), (1, (.d (.sl 1 false (ys.map eU)))), (5, (.d (.v (.int .i64 ((k : Nat) : Int)))))]) (S := ⟨[], []⟩) rfl rfl (.cons .rfl' (.cons .rfl' (.cons .rfl' .nil)))) ?_
      refine pw_quiet Trymixed (by kernel_rfl) ?_
      refine q_step 1 rfl (o_move (p := (.d (.sl 1 false (xs.map eU)))) rfl rfl) ?_
      refine q_step 1 rfl (o_move (p := (.d (.v (.int .i64 ((k : Nat) : Int))))) rfl rfl) ?_
      refine q_step 1 rfl (opS_index (sz := 1) (es := (xs.map eU)) (k := .i64) (n := ((k : Nat) : Int)) (e := [(.v (.int .u64 (xs.getD k default)))]) rfl Try.underlying23 sz39 rfl rfl (by omega) (map_get (xs := xs) (i := k) (by omega))) ?_
      refine q_step 1 rfl (opS_load_rp (c := (.v (.int .u64 (xs.getD k default)))) (cs := []) rfl Try.underlying39 rfl rfl) ?_
      refine q_step 1 rfl (o_move (p := (.d (.sl 1 false (ys.map eU)))) rfl rfl) ?_
      refine q_step 1 rfl (o_move (p := (.d (.v (.int .i64 ((k : Nat) : Int))))) rfl rfl) ?_
      refine q_step 1 rfl (opS_index (sz := 1) (es := (ys.map eU)) (k := .i64) (n := ((k : Nat) : Int)) (e := [(.v (.int .u64 (ys.getD k default)))]) rfl Try.underlying23 sz39 rfl rfl (by omega) (map_get (xs := ys) (i := k) (by omega))) ?_
      refine q_step 1 rfl (opS_load_rp (c := (.v (.int .u64 (ys.getD k default)))) (cs := []) rfl Try.underlying39 rfl rfl) ?_
      refine q_step 1 rfl (opS_bin (k := .u64) (m := (xs.getD k default)) (n := (ys.getD k default)) rfl rfl rfl (ib_ne rfl)) ?_
      refine q_nil ?_
      refine pw_cond (b := !decide ((xs.getD k default) = (ys.getD k default))) rfl (fun hb3 => ?_) (fun hb3 => ?_)
      ·
        replace hb3 := not_dec_true hb3
        refine pw_seq ?_
        refine pw_region ?_
        refine pwl_step 1 rfl (o_assign (p := (.d (.v (.bool false)))) rfl rfl) ?_
        refine pwl_nil ?_
        refine pw_ret ?_
        exact ⟨.inr rfl, rfl, rfl, rfl, ⟨_, (.cons _ _ _ _ (.tmp (of_decide_eq_true rfl) (PVle.of_canon (p := (.d (.v (.bool false)))) (by simp only [PV.canon]; congr 3; symm; apply decide_eq_false; intro h; exact hb3 (by rw [h])))) .nil), rfl⟩⟩
      ·
        replace hb3 := not_dec_false hb3
        refine pw_skip ?_
        refine pw_region ?_
        refine pwl_step 1 rfl (o_move (p := (.d (.v (.int .i64 ((k : Nat) : Int))))) rfl rfl) ?_
        refine pwl_step 1 rfl (opS_bin (k := .i64) (m := ((k : Nat) : Int)) (n := 1) rfl rfl rfl (ib_add (by omega) (by omega))) ?_
        refine pwl_step 1 rfl (o_assign (p := (.d (.v (.int .i64 (((k : Nat) : Int) + 1))))) rfl rfl) ?_
        refine pwl_nil ?_
        exact ⟨k + 1, ⟨by omega, take_next hE (by omega) (by omega) (by simpa using ‹_›)⟩, by simp only []; omega, Wk.ofL rfl (rfl) (.cons .rfl' (.cons .rfl' (.cons (.of_eq (by first | rfl | (congr 3; omega))) .nil)))⟩
    ·
      replace hb2 := of_decide_eq_false hb2
      refine pw_exit ?_
      refine pw_seq ?_
      refine pw_region ?_
      refine pwl_step 1 rfl (o_assign (p := (.d (.v (.bool true)))) rfl rfl) ?_
      refine pwl_nil ?_
      refine pw_ret ?_
      exact ⟨.inr rfl, rfl, rfl, rfl, ⟨_, (.cons _ _ _ _ (.tmp (of_decide_eq_true rfl) (PVle.of_canon (p := (.d (.v (.bool true)))) (by simp only [PV.canon]; congr 3; symm; apply decide_eq_true; have := hE; rwa [List.take_of_length_le (by omega), List.take_of_length_le (by omega)] at this))) .nil), rfl⟩⟩
end Go.Proofs.Ytopmocpjgjbdbaa
