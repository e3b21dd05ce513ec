/- Script: the example -/
import Derived.Test.YtcbppmocgiamiaaS9
import Derived.Test.YtcbppmocgiamiaaSQ
namespace Go.Proofs.Ytcbppmocgiamiaa
open Go.Pv
theorem of_nil : PF Try.prog 11 [(.sl 1 false [])] (.d (.agg [(.v (.int .i64 1)), (.v (.int .i64 1)), (.v (.int .i64 0)), (.v (.int .i64 0)), (.sl 1 false (([[], [], [], [], [], [], [], []] : List (List FOp)).map eFs)), (.sl 1 false (([[]] : List (List Call)).map eCs)), (.sl 1 false (([] : List Int).map eI))])) := of_ok [] (by intro x hx; cases hx)
theorem put_nil : PF Try.prog 14 [(.agg [(.v (.int .i64 1)), (.v (.int .i64 1)), (.v (.int .i64 0)), (.v (.int .i64 0)), (.sl 1 false (([[], [], [], [], [], [], [], []] : List (List FOp)).map eFs)), (.sl 1 false (([[]] : List (List Call)).map eCs)), (.sl 1 false (([] : List Int).map eI))])] (.d (.sl 1 false (([0, 0, 0, 0] : List Int).map eByte))) := put_ok (ofB []) (may_of (by intro x hx; cases hx)).sw
set_option maxRecDepth 100000 in
theorem shown_ok  : PF Try.prog 9 [] (.d (.v (.bool true))) := by
  exact pf_vc (rs := [(.d (.v (.bool true)))]) envok Try.func9 rfl rfl
   (.op 1 (.pfa [(.sl 1 false [])] (.d (.agg [(.v (.int .i64 1)), (.v (.int .i64 1)), (.v (.int .i64 0)), (.v (.int .i64 0)), (.sl 1 false (([[], [], [], [], [], [], [], []] : List (List FOp)).map eFs)), (.sl 1 false (([[]] : List (List Call)).map eCs)), (.sl 1 false (([] : List Int).map eI))]))) (.op 7 (.known true (.no)) (.op 0 (.known true (.no)) (.op 0 (.known true (.nat 1)) (.op 0 (.known true (.no)) (.op 2 (.known true (.no)) (.op 0 (.known true (.no)) (.op 0 (.known true (.nat 8)) (.op 0 (.known true (.no)) (.op 2 (.known true (.no)) (.op 0 (.known true (.pfa [(.agg [(.v (.int .i64 1)), (.v (.int .i64 1)), (.v (.int .i64 0)), (.v (.int .i64 0)), (.sl 1 false (([[], [], [], [], [], [], [], []] : List (List FOp)).map eFs)), (.sl 1 false (([[]] : List (List Call)).map eCs)), (.sl 1 false (([] : List Int).map eI))])] (.d (.sl 1 false (([0, 0, 0, 0] : List Int).map eByte))))) (.op 0 (.known true (.nat 4)) (.op 0 (.known true (.no)) .nil)))))))))))))
   (of_eq (by kernel_rfl)
 (And.intro (And.intro (PVle.full (sz := 1) (f := true) (es := [])) trivial)
 (And.intro of_nil
 (And.intro (and_tt (decide_eq_true (rfl : 1 = 1)) (and_tt (decide_eq_true (rfl : 1 = 1)) (and_tt (decide_eq_true (rfl : 0 = 0)) (and_tt (decide_eq_true (rfl : 0 = 0)) (rfl : true = true)))))
 (And.intro (and_tt (decide_eq_true (rfl : 1 = 1)) (and_tt (decide_eq_true (rfl : 1 = 1)) (and_tt (decide_eq_true (rfl : 0 = 0)) (and_tt (decide_eq_true (rfl : 0 = 0)) (rfl : true = true)))))
 (And.intro (and_tt (decide_eq_true (rfl : 1 = 1)) (and_tt (decide_eq_true (rfl : 1 = 1)) (and_tt (decide_eq_true (rfl : 0 = 0)) (and_tt (decide_eq_true (rfl : 0 = 0)) (rfl : true = true)))))
 (And.intro (rfl : (([[]] : List (List Call)).map eCs).length = 1)
 (And.intro (and_tt (decide_eq_true (rfl : 1 = 1)) (and_tt (decide_eq_true (rfl : 1 = 1)) (and_tt (decide_eq_true (rfl : 0 = 0)) (and_tt (decide_eq_true (rfl : 0 = 0)) (rfl : true = true)))))
 (And.intro (and_tt (and_tt (decide_eq_true (rfl : 1 = 1)) (and_tt (decide_eq_true (rfl : 1 = 1)) (and_tt (decide_eq_true (rfl : 0 = 0)) (and_tt (decide_eq_true (rfl : 0 = 0)) (rfl : true = true))))) (rfl : true = true))
 (And.intro (and_tt (and_tt (decide_eq_true (rfl : 1 = 1)) (and_tt (decide_eq_true (rfl : 1 = 1)) (and_tt (decide_eq_true (rfl : 0 = 0)) (and_tt (decide_eq_true (rfl : 0 = 0)) (rfl : true = true))))) (rfl : true = true))
 (And.intro (and_tt (and_tt (decide_eq_true (rfl : 1 = 1)) (and_tt (decide_eq_true (rfl : 1 = 1)) (and_tt (decide_eq_true (rfl : 0 = 0)) (and_tt (decide_eq_true (rfl : 0 = 0)) (rfl : true = true))))) (rfl : true = true))
 (And.intro (rfl : (([[], [], [], [], [], [], [], []] : List (List FOp)).map eFs).length = 8)
 (And.intro (and_tt (and_tt (decide_eq_true (rfl : 1 = 1)) (and_tt (decide_eq_true (rfl : 1 = 1)) (and_tt (decide_eq_true (rfl : 0 = 0)) (and_tt (decide_eq_true (rfl : 0 = 0)) (rfl : true = true))))) (rfl : true = true))
 (And.intro (and_tt (and_tt (and_tt (decide_eq_true (rfl : 1 = 1)) (and_tt (decide_eq_true (rfl : 1 = 1)) (and_tt (decide_eq_true (rfl : 0 = 0)) (and_tt (decide_eq_true (rfl : 0 = 0)) (rfl : true = true))))) (rfl : true = true)) (rfl : true = true))
 (And.intro (and_tt (and_tt (and_tt (decide_eq_true (rfl : 1 = 1)) (and_tt (decide_eq_true (rfl : 1 = 1)) (and_tt (decide_eq_true (rfl : 0 = 0)) (and_tt (decide_eq_true (rfl : 0 = 0)) (rfl : true = true))))) (rfl : true = true)) (rfl : true = true))
 (And.intro (And.intro (PVle.of_canon (p := (.agg [(.d (.v (.int .i64 1))), (.d (.v (.int .i64 1))), (.d (.v (.int .i64 0))), (.d (.v (.int .i64 0))), (.d (.sl 1 false (([[], [], [], [], [], [], [], []] : List (List FOp)).map eFs))), (.d (.sl 1 false (([[]] : List (List Call)).map eCs))), (.d (.sl 1 false (([] : List Int).map eI)))])) (q := (.d (.agg [(.v (.int .i64 1)), (.v (.int .i64 1)), (.v (.int .i64 0)), (.v (.int .i64 0)), (.sl 1 false (([[], [], [], [], [], [], [], []] : List (List FOp)).map eFs)), (.sl 1 false (([[]] : List (List Call)).map eCs)), (.sl 1 false (([] : List Int).map eI))]))) rfl) trivial)
 (And.intro put_nil
 (And.intro (and_tt (and_tt (and_tt (decide_eq_true (rfl : 1 = 1)) (and_tt (decide_eq_true (rfl : 1 = 1)) (and_tt (decide_eq_true (rfl : 0 = 0)) (and_tt (decide_eq_true (rfl : 0 = 0)) (rfl : true = true))))) (rfl : true = true)) (rfl : true = true))
 (And.intro (rfl : (([0, 0, 0, 0] : List Int).map eByte).length = 4)
 (And.intro (and_tt (and_tt (and_tt (decide_eq_true (rfl : 1 = 1)) (and_tt (decide_eq_true (rfl : 1 = 1)) (and_tt (decide_eq_true (rfl : 0 = 0)) (and_tt (decide_eq_true (rfl : 0 = 0)) (rfl : true = true))))) (rfl : true = true)) (rfl : true = true))
 (And.intro (And.intro (le_bool (a := ((((decide (1 = 1) && (decide (1 = 1) && (decide (0 = 0) && (decide (0 = 0) && true)))) && true) && true) && true)) (b := true) (by first | rfl | (exfalso; omega) | simp_all)) trivial) trivial)))))))))))))))))))))
end Go.Proofs.Ytcbppmocgiamiaa
