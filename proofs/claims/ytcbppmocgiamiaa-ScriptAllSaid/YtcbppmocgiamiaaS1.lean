/- Script: small functions -/
import Derived.Test.YtcbppmocgiamiaaE0
import Derived.Test.YtcbppmocgiamiaaSL
namespace Go.Proofs.Ytcbppmocgiamiaa
open Go.Pv
set_option maxRecDepth 100000 in
theorem bounds_ok  : PF Try.prog 41 [] (.d (.agg [(.v (.int .u8 64)), (.v (.int .u8 1)), (.v (.int .u8 6)), (.v (.int .u8 1)), (.v (.int .u8 6)), (.v (.int .u8 6)), (.v (.int .u8 6)), (.v (.int .u8 9)), (.v (.int .u8 1)), (.v (.int .u8 1))])) := by
  exact pf_vc (rs := [(.d (.agg [(.v (.int .u8 64)), (.v (.int .u8 1)), (.v (.int .u8 6)), (.v (.int .u8 1)), (.v (.int .u8 6)), (.v (.int .u8 6)), (.v (.int .u8 6)), (.v (.int .u8 9)), (.v (.int .u8 1)), (.v (.int .u8 1))]))]) envok Try.func41 rfl rfl
   .nil
   (of_eq (by kernel_rfl)
 (And.intro (And.intro (PVle.rfl' (p := (.d (.agg [(.v (.int .u8 64)), (.v (.int .u8 1)), (.v (.int .u8 6)), (.v (.int .u8 1)), (.v (.int .u8 6)), (.v (.int .u8 6)), (.v (.int .u8 6)), (.v (.int .u8 9)), (.v (.int .u8 1)), (.v (.int .u8 1))])))) trivial) trivial))

set_option maxRecDepth 100000 in
theorem number_ok (e0 e1 e2 e3 e4 e5 e6 e7 : Int) (hE : Ent e0 e1 e2 e3 e4 e5 e6 e7) : PF Try.prog 34 [(.agg [(.v (.int .u8 e0)), (.v (.int .u8 e1)), (.v (.int .u8 e2)), (.v (.int .u8 e3)), (.v (.int .u8 e4)), (.v (.int .u8 e5)), (.v (.int .u8 e6)), (.v (.int .u8 e7))])] (.d (.v (.int .i64 (num e4 e5)))) := by
  obtain ⟨h0, h1, h2, h3, h4, h5, h6, h7⟩ := hE
  exact pf_vc (rs := [(.d (.v (.int .i64 (num e4 e5))))]) envok Try.func34 rfl rfl
   (.op 8 (.int (e5 * 256)) (.op 0 (.int (e4 + (e5 * 256))) .nil))
   (of_eq (by kernel_rfl)
 (And.intro (Go.IntWalk.i64_in e4 ⟨by omega, by omega⟩)
 (And.intro (Go.IntWalk.i64_in e5 ⟨by omega, by omega⟩)
 (And.intro (ib_shl (k := .i64) (a := e5) (b := 8) (r := e5 * 256) (of_decide_eq_true rfl) (of_decide_eq_true rfl) (Go.IntWalk.i64_in _ ⟨by omega, by omega⟩) rfl)
 (And.intro (ib_or_i64 (a := e4) (b := (e5 * 256)) 8 e5 (by omega) (by omega) (by omega) (by omega) (by omega) (by omega))
 (And.intro (And.intro (le_int (k := .i64) (a := (e4 + (e5 * 256))) (b := (num e4 e5)) (by rfl)) trivial) trivial))))))

set_option maxRecDepth 100000 in
theorem call_ok (e0 e1 e2 e3 e4 e5 e6 e7 : Int) (hE : Ent e0 e1 e2 e3 e4 e5 e6 e7) : PF Try.prog 32 [(.agg [(.v (.int .u8 e0)), (.v (.int .u8 e1)), (.v (.int .u8 e2)), (.v (.int .u8 e3)), (.v (.int .u8 e4)), (.v (.int .u8 e5)), (.v (.int .u8 e6)), (.v (.int .u8 e7))])] (.d (.agg [(.v (.int .u8 ((callOf e2 e3 e4 e5 e6 e7).op))), (.v (.int .u8 ((callOf e2 e3 e4 e5 e6 e7).r))), (.v (.int .u8 ((callOf e2 e3 e4 e5 e6 e7).h))), (.v (.int .u8 ((callOf e2 e3 e4 e5 e6 e7).v))), (.v (.int .i64 ((callOf e2 e3 e4 e5 e6 e7).a))), (.v (.int .i64 ((callOf e2 e3 e4 e5 e6 e7).b))), (.v (.int .i64 ((callOf e2 e3 e4 e5 e6 e7).c)))])) := by
  have hE0 := hE
  obtain ⟨h0, h1, h2, h3, h4, h5, h6, h7⟩ := hE
  have hn : 0 ≤ num e4 e5 ∧ num e4 e5 ≤ 65535 := by unfold num; omega
  exact pf_vc (rs := [(.d (.agg [(.v (.int .u8 ((callOf e2 e3 e4 e5 e6 e7).op))), (.v (.int .u8 ((callOf e2 e3 e4 e5 e6 e7).r))), (.v (.int .u8 ((callOf e2 e3 e4 e5 e6 e7).h))), (.v (.int .u8 ((callOf e2 e3 e4 e5 e6 e7).v))), (.v (.int .i64 ((callOf e2 e3 e4 e5 e6 e7).a))), (.v (.int .i64 ((callOf e2 e3 e4 e5 e6 e7).b))), (.v (.int .i64 ((callOf e2 e3 e4 e5 e6 e7).c)))]))]) envok Try.func32 rfl rfl
   (.op 3 (.pf (.d (.v (.int .i64 (num e4 e5))))) (.br (.op 7 (.int (e3 % 4)) (.op 2 (.int (e3 / 4)) (.op 0 (.int ((e3 / 4) % 4)) (.op 2 (.int (e3 / 16)) (.op 0 (.int ((e3 / 16) % 4)) (.op 6 (.int (e7 % 8)) .nil)))))) (.op 4 (.int (e3 % 4)) (.op 2 (.int (e3 / 4)) (.op 0 (.int ((e3 / 4) % 4)) (.op 2 (.int (e3 / 16)) (.op 0 (.int ((e3 / 16) % 4)) (.op 6 (.int (e7 % 8)) .nil))))))))
   (of_eq (by kernel_rfl)
 (And.intro (number_ok e0 e1 e2 e3 e4 e5 e6 e7 (by assumption))
 (And.intro (fun (b1 : (decide (32768 ≤ (num e4 e5))) = true) => have f2 := of_decide_eq_true b1; (And.intro (ib_sub (a := (num e4 e5)) (b := 65536) (by omega) (by omega))
 (And.intro (ib_and_u8 (a := e3) (b := 3) (r := e3 % 4) 2 (by omega) (by omega) (by omega) (by omega))
 (And.intro (ib_shr (k := .u8) (a := e3) (b := 2) (r := e3 / 4) (of_decide_eq_true rfl) (of_decide_eq_true rfl) rfl)
 (And.intro (ib_and_u8 (a := (e3 / 4)) (b := 3) (r := (e3 / 4) % 4) 2 (by omega) (by omega) (by omega) (by omega))
 (And.intro (ib_shr (k := .u8) (a := e3) (b := 4) (r := e3 / 16) (of_decide_eq_true rfl) (of_decide_eq_true rfl) rfl)
 (And.intro (ib_and_u8 (a := (e3 / 16)) (b := 3) (r := (e3 / 16) % 4) 2 (by omega) (by omega) (by omega) (by omega))
 (And.intro (Go.IntWalk.i64_in e6 ⟨by omega, by omega⟩)
 (And.intro (ib_and_u8 (a := e7) (b := 7) (r := e7 % 8) 3 (by omega) (by omega) (by omega) (by omega))
 (And.intro (Go.IntWalk.i64_in (e7 % 8) ⟨by omega, by omega⟩)
 (And.intro (And.intro (le_eq (p := (.d (.agg [(.v (.int .u8 e2)), (.v (.int .u8 (e3 % 4))), (.v (.int .u8 ((e3 / 4) % 4))), (.v (.int .u8 ((e3 / 16) % 4))), (.v (.int .i64 ((num e4 e5) - 65536))), (.v (.int .i64 e6)), (.v (.int .i64 (e7 % 8)))]))) (q := (.d (.agg [(.v (.int .u8 ((callOf e2 e3 e4 e5 e6 e7).op))), (.v (.int .u8 ((callOf e2 e3 e4 e5 e6 e7).r))), (.v (.int .u8 ((callOf e2 e3 e4 e5 e6 e7).h))), (.v (.int .u8 ((callOf e2 e3 e4 e5 e6 e7).v))), (.v (.int .i64 ((callOf e2 e3 e4 e5 e6 e7).a))), (.v (.int .i64 ((callOf e2 e3 e4 e5 e6 e7).b))), (.v (.int .i64 ((callOf e2 e3 e4 e5 e6 e7).c)))]))) (by simp [callOf, sgn, *]; done)) trivial) trivial)))))))))))
 (fun (b3 : (decide (32768 ≤ (num e4 e5))) = false) => have f4 := of_decide_eq_false b3; (And.intro (ib_and_u8 (a := e3) (b := 3) (r := e3 % 4) 2 (by omega) (by omega) (by omega) (by omega))
 (And.intro (ib_shr (k := .u8) (a := e3) (b := 2) (r := e3 / 4) (of_decide_eq_true rfl) (of_decide_eq_true rfl) rfl)
 (And.intro (ib_and_u8 (a := (e3 / 4)) (b := 3) (r := (e3 / 4) % 4) 2 (by omega) (by omega) (by omega) (by omega))
 (And.intro (ib_shr (k := .u8) (a := e3) (b := 4) (r := e3 / 16) (of_decide_eq_true rfl) (of_decide_eq_true rfl) rfl)
 (And.intro (ib_and_u8 (a := (e3 / 16)) (b := 3) (r := (e3 / 16) % 4) 2 (by omega) (by omega) (by omega) (by omega))
 (And.intro (Go.IntWalk.i64_in e6 ⟨by omega, by omega⟩)
 (And.intro (ib_and_u8 (a := e7) (b := 7) (r := e7 % 8) 3 (by omega) (by omega) (by omega) (by omega))
 (And.intro (Go.IntWalk.i64_in (e7 % 8) ⟨by omega, by omega⟩)
 (And.intro (And.intro (le_eq (p := (.d (.agg [(.v (.int .u8 e2)), (.v (.int .u8 (e3 % 4))), (.v (.int .u8 ((e3 / 4) % 4))), (.v (.int .u8 ((e3 / 16) % 4))), (.v (.int .i64 (num e4 e5))), (.v (.int .i64 e6)), (.v (.int .i64 (e7 % 8)))]))) (q := (.d (.agg [(.v (.int .u8 ((callOf e2 e3 e4 e5 e6 e7).op))), (.v (.int .u8 ((callOf e2 e3 e4 e5 e6 e7).r))), (.v (.int .u8 ((callOf e2 e3 e4 e5 e6 e7).h))), (.v (.int .u8 ((callOf e2 e3 e4 e5 e6 e7).v))), (.v (.int .i64 ((callOf e2 e3 e4 e5 e6 e7).a))), (.v (.int .i64 ((callOf e2 e3 e4 e5 e6 e7).b))), (.v (.int .i64 ((callOf e2 e3 e4 e5 e6 e7).c)))]))) (by simp [callOf, sgn, *]; done)) trivial) trivial)))))))))))))

set_option maxRecDepth 100000 in
theorem op_ok (e0 e1 e2 e3 e4 e5 e6 e7 : Int) (hE : Ent e0 e1 e2 e3 e4 e5 e6 e7) (hb : e2 ≤ 4) : PF Try.prog 33 [(.agg [(.v (.int .u8 e0)), (.v (.int .u8 e1)), (.v (.int .u8 e2)), (.v (.int .u8 e3)), (.v (.int .u8 e4)), (.v (.int .u8 e5)), (.v (.int .u8 e6)), (.v (.int .u8 e7))])] (.d (.agg [(.v (.int .u8 ((opOf e2 e4 e5).op))), (.v (.int .i64 ((opOf e2 e4 e5).a))), (.v (.int .i64 ((opOf e2 e4 e5).b)))])) := by
  have hE0 := hE
  obtain ⟨h0, h1, h2, h3, h4, h5, h6, h7⟩ := hE
  have hA := bA_pos e2
  have hB := bB_pos e2
  have hm1 : 0 ≤ e4 % bA e2 ∧ e4 % bA e2 < 64 := ⟨Int.emod_nonneg _ (by omega), by have := Int.emod_lt_of_pos e4 hA.1; omega⟩
  have hm2 : 0 ≤ e5 % bB e2 ∧ e5 % bB e2 < 9 := ⟨Int.emod_nonneg _ (by omega), by have := Int.emod_lt_of_pos e5 hB.1; omega⟩
  exact pf_vc (rs := [(.d (.agg [(.v (.int .u8 ((opOf e2 e4 e5).op))), (.v (.int .i64 ((opOf e2 e4 e5).a))), (.v (.int .i64 ((opOf e2 e4 e5).b)))]))]) envok Try.func33 rfl rfl
   (.rg 1 (.reserve 1 (.op 0 (.pf (.d (.agg [(.v (.int .u8 64)), (.v (.int .u8 1)), (.v (.int .u8 6)), (.v (.int .u8 1)), (.v (.int .u8 6)), (.v (.int .u8 6)), (.v (.int .u8 6)), (.v (.int .u8 9)), (.v (.int .u8 1)), (.v (.int .u8 1))]))) (.op 2 (.pvs [(.d (.v (.int .u8 (bA e2)))), (.d (.v (.int .u8 (bB e2))))]) (.op 0 (.at 2) (.op 7 (.int (e4 % (bA e2))) (.op 5 (.int (e5 % (bB e2))) .nil)))))))
   (of_eq (by kernel_rfl)
 (And.intro bounds_ok
 (And.intro (bnd_ix e2 ⟨h2.1, hb⟩)
 (And.intro (ib_rem (k := .u8) (a := e4) (b := (bA e2)) (by omega) (by omega))
 (And.intro (Go.IntWalk.i64_in (e4 % (bA e2)) ⟨by omega, by omega⟩)
 (And.intro (ib_rem (k := .u8) (a := e5) (b := (bB e2)) (by omega) (by omega))
 (And.intro (Go.IntWalk.i64_in (e5 % (bB e2)) ⟨by omega, by omega⟩)
 (And.intro (And.intro (le_eq (p := (.d (.agg [(.v (.int .u8 e2)), (.v (.int .i64 (e4 % (bA e2)))), (.v (.int .i64 (e5 % (bB e2))))]))) (q := (.d (.agg [(.v (.int .u8 ((opOf e2 e4 e5).op))), (.v (.int .i64 ((opOf e2 e4 e5).a))), (.v (.int .i64 ((opOf e2 e4 e5).b)))]))) (by first | rfl | simp)) trivial) trivial))))))))

set_option maxRecDepth 100000 in
theorem two_ok (n : Int) : PF Try.prog 26 [(.v (.int .i64 n))] (.tup [(.d (.v (.int .u8 (n % 256)))), (.d (.v (.int .u8 (n / 256 % 256))))]) := by
  exact pf_vc (rs := [(.d (.v (.int .u8 (n % 256)))), (.d (.v (.int .u8 (n / 256 % 256))))]) envok Try.func26 rfl rfl
   (.op 3 (.int (n % 256)) (.op 1 (.int (n / 256)) (.op 0 (.int (n / 256 % 256)) .nil)))
   (of_eq (by kernel_rfl)
 (And.intro (wrap8 n)
 (And.intro (ib_shr (k := .i64) (a := n) (b := 8) (r := n / 256) (of_decide_eq_true rfl) (of_decide_eq_true rfl) rfl)
 (And.intro (wrap8 (n / 256))
 (And.intro (And.intro (PVle.rfl' (p := (.d (.v (.int .u8 (n % 256)))))) (And.intro (PVle.rfl' (p := (.d (.v (.int .u8 (n / 256 % 256)))))) trivial)) trivial)))))
end Go.Proofs.Ytcbppmocgiamiaa
