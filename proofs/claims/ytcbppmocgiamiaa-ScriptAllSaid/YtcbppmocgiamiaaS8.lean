/- Script: an entry, by the document -/
import Derived.Test.YtcbppmocgiamiaaSL
import Derived.Test.YtcbppmocgiamiaaE0
namespace Go.Proofs.Ytcbppmocgiamiaa
open Go.Pv
def adj (a : Int) : Int := if a < 0 then (if a + 65536 < 0 then 0 else a + 65536) else if 65535 < a then 0 else a
def entP (k t o g a c d : Int) : List Int := [k, t, o, g, adj a % 256, adj a / 256, c, d]
set_option maxRecDepth 100000 in
theorem entry_ok (k t o g a c d : Int) (ha : -9223372036854775808 ≤ a ∧ a ≤ 9223372036854775807) : PF Try.prog 29 [(.v (.int .u8 k)), (.v (.int .u8 t)), (.v (.int .u8 o)), (.v (.int .u8 g)), (.v (.int .i64 a)), (.v (.int .u8 c)), (.v (.int .u8 d))] (.d (.sl 1 false ((entP k t o g a c d).map eByte))) := by
  exact pf_vc (rs := [(.d (.sl 1 false ((entP k t o g a c d).map eByte)))]) envok Try.func29 rfl rfl
   (.br (.br (.op 6 (.int (0 % 256)) (.op 2 (.int (0 / 256)) .nil)) (.op 5 (.int ((a + 65536) % 256)) (.op 2 (.int ((a + 65536) / 256)) .nil))) (.op 3 (.known true (.no)) (.op 0 (.known true (.no)) (.br (.op 6 (.int (0 % 256)) (.op 2 (.int (0 / 256)) .nil)) (.op 5 (.int (a % 256)) (.op 2 (.int (a / 256)) .nil))))))
   (of_eq (by kernel_rfl)
 (And.intro (fun (b1 : (decide (a < 0)) = true) => have f2 := of_decide_eq_true b1; (And.intro (ib_add (a := a) (b := 65536) (by omega) (by omega))
 (And.intro (fun (g5 : (!(decide ((a + 65536) < 0))) = true) => have f6 := of_decide_eq_false (nt g5); (And.intro (idt (!(decide ((a + 65536) < 0)))) trivial))
 (And.intro (idn (decide ((a + 65536) < 0)))
 (And.intro (fun (b7 : ((decide ((a + 65536) < 0) || decide (65535 < (a + 65536)))) = true) => have f8 := ((or_t b7).imp (fun q9 => (of_decide_eq_true q9)) (fun q10 => (of_decide_eq_true q10))); (And.intro (ib_rem (k := .i64) (a := 0) (b := 256) (by omega) (by omega))
 (And.intro (Go.IntWalk.u8_in (0 % 256) ⟨by omega, by omega⟩)
 (And.intro (ib_quo (k := .i64) (a := 0) (b := 256) (r := 0 / 256) (by omega) (by omega) (Go.IntWalk.i64_in _ ⟨by omega, by omega⟩) rfl)
 (And.intro (Go.IntWalk.u8_in (0 / 256) ⟨by omega, by omega⟩)
 (And.intro (And.intro (le_eq (p := (.d (.sl 1 false ([[(.v (.int .u8 k))], [(.v (.int .u8 t))], [(.v (.int .u8 o))], [(.v (.int .u8 g))], [(.v (.int .u8 (0 % 256)))], [(.v (.int .u8 (0 / 256)))], [(.v (.int .u8 c))], [(.v (.int .u8 d))]] : List (List D))))) (q := (.d (.sl 1 false ((entP k t o g a c d).map eByte)))) (by simp only [entP, adj, eByte, List.map_cons, List.map_nil]; grind)) trivial) trivial))))))
 (fun (b11 : ((decide ((a + 65536) < 0) || decide (65535 < (a + 65536)))) = false) => have f12 := of_decide_eq_false (or_fl b11); have f13 := of_decide_eq_false (or_fr b11); (And.intro (ib_rem (k := .i64) (a := (a + 65536)) (b := 256) (by omega) (by omega))
 (And.intro (Go.IntWalk.u8_in ((a + 65536) % 256) ⟨by omega, by omega⟩)
 (And.intro (ib_quo (k := .i64) (a := (a + 65536)) (b := 256) (r := (a + 65536) / 256) (by omega) (by omega) (Go.IntWalk.i64_in _ ⟨by omega, by omega⟩) rfl)
 (And.intro (Go.IntWalk.u8_in ((a + 65536) / 256) ⟨by omega, by omega⟩)
 (And.intro (And.intro (le_eq (p := (.d (.sl 1 false ([[(.v (.int .u8 k))], [(.v (.int .u8 t))], [(.v (.int .u8 o))], [(.v (.int .u8 g))], [(.v (.int .u8 ((a + 65536) % 256)))], [(.v (.int .u8 ((a + 65536) / 256)))], [(.v (.int .u8 c))], [(.v (.int .u8 d))]] : List (List D))))) (q := (.d (.sl 1 false ((entP k t o g a c d).map eByte)))) (by simp only [entP, adj, eByte, List.map_cons, List.map_nil]; grind)) trivial) trivial)))))))))))
 (fun (b14 : (decide (a < 0)) = false) => have f15 := of_decide_eq_false b14; (And.intro (not_t (decide_eq_false f15))
 (And.intro (not_t (decide_eq_false f15))
 (And.intro (fun (b16 : ((decide (a < 0) || decide (65535 < a))) = true) => have f17 := of_decide_eq_true (or_r b16 (decide_eq_false f15)); (And.intro (ib_rem (k := .i64) (a := 0) (b := 256) (by omega) (by omega))
 (And.intro (Go.IntWalk.u8_in (0 % 256) ⟨by omega, by omega⟩)
 (And.intro (ib_quo (k := .i64) (a := 0) (b := 256) (r := 0 / 256) (by omega) (by omega) (Go.IntWalk.i64_in _ ⟨by omega, by omega⟩) rfl)
 (And.intro (Go.IntWalk.u8_in (0 / 256) ⟨by omega, by omega⟩)
 (And.intro (And.intro (le_eq (p := (.d (.sl 1 false ([[(.v (.int .u8 k))], [(.v (.int .u8 t))], [(.v (.int .u8 o))], [(.v (.int .u8 g))], [(.v (.int .u8 (0 % 256)))], [(.v (.int .u8 (0 / 256)))], [(.v (.int .u8 c))], [(.v (.int .u8 d))]] : List (List D))))) (q := (.d (.sl 1 false ((entP k t o g a c d).map eByte)))) (by simp only [entP, adj, eByte, List.map_cons, List.map_nil]; grind)) trivial) trivial))))))
 (fun (b18 : ((decide (a < 0) || decide (65535 < a))) = false) => have f19 := of_decide_eq_false (or_fl b18); have f20 := of_decide_eq_false (or_fr b18); (And.intro (ib_rem (k := .i64) (a := a) (b := 256) (by omega) (by omega))
 (And.intro (Go.IntWalk.u8_in (a % 256) ⟨by omega, by omega⟩)
 (And.intro (ib_quo (k := .i64) (a := a) (b := 256) (r := a / 256) (by omega) (by omega) (Go.IntWalk.i64_in _ ⟨by omega, by omega⟩) rfl)
 (And.intro (Go.IntWalk.u8_in (a / 256) ⟨by omega, by omega⟩)
 (And.intro (And.intro (le_eq (p := (.d (.sl 1 false ([[(.v (.int .u8 k))], [(.v (.int .u8 t))], [(.v (.int .u8 o))], [(.v (.int .u8 g))], [(.v (.int .u8 (a % 256)))], [(.v (.int .u8 (a / 256)))], [(.v (.int .u8 c))], [(.v (.int .u8 d))]] : List (List D))))) (q := (.d (.sl 1 false ((entP k t o g a c d).map eByte)))) (by simp only [entP, adj, eByte, List.map_cons, List.map_nil]; grind)) trivial) trivial))))))))))))
end Go.Proofs.Ytcbppmocgiamiaa
