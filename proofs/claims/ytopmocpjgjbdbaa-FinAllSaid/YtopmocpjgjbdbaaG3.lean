/- FinAll: what it calls -/
import Derived.Test.YtopmocpjgjbdbaaE0
import Derived.Test.YtopmocpjgjbdbaaGL
namespace Go.Proofs.Ytopmocpjgjbdbaa
open Go.Pv
def some10 (l : List (List FOp)) (i : Nat) : List (List FOp) := (l.take i).map (·.take 10)
theorem some10_next {l : List (List FOp)} {i : Nat} (h : i < l.length) : some10 l (i + 1) = some10 l i ++ [(l.getD i default).take 10] := by
  unfold some10; rw [take_one h, List.map_append]; rfl
theorem some10_len (l : List (List FOp)) (i : Nat) (h : i ≤ l.length) : (some10 l i).length = i := by simp [some10]; omega
theorem some10_end {l : List (List FOp)} {i : Nat} (h : i = 10 ∨ (l.length ≤ i ∧ i ≤ 10)) : some10 l i = some10 l 10 := by
  unfold some10
  congr 1
  rw [List.take_eq_take_iff]; omega
set_option maxRecDepth 100000 in
theorem in_ok (n m : Int) : PF Try.prog 31 [(.v (.int .i64 n)), (.v (.int .i64 m))] (.d (.v (.bool (decide (0 ≤ n) && decide (n ≤ m))))) := by
  exact pf_vc (rs := [(.d (.v (.bool (decide (0 ≤ n) && decide (n ≤ m)))))]) envok Try.func31 rfl rfl
   .nil
   (of_eq (by kernel_rfl)
 (And.intro (fun (g5 : (decide (0 ≤ n)) = true) => have f6 := of_decide_eq_true g5; (And.intro (idt (decide (0 ≤ n))) (And.intro (idt (decide (0 ≤ n))) trivial)))
 (And.intro (idt (decide (0 ≤ n)))
 (And.intro (And.intro (PVle.rfl' (p := (.d (.v (.bool (decide (0 ≤ n) && decide (n ≤ m))))))) trivial) trivial))))

set_option maxRecDepth 100000 in
theorem rone_ok (o : FOp) (ho : 0 ≤ o.op) : PF Try.prog 24 [(.agg [(.v (.int .u8 o.op)), (.v (.int .i64 o.a)), (.v (.int .i64 o.b))])] (.d (.v (.bool (one o)))) := by
  exact pf_vc (rs := [(.d (.v (.bool (one o))))]) envok Try.func24 rfl rfl
   (.op 4 (.pf (.d (.v (.bool (decide (0 ≤ o.a) && decide (o.a ≤ 5)))))) (.br (.op 2 (.pf (.d (.v (.bool (decide (0 ≤ o.a) && decide (o.a ≤ 99)))))) .nil) (.br .nil (.br (.op 4 (.pf (.d (.v (.bool (decide (0 ≤ o.b) && decide (o.b ≤ 5)))))) .nil) (.br (.op 4 (.pf (.d (.v (.bool (decide (0 ≤ o.b) && decide (o.b ≤ 8)))))) .nil) .nil)))))
   (of_eq (by kernel_rfl)
 (And.intro (in_ok o.a 5)
 (And.intro (fun (b1 : (decide (o.op = 0)) = true) => have f2 := of_decide_eq_true b1; (And.intro (in_ok o.a 99)
 (And.intro (fun (g6 : ((decide (0 ≤ o.a) && decide (o.a ≤ 99))) = true) => have f7 := of_decide_eq_true (and_l g6); have f8 := of_decide_eq_true (and_r g6); (And.intro (idt ((decide (0 ≤ o.a) && decide (o.a ≤ 99)))) trivial))
 (And.intro (fun (g9 : ((decide (0 ≤ o.a) && decide (o.a ≤ 99))) = true) => have f10 := of_decide_eq_true (and_l g9); have f11 := of_decide_eq_true (and_r g9); (And.intro (idt ((decide (0 ≤ o.a) && decide (o.a ≤ 99)))) trivial))
 (And.intro (idt ((decide (0 ≤ o.a) && decide (o.a ≤ 99))))
 (And.intro (And.intro (le_bool (a := ((decide (0 ≤ o.a) && decide (o.a ≤ 99)) && decide (o.b = 0))) (b := (one o)) (by grind [one, kA, kB])) trivial) trivial))))))
 (fun (b12 : (decide (o.op = 0)) = false) => have f13 := of_decide_eq_false b12; (And.intro (fun (b14 : (decide (o.op = 1)) = true) => have f15 := of_decide_eq_true b14; (And.intro (fun (g19 : ((decide (0 ≤ o.a) && decide (o.a ≤ 5))) = true) => have f20 := of_decide_eq_true (and_l g19); have f21 := of_decide_eq_true (and_r g19); (And.intro (idt ((decide (0 ≤ o.a) && decide (o.a ≤ 5)))) trivial))
 (And.intro (fun (g22 : ((decide (0 ≤ o.a) && decide (o.a ≤ 5))) = true) => have f23 := of_decide_eq_true (and_l g22); have f24 := of_decide_eq_true (and_r g22); (And.intro (idt ((decide (0 ≤ o.a) && decide (o.a ≤ 5)))) trivial))
 (And.intro (idt ((decide (0 ≤ o.a) && decide (o.a ≤ 5))))
 (And.intro (And.intro (le_bool (a := ((decide (0 ≤ o.a) && decide (o.a ≤ 5)) && decide (o.b = 0))) (b := (one o)) (by grind [one, kA, kB])) trivial) trivial)))))
 (fun (b25 : (decide (o.op = 1)) = false) => have f26 := of_decide_eq_false b25; (And.intro (fun (b27 : (decide (o.op = 2)) = true) => have f28 := of_decide_eq_true b27; (And.intro (fun (g32 : ((decide (0 ≤ o.a) && decide (o.a ≤ 5))) = true) => have f33 := of_decide_eq_true (and_l g32); have f34 := of_decide_eq_true (and_r g32); (And.intro (idt ((decide (0 ≤ o.a) && decide (o.a ≤ 5)))) trivial))
 (And.intro (fun (g35 : ((decide (0 ≤ o.a) && decide (o.a ≤ 5))) = true) => have f36 := of_decide_eq_true (and_l g35); have f37 := of_decide_eq_true (and_r g35); (And.intro (idt ((decide (0 ≤ o.a) && decide (o.a ≤ 5)))) (And.intro (in_ok o.b 5) trivial)))
 (And.intro (idt ((decide (0 ≤ o.a) && decide (o.a ≤ 5))))
 (And.intro (And.intro (le_bool (a := ((decide (0 ≤ o.a) && decide (o.a ≤ 5)) && (decide (0 ≤ o.b) && decide (o.b ≤ 5)))) (b := (one o)) (by grind [one, kA, kB])) trivial) trivial)))))
 (fun (b38 : (decide (o.op = 2)) = false) => have f39 := of_decide_eq_false b38; (And.intro (fun (b40 : (decide (o.op = 3)) = true) => have f41 := of_decide_eq_true b40; (And.intro (fun (g45 : ((decide (0 ≤ o.a) && decide (o.a ≤ 5))) = true) => have f46 := of_decide_eq_true (and_l g45); have f47 := of_decide_eq_true (and_r g45); (And.intro (idt ((decide (0 ≤ o.a) && decide (o.a ≤ 5)))) trivial))
 (And.intro (fun (g48 : ((decide (0 ≤ o.a) && decide (o.a ≤ 5))) = true) => have f49 := of_decide_eq_true (and_l g48); have f50 := of_decide_eq_true (and_r g48); (And.intro (idt ((decide (0 ≤ o.a) && decide (o.a ≤ 5)))) (And.intro (in_ok o.b 8) trivial)))
 (And.intro (idt ((decide (0 ≤ o.a) && decide (o.a ≤ 5))))
 (And.intro (And.intro (le_bool (a := ((decide (0 ≤ o.a) && decide (o.a ≤ 5)) && (decide (0 ≤ o.b) && decide (o.b ≤ 8)))) (b := (one o)) (by grind [one, kA, kB])) trivial) trivial)))))
 (fun (b51 : (decide (o.op = 3)) = false) => have f52 := of_decide_eq_false b51; (And.intro (And.intro (le_bool (a := (decide (o.op = 4) && (decide (o.a = 0) && (decide (o.b = 0) && true)))) (b := (one o)) (by grind [one, kA, kB])) trivial) trivial)))))))))))

set_option maxRecDepth 100000 in
theorem rright_ok (l : List (List FOp)) (hop : ∀ i j, j < (l.getD i default).length → 0 ≤ ((l.getD i default).getD j default).op ∧ ((l.getD i default).getD j default).op ≤ 255) : PF Try.prog 19 [(.sl 1 false (l.map eL))] (.d (.v (.bool (right l)))) := by
  exact pf_vc (rs := [(.d (.v (.bool (right l))))]) envok Try.func19 rfl rfl
   (.rg 0 (.len [0] (.op 2 (.nat l.length) (.br .nil (.loop (Nat) (fun x6 => ([(0, (.d (.sl 1 false (l.map eL)))), (3, (.d (.v (.int .i64 ((x6 : Nat) : Int)))))], ⟨[], []⟩)) (fun x6 => (x6 ≤ l.length) ∧ ((l.take x6).all okp = true)) (fun x6 => l.length - x6) 0 (fun x6 => (.op 2 (.nat l.length) (.br (.op 2 (.cells [(.sl 3 false ((l.getD x6 default).map eF))]) (.op 1 (.nat (l.getD x6 default).length) (.br .nil (.loop (Nat) (fun x14 => ([(0, (.d (.sl 1 false (l.map eL)))), (3, (.d (.v (.int .i64 ((x6 : Nat) : Int))))), (4, (.d (.v (.int .i64 ((x14 : Nat) : Int)))))], ⟨[], []⟩)) (fun x14 => (x14 ≤ (l.getD x6 default).length) ∧ (((l.getD x6 default).take x14).all one = true)) (fun x14 => (l.getD x6 default).length - x14) 0 (fun x14 => (.op 3 (.cells [(.sl 3 false ((l.getD x6 default).map eF))]) (.op 1 (.nat (l.getD x6 default).length) (.br (.op 2 (.cells [(.sl 3 false ((l.getD x6 default).map eF))]) (.op 2 (.cells [(.v (.int .u8 (((l.getD x6 default).getD x14 default).op))), (.v (.int .i64 (((l.getD x6 default).getD x14 default).a))), (.v (.int .i64 (((l.getD x6 default).getD x14 default).b)))]) (.op 1 (.pf (.d (.v (.bool (one ((l.getD x6 default).getD x14 default)))))) (.br .nil (.nx (Nat) (x14 + 1)))))) (.nx (Nat) (x6 + 1)))))))))) .nil))))))))
   (of_eq (by kernel_rfl)
 (fun (hl1 : (l.map eL).length ≤ 9223372036854775807) => have hl1 : l.length ≤ 9223372036854775807 := (by simpa only [List.length_map] using hl1); (And.intro (len_map eL l)
 (And.intro (fun (b2 : (decide (8 < (((l.length : Nat)) : Int))) = true) => have f3 := of_decide_eq_true b2; (And.intro (And.intro (le_bool (a := false) (b := (right l)) (by first | (rw [right_end hE (by omega), decide_eq_true (by omega)]; done) | (rw [right_long (i := i) (by omega) (by omega)]; done) | (rw [right_bad (i := i) (j := j) (by omega) (by omega) (by assumption)]; done) | (unfold right; rw [decide_eq_false (by omega)]; rfl))) trivial) trivial))
 (fun (b4 : (decide (8 < (((l.length : Nat)) : Int))) = false) => have f5 := of_decide_eq_false b4; (And.intro (And.intro (show 0 ≤ l.length from Nat.zero_le _) (show (l.take 0).all okp = true from rfl)) (And.intro (And.intro (PVle.rfl' (p := (.d (.sl 1 false (l.map eL))))) (And.intro (le_int (k := .i64) (a := 0) (b := ((0 : Nat) : Int)) (by omega)) trivial))
 (fun (x6 : Nat) (hx7 : (x6 ≤ l.length) ∧ ((l.take x6).all okp = true)) =>
 (have hi := hx7.1; have hE := hx7.2; (And.intro (len_map eL l)
 (And.intro (fun (b8 : (decide (((x6 : Nat) : Int) < (((l.length : Nat)) : Int))) = true) => have f9 := of_decide_eq_true b8; (And.intro (ix_get (f := eL) l ((x6 : Nat) : Int) x6 (by omega) (by omega))
 (And.intro (len_map eF (l.getD x6 default))
 (And.intro (fun (b10 : (decide (8 < ((((l.getD x6 default).length : Nat)) : Int))) = true) => have f11 := of_decide_eq_true b10; (And.intro (And.intro (le_bool (a := false) (b := (right l)) (by first | (rw [right_end hE (by omega), decide_eq_true (by omega)]; done) | (rw [right_long (i := x6) (by omega) (by omega)]; done) | (rw [right_bad (i := x6) (j := j) (by omega) (by omega) (by assumption)]; done) | (unfold right; rw [decide_eq_false (by omega)]; rfl))) trivial) trivial))
 (fun (b12 : (decide (8 < ((((l.getD x6 default).length : Nat)) : Int))) = false) => have f13 := of_decide_eq_false b12; (And.intro (And.intro (show 0 ≤ (l.getD x6 default).length from Nat.zero_le _) (show ((l.getD x6 default).take 0).all one = true from rfl)) (And.intro (And.intro (PVle.rfl' (p := (.d (.sl 1 false (l.map eL))))) (And.intro (PVle.rfl' (p := (.d (.v (.int .i64 ((x6 : Nat) : Int)))))) (And.intro (le_int (k := .i64) (a := 0) (b := ((0 : Nat) : Int)) (by omega)) trivial)))
 (fun (x14 : Nat) (hx15 : (x14 ≤ (l.getD x6 default).length) ∧ (((l.getD x6 default).take x14).all one = true)) =>
 (have hj := hx15.1; have hE1 := hx15.2; (And.intro (ix_get (f := eL) l ((x6 : Nat) : Int) x6 (by omega) (by omega))
 (And.intro (len_map eF (l.getD x6 default))
 (And.intro (fun (b16 : (decide (((x14 : Nat) : Int) < ((((l.getD x6 default).length : Nat)) : Int))) = true) => have f17 := of_decide_eq_true b16; (And.intro (ix_get (f := eL) l ((x6 : Nat) : Int) x6 (by omega) (by omega))
 (And.intro (ix_get (f := eF) (l.getD x6 default) ((x14 : Nat) : Int) x14 (by omega) (by omega))
 (And.intro (rone_ok ((l.getD x6 default).getD x14 default) (by exact (hop x6 x14 (by omega)).1))
 (And.intro (fun (b18 : (!(one ((l.getD x6 default).getD x14 default))) = true) => have f19 := (nt b18); (And.intro (And.intro (le_bool (a := false) (b := (right l)) (by first | (rw [right_end hE (by omega), decide_eq_true (by omega)]; done) | (rw [right_long (i := x6) (by omega) (by omega)]; done) | (rw [right_bad (i := x6) (j := x14) (by omega) (by omega) (by assumption)]; done) | (unfold right; rw [decide_eq_false (by omega)]; rfl))) trivial) trivial))
 (fun (b20 : (!(one ((l.getD x6 default).getD x14 default))) = false) => have f21 := (nf b20); (And.intro (ib_add (a := ((x14 : Nat) : Int)) (b := 1) (by omega) (by omega))
 (And.intro (rfl : (Nat) = (Nat)) (fun (e22 : (Nat) = (Nat)) => (And.intro (And.intro (show (x14 + 1) ≤ (l.getD x6 default).length by omega) (show ((l.getD x6 default).take (x14 + 1)).all one = true from all_next (by omega) hE1 (by assumption))) (And.intro (show (l.getD x6 default).length - (x14 + 1) < (l.getD x6 default).length - x14 by omega) (And.intro (PVle.rfl' (p := (.d (.sl 1 false (l.map eL))))) (And.intro (PVle.rfl' (p := (.d (.v (.int .i64 ((x6 : Nat) : Int)))))) (And.intro (le_int (k := .i64) (a := (((x14 : Nat) : Int) + 1)) (b := (((x14 + 1) : Nat) : Int)) (by omega)) trivial))))))))))))))
 (fun (b23 : (decide (((x14 : Nat) : Int) < ((((l.getD x6 default).length : Nat)) : Int))) = false) => have f24 := of_decide_eq_false b23; (And.intro (ib_add (a := ((x6 : Nat) : Int)) (b := 1) (by omega) (by omega))
 (And.intro (rfl : (Nat) = (Nat)) (fun (e25 : (Nat) = (Nat)) => (And.intro (And.intro (show (x6 + 1) ≤ l.length by omega) (show (l.take (x6 + 1)).all okp = true from all_next (by omega) hE (okp_of (j := x14) (by omega) (by omega) hE1))) (And.intro (show l.length - (x6 + 1) < l.length - x6 by omega) (And.intro (PVle.rfl' (p := (.d (.sl 1 false (l.map eL))))) (And.intro (le_int (k := .i64) (a := (((x6 : Nat) : Int) + 1)) (b := (((x6 + 1) : Nat) : Int)) (by omega)) trivial))))))))))))))))))))
 (fun (b26 : (decide (((x6 : Nat) : Int) < (((l.length : Nat)) : Int))) = false) => have f27 := of_decide_eq_false b26; (And.intro (And.intro (le_bool (a := true) (b := (right l)) (by first | (rw [right_end hE (by omega), decide_eq_true (by omega)]; done) | (rw [right_long (i := x6) (by omega) (by omega)]; done) | (rw [right_bad (i := x6) (j := j) (by omega) (by omega) (by assumption)]; done) | (unfold right; rw [decide_eq_false (by omega)]; rfl))) trivial) trivial)))))))))))))

set_option maxRecDepth 100000 in
theorem some_ok (l : List (List FOp)) : PF Try.prog 16 [(.sl 1 false (l.map eL))] (.d (.sl 1 false ((some10 l 10).map eL))) := by
  exact pf_vc (rs := [(.d (.sl 1 false ((some10 l 10).map eL)))]) envok Try.func16 rfl rfl
   (.rg 0 (.len [0] (.rg 1 (.retag 3 (.loop (Nat) (fun x2 => ([(0, (.d (.sl 1 false (l.map eL)))), (2, (.d (.sl 1 true []))), (3, (.app 0 1 ((some10 l x2).map eL))), (4, (.d (.v (.int .i64 ((x2 : Nat) : Int)))))], ⟨[], [(some10 l x2).length]⟩)) (fun x2 => (x2 ≤ l.length) ∧ (x2 ≤ 10)) (fun x2 => l.length - x2) 0 (fun x2 => (.op 2 (.nat l.length) (.br (.op 3 (.cells [(.sl 3 false ((l.getD x2 default).map eF))]) (.op 3 (.cells [(.sl 3 false ((l.getD x2 default).map eF))]) (.op 1 (.nat (l.getD x2 default).length) (.op 0 (.int (min ((((l.getD x2 default).length : Nat)) : Int) 10)) (.op 0 (.rows (((l.getD x2 default).take 10).map eF)) (.nx (Nat) (x2 + 1))))))) .nil))))))))
   (of_eq (by kernel_rfl)
 (fun (hl1 : (l.map eL).length ≤ 9223372036854775807) => have hl1 : l.length ≤ 9223372036854775807 := (by simpa only [List.length_map] using hl1); (And.intro (And.intro (show 0 ≤ l.length by omega) (show 0 ≤ 10 by omega)) (And.intro (And.intro (show (⟨[], [([] : List (List D)).length]⟩ : Sx).cut 0 1 = ⟨[], [(some10 l 0).length]⟩ from rfl) (And.intro (show (([(0, (.d (.sl 1 false (l.map eL)))), (2, (.d (.sl 1 true []))), (3, (.app 0 1 ((some10 l 0).map eL))), (4, (.d (.v (.int .i64 ((0 : Nat) : Int)))))] : Fm).all (fun x => PV.ok 0 1 x.2)) = true from rfl) (And.intro (show okB 0 1 (⟨[], [(some10 l 0).length]⟩ : Sx).bs = true from rfl) (And.intro (PVle.rfl' (p := (.d (.sl 1 false (l.map eL))))) (And.intro (PVle.rfl' (p := (.d (.sl 1 true [])))) (And.intro (le_app (t := 0) (z := 1) (a := []) (b := ((some10 l 0).map eL)) (by first | rfl | (rw [some10_next (by omega)]; simp [eL]; done))) (And.intro (le_int (k := .i64) (a := 0) (b := ((0 : Nat) : Int)) (by omega)) trivial)))))))
 (fun (x2 : Nat) (hx3 : (x2 ≤ l.length) ∧ (x2 ≤ 10)) =>
 (have hi := hx3.1; have hi1 := hx3.2; have hs10 := some10_len l x2 (by omega); (And.intro (len_map eL l)
 (And.intro (fun (g6 : (decide (((x2 : Nat) : Int) < (((l.length : Nat)) : Int))) = true) => have f7 := of_decide_eq_true g6; (And.intro (idt (decide (((x2 : Nat) : Int) < (((l.length : Nat)) : Int)))) trivial))
 (And.intro (idt (decide (((x2 : Nat) : Int) < (((l.length : Nat)) : Int))))
 (And.intro (fun (b8 : ((decide (((x2 : Nat) : Int) < (((l.length : Nat)) : Int)) && decide (((x2 : Nat) : Int) < 10))) = true) => have f9 := of_decide_eq_true (and_l b8); have f10 := of_decide_eq_true (and_r b8); (And.intro (ix_get (f := eL) l ((x2 : Nat) : Int) x2 (by omega) (by omega))
 (And.intro (ix_get (f := eL) l ((x2 : Nat) : Int) x2 (by omega) (by omega))
 (And.intro (len_map eF (l.getD x2 default))
 (And.intro (ite_min' ((((l.getD x2 default).length : Nat)) : Int) 10)
 (And.intro (sl_takem (f := eF) (l.getD x2 default) (min ((((l.getD x2 default).length : Nat)) : Int) 10) 10 (by omega))
 (And.intro (show (⟨[], [(some10 l x2).length]⟩ : Sx).ts[0]? = some ((some10 l x2).map eL).length by first | rfl | simp)
 (And.intro (app_ok' (b := 24) (m := ((some10 l x2).map eL).length) (n := ([[(.sl 3 false (((l.getD x2 default).take 10).map eF))]] : List (List D)).length) (by simp only [List.length_map, List.length_append, List.length_cons, List.length_nil, List.length_take, List.length_drop]; omega) (by simp only [List.length_map, List.length_append, List.length_cons, List.length_nil, List.length_take, List.length_drop]; omega))
 (And.intro (ib_add (a := ((x2 : Nat) : Int)) (b := 1) (by omega) (by omega))
 (And.intro (rfl : (Nat) = (Nat)) (fun (e11 : (Nat) = (Nat)) => (And.intro (And.intro (show (x2 + 1) ≤ l.length by omega) (show (x2 + 1) ≤ 10 by omega)) (And.intro (show l.length - (x2 + 1) < l.length - x2 by omega) (And.intro (show (⟨[], [((some10 l x2).map eL).length + ([[(.sl 3 false (((l.getD x2 default).take 10).map eF))]] : List (List D)).length]⟩ : Sx).cut 0 1 = ⟨[], [(some10 l (x2 + 1)).length]⟩ from by first | rfl | (simp [Sx.cut, some10]; omega)) (And.intro (show (([(0, (.d (.sl 1 false (l.map eL)))), (2, (.d (.sl 1 true []))), (3, (.app 0 1 ((some10 l (x2 + 1)).map eL))), (4, (.d (.v (.int .i64 (((x2 + 1) : Nat) : Int)))))] : Fm).all (fun x => PV.ok 0 1 x.2)) = true from rfl) (And.intro (show okB 0 1 (⟨[], [(some10 l (x2 + 1)).length]⟩ : Sx).bs = true from rfl) (And.intro (PVle.rfl' (p := (.d (.sl 1 false (l.map eL))))) (And.intro (PVle.rfl' (p := (.d (.sl 1 true [])))) (And.intro (le_app (t := 0) (z := 1) (a := (((some10 l x2).map eL) ++ ([[(.sl 3 false (((l.getD x2 default).take 10).map eF))]] : List (List D)))) (b := ((some10 l (x2 + 1)).map eL)) (by first | rfl | (rw [some10_next (by omega)]; simp [eL]; done))) (And.intro (le_int (k := .i64) (a := (((x2 : Nat) : Int) + 1)) (b := (((x2 + 1) : Nat) : Int)) (by omega)) trivial))))))))))))))))))))
 (fun (b12 : ((decide (((x2 : Nat) : Int) < (((l.length : Nat)) : Int)) && decide (((x2 : Nat) : Int) < 10))) = false) => have f13 := ((and_f b12).imp (fun q14 => (of_decide_eq_false q14)) (fun q15 => (of_decide_eq_false q15))); (And.intro (And.intro (le_eq (p := (.d (.sl 1 false ((some10 l x2).map eL)))) (q := (.d (.sl 1 false ((some10 l 10).map eL)))) (by first | rfl | (rw [some10_end (l := l) (i := x2) (by omega)]))) trivial) trivial))))))))))))
end Go.Proofs.Ytopmocpjgjbdbaa
