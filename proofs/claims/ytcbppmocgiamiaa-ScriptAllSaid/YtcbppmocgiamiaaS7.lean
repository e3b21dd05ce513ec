/- Script: which finalizers may be -/
import Derived.Test.YtcbppmocgiamiaaS6
namespace Go.Proofs.Ytcbppmocgiamiaa
open Go.Pv
theorem take_one {α : Type} [Inhabited α] {xs : List α} {k : Nat} (h : k < xs.length) : xs.take (k + 1) = xs.take k ++ [xs.getD k default] := by
  rw [List.take_succ_eq_append_getElem h]; simp [List.getD, h]
def kA (c : Int) : Int := if c = 0 then 99 else if c = 1 then 5 else if c = 2 then 5 else if c = 3 then 5 else 0
def kB (c : Int) : Int := if c = 2 then 5 else if c = 3 then 8 else 0
def one (o : FOp) : Bool := decide (o.op < 5) && (decide (0 ≤ o.a ∧ o.a ≤ kA o.op) && decide (0 ≤ o.b ∧ o.b ≤ kB o.op))
def okp (p : List FOp) : Bool := decide (p.length ≤ 8) && p.all one
def right (l : List (List FOp)) : Bool := decide (l.length ≤ 8) && l.all okp
theorem one_0 {o : FOp} (h : o.op = 0) : one o = decide ((0 ≤ o.a ∧ o.a ≤ 99) ∧ (0 ≤ o.b ∧ o.b ≤ 0)) := by unfold one; rw [h]; simp [kA, kB]
theorem one_1 {o : FOp} (h : o.op = 1) : one o = decide ((0 ≤ o.a ∧ o.a ≤ 5) ∧ (0 ≤ o.b ∧ o.b ≤ 0)) := by unfold one; rw [h]; simp [kA, kB]
theorem one_2 {o : FOp} (h : o.op = 2) : one o = decide ((0 ≤ o.a ∧ o.a ≤ 5) ∧ (0 ≤ o.b ∧ o.b ≤ 5)) := by unfold one; rw [h]; simp [kA, kB]
theorem one_3 {o : FOp} (h : o.op = 3) : one o = decide ((0 ≤ o.a ∧ o.a ≤ 5) ∧ (0 ≤ o.b ∧ o.b ≤ 8)) := by unfold one; rw [h]; simp [kA, kB]
theorem one_4 {o : FOp} (h : o.op = 4) : one o = decide ((0 ≤ o.a ∧ o.a ≤ 0) ∧ (0 ≤ o.b ∧ o.b ≤ 0)) := by unfold one; rw [h]; simp [kA, kB]
theorem one_5 {o : FOp} (h : 5 ≤ o.op) : one o = false := by unfold one; rw [decide_eq_false (by omega)]; rfl
theorem map_get_op {xs : List FOp} {i : Nat} {c : Int} (h : i < xs.length) (hc : (xs.getD i default).op = c) : (xs.map eF)[i]? = some [.v (.int .u8 c), .v (.int .i64 (xs.getD i default).a), .v (.int .i64 (xs.getD i default).b)] := by
  rw [map_get h, ← hc]; rfl
theorem all_next {α : Type} [Inhabited α] {f : α → Bool} {xs : List α} {k : Nat} (h : k < xs.length) (h1 : (xs.take k).all f = true) (h2 : f (xs.getD k default) = true) : (xs.take (k + 1)).all f = true := by
  rw [take_one h, List.all_append, h1]; simpa using h2
theorem okp_of {p : List FOp} {j : Nat} (h : ¬ j < p.length) (h8 : ¬ 8 < p.length) (h1 : (p.take j).all one = true) : okp p = true := by
  rw [List.take_of_length_le (by omega)] at h1
  unfold okp; rw [h1, decide_eq_true (by omega)]; rfl
theorem all_not {α : Type} [Inhabited α] {f : α → Bool} {xs : List α} {k : Nat} (h : k < xs.length) (h2 : f (xs.getD k default) = false) : xs.all f = false := by
  rw [List.all_eq_false]
  have e : xs.getD k default = xs[k] := by simp [List.getD, h]
  exact ⟨xs[k], List.getElem_mem h, by rw [← e, h2]; simp⟩
theorem right_bad {l : List (List FOp)} {i j : Nat} (h : i < l.length) (hj : j < (l.getD i default).length) (h2 : one ((l.getD i default).getD j default) = false) : right l = false := by
  unfold right; rw [all_not h (by unfold okp; rw [all_not hj h2, Bool.and_false]), Bool.and_false]
theorem right_long {l : List (List FOp)} {i : Nat} (h : i < l.length) (h2 : 8 < (l.getD i default).length) : right l = false := by
  unfold right; rw [all_not h (by unfold okp; rw [decide_eq_false (by omega)]; rfl), Bool.and_false]
theorem right_end {l : List (List FOp)} {i : Nat} (h : (l.take i).all okp = true) (hi : ¬ i < l.length) : right l = decide (((l.length : Nat) : Int) ≤ 8) := by
  rw [List.take_of_length_le (by omega)] at h
  unfold right; rw [h, Bool.and_true]; exact decide_eq_decide.2 (by omega)
set_option maxRecDepth 100000 in
theorem one_ok (o : FOp) (ho : 0 ≤ o.op) : PF Try.prog 30 [(.agg [(.v (.int .u8 o.op)), (.v (.int .i64 o.a)), (.v (.int .i64 o.b))])] (.d (.v (.bool (one o)))) := by
  exact pf_vc (rs := [(.d (.v (.bool (one o))))]) envok Try.func30 rfl rfl
   (.op 4 (.pf (.d (.v (.bool (decide (0 ≤ o.a) && decide (o.a ≤ 5)))))) (.br (.op 2 (.pf (.d (.v (.bool (decide (0 ≤ o.a) && decide (o.a ≤ 99)))))) .nil) (.br .nil (.br (.op 4 (.pf (.d (.v (.bool (decide (0 ≤ o.b) && decide (o.b ≤ 5)))))) .nil) (.br (.op 4 (.pf (.d (.v (.bool (decide (0 ≤ o.b) && decide (o.b ≤ 8)))))) .nil) .nil)))))
   (of_eq (by kernel_rfl)
 (And.intro (in_ok o.a 5)
 (And.intro (fun (b1 : (decide (o.op = 0)) = true) => have f2 := of_decide_eq_true b1; (And.intro (in_ok o.a 99)
 (And.intro (fun (g6 : ((decide (0 ≤ o.a) && decide (o.a ≤ 99))) = true) => have f7 := of_decide_eq_true (and_l g6); have f8 := of_decide_eq_true (and_r g6); (And.intro (idt ((decide (0 ≤ o.a) && decide (o.a ≤ 99)))) trivial))
 (And.intro (fun (g9 : ((decide (0 ≤ o.a) && decide (o.a ≤ 99))) = true) => have f10 := of_decide_eq_true (and_l g9); have f11 := of_decide_eq_true (and_r g9); (And.intro (idt ((decide (0 ≤ o.a) && decide (o.a ≤ 99)))) trivial))
 (And.intro (idt ((decide (0 ≤ o.a) && decide (o.a ≤ 99))))
 (And.intro (And.intro (le_bool (a := ((decide (0 ≤ o.a) && decide (o.a ≤ 99)) && decide (o.b = 0))) (b := (one o)) (by grind [one, kA, kB])) trivial) trivial))))))
 (fun (b12 : (decide (o.op = 0)) = false) => have f13 := of_decide_eq_false b12; (And.intro (fun (b14 : (decide (o.op = 1)) = true) => have f15 := of_decide_eq_true b14; (And.intro (fun (g19 : ((decide (0 ≤ o.a) && decide (o.a ≤ 5))) = true) => have f20 := of_decide_eq_true (and_l g19); have f21 := of_decide_eq_true (and_r g19); (And.intro (idt ((decide (0 ≤ o.a) && decide (o.a ≤ 5)))) trivial))
 (And.intro (fun (g22 : ((decide (0 ≤ o.a) && decide (o.a ≤ 5))) = true) => have f23 := of_decide_eq_true (and_l g22); have f24 := of_decide_eq_true (and_r g22); (And.intro (idt ((decide (0 ≤ o.a) && decide (o.a ≤ 5)))) trivial))
 (And.intro (idt ((decide (0 ≤ o.a) && decide (o.a ≤ 5))))
 (And.intro (And.intro (le_bool (a := ((decide (0 ≤ o.a) && decide (o.a ≤ 5)) && decide (o.b = 0))) (b := (one o)) (by grind [one, kA, kB])) trivial) trivial)))))
 (fun (b25 : (decide (o.op = 1)) = false) => have f26 := of_decide_eq_false b25; (And.intro (fun (b27 : (decide (o.op = 2)) = true) => have f28 := of_decide_eq_true b27; (And.intro (fun (g32 : ((decide (0 ≤ o.a) && decide (o.a ≤ 5))) = true) => have f33 := of_decide_eq_true (and_l g32); have f34 := of_decide_eq_true (and_r g32); (And.intro (idt ((decide (0 ≤ o.a) && decide (o.a ≤ 5)))) trivial))
 (And.intro (fun (g35 : ((decide (0 ≤ o.a) && decide (o.a ≤ 5))) = true) => have f36 := of_decide_eq_true (and_l g35); have f37 := of_decide_eq_true (and_r g35); (And.intro (idt ((decide (0 ≤ o.a) && decide (o.a ≤ 5)))) (And.intro (in_ok o.b 5) trivial)))
 (And.intro (idt ((decide (0 ≤ o.a) && decide (o.a ≤ 5))))
 (And.intro (And.intro (le_bool (a := ((decide (0 ≤ o.a) && decide (o.a ≤ 5)) && (decide (0 ≤ o.b) && decide (o.b ≤ 5)))) (b := (one o)) (by grind [one, kA, kB])) trivial) trivial)))))
 (fun (b38 : (decide (o.op = 2)) = false) => have f39 := of_decide_eq_false b38; (And.intro (fun (b40 : (decide (o.op = 3)) = true) => have f41 := of_decide_eq_true b40; (And.intro (fun (g45 : ((decide (0 ≤ o.a) && decide (o.a ≤ 5))) = true) => have f46 := of_decide_eq_true (and_l g45); have f47 := of_decide_eq_true (and_r g45); (And.intro (idt ((decide (0 ≤ o.a) && decide (o.a ≤ 5)))) trivial))
 (And.intro (fun (g48 : ((decide (0 ≤ o.a) && decide (o.a ≤ 5))) = true) => have f49 := of_decide_eq_true (and_l g48); have f50 := of_decide_eq_true (and_r g48); (And.intro (idt ((decide (0 ≤ o.a) && decide (o.a ≤ 5)))) (And.intro (in_ok o.b 8) trivial)))
 (And.intro (idt ((decide (0 ≤ o.a) && decide (o.a ≤ 5))))
 (And.intro (And.intro (le_bool (a := ((decide (0 ≤ o.a) && decide (o.a ≤ 5)) && (decide (0 ≤ o.b) && decide (o.b ≤ 8)))) (b := (one o)) (by grind [one, kA, kB])) trivial) trivial)))))
 (fun (b51 : (decide (o.op = 3)) = false) => have f52 := of_decide_eq_false b51; (And.intro (And.intro (le_bool (a := (decide (o.op = 4) && (decide (o.a = 0) && (decide (o.b = 0) && true)))) (b := (one o)) (by grind [one, kA, kB])) trivial) trivial)))))))))))

set_option maxRecDepth 100000 in
theorem right_ok (l : List (List FOp)) (hop : ∀ i j, j < (l.getD i default).length → 0 ≤ ((l.getD i default).getD j default).op ∧ ((l.getD i default).getD j default).op ≤ 255) : PF Try.prog 17 [(.sl 1 false (l.map eFs))] (.d (.v (.bool (right l)))) := by
  exact pf_vc (rs := [(.d (.v (.bool (right l))))]) envok Try.func17 rfl rfl
   (.rg 0 (.len [0] (.op 2 (.nat l.length) (.br .nil (.loop (Nat) (fun x6 => ([(0, (.d (.sl 1 false (l.map eFs)))), (3, (.d (.v (.int .i64 ((x6 : Nat) : Int)))))], ⟨[], []⟩)) (fun x6 => (x6 ≤ l.length) ∧ ((l.take x6).all okp = true)) (fun x6 => l.length - x6) 0 (fun x6 => (.op 2 (.nat l.length) (.br (.op 2 (.cells [(.sl 3 false ((l.getD x6 default).map eF))]) (.op 1 (.nat (l.getD x6 default).length) (.br .nil (.loop (Nat) (fun x14 => ([(0, (.d (.sl 1 false (l.map eFs)))), (3, (.d (.v (.int .i64 ((x6 : Nat) : Int))))), (4, (.d (.v (.int .i64 ((x14 : Nat) : Int)))))], ⟨[], []⟩)) (fun x14 => (x14 ≤ (l.getD x6 default).length) ∧ (((l.getD x6 default).take x14).all one = true)) (fun x14 => (l.getD x6 default).length - x14) 0 (fun x14 => (.op 3 (.cells [(.sl 3 false ((l.getD x6 default).map eF))]) (.op 1 (.nat (l.getD x6 default).length) (.br (.op 2 (.cells [(.sl 3 false ((l.getD x6 default).map eF))]) (.op 2 (.cells [(.v (.int .u8 (((l.getD x6 default).getD x14 default).op))), (.v (.int .i64 (((l.getD x6 default).getD x14 default).a))), (.v (.int .i64 (((l.getD x6 default).getD x14 default).b)))]) (.op 1 (.pf (.d (.v (.bool (one ((l.getD x6 default).getD x14 default)))))) (.br .nil (.nx (Nat) (x14 + 1)))))) (.nx (Nat) (x6 + 1)))))))))) .nil))))))))
   (of_eq (by kernel_rfl)
 (fun (hl1 : (l.map eFs).length ≤ 9223372036854775807) => have hl1 : l.length ≤ 9223372036854775807 := (by simpa only [List.length_map] using hl1); (And.intro (len_map eFs l)
 (And.intro (fun (b2 : (decide (8 < (((l.length : Nat)) : Int))) = true) => have f3 := of_decide_eq_true b2; (And.intro (And.intro (le_bool (a := false) (b := (right l)) (by first | (rw [right_end hE (by omega), decide_eq_true (by omega)]; done) | (rw [right_long (i := i) (by omega) (by omega)]; done) | (rw [right_bad (i := i) (j := j) (by omega) (by omega) (by assumption)]; done) | (unfold right; rw [decide_eq_false (by omega)]; rfl))) trivial) trivial))
 (fun (b4 : (decide (8 < (((l.length : Nat)) : Int))) = false) => have f5 := of_decide_eq_false b4; (And.intro (And.intro (show 0 ≤ l.length from Nat.zero_le _) (show (l.take 0).all okp = true from rfl)) (And.intro (And.intro (PVle.rfl' (p := (.d (.sl 1 false (l.map eFs))))) (And.intro (le_int (k := .i64) (a := 0) (b := ((0 : Nat) : Int)) (by omega)) trivial))
 (fun (x6 : Nat) (hx7 : (x6 ≤ l.length) ∧ ((l.take x6).all okp = true)) =>
 (have hi := hx7.1; have hE := hx7.2; (And.intro (len_map eFs l)
 (And.intro (fun (b8 : (decide (((x6 : Nat) : Int) < (((l.length : Nat)) : Int))) = true) => have f9 := of_decide_eq_true b8; (And.intro (ix_get (f := eFs) l ((x6 : Nat) : Int) x6 (by omega) (by omega))
 (And.intro (len_map eF (l.getD x6 default))
 (And.intro (fun (b10 : (decide (8 < ((((l.getD x6 default).length : Nat)) : Int))) = true) => have f11 := of_decide_eq_true b10; (And.intro (And.intro (le_bool (a := false) (b := (right l)) (by first | (rw [right_end hE (by omega), decide_eq_true (by omega)]; done) | (rw [right_long (i := x6) (by omega) (by omega)]; done) | (rw [right_bad (i := x6) (j := j) (by omega) (by omega) (by assumption)]; done) | (unfold right; rw [decide_eq_false (by omega)]; rfl))) trivial) trivial))
 (fun (b12 : (decide (8 < ((((l.getD x6 default).length : Nat)) : Int))) = false) => have f13 := of_decide_eq_false b12; (And.intro (And.intro (show 0 ≤ (l.getD x6 default).length from Nat.zero_le _) (show ((l.getD x6 default).take 0).all one = true from rfl)) (And.intro (And.intro (PVle.rfl' (p := (.d (.sl 1 false (l.map eFs))))) (And.intro (PVle.rfl' (p := (.d (.v (.int .i64 ((x6 : Nat) : Int)))))) (And.intro (le_int (k := .i64) (a := 0) (b := ((0 : Nat) : Int)) (by omega)) trivial)))
 (fun (x14 : Nat) (hx15 : (x14 ≤ (l.getD x6 default).length) ∧ (((l.getD x6 default).take x14).all one = true)) =>
 (have hj := hx15.1; have hE1 := hx15.2; (And.intro (ix_get (f := eFs) l ((x6 : Nat) : Int) x6 (by omega) (by omega))
 (And.intro (len_map eF (l.getD x6 default))
 (And.intro (fun (b16 : (decide (((x14 : Nat) : Int) < ((((l.getD x6 default).length : Nat)) : Int))) = true) => have f17 := of_decide_eq_true b16; (And.intro (ix_get (f := eFs) l ((x6 : Nat) : Int) x6 (by omega) (by omega))
 (And.intro (ix_get (f := eF) (l.getD x6 default) ((x14 : Nat) : Int) x14 (by omega) (by omega))
 (And.intro (one_ok ((l.getD x6 default).getD x14 default) (by exact (hop x6 x14 (by omega)).1))
 (And.intro (fun (b18 : (!(one ((l.getD x6 default).getD x14 default))) = true) => have f19 := (nt b18); (And.intro (And.intro (le_bool (a := false) (b := (right l)) (by first | (rw [right_end hE (by omega), decide_eq_true (by omega)]; done) | (rw [right_long (i := x6) (by omega) (by omega)]; done) | (rw [right_bad (i := x6) (j := x14) (by omega) (by omega) (by assumption)]; done) | (unfold right; rw [decide_eq_false (by omega)]; rfl))) trivial) trivial))
 (fun (b20 : (!(one ((l.getD x6 default).getD x14 default))) = false) => have f21 := (nf b20); (And.intro (ib_add (a := ((x14 : Nat) : Int)) (b := 1) (by omega) (by omega))
 (And.intro (rfl : (Nat) = (Nat)) (fun (e22 : (Nat) = (Nat)) => (And.intro (And.intro (show (x14 + 1) ≤ (l.getD x6 default).length by omega) (show ((l.getD x6 default).take (x14 + 1)).all one = true from all_next (by omega) hE1 (by assumption))) (And.intro (show (l.getD x6 default).length - (x14 + 1) < (l.getD x6 default).length - x14 by omega) (And.intro (PVle.rfl' (p := (.d (.sl 1 false (l.map eFs))))) (And.intro (PVle.rfl' (p := (.d (.v (.int .i64 ((x6 : Nat) : Int)))))) (And.intro (le_int (k := .i64) (a := (((x14 : Nat) : Int) + 1)) (b := (((x14 + 1) : Nat) : Int)) (by omega)) trivial))))))))))))))
 (fun (b23 : (decide (((x14 : Nat) : Int) < ((((l.getD x6 default).length : Nat)) : Int))) = false) => have f24 := of_decide_eq_false b23; (And.intro (ib_add (a := ((x6 : Nat) : Int)) (b := 1) (by omega) (by omega))
 (And.intro (rfl : (Nat) = (Nat)) (fun (e25 : (Nat) = (Nat)) => (And.intro (And.intro (show (x6 + 1) ≤ l.length by omega) (show (l.take (x6 + 1)).all okp = true from all_next (by omega) hE (okp_of (j := x14) (by omega) (by omega) hE1))) (And.intro (show l.length - (x6 + 1) < l.length - x6 by omega) (And.intro (PVle.rfl' (p := (.d (.sl 1 false (l.map eFs))))) (And.intro (le_int (k := .i64) (a := (((x6 : Nat) : Int) + 1)) (b := (((x6 + 1) : Nat) : Int)) (by omega)) trivial))))))))))))))))))))
 (fun (b26 : (decide (((x6 : Nat) : Int) < (((l.length : Nat)) : Int))) = false) => have f27 := of_decide_eq_false b26; (And.intro (And.intro (le_bool (a := true) (b := (right l)) (by first | (rw [right_end hE (by omega), decide_eq_true (by omega)]; done) | (rw [right_long (i := x6) (by omega) (by omega)]; done) | (rw [right_bad (i := x6) (j := j) (by omega) (by omega) (by assumption)]; done) | (unfold right; rw [decide_eq_false (by omega)]; rfl))) trivial) trivial)))))))))))))
end Go.Proofs.Ytcbppmocgiamiaa
