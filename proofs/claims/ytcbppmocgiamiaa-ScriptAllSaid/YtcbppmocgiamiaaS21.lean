/- ScriptAll: the law reckoned -/
import Derived.Test.YtcbppmocgiamiaaS19
import Derived.Test.YtcbppmocgiamiaaS20
import Derived.Test.YtcbppmocgiamiaaST
namespace Go.Proofs.Ytcbppmocgiamiaa
open Go.Pv
set_option maxRecDepth 100000 in
theorem scriptAll_true (b : List Int) (s : Scr) (hb : Bytes b) (hc : ∀ l ∈ s.progs, ∀ c ∈ l, CW c) (ho : ∀ l ∈ s.fins, ∀ o ∈ l, OW o) (hi : ∀ n ∈ s.picks, IW n) (hn1 : s.fins.length ≤ 9223372036854775807) (hn2 : s.progs.length ≤ 9223372036854775807) (hn3 : s.picks.length ≤ 9223372036854775807) : PF Try.prog 3 [(.sl 1 false (b.map eByte)), (.agg [(.v (.int .i64 s.sc)), (.v (.int .i64 s.th)), (.v (.int .i64 s.im)), (.v (.int .i64 s.hp)), (.sl 1 false (s.fins.map eFs)), (.sl 1 false (s.progs.map eCs)), (.sl 1 false (s.picks.map eI))])] (.d (.v (.bool true))) := by
  obtain ⟨X, hX⟩ : ∃ X, X = b.take 800 := ⟨_, rfl⟩
  have hBX : Bytes X := hX ▸ hb.take 800
  have hL : X.length ≤ 800 := by rw [hX, List.length_take]; omega
  obtain ⟨S, hS⟩ : ∃ S, S = ofB X := ⟨_, rfl⟩
  have hM : May S := hS ▸ may_of hBX
  have hO1 : PF Try.prog 11 [(.sl 1 false (X.map eByte))] (.d (.agg [(.v (.int .i64 S.sc)), (.v (.int .i64 S.th)), (.v (.int .i64 S.im)), (.v (.int .i64 S.hp)), (.sl 1 false (S.fins.map eFs)), (.sl 1 false (S.progs.map eCs)), (.sl 1 false (S.picks.map eI))])) := by rw [hS]; exact of_ok _ hBX
  have hO2 : PF Try.prog 12 [(.sl 1 false (X.map eByte))] (.d (.agg [(.v (.int .i64 S.sc)), (.v (.int .i64 S.th)), (.v (.int .i64 S.im)), (.v (.int .i64 S.hp)), (.sl 1 false (S.fins.map eFs)), (.sl 1 false (S.progs.map eCs)), (.sl 1 false (S.picks.map eI))])) := by rw [hS]; exact refOf_ok _ hBX (by omega)
  have hw : SW (shortS s) := sw_short hc ho hi
  have hf1 := hM.lf
  have hl4 := hM.lg
  have hl5 := hM.th
  exact pf_vc (rs := [(.d (.v (.bool true)))]) envok Try.func3 rfl rfl
   (.rg 0 (.len [0] (.op 2 (.pf (.d (.v (.bool true)))) (.op 3 (.nat b.length) (.op 0 (.int (min (((b.length : Nat)) : Int) 800)) (.op 0 (.rows (X.map eByte)) (.op 2 (.pf (.d (.agg [(.v (.int .i64 S.sc)), (.v (.int .i64 S.th)), (.v (.int .i64 S.im)), (.v (.int .i64 S.hp)), (.sl 1 false (S.fins.map eFs)), (.sl 1 false (S.progs.map eCs)), (.sl 1 false (S.picks.map eI))]))) (.op 1 (.pf (.d (.agg [(.v (.int .i64 S.sc)), (.v (.int .i64 S.th)), (.v (.int .i64 S.im)), (.v (.int .i64 S.hp)), (.sl 1 false (S.fins.map eFs)), (.sl 1 false (S.progs.map eCs)), (.sl 1 false (S.picks.map eI))]))) (.op 0 (.pfa [(.agg [(.v (.int .i64 S.sc)), (.v (.int .i64 S.th)), (.v (.int .i64 S.im)), (.v (.int .i64 S.hp)), (.sl 1 false (S.fins.map eFs)), (.sl 1 false (S.progs.map eCs)), (.sl 1 false (S.picks.map eI))]), (.agg [(.v (.int .i64 S.sc)), (.v (.int .i64 S.th)), (.v (.int .i64 S.im)), (.v (.int .i64 S.hp)), (.sl 1 false (S.fins.map eFs)), (.sl 1 false (S.progs.map eCs)), (.sl 1 false (S.picks.map eI))])] (.d (.v (.bool (decide (S = S)))))) (.op 2 (.pfa [(.agg [(.v (.int .i64 s.sc)), (.v (.int .i64 s.th)), (.v (.int .i64 s.im)), (.v (.int .i64 s.hp)), (.sl 1 false (s.fins.map eFs)), (.sl 1 false (s.progs.map eCs)), (.sl 1 false (s.picks.map eI))])] (.d (.agg [(.v (.int .i64 ((shortS s).sc))), (.v (.int .i64 ((shortS s).th))), (.v (.int .i64 ((shortS s).im))), (.v (.int .i64 ((shortS s).hp))), (.sl 1 false ((shortS s).fins.map eFs)), (.sl 1 false ((shortS s).progs.map eCs)), (.sl 1 false ((shortS s).picks.map eI))]))) (.op 4 (.known true (.no)) (.op 0 (.known true .no) (.op 1 (.known true (.no)) (.op 0 (.known true (.pfa [(.agg [(.v (.int .i64 ((shortS s).sc))), (.v (.int .i64 ((shortS s).th))), (.v (.int .i64 ((shortS s).im))), (.v (.int .i64 ((shortS s).hp))), (.sl 1 false ((shortS s).fins.map eFs)), (.sl 1 false ((shortS s).progs.map eCs)), (.sl 1 false ((shortS s).picks.map eI))])] (.d (.sl 1 false ((putB (shortS s)).map eByte))))) (.op 0 (.known true (.ints (putB (shortS s)))) (.op 0 (.known true (.no)) (.op 0 (.known true (.pfa [(.agg [(.v (.int .i64 ((shortS s).sc))), (.v (.int .i64 ((shortS s).th))), (.v (.int .i64 ((shortS s).im))), (.v (.int .i64 ((shortS s).hp))), (.sl 1 false ((shortS s).fins.map eFs)), (.sl 1 false ((shortS s).progs.map eCs)), (.sl 1 false ((shortS s).picks.map eI))])] (.d (.sl 1 false ((putB (shortS s)).map eByte))))) (.op 0 (.known true (.ints (putB (shortS s)))) (.op 0 (.known true (.no)) .nil)))))))))))))))))))
   (of_eq (by kernel_rfl)
 (fun (hl1 : (b.map eByte).length ≤ 9223372036854775807) => have hl1 : b.length ≤ 9223372036854775807 := (by simpa only [List.length_map] using hl1); (And.intro shown_ok
 (And.intro (len_map eByte b)
 (And.intro (ite_min' (((b.length : Nat)) : Int) 800)
 (And.intro (by have h := sl_takem (f := eByte) b (min (((b.length : Nat)) : Int) 800) 800 (by omega); rw [← hX] at h; exact h)
 (And.intro hO1
 (And.intro hO2
 (And.intro (And.intro (PVle.rfl' (p := (.d (.agg [(.v (.int .i64 S.sc)), (.v (.int .i64 S.th)), (.v (.int .i64 S.im)), (.v (.int .i64 S.hp)), (.sl 1 false (S.fins.map eFs)), (.sl 1 false (S.progs.map eCs)), (.sl 1 false (S.picks.map eI))])))) (And.intro (PVle.rfl' (p := (.d (.agg [(.v (.int .i64 S.sc)), (.v (.int .i64 S.th)), (.v (.int .i64 S.im)), (.v (.int .i64 S.hp)), (.sl 1 false (S.fins.map eFs)), (.sl 1 false (S.progs.map eCs)), (.sl 1 false (S.picks.map eI))])))) trivial))
 (And.intro (refSame_ok S S (by omega) (by omega) (by omega) (by omega))
 (And.intro (And.intro (PVle.of_canon (p := (.agg [(.d (.v (.int .i64 s.sc))), (.d (.v (.int .i64 s.th))), (.d (.v (.int .i64 s.im))), (.d (.v (.int .i64 s.hp))), (.d (.sl 1 false (s.fins.map eFs))), (.d (.sl 1 false (s.progs.map eCs))), (.d (.sl 1 false (s.picks.map eI)))])) (q := (.d (.agg [(.v (.int .i64 s.sc)), (.v (.int .i64 s.th)), (.v (.int .i64 s.im)), (.v (.int .i64 s.hp)), (.sl 1 false (s.fins.map eFs)), (.sl 1 false (s.progs.map eCs)), (.sl 1 false (s.picks.map eI))]))) rfl) trivial)
 (And.intro (short_ok s hn1 hn2 hn3)
 (And.intro (rfl : true = true)
 (And.intro (rfl : true = true)
 (And.intro (decide_eq_true (rfl : S = S))
 (And.intro (decide_eq_true (rfl : S = S))
 (And.intro (And.intro (PVle.of_canon (p := (.agg [(.d (.v (.int .i64 ((shortS s).sc)))), (.d (.v (.int .i64 ((shortS s).th)))), (.d (.v (.int .i64 ((shortS s).im)))), (.d (.v (.int .i64 ((shortS s).hp)))), (.d (.sl 1 false ((shortS s).fins.map eFs))), (.d (.sl 1 false ((shortS s).progs.map eCs))), (.d (.sl 1 false ((shortS s).picks.map eI)))])) (q := (.d (.agg [(.v (.int .i64 ((shortS s).sc))), (.v (.int .i64 ((shortS s).th))), (.v (.int .i64 ((shortS s).im))), (.v (.int .i64 ((shortS s).hp))), (.sl 1 false ((shortS s).fins.map eFs)), (.sl 1 false ((shortS s).progs.map eCs)), (.sl 1 false ((shortS s).picks.map eI))]))) rfl) trivial)
 (And.intro (put_ok (shortS s) hw)
 (And.intro (decide_eq_true (rfl : S = S))
 (And.intro (show ((putB (shortS s)).map eByte) = (putB (shortS s)).map eByte from rfl)
 (And.intro (decide_eq_true (rfl : S = S))
 (And.intro (decide_eq_true (rfl : S = S))
 (And.intro (And.intro (PVle.of_canon (p := (.agg [(.d (.v (.int .i64 ((shortS s).sc)))), (.d (.v (.int .i64 ((shortS s).th)))), (.d (.v (.int .i64 ((shortS s).im)))), (.d (.v (.int .i64 ((shortS s).hp)))), (.d (.sl 1 false ((shortS s).fins.map eFs))), (.d (.sl 1 false ((shortS s).progs.map eCs))), (.d (.sl 1 false ((shortS s).picks.map eI)))])) (q := (.d (.agg [(.v (.int .i64 ((shortS s).sc))), (.v (.int .i64 ((shortS s).th))), (.v (.int .i64 ((shortS s).im))), (.v (.int .i64 ((shortS s).hp))), (.sl 1 false ((shortS s).fins.map eFs)), (.sl 1 false ((shortS s).progs.map eCs)), (.sl 1 false ((shortS s).picks.map eI))]))) rfl) trivial)
 (And.intro (refPut_ok (shortS s) hw)
 (And.intro (decide_eq_true (rfl : S = S))
 (And.intro (show ((putB (shortS s)).map eByte) = (putB (shortS s)).map eByte from rfl)
 (And.intro (decide_eq_true (rfl : S = S))
 (And.intro (And.intro (le_bool (a := (decide (S = S) && ((strB (putB (shortS s))).toList == (strB (putB (shortS s))).toList))) (b := true) (by first | rfl | exact decide_eq_true rfl | (exfalso; omega) | simp)) trivial) trivial))))))))))))))))))))))))))))
end Go.Proofs.Ytcbppmocgiamiaa
