/- Texts of one proof, put together: see each part. -/
import Derived.Test.YtihiooaimdoapaaGreatQD
set_option linter.unusedVariables false
set_option linter.unusedSimpArgs false
namespace Go.Proofs.YtihiooaimdoapaaGreat
open Go.Bm
set_option maxRecDepth 1000000
set_option maxHeartbeats 0
abbrev T0 : Type := (List ((Int × (Int × (Int × Int))) × ((List (List (Int × (Int × Int)))) × ((Option Nat) × ((Option Nat) × ((Option Nat) × (Option Nat)))))))
abbrev T1 : Type := (List ((Option Nat) × (Option Nat)))
abbrev T10 : Type := (List (Option (List Int)))
abbrev T2 : Type := (List (Int × (Int × (Option Nat))))
abbrev T3 : Type := (List (Option (List ((Int × (Int × (Int × Int))) × (Int × Int)))))
abbrev T4 : Type := (List (Option (List (Int × Int))))
abbrev T5 : Type := (List (Option (List (Int × (Int × (Option Nat))))))
abbrev T6 : Type := (List (Option (List ((List Int) × (List (Int × Bool))))))
abbrev T7 : Type := (List (List ((Int × (Int × Int)) × (Option Nat))))
abbrev T8 : Type := (List ((Int × (Int × Int)) × (Int × ((Option Nat) × Bool))))
abbrev T9 : Type := (List (Option (List (Option Nat))))
abbrev dv0 : ((Int × (Int × (Int × Int))) × ((List (List (Int × (Int × Int)))) × ((Option Nat) × ((Option Nat) × ((Option Nat) × (Option Nat)))))) := ((0, (0, (0, 0))), ([], (none, (none, (none, none)))))
abbrev U0 : Type := (Unit × (Unit × (Unit × Unit)))
abbrev U1 : Type := (T2 × (T3 × (T4 × (T5 × (T6 × (T7 × (T8 × (T9 × (T10 × Unit)))))))))
abbrev U2 : Type := (Int × (Int × Int))
abbrev U3 : Type := (((Option Nat) × (Int × Unit)) × (T0 × (T1 × (T2 × (T3 × (T4 × (T5 × (T6 × (T7 × Unit)))))))))
abbrev U4 : Type := (Option ((Bool × Unit) × (T0 × (T1 × U1))))
abbrev U5 : Type := (Option (((Int × (Int × (List Int))) × (Int × Unit)) × U1))
abbrev U6 : Type := ((Int × Unit) × U0)
abbrev U7 : Type := ((Bool × Unit) × U0)
abbrev U8 : Type := (Int × (Int × (Int × (Int × U2))))
abbrev U9 : Type := (Option (((Option Nat) × ((List Int) × (Bool × (Int × Unit)))) × (T10 × Unit)))
abbrev U10 : Type := (Option ((Bool × Unit) × Unit))
abbrev U11 : Type := (Option ((Int × Unit) × (T2 × (T4 × Unit))))
abbrev U12 : Type := ((Int × Unit) × (Unit × (Unit × (Unit × U1))))
abbrev U13 : Type := ((List Int) × Unit)
abbrev U14 : Type := ((Option Nat) × (Int × Unit))
abbrev U15 : Type := (Int × (Int × Unit))
abbrev U16 : Type := ((Int × Unit) × (((List (List U2)) × Unit) × (Unit × (Unit × Unit))))
abbrev U17 : Type := ((Int × Unit) × (Unit × (Unit × (Unit × (T2 × (T4 × Unit))))))
abbrev U18 : Type := (Unit × (Unit × (Unit × (((Int × (Int × U13)) × ((Int × (Int × U13)) × Unit)) × (T8 × (T10 × Unit))))))
abbrev U19 : Type := (List (Int × Bool))
abbrev U20 : Type := ((Int × Unit) × (Unit × (Unit × (Unit × (T3 × Unit)))))
abbrev U21 : Type := (T2 × (T3 × (T4 × Unit)))
abbrev U22 : Type := (Option ((Int × (Bool × Unit)) × (T2 × (T4 × Unit))))
theorem mixed : Tryz.prog.follows .mixedOrders = true := by kernel_rfl
noncomputable def sg39 : Sig := ⟨[(false, (.int .i64)), (false, (.int .i64)), (false, (.int .i64))], [(false, .bool)], [], []⟩
noncomputable def g.num_Within (a0 : Int) (a1 : Int) (a2 : Int) : U10 := (br (ileq a1 a0) (some (((ileq a0 a2), ()), ())) (some ((false, ()), ())))
noncomputable def F39 : Plain sg39 := fun x c d => g.num_Within x.1 x.2.1 x.2.2.1
theorem ct39 : CtOk Tryz.prog 39 sg39 F39 := ct_of envok mixed fnok (hm := homes) (ctN_ok) 8 (fun x c d => by kernel_rfl)
noncomputable def sg35 : Sig := ⟨[(true, (.pair (.int .i64) (.pair (.int .i64) (.pair (.int .i64) (.int .i64)))))], [(false, .bool)], [], []⟩
noncomputable def g.plan_Right (a0 : (Int × U2)) : U10 := (bd (g.num_Within a0.1 1 8) (fun p0 => (br p0.1.1 (bd (g.num_Within a0.2.1 1 4) (fun p1 => (br p1.1.1 (bd (g.num_Within a0.2.2.1 0 2048) (fun p2 => (br p2.1.1 (bd (g.num_Within a0.2.2.2 0 8192) (fun p3 => (br p3.1.1 (some (((ieql (irem (bits BinOp.or IntKind.i64 a0.2.2.1 a0.2.2.2) 8) 0), ()), ())) (some ((false, ()), ()))))) (some ((false, ()), ()))))) (some ((false, ()), ()))))) (some ((false, ()), ())))))
noncomputable def F35 : Plain sg35 := fun x c d => g.plan_Right x.1
theorem ct35 : CtOk Tryz.prog 35 sg35 F35 := ct_of envok mixed fnok (hm := homes) (ctC_ok ct39 (ctN_ok)) 8 (fun x c d => by kernel_rfl)
noncomputable def sg36 : Sig := ⟨[(false, (.slc (.slc (.pair (.int .u8) (.pair (.int .i64) (.int .i64))))))], [(false, .bool)], [], []⟩
noncomputable def g.fin_Right_l0 (a0 : (List (List U2))) (v0 : U6) (v1 : U6 → U10) (k : (U6 → U10)) (s : U6) : U10 := (br (ilss s.1.1 (zN (len (nth [] a0 (nN v0.1.1))))) (gd (ige s.1.1) (gd (nlt (nN s.1.1) (len (nth [] a0 (nN v0.1.1)))) (br (ileq 5 (wrp IntKind.i64 (nth (0, (0, 0)) (nth [] a0 (nN v0.1.1)) (nN s.1.1)).1)) (some ((false, ()), ())) (br (ieql (nth (0, (0, 0)) (nth [] a0 (nN v0.1.1)) (nN s.1.1)).1 0) (bd (g.num_Within (nth (0, (0, 0)) (nth [] a0 (nN v0.1.1)) (nN s.1.1)).2.1 0 99) (fun p0 => (br (bnot p0.1.1) (some ((false, ()), ())) (br (ieql (nth (0, (0, 0)) (nth [] a0 (nN v0.1.1)) (nN s.1.1)).1 0) (bd (g.num_Within (nth (0, (0, 0)) (nth [] a0 (nN v0.1.1)) (nN s.1.1)).2.2 0 0) (fun p1 => (br (bnot p1.1.1) (some ((false, ()), ())) (k (((iadd IntKind.i64 s.1.1 1), ()), ((), ((), ((), ())))))))) (br (ieql (nth (0, (0, 0)) (nth [] a0 (nN v0.1.1)) (nN s.1.1)).1 1) (bd (g.num_Within (nth (0, (0, 0)) (nth [] a0 (nN v0.1.1)) (nN s.1.1)).2.2 0 0) (fun p2 => (br (bnot p2.1.1) (some ((false, ()), ())) (k (((iadd IntKind.i64 s.1.1 1), ()), ((), ((), ((), ())))))))) (br (ieql (nth (0, (0, 0)) (nth [] a0 (nN v0.1.1)) (nN s.1.1)).1 2) (bd (g.num_Within (nth (0, (0, 0)) (nth [] a0 (nN v0.1.1)) (nN s.1.1)).2.2 0 5) (fun p3 => (br (bnot p3.1.1) (some ((false, ()), ())) (k (((iadd IntKind.i64 s.1.1 1), ()), ((), ((), ((), ())))))))) (br (ieql (nth (0, (0, 0)) (nth [] a0 (nN v0.1.1)) (nN s.1.1)).1 3) (bd (g.num_Within (nth (0, (0, 0)) (nth [] a0 (nN v0.1.1)) (nN s.1.1)).2.2 0 8) (fun p4 => (br (bnot p4.1.1) (some ((false, ()), ())) (k (((iadd IntKind.i64 s.1.1 1), ()), ((), ((), ((), ())))))))) (br (ieql (nth (0, (0, 0)) (nth [] a0 (nN v0.1.1)) (nN s.1.1)).1 4) (bd (g.num_Within (nth (0, (0, 0)) (nth [] a0 (nN v0.1.1)) (nN s.1.1)).2.2 0 0) (fun p5 => (br (bnot p5.1.1) (some ((false, ()), ())) (k (((iadd IntKind.i64 s.1.1 1), ()), ((), ((), ((), ())))))))) none)))))))) (br (ieql (nth (0, (0, 0)) (nth [] a0 (nN v0.1.1)) (nN s.1.1)).1 1) (bd (g.num_Within (nth (0, (0, 0)) (nth [] a0 (nN v0.1.1)) (nN s.1.1)).2.1 0 5) (fun p6 => (br (bnot p6.1.1) (some ((false, ()), ())) (br (ieql (nth (0, (0, 0)) (nth [] a0 (nN v0.1.1)) (nN s.1.1)).1 0) (bd (g.num_Within (nth (0, (0, 0)) (nth [] a0 (nN v0.1.1)) (nN s.1.1)).2.2 0 0) (fun p7 => (br (bnot p7.1.1) (some ((false, ()), ())) (k (((iadd IntKind.i64 s.1.1 1), ()), ((), ((), ((), ())))))))) (br (ieql (nth (0, (0, 0)) (nth [] a0 (nN v0.1.1)) (nN s.1.1)).1 1) (bd (g.num_Within (nth (0, (0, 0)) (nth [] a0 (nN v0.1.1)) (nN s.1.1)).2.2 0 0) (fun p8 => (br (bnot p8.1.1) (some ((false, ()), ())) (k (((iadd IntKind.i64 s.1.1 1), ()), ((), ((), ((), ())))))))) (br (ieql (nth (0, (0, 0)) (nth [] a0 (nN v0.1.1)) (nN s.1.1)).1 2) (bd (g.num_Within (nth (0, (0, 0)) (nth [] a0 (nN v0.1.1)) (nN s.1.1)).2.2 0 5) (fun p9 => (br (bnot p9.1.1) (some ((false, ()), ())) (k (((iadd IntKind.i64 s.1.1 1), ()), ((), ((), ((), ())))))))) (br (ieql (nth (0, (0, 0)) (nth [] a0 (nN v0.1.1)) (nN s.1.1)).1 3) (bd (g.num_Within (nth (0, (0, 0)) (nth [] a0 (nN v0.1.1)) (nN s.1.1)).2.2 0 8) (fun p10 => (br (bnot p10.1.1) (some ((false, ()), ())) (k (((iadd IntKind.i64 s.1.1 1), ()), ((), ((), ((), ())))))))) (br (ieql (nth (0, (0, 0)) (nth [] a0 (nN v0.1.1)) (nN s.1.1)).1 4) (bd (g.num_Within (nth (0, (0, 0)) (nth [] a0 (nN v0.1.1)) (nN s.1.1)).2.2 0 0) (fun p11 => (br (bnot p11.1.1) (some ((false, ()), ())) (k (((iadd IntKind.i64 s.1.1 1), ()), ((), ((), ((), ())))))))) none)))))))) (br (ieql (nth (0, (0, 0)) (nth [] a0 (nN v0.1.1)) (nN s.1.1)).1 2) (bd (g.num_Within (nth (0, (0, 0)) (nth [] a0 (nN v0.1.1)) (nN s.1.1)).2.1 0 5) (fun p12 => (br (bnot p12.1.1) (some ((false, ()), ())) (br (ieql (nth (0, (0, 0)) (nth [] a0 (nN v0.1.1)) (nN s.1.1)).1 0) (bd (g.num_Within (nth (0, (0, 0)) (nth [] a0 (nN v0.1.1)) (nN s.1.1)).2.2 0 0) (fun p13 => (br (bnot p13.1.1) (some ((false, ()), ())) (k (((iadd IntKind.i64 s.1.1 1), ()), ((), ((), ((), ())))))))) (br (ieql (nth (0, (0, 0)) (nth [] a0 (nN v0.1.1)) (nN s.1.1)).1 1) (bd (g.num_Within (nth (0, (0, 0)) (nth [] a0 (nN v0.1.1)) (nN s.1.1)).2.2 0 0) (fun p14 => (br (bnot p14.1.1) (some ((false, ()), ())) (k (((iadd IntKind.i64 s.1.1 1), ()), ((), ((), ((), ())))))))) (br (ieql (nth (0, (0, 0)) (nth [] a0 (nN v0.1.1)) (nN s.1.1)).1 2) (bd (g.num_Within (nth (0, (0, 0)) (nth [] a0 (nN v0.1.1)) (nN s.1.1)).2.2 0 5) (fun p15 => (br (bnot p15.1.1) (some ((false, ()), ())) (k (((iadd IntKind.i64 s.1.1 1), ()), ((), ((), ((), ())))))))) (br (ieql (nth (0, (0, 0)) (nth [] a0 (nN v0.1.1)) (nN s.1.1)).1 3) (bd (g.num_Within (nth (0, (0, 0)) (nth [] a0 (nN v0.1.1)) (nN s.1.1)).2.2 0 8) (fun p16 => (br (bnot p16.1.1) (some ((false, ()), ())) (k (((iadd IntKind.i64 s.1.1 1), ()), ((), ((), ((), ())))))))) (br (ieql (nth (0, (0, 0)) (nth [] a0 (nN v0.1.1)) (nN s.1.1)).1 4) (bd (g.num_Within (nth (0, (0, 0)) (nth [] a0 (nN v0.1.1)) (nN s.1.1)).2.2 0 0) (fun p17 => (br (bnot p17.1.1) (some ((false, ()), ())) (k (((iadd IntKind.i64 s.1.1 1), ()), ((), ((), ((), ())))))))) none)))))))) (br (ieql (nth (0, (0, 0)) (nth [] a0 (nN v0.1.1)) (nN s.1.1)).1 3) (bd (g.num_Within (nth (0, (0, 0)) (nth [] a0 (nN v0.1.1)) (nN s.1.1)).2.1 0 5) (fun p18 => (br (bnot p18.1.1) (some ((false, ()), ())) (br (ieql (nth (0, (0, 0)) (nth [] a0 (nN v0.1.1)) (nN s.1.1)).1 0) (bd (g.num_Within (nth (0, (0, 0)) (nth [] a0 (nN v0.1.1)) (nN s.1.1)).2.2 0 0) (fun p19 => (br (bnot p19.1.1) (some ((false, ()), ())) (k (((iadd IntKind.i64 s.1.1 1), ()), ((), ((), ((), ())))))))) (br (ieql (nth (0, (0, 0)) (nth [] a0 (nN v0.1.1)) (nN s.1.1)).1 1) (bd (g.num_Within (nth (0, (0, 0)) (nth [] a0 (nN v0.1.1)) (nN s.1.1)).2.2 0 0) (fun p20 => (br (bnot p20.1.1) (some ((false, ()), ())) (k (((iadd IntKind.i64 s.1.1 1), ()), ((), ((), ((), ())))))))) (br (ieql (nth (0, (0, 0)) (nth [] a0 (nN v0.1.1)) (nN s.1.1)).1 2) (bd (g.num_Within (nth (0, (0, 0)) (nth [] a0 (nN v0.1.1)) (nN s.1.1)).2.2 0 5) (fun p21 => (br (bnot p21.1.1) (some ((false, ()), ())) (k (((iadd IntKind.i64 s.1.1 1), ()), ((), ((), ((), ())))))))) (br (ieql (nth (0, (0, 0)) (nth [] a0 (nN v0.1.1)) (nN s.1.1)).1 3) (bd (g.num_Within (nth (0, (0, 0)) (nth [] a0 (nN v0.1.1)) (nN s.1.1)).2.2 0 8) (fun p22 => (br (bnot p22.1.1) (some ((false, ()), ())) (k (((iadd IntKind.i64 s.1.1 1), ()), ((), ((), ((), ())))))))) (br (ieql (nth (0, (0, 0)) (nth [] a0 (nN v0.1.1)) (nN s.1.1)).1 4) (bd (g.num_Within (nth (0, (0, 0)) (nth [] a0 (nN v0.1.1)) (nN s.1.1)).2.2 0 0) (fun p23 => (br (bnot p23.1.1) (some ((false, ()), ())) (k (((iadd IntKind.i64 s.1.1 1), ()), ((), ((), ((), ())))))))) none)))))))) (br (ieql (nth (0, (0, 0)) (nth [] a0 (nN v0.1.1)) (nN s.1.1)).1 4) (bd (g.num_Within (nth (0, (0, 0)) (nth [] a0 (nN v0.1.1)) (nN s.1.1)).2.1 0 0) (fun p24 => (br (bnot p24.1.1) (some ((false, ()), ())) (br (ieql (nth (0, (0, 0)) (nth [] a0 (nN v0.1.1)) (nN s.1.1)).1 0) (bd (g.num_Within (nth (0, (0, 0)) (nth [] a0 (nN v0.1.1)) (nN s.1.1)).2.2 0 0) (fun p25 => (br (bnot p25.1.1) (some ((false, ()), ())) (k (((iadd IntKind.i64 s.1.1 1), ()), ((), ((), ((), ())))))))) (br (ieql (nth (0, (0, 0)) (nth [] a0 (nN v0.1.1)) (nN s.1.1)).1 1) (bd (g.num_Within (nth (0, (0, 0)) (nth [] a0 (nN v0.1.1)) (nN s.1.1)).2.2 0 0) (fun p26 => (br (bnot p26.1.1) (some ((false, ()), ())) (k (((iadd IntKind.i64 s.1.1 1), ()), ((), ((), ((), ())))))))) (br (ieql (nth (0, (0, 0)) (nth [] a0 (nN v0.1.1)) (nN s.1.1)).1 2) (bd (g.num_Within (nth (0, (0, 0)) (nth [] a0 (nN v0.1.1)) (nN s.1.1)).2.2 0 5) (fun p27 => (br (bnot p27.1.1) (some ((false, ()), ())) (k (((iadd IntKind.i64 s.1.1 1), ()), ((), ((), ((), ())))))))) (br (ieql (nth (0, (0, 0)) (nth [] a0 (nN v0.1.1)) (nN s.1.1)).1 3) (bd (g.num_Within (nth (0, (0, 0)) (nth [] a0 (nN v0.1.1)) (nN s.1.1)).2.2 0 8) (fun p28 => (br (bnot p28.1.1) (some ((false, ()), ())) (k (((iadd IntKind.i64 s.1.1 1), ()), ((), ((), ((), ())))))))) (br (ieql (nth (0, (0, 0)) (nth [] a0 (nN v0.1.1)) (nN s.1.1)).1 4) (bd (g.num_Within (nth (0, (0, 0)) (nth [] a0 (nN v0.1.1)) (nN s.1.1)).2.2 0 0) (fun p29 => (br (bnot p29.1.1) (some ((false, ()), ())) (k (((iadd IntKind.i64 s.1.1 1), ()), ((), ((), ((), ())))))))) none)))))))) none)))))))) (br (ilss 8 (zN (len (nth [] a0 (nN v0.1.1))))) (some ((false, ()), ())) (v1 (((iadd IntKind.i64 v0.1.1 1), ()), ((), ((), ((), ())))))))
noncomputable def g.fin_Right_l1 (a0 : (List (List U2))) (k : (U6 → U10)) (s : U6) : U10 := (br (ilss s.1.1 (zN (len a0))) (gd (ige s.1.1) (gd (nlt (nN s.1.1) (len a0)) (loop (g.fin_Right_l0 a0 s k) ((0, ()), ((), ((), ((), ()))))))) (some (((ileq (zN (len a0)) 8), ()), ())))
noncomputable def g.fin_Right (a0 : (List (List U2))) : U10 := (loop (g.fin_Right_l1 a0) ((0, ()), ((), ((), ((), ())))))
noncomputable def F36 : Plain sg36 := fun x c d => g.fin_Right x.1
theorem ct36 : CtOk Tryz.prog 36 sg36 F36 := ct_of envok mixed fnok (hm := homes) (ctC_ok ct39 (ctN_ok)) 8 (fun x c d => by kernel_rfl)
noncomputable def sg74 : Sig := ⟨[(true, (.pair (.int .i64) (.pair (.int .i64) (.pair (.int .i64) (.int .i64)))))], [(true, (.pair (.int .i64) (.int .i64))), (false, (.int .i64))], [], []⟩
noncomputable def g.plan_Immortal (a0 : (Int × U2)) : (Option (((Int × Int) × (Int × Unit)) × Unit)) := (bd (g.plan_Right (a0.1, (a0.2.1, (a0.2.2.1, a0.2.2.2)))) (fun p0 => (br (bnot p0.1.1) (some (((0, 0), (1, ())), ())) (some ((((imul IntKind.i64 a0.1 64), a0.2.2.1), (0, ())), ())))))
noncomputable def F74 : Plain sg74 := fun x c d => g.plan_Immortal x.1
theorem ct74 : CtOk Tryz.prog 74 sg74 F74 := ct_of envok mixed fnok (hm := homes) (ctC_ok ct35 (ctN_ok)) 8 (fun x c d => by kernel_rfl)
noncomputable def sg75 : Sig := ⟨[(true, (.pair (.int .i64) (.pair (.int .i64) (.pair (.int .i64) (.int .i64)))))], [(true, (.pair (.int .i64) (.int .i64))), (false, (.int .i64))], [], []⟩
noncomputable def g.plan_Heap (a0 : (Int × U2)) : (Option (((Int × Int) × (Int × Unit)) × Unit)) := (bd (g.plan_Immortal (a0.1, (a0.2.1, (a0.2.2.1, a0.2.2.2)))) (fun p0 => (br (bnot (ieql p0.1.2.1 0)) (some (((0, 0), (p0.1.2.1, ())), ())) (some ((((iadd IntKind.i64 p0.1.1.1 p0.1.1.2), a0.2.2.2), (0, ())), ())))))
noncomputable def F75 : Plain sg75 := fun x c d => g.plan_Heap x.1
theorem ct75 : CtOk Tryz.prog 75 sg75 F75 := ct_of envok mixed fnok (hm := homes) (ctC_ok ct74 (ctN_ok)) 8 (fun x c d => by kernel_rfl)
noncomputable def sg76 : Sig := ⟨[(false, (.int .i64)), (false, (.int .i64))], [(false, (.ptr 2)), (false, (.int .i64))], [], [(2, R2), (4, R4)]⟩
noncomputable def g.ground_New (a0 : Int) (a1 : Int) (d0 : T2) (d1 : T4) : (Option (U14 × (T2 × (T4 × Unit)))) := (jn (fun (k0 : (Unit × U0) → _) => (bd (g.num_Within a0 0 65536) (fun p1 => (br (bnot p1.1.1) (some ((none, (1, ())), (d0, (d1, ())))) (bd (g.num_Within a1 0 65536) (fun p2 => (br (bnot p2.1.1) (some ((none, (1, ())), (d0, (d1, ())))) (br (bnot (ieql (irem (bits BinOp.or IntKind.i64 a0 a1) 8) 0)) (some ((none, (1, ())), (d0, (d1, ())))) (k0 ((), ((), ((), ((), ()))))))))))))) (fun (s3 : (Unit × U0)) => (br (ilss 0 a1) (some (((some (len d0)), (0, ())), ((updF (0, (0, none)) (cat d0 [(a0, ((iadd IntKind.i64 a0 a1), none))]) (len d0) (fun r5 => (r5.1, (r5.2.1, (some (len d1)))))), ((cat d1 [(some [(a0, a1)])]), ())))) (some (((some (len d0)), (0, ())), ((cat d0 [(a0, ((iadd IntKind.i64 a0 a1), none))]), (d1, ())))))))
noncomputable def F76 : Plain sg76 := fun x c d => g.ground_New x.1 x.2.1 d.1 d.2.1
theorem ct76 : CtOk Tryz.prog 76 sg76 F76 := ct_of envok mixed fnok (hm := homes) (ctC_ok ct39 (ctN_ok)) 8 (fun x c d => by kernel_rfl)
noncomputable def sg37 : Sig := ⟨[(true, (.pair (.int .i64) (.pair (.int .i64) (.pair (.int .i64) (.int .i64)))))], [(false, (.ptr 1)), (false, (.int .i64))], [], [(1, R1), (2, R2), (3, R3), (4, R4)]⟩
noncomputable def g.scopes_New_l0 (a0 : (Int × U2)) (d0 : T1) (d1 : T2) (d2 : T3) (d3 : T4) (v0 : (List ((Int × U2) × (Int × Int)))) (k : (U20 → (Option (U14 × (T1 × U21))))) (s : U20) : (Option (U14 × (T1 × U21))) := (br (ilss s.1.1 (zN (len v0))) (opt (nth (none, none) (cat d0 [((some (len d2)), none)]) (len d0)).1 none (fun p0 => (bd (rwA s.2.2.2.2.1 p0) (fun p1 => (gd (ige s.1.1) (gd (nlt (nN s.1.1) (len p1)) (bd (rwA s.2.2.2.2.1 p0) (fun p2 => (k (((iadd IntKind.i64 s.1.1 1), ()), ((), ((), ((), ((upd s.2.2.2.2.1 p0 (some (updF ((0, (0, (0, 0))), (0, 0)) p2 (nN s.1.1) (fun r3 => ((r3.1.1, (r3.1.2.1, ((-1), r3.1.2.2.2))), r3.2))))), ())))))))))))))) (opt (nth (none, none) (cat d0 [((some (len d2)), none)]) (len d0)).1 none (fun p4 => (bd (rwA s.2.2.2.2.1 p4) (fun p5 => (gd (nlt 0 (len p5)) (bd (rwA s.2.2.2.2.1 p4) (fun p6 => (opt (nth (none, none) (cat d0 [((some (len d2)), none)]) (len d0)).1 (bd (g.plan_Immortal (a0.1, (a0.2.1, (a0.2.2.1, a0.2.2.2)))) (fun p7 => none)) (fun p8 => (bd (g.plan_Immortal (a0.1, (a0.2.1, (a0.2.2.1, a0.2.2.2)))) (fun p9 => (bd (rwA (upd s.2.2.2.2.1 p4 (some (updF ((0, (0, (0, 0))), (0, 0)) p6 0 (fun r10 => ((2, (1, ((-1), 0))), r10.2))))) p8) (fun p11 => (gd (nlt 0 (len p11)) (bd (rwA (upd s.2.2.2.2.1 p4 (some (updF ((0, (0, (0, 0))), (0, 0)) p6 0 (fun r12 => ((2, (1, ((-1), 0))), r12.2))))) p8) (fun p13 => (bd (g.plan_Heap (a0.1, (a0.2.1, (a0.2.2.1, a0.2.2.2)))) (fun p14 => (bd (g.ground_New p14.1.1.1 p14.1.1.2 d1 d3) (fun p15 => (opt p15.1.1 (some (((some (len d0)), (0, ())), ((updF (none, none) (cat d0 [((some (len d2)), none)]) (len d0) (fun r16 => (r16.1, none))), (p15.2.1, ((upd (upd s.2.2.2.2.1 p4 (some (updF ((0, (0, (0, 0))), (0, 0)) p6 0 (fun r16 => ((2, (1, ((-1), 0))), r16.2))))) p8 (some (updF ((0, (0, (0, 0))), (0, 0)) p13 0 (fun r16 => (r16.1, (p9.1.1.1, p9.1.1.2)))))), (p15.2.2.1, ())))))) (fun p17 => (some (((some (len d0)), (0, ())), ((updF (none, none) (cat d0 [((some (len d2)), none)]) (len d0) (fun r18 => (r18.1, (some p17)))), (p15.2.1, ((upd (upd s.2.2.2.2.1 p4 (some (updF ((0, (0, (0, 0))), (0, 0)) p6 0 (fun r18 => ((2, (1, ((-1), 0))), r18.2))))) p8 (some (updF ((0, (0, (0, 0))), (0, 0)) p13 0 (fun r18 => (r18.1, (p9.1.1.1, p9.1.1.2)))))), (p15.2.2.1, ())))))))))))))))))))))))))))))
noncomputable def g.scopes_New_l1 (a0 : (Int × U2)) (d0 : T1) (d1 : T2) (d2 : T3) (d3 : T4) (k : (U20 → (Option (U14 × (T1 × U21))))) (s : U20) : (Option (U14 × (T1 × U21))) := (br (ilss s.1.1 0) (opt (nth (none, none) (cat d0 [((some (len d2)), none)]) (len d0)).1 none (fun p0 => (bd (rwA s.2.2.2.2.1 p0) (fun p1 => (gd (ige s.1.1) (gd (nlt (nN s.1.1) (len p1)) (bd (rwA s.2.2.2.2.1 p0) (fun p2 => (k (((iadd IntKind.i64 s.1.1 1), ()), ((), ((), ((), ((upd s.2.2.2.2.1 p0 (some (updF ((0, (0, (0, 0))), (0, 0)) p2 (nN s.1.1) (fun r3 => ((r3.1.1, (r3.1.2.1, ((-1), r3.1.2.2.2))), r3.2))))), ())))))))))))))) (opt (nth (none, none) (cat d0 [((some (len d2)), none)]) (len d0)).1 none (fun p4 => (bd (rwA s.2.2.2.2.1 p4) (fun p5 => (gd (nlt 0 (len p5)) (bd (rwA s.2.2.2.2.1 p4) (fun p6 => (opt (nth (none, none) (cat d0 [((some (len d2)), none)]) (len d0)).1 (bd (g.plan_Immortal (a0.1, (a0.2.1, (a0.2.2.1, a0.2.2.2)))) (fun p7 => none)) (fun p8 => (bd (g.plan_Immortal (a0.1, (a0.2.1, (a0.2.2.1, a0.2.2.2)))) (fun p9 => (bd (rwA (upd s.2.2.2.2.1 p4 (some (updF ((0, (0, (0, 0))), (0, 0)) p6 0 (fun r10 => ((2, (1, ((-1), 0))), r10.2))))) p8) (fun p11 => (gd (nlt 0 (len p11)) (bd (rwA (upd s.2.2.2.2.1 p4 (some (updF ((0, (0, (0, 0))), (0, 0)) p6 0 (fun r12 => ((2, (1, ((-1), 0))), r12.2))))) p8) (fun p13 => (bd (g.plan_Heap (a0.1, (a0.2.1, (a0.2.2.1, a0.2.2.2)))) (fun p14 => (bd (g.ground_New p14.1.1.1 p14.1.1.2 d1 d3) (fun p15 => (opt p15.1.1 (some (((some (len d0)), (0, ())), ((updF (none, none) (cat d0 [((some (len d2)), none)]) (len d0) (fun r16 => (r16.1, none))), (p15.2.1, ((upd (upd s.2.2.2.2.1 p4 (some (updF ((0, (0, (0, 0))), (0, 0)) p6 0 (fun r16 => ((2, (1, ((-1), 0))), r16.2))))) p8 (some (updF ((0, (0, (0, 0))), (0, 0)) p13 0 (fun r16 => (r16.1, (p9.1.1.1, p9.1.1.2)))))), (p15.2.2.1, ())))))) (fun p17 => (some (((some (len d0)), (0, ())), ((updF (none, none) (cat d0 [((some (len d2)), none)]) (len d0) (fun r18 => (r18.1, (some p17)))), (p15.2.1, ((upd (upd s.2.2.2.2.1 p4 (some (updF ((0, (0, (0, 0))), (0, 0)) p6 0 (fun r18 => ((2, (1, ((-1), 0))), r18.2))))) p8 (some (updF ((0, (0, (0, 0))), (0, 0)) p13 0 (fun r18 => (r18.1, (p9.1.1.1, p9.1.1.2)))))), (p15.2.2.1, ())))))))))))))))))))))))))))))
noncomputable def g.scopes_New (a0 : (Int × U2)) (d0 : T1) (d1 : T2) (d2 : T3) (d3 : T4) : (Option (U14 × (T1 × U21))) := (bd (g.plan_Right (a0.1, (a0.2.1, (a0.2.2.1, a0.2.2.2)))) (fun p0 => (br (bnot p0.1.1) (some ((none, (1, ())), (d0, (d1, (d2, (d3, ())))))) (gd (ige a0.1) (gd (nle (nN a0.1) 16777216) (opt (nth (none, none) (cat d0 [((some (len d2)), none)]) (len d0)).1 (loop (g.scopes_New_l1 a0 d0 d1 d2 d3) ((0, ()), ((), ((), ((), ((cat d2 [(some (rep (α := ((Int × U2) × (Int × Int))) (nN a0.1) ((0, (0, (0, 0))), (0, 0))))]), ())))))) (fun p17 => (bd (rwA (cat d2 [(some (rep (α := ((Int × U2) × (Int × Int))) (nN a0.1) ((0, (0, (0, 0))), (0, 0))))]) p17) (fun p18 => (loop (g.scopes_New_l0 a0 d0 d1 d2 d3 p18) ((0, ()), ((), ((), ((), ((cat d2 [(some (rep (α := ((Int × U2) × (Int × Int))) (nN a0.1) ((0, (0, (0, 0))), (0, 0))))]), ())))))))))))))))
noncomputable def F37 : Plain sg37 := fun x c d => g.scopes_New x.1 d.1 d.2.1 d.2.2.1 d.2.2.2.1
theorem ct37 : CtOk Tryz.prog 37 sg37 F37 := ct_of envok mixed fnok (hm := homes) (ctC_ok ct35 (ctC_ok ct74 (ctC_ok ct75 (ctC_ok ct76 (ctN_ok))))) 8 (fun x c d => by kernel_rfl)
noncomputable def sg38 : Sig := ⟨[(false, (.slc (.pair (.int .u8) (.pair (.int .i64) (.int .i64)))))], [(false, (.slc (.pair (.int .u8) (.pair (.int .i64) (.int .i64)))))], [], []⟩
noncomputable def g.slices_Clone (a0 : (List U2)) : (Option (((List U2) × Unit) × Unit)) := (gd (nle (nadd 0 (len a0)) 16777216) (some (((cat [] a0), ()), ())))
noncomputable def F38 : Plain sg38 := fun x c d => g.slices_Clone x.1
theorem ct38 : CtOk Tryz.prog 38 sg38 F38 := ct_nil (cxF_ok envok mixed fnok (hm := homes) (ctN_ok) 8) (t := (.pair (.int .u8) (.pair (.int .i64) (.int .i64)))) (rs := [(false, .slc (.pair (.int .u8) (.pair (.int .i64) (.int .i64))))]) (F := fun l => F38 (l, ()) () ()) (by kernel_rfl) (fun l => by kernel_rfl)
noncomputable def sg12 : Sig := ⟨[(true, (.pair (.int .i64) (.pair (.int .i64) (.pair (.int .i64) (.int .i64))))), (false, (.slc (.slc (.pair (.int .u8) (.pair (.int .i64) (.int .i64))))))], [(false, (.ptr 0)), (false, (.int .i64))], [(8, R8), (9, R9), (10, R10)], [(0, R0), (1, R1), (2, R2), (3, R3), (4, R4), (5, R5), (6, R6), (7, R7)]⟩
noncomputable def g.model_New_l0 (a0 : (Int × U2)) (a1 : (List (List U2))) (d0 : T0) (d5 : T5) (d6 : T6) (d7 : T7) (v0 : Nat) (v1 : (U14 × (T1 × U21))) (k : (U16 → (Option U3))) (s : U16) : (Option U3) := (br (ilss s.1.1 (zN (len a1))) (gd (ige s.1.1) (gd (nlt (nN s.1.1) (len a1)) (bd (g.slices_Clone (nth [] a1 (nN s.1.1))) (fun p0 => (gd (ige s.1.1) (gd (nlt (nN s.1.1) (len s.2.1.1)) (k (((iadd IntKind.i64 s.1.1 1), ()), (((upd s.2.1.1 (nN s.1.1) p0.1.1), ()), ((), ((), ()))))))))))) (gd (ige a0.1) (gd (nle (nN a0.1) 16777216) (gd (ige a0.2.1) (gd (nle (nN a0.2.1) 16777216) (some (((some (len d0)), (0, ())), ((cat d0 [((a0.1, (a0.2.1, (a0.2.2.1, a0.2.2.2))), (s.2.1.1, ((some v0), ((some (len d5)), ((some (len d6)), (some (len d7)))))))]), (v1.2.1, (v1.2.2.1, (v1.2.2.2.1, (v1.2.2.2.2.1, ((cat d5 [(some (rep (α := (Int × (Int × (Option Nat)))) (nN a0.1) (0, (0, none))))]), ((cat d6 [(some (rep (α := ((List Int) × U19)) (nN a0.2.1) ([0, 0, 0, 0], [])))]), ((cat d7 [[]]), ())))))))))))))))
noncomputable def g.model_New_l1 (a0 : (Int × U2)) (a1 : (List (List U2))) (d0 : T0) (d5 : T5) (d6 : T6) (d7 : T7) (v0 : (U14 × (T1 × U21))) (k : (U16 → (Option U3))) (s : U16) : (Option U3) := (br (ilss s.1.1 (zN (len a1))) (gd (ige s.1.1) (gd (nlt (nN s.1.1) (len a1)) (bd (g.slices_Clone (nth [] a1 (nN s.1.1))) (fun p0 => (gd (ige s.1.1) (gd (nlt (nN s.1.1) (len s.2.1.1)) (k (((iadd IntKind.i64 s.1.1 1), ()), (((upd s.2.1.1 (nN s.1.1) p0.1.1), ()), ((), ((), ()))))))))))) (gd (ige a0.1) (gd (nle (nN a0.1) 16777216) (gd (ige a0.2.1) (gd (nle (nN a0.2.1) 16777216) (some (((some (len d0)), (0, ())), ((cat d0 [((a0.1, (a0.2.1, (a0.2.2.1, a0.2.2.2))), (s.2.1.1, (none, ((some (len d5)), ((some (len d6)), (some (len d7)))))))]), (v0.2.1, (v0.2.2.1, (v0.2.2.2.1, (v0.2.2.2.2.1, ((cat d5 [(some (rep (α := (Int × (Int × (Option Nat)))) (nN a0.1) (0, (0, none))))]), ((cat d6 [(some (rep (α := ((List Int) × U19)) (nN a0.2.1) ([0, 0, 0, 0], [])))]), ((cat d7 [[]]), ())))))))))))))))
noncomputable def g.model_New (a0 : (Int × U2)) (a1 : (List (List U2))) (c0 : T8) (c1 : T9) (c2 : T10) (d0 : T0) (d1 : T1) (d2 : T2) (d3 : T3) (d4 : T4) (d5 : T5) (d6 : T6) (d7 : T7) : (Option U3) := (jn (fun (k0 : (Unit × U0) → _) => (bd (g.plan_Right (a0.1, (a0.2.1, (a0.2.2.1, a0.2.2.2)))) (fun p1 => (br (bnot p1.1.1) (some ((none, (1, ())), (d0, (d1, (d2, (d3, (d4, (d5, (d6, (d7, ())))))))))) (bd (g.fin_Right a1) (fun p2 => (br (bnot p2.1.1) (some ((none, (1, ())), (d0, (d1, (d2, (d3, (d4, (d5, (d6, (d7, ())))))))))) (k0 ((), ((), ((), ((), ())))))))))))) (fun (s3 : (Unit × U0)) => (bd (g.scopes_New (a0.1, (a0.2.1, (a0.2.2.1, a0.2.2.2))) d1 d2 d3 d4) (fun p4 => (opt p4.1.1 (gd (ige (zN (len a1))) (gd (nle (nN (zN (len a1))) 16777216) (loop (g.model_New_l1 a0 a1 d0 d5 d6 d7 p4) ((0, ()), (((rep (α := (List U2)) (nN (zN (len a1))) []), ()), ((), ((), ()))))))) (fun p8 => (gd (ige (zN (len a1))) (gd (nle (nN (zN (len a1))) 16777216) (loop (g.model_New_l0 a0 a1 d0 d5 d6 d7 p8 p4) ((0, ()), (((rep (α := (List U2)) (nN (zN (len a1))) []), ()), ((), ((), ())))))))))))))
noncomputable def F12 : Plain sg12 := fun x c d => g.model_New x.1 x.2.1 c.1 c.2.1 c.2.2.1 d.1 d.2.1 d.2.2.1 d.2.2.2.1 d.2.2.2.2.1 d.2.2.2.2.2.1 d.2.2.2.2.2.2.1 d.2.2.2.2.2.2.2.1
theorem ct12 : CtOk Tryz.prog 12 sg12 F12 := ct_of envok mixed fnok (hm := homes) (ctC_ok ct35 (ctC_ok ct36 (ctC_ok ct37 (ctC_ok ct38 (ctN_ok))))) 8 (fun x c d => by kernel_rfl)
noncomputable def sg13 : Sig := ⟨[], [(true, (.pair (.int .i64) (.pair (.int .i64) (.pair (.int .i64) (.int .i64)))))], [], []⟩
noncomputable def g.penfoldlaw12_some : (Option (((Int × U2) × Unit) × Unit)) := (some (((4, (2, (128, 512))), ()), ()))
noncomputable def F13 : Plain sg13 := fun x c d => g.penfoldlaw12_some
theorem ct13 : CtOk Tryz.prog 13 sg13 F13 := ct_of envok mixed fnok (hm := homes) (ctN_ok) 8 (fun x c d => by kernel_rfl)
noncomputable def sg52 : Sig := ⟨[(true, (.pair (.int .u8) (.pair (.int .u8) (.pair (.int .u8) (.pair (.int .u8) (.pair (.int .i64) (.pair (.int .i64) (.int .i64))))))))], [(false, .bool)], [], []⟩
noncomputable def g.model_registers_l0 (k : (U6 → U10)) (s : U6) : U10 := (br (ilss s.1.1 0) none (some ((true, ()), ())))
noncomputable def g.model_registers_l1 (a0 : U8) (k : (U6 → U10)) (s : U6) : U10 := (br (ilss s.1.1 (zN (len [a0.2.2.2.1]))) (gd (ige s.1.1) (gd (nlt (nN s.1.1) (len [a0.2.2.2.1])) (br (ileq 4 (nth 0 [a0.2.2.2.1] (nN s.1.1))) (some (((bnot (ileq 0 s.1.1)), ()), ())) (k (((iadd IntKind.i64 s.1.1 1), ()), ((), ((), ((), ())))))))) (some ((true, ()), ())))
noncomputable def g.model_registers_l2 (a0 : U8) (k : (U6 → U10)) (s : U6) : U10 := (br (ilss s.1.1 (zN (len [a0.2.2.1, a0.2.2.2.1]))) (gd (ige s.1.1) (gd (nlt (nN s.1.1) (len [a0.2.2.1, a0.2.2.2.1])) (br (ileq 4 (nth 0 [a0.2.2.1, a0.2.2.2.1] (nN s.1.1))) (some (((bnot (ileq 0 s.1.1)), ()), ())) (k (((iadd IntKind.i64 s.1.1 1), ()), ((), ((), ((), ())))))))) (some ((true, ()), ())))
noncomputable def g.model_registers_l3 (a0 : U8) (k : (U6 → U10)) (s : U6) : U10 := (br (ilss s.1.1 (zN (len [a0.2.1, a0.2.2.1]))) (gd (ige s.1.1) (gd (nlt (nN s.1.1) (len [a0.2.1, a0.2.2.1])) (br (ileq 4 (nth 0 [a0.2.1, a0.2.2.1] (nN s.1.1))) (some (((bnot (ileq 0 s.1.1)), ()), ())) (k (((iadd IntKind.i64 s.1.1 1), ()), ((), ((), ((), ())))))))) (some ((true, ()), ())))
noncomputable def g.model_registers_l4 (a0 : U8) (k : (U6 → U10)) (s : U6) : U10 := (br (ilss s.1.1 (zN (len [a0.2.1]))) (gd (ige s.1.1) (gd (nlt (nN s.1.1) (len [a0.2.1])) (br (ileq 4 (nth 0 [a0.2.1] (nN s.1.1))) (some (((bnot (ileq 0 s.1.1)), ()), ())) (k (((iadd IntKind.i64 s.1.1 1), ()), ((), ((), ((), ())))))))) (some ((true, ()), ())))
noncomputable def g.model_registers (a0 : U8) : U10 := (br (ieql a0.1 1) (loop (g.model_registers_l4 a0) ((0, ()), ((), ((), ((), ()))))) (br (ieql a0.1 7) (loop (g.model_registers_l4 a0) ((0, ()), ((), ((), ((), ()))))) (br (ieql a0.1 10) (loop (g.model_registers_l4 a0) ((0, ()), ((), ((), ((), ()))))) (br (ieql a0.1 8) (loop (g.model_registers_l3 a0) ((0, ()), ((), ((), ((), ()))))) (br (ieql a0.1 9) (loop (g.model_registers_l2 a0) ((0, ()), ((), ((), ((), ()))))) (br (ieql a0.1 11) (loop (g.model_registers_l1 a0) ((0, ()), ((), ((), ((), ()))))) (loop g.model_registers_l0 ((0, ()), ((), ((), ((), ())))))))))))
noncomputable def F52 : Plain sg52 := fun x c d => g.model_registers x.1
theorem ct52 : CtOk Tryz.prog 52 sg52 F52 := ct_of envok mixed fnok (hm := homes) (ctN_ok) 8 (fun x c d => by kernel_rfl)
noncomputable def sg53 : Sig := ⟨[(false, (.int .i64))], [(true, (.pair (.int .i64) (.pair (.int .i64) (.slc (.int .i64)))))], [], []⟩
noncomputable def g.model_code (a0 : Int) : (Option (((Int × (Int × (List Int))) × Unit) × Unit)) := (some (((a0, (0, [])), ()), ()))
noncomputable def F53 : Plain sg53 := fun x c d => g.model_code x.1
theorem ct53 : CtOk Tryz.prog 53 sg53 F53 := ct_of envok mixed fnok (hm := homes) (ctN_ok) 8 (fun x c d => by kernel_rfl)
noncomputable def sg54 : Sig := ⟨[(false, (.nptr 1)), (false, (.int .i64))], [(true, (.pair (.int .i64) (.pair (.int .i64) (.pair (.int .i64) (.int .i64))))), (false, (.int .i64))], [(1, R1), (2, R2), (3, R3), (4, R4)], []⟩
noncomputable def g.scopes_Scopes_Ctl (a0 : Nat) (a1 : Int) (c0 : T1) (c1 : T2) (c2 : T3) (c3 : T4) : (Option (((Int × U2) × (Int × Unit)) × Unit)) := (opt (nth (none, none) c0 a0).1 (bd (g.num_Within a1 0 (-1)) (fun p0 => (br (bnot p0.1.1) (some (((0, (0, (0, 0))), (11, ())), ())) (opt (nth (none, none) c0 a0).1 none (fun p1 => (bd (rwA c2 p1) (fun p2 => (gd (ige a1) (gd (nlt (nN a1) (len p2)) (bd (rwA c2 p1) (fun p3 => (some ((((nth ((0, (0, (0, 0))), (0, 0)) p3 (nN a1)).1.1, ((nth ((0, (0, (0, 0))), (0, 0)) p3 (nN a1)).1.2.1, ((nth ((0, (0, (0, 0))), (0, 0)) p3 (nN a1)).1.2.2.1, (nth ((0, (0, (0, 0))), (0, 0)) p3 (nN a1)).1.2.2.2))), (0, ())), ()))))))))))))) (fun p4 => (bd (rwA c2 p4) (fun p5 => (bd (g.num_Within a1 0 (isub IntKind.i64 (zN (len p5)) 1)) (fun p6 => (br (bnot p6.1.1) (some (((0, (0, (0, 0))), (11, ())), ())) (opt (nth (none, none) c0 a0).1 none (fun p7 => (bd (rwA c2 p7) (fun p8 => (gd (ige a1) (gd (nlt (nN a1) (len p8)) (bd (rwA c2 p7) (fun p9 => (some ((((nth ((0, (0, (0, 0))), (0, 0)) p9 (nN a1)).1.1, ((nth ((0, (0, (0, 0))), (0, 0)) p9 (nN a1)).1.2.1, ((nth ((0, (0, (0, 0))), (0, 0)) p9 (nN a1)).1.2.2.1, (nth ((0, (0, (0, 0))), (0, 0)) p9 (nN a1)).1.2.2.2))), (0, ())), ())))))))))))))))))
noncomputable def F54 : Plain sg54 := fun x c d => g.scopes_Scopes_Ctl x.1 x.2.1 c.1 c.2.1 c.2.2.1 c.2.2.2.1
theorem ct54 : CtOk Tryz.prog 54 sg54 F54 := ct_of envok mixed fnok (hm := homes) (ctC_ok ct39 (ctN_ok)) 8 (fun x c d => by kernel_rfl)
noncomputable def sg116 : Sig := ⟨[(true, (.pair (.int .i64) (.pair (.int .i64) (.int .i64))))], [(false, (.int .u64)), (false, (.int .i64))], [], []⟩
noncomputable def g.ref_Pack (a0 : U2) : (Option (U15 × Unit)) := (jn (fun (k0 : (Unit × U0) → _) => (bd (g.num_Within a0.1 0 7) (fun p1 => (br (bnot p1.1.1) (some ((0, (1, ())), ())) (bd (g.num_Within a0.2.1 0 16777215) (fun p2 => (br (bnot p2.1.1) (some ((0, (1, ())), ())) (bd (g.num_Within a0.2.2 8 65528) (fun p3 => (br (bnot p3.1.1) (some ((0, (1, ())), ())) (br (bnot (ieql (irem a0.2.2 8) 0)) (some ((0, (1, ())), ())) (k0 ((), ((), ((), ((), ())))))))))))))))) (fun (s4 : (Unit × U0)) => (some (((bits BinOp.or IntKind.u64 (bits BinOp.or IntKind.u64 (wrp IntKind.u64 (iquo IntKind.i64 a0.2.2 8)) (ishl IntKind.u64 (wrp IntKind.u64 a0.1) 24)) (ishl IntKind.u64 (wrp IntKind.u64 a0.2.1) 32)), (0, ())), ()))))
noncomputable def F116 : Plain sg116 := fun x c d => g.ref_Pack x.1
theorem ct116 : CtOk Tryz.prog 116 sg116 F116 := ct_of envok mixed fnok (hm := homes) (ctC_ok ct39 (ctN_ok)) 8 (fun x c d => by kernel_rfl)
noncomputable def sg70 : Sig := ⟨[(false, (.int .u64))], [(true, (.pair (.int .i64) (.pair (.int .i64) (.int .i64)))), (false, (.int .i64))], [], []⟩
noncomputable def g.ref_Unpack (a0 : Int) : (Option ((U2 × (Int × Unit)) × Unit)) := (bd (g.ref_Pack ((wrp IntKind.i64 (bits BinOp.and IntKind.u64 (ishr IntKind.u64 a0 24) 255)), ((wrp IntKind.i64 (ishr IntKind.u64 a0 32)), (imul IntKind.i64 (wrp IntKind.i64 (bits BinOp.and IntKind.u64 a0 16777215)) 8)))) (fun p0 => (br (bnot (ieql p0.1.2.1 0)) (some (((0, (0, 0)), (18, ())), ())) (br (bnot (ieql p0.1.1 a0)) (some (((0, (0, 0)), (18, ())), ())) (br (band (ieql (wrp IntKind.i64 (bits BinOp.and IntKind.u64 (ishr IntKind.u64 a0 24) 255)) 0) (band (ieql (wrp IntKind.i64 (ishr IntKind.u64 a0 32)) 0) (band (ieql (imul IntKind.i64 (wrp IntKind.i64 (bits BinOp.and IntKind.u64 a0 16777215)) 8) 0) true))) (some (((0, (0, 0)), (18, ())), ())) (some ((((wrp IntKind.i64 (bits BinOp.and IntKind.u64 (ishr IntKind.u64 a0 24) 255)), ((wrp IntKind.i64 (ishr IntKind.u64 a0 32)), (imul IntKind.i64 (wrp IntKind.i64 (bits BinOp.and IntKind.u64 a0 16777215)) 8))), (0, ())), ())))))))
noncomputable def F70 : Plain sg70 := fun x c d => g.ref_Unpack x.1
theorem ct70 : CtOk Tryz.prog 70 sg70 F70 := ct_of envok mixed fnok (hm := homes) (ctC_ok ct116 (ctN_ok)) 8 (fun x c d => by kernel_rfl)
noncomputable def sg152 : Sig := ⟨[(false, (.int .i64)), (false, (.int .i64))], [(false, (.int .i64)), (false, (.int .i64))], [], []⟩
noncomputable def g.num_Add (a0 : Int) (a1 : Int) : (Option (U15 × Unit)) := (br (bnot (beql (ilss a0 (iadd IntKind.i64 a0 a1)) (ilss 0 a1))) (some ((0, (3, ())), ())) (some (((iadd IntKind.i64 a0 a1), (0, ())), ())))
noncomputable def F152 : Plain sg152 := fun x c d => g.num_Add x.1 x.2.1
theorem ct152 : CtOk Tryz.prog 152 sg152 F152 := ct_of envok mixed fnok (hm := homes) (ctN_ok) 8 (fun x c d => by kernel_rfl)
noncomputable def sg125 : Sig := ⟨[(false, (.int .i64))], [(false, (.int .i64)), (false, (.int .i64))], [], []⟩
noncomputable def g.num_Up (a0 : Int) : (Option (U15 × Unit)) := (br (ilss a0 0) (some ((0, (1, ())), ())) (bd (g.num_Add a0 7) (fun p0 => (br (bnot (ieql p0.1.2.1 0)) (some ((0, (p0.1.2.1, ())), ())) (some (((bits BinOp.andNot IntKind.i64 p0.1.1 7), (0, ())), ()))))))
noncomputable def F125 : Plain sg125 := fun x c d => g.num_Up x.1
theorem ct125 : CtOk Tryz.prog 125 sg125 F125 := ct_of envok mixed fnok (hm := homes) (ctC_ok ct152 (ctN_ok)) 8 (fun x c d => by kernel_rfl)
noncomputable def sg126 : Sig := ⟨[(false, (.nptr 2)), (false, (.int .i64))], [(false, (.int .i64)), (false, .bool)], [], [(2, R2), (4, R4)]⟩
noncomputable def g.ground_Ground_Carve_l0 (a1 : Int) (d1 : T4) (v0 : (List (Int × Int))) (v1 : Nat) (v2 : U6 → U22) (k : (U6 → U22)) (s : U6) : U22 := (br (ilss s.1.1 (zN (len v0))) (bd (rwA d1 v1) (fun p0 => (gd (ige s.1.1) (gd (nlt (nN s.1.1) (len p0)) (bd (rwA d1 v1) (fun p1 => (br (ileq a1 (nth (0, 0) p1 (nN s.1.1)).2) (v2 ((s.1.1, ()), ((), ((), ((), ()))))) (k (((iadd IntKind.i64 s.1.1 1), ()), ((), ((), ((), ())))))))))))) (v2 (((-1), ()), ((), ((), ((), ()))))))
noncomputable def g.ground_Ground_Carve_l1 (v0 : U6 → U22) (k : (U6 → U22)) (s : U6) : U22 := (br (ilss s.1.1 0) none (v0 (((-1), ()), ((), ((), ((), ()))))))
noncomputable def g.ground_Ground_Carve (a0 : Nat) (a1 : Int) (d0 : T2) (d1 : T4) : U22 := (jn (fun (k0 : (Unit × U0) → _) => (br (ilss a1 1) (some ((0, (false, ())), (d0, (d1, ())))) (br (bnot (ieql (irem a1 8) 0)) (some ((0, (false, ())), (d0, (d1, ())))) (k0 ((), ((), ((), ((), ())))))))) (fun (s1 : (Unit × U0)) => (jn (fun (k2 : U6 → _) => (opt (nth (0, (0, none)) d0 a0).2.2 (loop (g.ground_Ground_Carve_l1 k2) ((0, ()), ((), ((), ((), ()))))) (fun p5 => (bd (rwA d1 p5) (fun p6 => (loop (g.ground_Ground_Carve_l0 a1 d1 p6 p5 k2) ((0, ()), ((), ((), ((), ())))))))))) (fun (s11 : U6) => (br (ilss s11.1.1 0) (some ((0, (false, ())), (d0, (d1, ())))) (opt (nth (0, (0, none)) d0 a0).2.2 none (fun p12 => (bd (rwA d1 p12) (fun p13 => (gd (ige s11.1.1) (gd (nlt (nN s11.1.1) (len p13)) (bd (rwA d1 p12) (fun p14 => (bd (rwA d1 p12) (fun p15 => (bd (rwA d1 p12) (fun p16 => (bd (rwA d1 p12) (fun p17 => (bd (rwA (upd d1 p12 (some (updF (0, 0) p17 (nN s11.1.1) (fun r12 => ((iadd IntKind.i64 (nth (0, 0) p15 (nN s11.1.1)).1 a1), r12.2))))) p12) (fun p18 => (bd (rwA (upd (upd d1 p12 (some (updF (0, 0) p17 (nN s11.1.1) (fun r13 => ((iadd IntKind.i64 (nth (0, 0) p15 (nN s11.1.1)).1 a1), r13.2))))) p12 (some (updF (0, 0) p18 (nN s11.1.1) (fun r13 => (r13.1, (isub IntKind.i64 (nth (0, 0) p16 (nN s11.1.1)).2 a1)))))) p12) (fun p19 => (br (ieql (nth (0, 0) p19 (nN s11.1.1)).2 0) (opt (nth (0, (0, none)) d0 a0).2.2 (gd (ieq 0 (iadd IntKind.i64 s11.1.1 1)) (gd (ige s11.1.1) (gd (ige (iadd IntKind.i64 s11.1.1 1)) (gd (nle (nN s11.1.1) (nN (iadd IntKind.i64 s11.1.1 1))) (gd (nle (nN (iadd IntKind.i64 s11.1.1 1)) 0) (br (ieql s11.1.1 (iadd IntKind.i64 s11.1.1 1)) (some (((nth (0, 0) p14 (nN s11.1.1)).1, (true, ())), ((updF (0, (0, none)) d0 a0 (fun r14 => (r14.1, (r14.2.1, none)))), ((upd (upd d1 p12 (some (updF (0, 0) p17 (nN s11.1.1) (fun r14 => ((iadd IntKind.i64 (nth (0, 0) p15 (nN s11.1.1)).1 a1), r14.2))))) p12 (some (updF (0, 0) p18 (nN s11.1.1) (fun r14 => (r14.1, (isub IntKind.i64 (nth (0, 0) p16 (nN s11.1.1)).2 a1)))))), ())))) (gd (ige s11.1.1) (gd (nle 0 (nN s11.1.1)) (gd (nle (nN s11.1.1) 0) (gd (ige (iadd IntKind.i64 s11.1.1 1)) (gd (nle (nN (iadd IntKind.i64 s11.1.1 1)) 0) (gd (nlt 0 0) (some (((nth (0, 0) p14 (nN s11.1.1)).1, (true, ())), ((updF (0, (0, none)) d0 a0 (fun r14 => (r14.1, (r14.2.1, (some (len (upd (upd d1 p12 (some (updF (0, 0) p17 (nN s11.1.1) (fun r15 => ((iadd IntKind.i64 (nth (0, 0) p15 (nN s11.1.1)).1 a1), r15.2))))) p12 (some (updF (0, 0) p18 (nN s11.1.1) (fun r15 => (r15.1, (isub IntKind.i64 (nth (0, 0) p16 (nN s11.1.1)).2 a1)))))))))))), ((cat (upd (upd d1 p12 (some (updF (0, 0) p17 (nN s11.1.1) (fun r14 => ((iadd IntKind.i64 (nth (0, 0) p15 (nN s11.1.1)).1 a1), r14.2))))) p12 (some (updF (0, 0) p18 (nN s11.1.1) (fun r14 => (r14.1, (isub IntKind.i64 (nth (0, 0) p16 (nN s11.1.1)).2 a1)))))) [(some (cat (tk 0 []) (cat (rep (α := (Int × Int)) 0 (0, 0)) (dr 0 []))))]), ())))))))))))))))) (fun p20 => (bd (rwA (upd (upd d1 p12 (some (updF (0, 0) p17 (nN s11.1.1) (fun r15 => ((iadd IntKind.i64 (nth (0, 0) p15 (nN s11.1.1)).1 a1), r15.2))))) p12 (some (updF (0, 0) p18 (nN s11.1.1) (fun r15 => (r15.1, (isub IntKind.i64 (nth (0, 0) p16 (nN s11.1.1)).2 a1)))))) p20) (fun p21 => (bd (rwA (upd (upd d1 p12 (some (updF (0, 0) p17 (nN s11.1.1) (fun r16 => ((iadd IntKind.i64 (nth (0, 0) p15 (nN s11.1.1)).1 a1), r16.2))))) p12 (some (updF (0, 0) p18 (nN s11.1.1) (fun r16 => (r16.1, (isub IntKind.i64 (nth (0, 0) p16 (nN s11.1.1)).2 a1)))))) p20) (fun p22 => (gd (ige s11.1.1) (gd (ige (iadd IntKind.i64 s11.1.1 1)) (gd (ige (zN (len p21))) (gd (nle (nN s11.1.1) (nN (iadd IntKind.i64 s11.1.1 1))) (gd (nle (nN (iadd IntKind.i64 s11.1.1 1)) (nN (zN (len p21)))) (gd (nle (nN (zN (len p21))) (len p22)) (br (ieql s11.1.1 (iadd IntKind.i64 s11.1.1 1)) (some (((nth (0, 0) p14 (nN s11.1.1)).1, (true, ())), ((updF (0, (0, none)) d0 a0 (fun r17 => (r17.1, (r17.2.1, (some p20))))), ((upd (upd d1 p12 (some (updF (0, 0) p17 (nN s11.1.1) (fun r17 => ((iadd IntKind.i64 (nth (0, 0) p15 (nN s11.1.1)).1 a1), r17.2))))) p12 (some (updF (0, 0) p18 (nN s11.1.1) (fun r17 => (r17.1, (isub IntKind.i64 (nth (0, 0) p16 (nN s11.1.1)).2 a1)))))), ())))) (bd (rwA (upd (upd d1 p12 (some (updF (0, 0) p17 (nN s11.1.1) (fun r17 => ((iadd IntKind.i64 (nth (0, 0) p15 (nN s11.1.1)).1 a1), r17.2))))) p12 (some (updF (0, 0) p18 (nN s11.1.1) (fun r17 => (r17.1, (isub IntKind.i64 (nth (0, 0) p16 (nN s11.1.1)).2 a1)))))) p20) (fun p23 => (bd (rwA (upd (upd d1 p12 (some (updF (0, 0) p17 (nN s11.1.1) (fun r18 => ((iadd IntKind.i64 (nth (0, 0) p15 (nN s11.1.1)).1 a1), r18.2))))) p12 (some (updF (0, 0) p18 (nN s11.1.1) (fun r18 => (r18.1, (isub IntKind.i64 (nth (0, 0) p16 (nN s11.1.1)).2 a1)))))) p20) (fun p24 => (gd (ige s11.1.1) (gd (nle 0 (nN s11.1.1)) (gd (nle (nN s11.1.1) (len p24)) (bd (rwA (upd (upd d1 p12 (some (updF (0, 0) p17 (nN s11.1.1) (fun r19 => ((iadd IntKind.i64 (nth (0, 0) p15 (nN s11.1.1)).1 a1), r19.2))))) p12 (some (updF (0, 0) p18 (nN s11.1.1) (fun r19 => (r19.1, (isub IntKind.i64 (nth (0, 0) p16 (nN s11.1.1)).2 a1)))))) p20) (fun p25 => (gd (ige (iadd IntKind.i64 s11.1.1 1)) (gd (nle (nN (iadd IntKind.i64 s11.1.1 1)) (len p25)) (gd (nle (len p25) (len p25)) (bd (rwA (upd (upd d1 p12 (some (updF (0, 0) p17 (nN s11.1.1) (fun r20 => ((iadd IntKind.i64 (nth (0, 0) p15 (nN s11.1.1)).1 a1), r20.2))))) p12 (some (updF (0, 0) p18 (nN s11.1.1) (fun r20 => (r20.1, (isub IntKind.i64 (nth (0, 0) p16 (nN s11.1.1)).2 a1)))))) p20) (fun p26 => (bd (rwA (upd (upd d1 p12 (some (updF (0, 0) p17 (nN s11.1.1) (fun r21 => ((iadd IntKind.i64 (nth (0, 0) p15 (nN s11.1.1)).1 a1), r21.2))))) p12 (some (updF (0, 0) p18 (nN s11.1.1) (fun r21 => (r21.1, (isub IntKind.i64 (nth (0, 0) p16 (nN s11.1.1)).2 a1)))))) p20) (fun p27 => (gd (nle (nadd (nsub (nN s11.1.1) 0) (len (tk (nsub (len p25) (nN (iadd IntKind.i64 s11.1.1 1))) (dr (nN (iadd IntKind.i64 s11.1.1 1)) p26)))) (len p27)) (bd (rwA (upd (upd (upd d1 p12 (some (updF (0, 0) p17 (nN s11.1.1) (fun r22 => ((iadd IntKind.i64 (nth (0, 0) p15 (nN s11.1.1)).1 a1), r22.2))))) p12 (some (updF (0, 0) p18 (nN s11.1.1) (fun r22 => (r22.1, (isub IntKind.i64 (nth (0, 0) p16 (nN s11.1.1)).2 a1)))))) p20 (some (cat (tk (nsub (nN s11.1.1) 0) p27) (cat (tk (nsub (len p25) (nN (iadd IntKind.i64 s11.1.1 1))) (dr (nN (iadd IntKind.i64 s11.1.1 1)) p26)) (dr (nadd (nsub (nN s11.1.1) 0) (len (tk (nsub (len p25) (nN (iadd IntKind.i64 s11.1.1 1))) (dr (nN (iadd IntKind.i64 s11.1.1 1)) p26)))) p27))))) p20) (fun p28 => (gd (ige (zN (nadd (nsub (nN s11.1.1) 0) (len (tk (nsub (len p25) (nN (iadd IntKind.i64 s11.1.1 1))) (dr (nN (iadd IntKind.i64 s11.1.1 1)) p26)))))) (gd (ige (zN (len p23))) (gd (nle (nN (zN (nadd (nsub (nN s11.1.1) 0) (len (tk (nsub (len p25) (nN (iadd IntKind.i64 s11.1.1 1))) (dr (nN (iadd IntKind.i64 s11.1.1 1)) p26)))))) (nN (zN (len p23)))) (gd (nle (nadd 0 (nN (zN (len p23)))) (len p28)) (bd (rwA (upd (upd (upd d1 p12 (some (updF (0, 0) p17 (nN s11.1.1) (fun r23 => ((iadd IntKind.i64 (nth (0, 0) p15 (nN s11.1.1)).1 a1), r23.2))))) p12 (some (updF (0, 0) p18 (nN s11.1.1) (fun r23 => (r23.1, (isub IntKind.i64 (nth (0, 0) p16 (nN s11.1.1)).2 a1)))))) p20 (some (cat (tk (nsub (nN s11.1.1) 0) p27) (cat (tk (nsub (len p25) (nN (iadd IntKind.i64 s11.1.1 1))) (dr (nN (iadd IntKind.i64 s11.1.1 1)) p26)) (dr (nadd (nsub (nN s11.1.1) 0) (len (tk (nsub (len p25) (nN (iadd IntKind.i64 s11.1.1 1))) (dr (nN (iadd IntKind.i64 s11.1.1 1)) p26)))) p27))))) p20) (fun p29 => (gd (nlt 0 (nsub (nN (zN (len p23))) (nN (zN (nadd (nsub (nN s11.1.1) 0) (len (tk (nsub (len p25) (nN (iadd IntKind.i64 s11.1.1 1))) (dr (nN (iadd IntKind.i64 s11.1.1 1)) p26)))))))) (bd (rwA (upd (upd (upd (upd d1 p12 (some (updF (0, 0) p17 (nN s11.1.1) (fun r24 => ((iadd IntKind.i64 (nth (0, 0) p15 (nN s11.1.1)).1 a1), r24.2))))) p12 (some (updF (0, 0) p18 (nN s11.1.1) (fun r24 => (r24.1, (isub IntKind.i64 (nth (0, 0) p16 (nN s11.1.1)).2 a1)))))) p20 (some (cat (tk (nsub (nN s11.1.1) 0) p27) (cat (tk (nsub (len p25) (nN (iadd IntKind.i64 s11.1.1 1))) (dr (nN (iadd IntKind.i64 s11.1.1 1)) p26)) (dr (nadd (nsub (nN s11.1.1) 0) (len (tk (nsub (len p25) (nN (iadd IntKind.i64 s11.1.1 1))) (dr (nN (iadd IntKind.i64 s11.1.1 1)) p26)))) p27))))) p20 (some (cat (tk (nadd 0 (nN (zN (nadd (nsub (nN s11.1.1) 0) (len (tk (nsub (len p25) (nN (iadd IntKind.i64 s11.1.1 1))) (dr (nN (iadd IntKind.i64 s11.1.1 1)) p26))))))) p29) (cat (rep (α := (Int × Int)) (nsub (nN (zN (len p23))) (nN (zN (nadd (nsub (nN s11.1.1) 0) (len (tk (nsub (len p25) (nN (iadd IntKind.i64 s11.1.1 1))) (dr (nN (iadd IntKind.i64 s11.1.1 1)) p26))))))) (0, 0)) (dr (nadd (nadd 0 (nN (zN (nadd (nsub (nN s11.1.1) 0) (len (tk (nsub (len p25) (nN (iadd IntKind.i64 s11.1.1 1))) (dr (nN (iadd IntKind.i64 s11.1.1 1)) p26))))))) (nsub (nN (zN (len p23))) (nN (zN (nadd (nsub (nN s11.1.1) 0) (len (tk (nsub (len p25) (nN (iadd IntKind.i64 s11.1.1 1))) (dr (nN (iadd IntKind.i64 s11.1.1 1)) p26)))))))) p29))))) p20) (fun p30 => (some (((nth (0, 0) p14 (nN s11.1.1)).1, (true, ())), ((updF (0, (0, none)) d0 a0 (fun r25 => (r25.1, (r25.2.1, (some (len (upd (upd (upd (upd d1 p12 (some (updF (0, 0) p17 (nN s11.1.1) (fun r26 => ((iadd IntKind.i64 (nth (0, 0) p15 (nN s11.1.1)).1 a1), r26.2))))) p12 (some (updF (0, 0) p18 (nN s11.1.1) (fun r26 => (r26.1, (isub IntKind.i64 (nth (0, 0) p16 (nN s11.1.1)).2 a1)))))) p20 (some (cat (tk (nsub (nN s11.1.1) 0) p27) (cat (tk (nsub (len p25) (nN (iadd IntKind.i64 s11.1.1 1))) (dr (nN (iadd IntKind.i64 s11.1.1 1)) p26)) (dr (nadd (nsub (nN s11.1.1) 0) (len (tk (nsub (len p25) (nN (iadd IntKind.i64 s11.1.1 1))) (dr (nN (iadd IntKind.i64 s11.1.1 1)) p26)))) p27))))) p20 (some (cat (tk (nadd 0 (nN (zN (nadd (nsub (nN s11.1.1) 0) (len (tk (nsub (len p25) (nN (iadd IntKind.i64 s11.1.1 1))) (dr (nN (iadd IntKind.i64 s11.1.1 1)) p26))))))) p29) (cat (rep (α := (Int × Int)) (nsub (nN (zN (len p23))) (nN (zN (nadd (nsub (nN s11.1.1) 0) (len (tk (nsub (len p25) (nN (iadd IntKind.i64 s11.1.1 1))) (dr (nN (iadd IntKind.i64 s11.1.1 1)) p26))))))) (0, 0)) (dr (nadd (nadd 0 (nN (zN (nadd (nsub (nN s11.1.1) 0) (len (tk (nsub (len p25) (nN (iadd IntKind.i64 s11.1.1 1))) (dr (nN (iadd IntKind.i64 s11.1.1 1)) p26))))))) (nsub (nN (zN (len p23))) (nN (zN (nadd (nsub (nN s11.1.1) 0) (len (tk (nsub (len p25) (nN (iadd IntKind.i64 s11.1.1 1))) (dr (nN (iadd IntKind.i64 s11.1.1 1)) p26)))))))) p29))))))))))), ((cat (upd (upd (upd (upd (upd d1 p12 (some (updF (0, 0) p17 (nN s11.1.1) (fun r25 => ((iadd IntKind.i64 (nth (0, 0) p15 (nN s11.1.1)).1 a1), r25.2))))) p12 (some (updF (0, 0) p18 (nN s11.1.1) (fun r25 => (r25.1, (isub IntKind.i64 (nth (0, 0) p16 (nN s11.1.1)).2 a1)))))) p20 (some (cat (tk (nsub (nN s11.1.1) 0) p27) (cat (tk (nsub (len p25) (nN (iadd IntKind.i64 s11.1.1 1))) (dr (nN (iadd IntKind.i64 s11.1.1 1)) p26)) (dr (nadd (nsub (nN s11.1.1) 0) (len (tk (nsub (len p25) (nN (iadd IntKind.i64 s11.1.1 1))) (dr (nN (iadd IntKind.i64 s11.1.1 1)) p26)))) p27))))) p20 (some (cat (tk (nadd 0 (nN (zN (nadd (nsub (nN s11.1.1) 0) (len (tk (nsub (len p25) (nN (iadd IntKind.i64 s11.1.1 1))) (dr (nN (iadd IntKind.i64 s11.1.1 1)) p26))))))) p29) (cat (rep (α := (Int × Int)) (nsub (nN (zN (len p23))) (nN (zN (nadd (nsub (nN s11.1.1) 0) (len (tk (nsub (len p25) (nN (iadd IntKind.i64 s11.1.1 1))) (dr (nN (iadd IntKind.i64 s11.1.1 1)) p26))))))) (0, 0)) (dr (nadd (nadd 0 (nN (zN (nadd (nsub (nN s11.1.1) 0) (len (tk (nsub (len p25) (nN (iadd IntKind.i64 s11.1.1 1))) (dr (nN (iadd IntKind.i64 s11.1.1 1)) p26))))))) (nsub (nN (zN (len p23))) (nN (zN (nadd (nsub (nN s11.1.1) 0) (len (tk (nsub (len p25) (nN (iadd IntKind.i64 s11.1.1 1))) (dr (nN (iadd IntKind.i64 s11.1.1 1)) p26)))))))) p29))))) p20 none) [(some (tk (nadd (nsub (nN s11.1.1) 0) (len (tk (nsub (len p25) (nN (iadd IntKind.i64 s11.1.1 1))) (dr (nN (iadd IntKind.i64 s11.1.1 1)) p26)))) p30))]), ()))))))))))))))))))))))))))))))))))))))))))))) (some (((nth (0, 0) p14 (nN s11.1.1)).1, (true, ())), (d0, ((upd (upd d1 p12 (some (updF (0, 0) p17 (nN s11.1.1) (fun r14 => ((iadd IntKind.i64 (nth (0, 0) p15 (nN s11.1.1)).1 a1), r14.2))))) p12 (some (updF (0, 0) p18 (nN s11.1.1) (fun r14 => (r14.1, (isub IntKind.i64 (nth (0, 0) p16 (nN s11.1.1)).2 a1)))))), ()))))))))))))))))))))))))))))
noncomputable def F126 : Plain sg126 := fun x c d => g.ground_Ground_Carve x.1 x.2.1 d.1 d.2.1
theorem ct126 : CtOk Tryz.prog 126 sg126 F126 := ct_of envok mixed fnok (hm := homes) (ctN_ok) 8 (fun x c d => by kernel_rfl)
noncomputable def sg77 : Sig := ⟨[(false, (.nptr 1)), (false, (.int .i64))], [(false, (.int .i64)), (false, (.int .i64))], [(1, R1)], [(2, R2), (3, R3), (4, R4)]⟩
noncomputable def g.scopes_Scopes_Create_l0 (d1 : T3) (v0 : (List ((Int × U2) × (Int × Int)))) (v1 : Nat) (v2 : U6 → (Option (U15 × U21))) (k : (U6 → (Option (U15 × U21)))) (s : U6) : (Option (U15 × U21)) := (br (ilss s.1.1 (zN (len v0))) (bd (rwA d1 v1) (fun p0 => (gd (ige s.1.1) (gd (nlt (nN s.1.1) (len p0)) (bd (rwA d1 v1) (fun p1 => (br (ieql (nth ((0, (0, (0, 0))), (0, 0)) p1 (nN s.1.1)).1.1 0) (v2 ((s.1.1, ()), ((), ((), ((), ()))))) (k (((iadd IntKind.i64 s.1.1 1), ()), ((), ((), ((), ())))))))))))) (v2 (((-1), ()), ((), ((), ((), ()))))))
noncomputable def g.scopes_Scopes_Create_l1 (v0 : U6 → (Option (U15 × U21))) (k : (U6 → (Option (U15 × U21)))) (s : U6) : (Option (U15 × U21)) := (br (ilss s.1.1 0) none (v0 (((-1), ()), ((), ((), ((), ()))))))
noncomputable def g.scopes_Scopes_Create (a0 : Nat) (a1 : Int) (c0 : T1) (d0 : T2) (d1 : T3) (d2 : T4) : (Option (U15 × U21)) := (bd (g.num_Within a1 1 8192) (fun p0 => (br (bnot p0.1.1) (some ((0, (1, ())), (d0, (d1, (d2, ()))))) (jn (fun (k1 : U6 → _) => (opt (nth (none, none) c0 a0).1 (loop (g.scopes_Scopes_Create_l1 k1) ((0, ()), ((), ((), ((), ()))))) (fun p4 => (bd (rwA d1 p4) (fun p5 => (loop (g.scopes_Scopes_Create_l0 d1 p5 p4 k1) ((0, ()), ((), ((), ((), ())))))))))) (fun (s10 : U6) => (br (ilss s10.1.1 0) (some ((0, (13, ())), (d0, (d1, (d2, ()))))) (bd (g.num_Up a1) (fun p11 => (opt (nth (none, none) c0 a0).2 none (fun p12 => (bd (g.ground_Ground_Carve p12 p11.1.1 d0 d2) (fun p13 => (br (bnot p13.1.2.1) (some ((0, (14, ())), (p13.2.1, (d1, (p13.2.2.1, ()))))) (opt (nth (none, none) c0 a0).1 none (fun p14 => (bd (rwA d1 p14) (fun p15 => (gd (ige s10.1.1) (gd (nlt (nN s10.1.1) (len p15)) (bd (rwA d1 p14) (fun p16 => (opt (nth (none, none) c0 a0).1 none (fun p17 => (bd (rwA (upd d1 p14 (some (updF ((0, (0, (0, 0))), (0, 0)) p16 (nN s10.1.1) (fun r15 => ((1, r15.1.2), r15.2))))) p17) (fun p18 => (gd (ige s10.1.1) (gd (nlt (nN s10.1.1) (len p18)) (bd (rwA (upd d1 p14 (some (updF ((0, (0, (0, 0))), (0, 0)) p16 (nN s10.1.1) (fun r16 => ((1, r16.1.2), r16.2))))) p17) (fun p19 => (some ((s10.1.1, (0, ())), (p13.2.1, ((upd (upd d1 p14 (some (updF ((0, (0, (0, 0))), (0, 0)) p16 (nN s10.1.1) (fun r17 => ((1, r17.1.2), r17.2))))) p17 (some (updF ((0, (0, (0, 0))), (0, 0)) p19 (nN s10.1.1) (fun r17 => (r17.1, (p13.1.1, p11.1.1)))))), (p13.2.2.1, ()))))))))))))))))))))))))))))))))))
noncomputable def F77 : Plain sg77 := fun x c d => g.scopes_Scopes_Create x.1 x.2.1 c.1 d.1 d.2.1 d.2.2.1
theorem ct77 : CtOk Tryz.prog 77 sg77 F77 := ct_of envok mixed fnok (hm := homes) (ctC_ok ct39 (ctC_ok ct125 (ctC_ok ct126 (ctN_ok)))) 8 (fun x c d => by kernel_rfl)
noncomputable def sg127 : Sig := ⟨[(false, (.nptr 2)), (false, (.int .i64)), (false, (.int .i64))], [(false, (.int .i64))], [], [(2, R2), (4, R4)]⟩
noncomputable def g.ground_Ground_Give_l0 (a0 : Nat) (a1 : Int) (a2 : Int) (v0 : U6) (v1 : (List (Int × Int))) (v2 : (List (Int × Int))) (v3 : (List (Int × Int))) (k : (U17 → U11)) (s : U17) : U11 := (br (ilss s.1.1 (zN (len (cat (cat (tk (nsub (nN v0.1.1) 0) (dr 0 v1)) [(a1, a2)]) (tk (nsub (len v2) (nN v0.1.1)) (dr (nN v0.1.1) v3)))))) (gd (ige s.1.1) (gd (nlt (nN s.1.1) (len (cat (cat (tk (nsub (nN v0.1.1) 0) (dr 0 v1)) [(a1, a2)]) (tk (nsub (len v2) (nN v0.1.1)) (dr (nN v0.1.1) v3))))) (opt (nth (0, (0, none)) s.2.2.2.2.1 a0).2.2 (jn (fun (k0 : U7 → _) => (k0 ((false, ()), ((), ((), ((), ())))))) (fun (s1 : U7) => (br s1.1.1 (opt (nth (0, (0, none)) s.2.2.2.2.1 a0).2.2 none (fun p2 => (bd (rwA s.2.2.2.2.2.1 p2) (fun p3 => (gd (ige (-1)) (gd (nlt 0 (len p3)) (bd (rwA s.2.2.2.2.2.1 p2) (fun p4 => (bd (rwA s.2.2.2.2.2.1 p2) (fun p5 => (gd (ige (-1)) (gd (nlt 0 (len p5)) (bd (rwA s.2.2.2.2.2.1 p2) (fun p6 => (k (((iadd IntKind.i64 s.1.1 1), ()), ((), ((), ((), (s.2.2.2.2.1, ((upd s.2.2.2.2.2.1 p2 (some (updF (0, 0) p6 0 (fun r7 => (r7.1, (iadd IntKind.i64 (nth (0, 0) p4 0).2 (nth (0, 0) (cat (cat (tk (nsub (nN v0.1.1) 0) (dr 0 v1)) [(a1, a2)]) (tk (nsub (len v2) (nN v0.1.1)) (dr (nN v0.1.1) v3))) (nN s.1.1)).2)))))), ()))))))))))))))))))))) (opt (nth (0, (0, none)) s.2.2.2.2.1 a0).2.2 (gd (nle (len [((nth (0, 0) (cat (cat (tk (nsub (nN v0.1.1) 0) (dr 0 v1)) [(a1, a2)]) (tk (nsub (len v2) (nN v0.1.1)) (dr (nN v0.1.1) v3))) (nN s.1.1)).1, (nth (0, 0) (cat (cat (tk (nsub (nN v0.1.1) 0) (dr 0 v1)) [(a1, a2)]) (tk (nsub (len v2) (nN v0.1.1)) (dr (nN v0.1.1) v3))) (nN s.1.1)).2)]) 16777216) (k (((iadd IntKind.i64 s.1.1 1), ()), ((), ((), ((), ((updF (0, (0, none)) s.2.2.2.2.1 a0 (fun r8 => (r8.1, (r8.2.1, (some (len s.2.2.2.2.2.1)))))), ((cat s.2.2.2.2.2.1 [(some [((nth (0, 0) (cat (cat (tk (nsub (nN v0.1.1) 0) (dr 0 v1)) [(a1, a2)]) (tk (nsub (len v2) (nN v0.1.1)) (dr (nN v0.1.1) v3))) (nN s.1.1)).1, (nth (0, 0) (cat (cat (tk (nsub (nN v0.1.1) 0) (dr 0 v1)) [(a1, a2)]) (tk (nsub (len v2) (nN v0.1.1)) (dr (nN v0.1.1) v3))) (nN s.1.1)).2)])]), ())))))))) (fun p9 => (bd (rwA s.2.2.2.2.2.1 p9) (fun p10 => (gd (nle (nadd (len p10) (len [((nth (0, 0) (cat (cat (tk (nsub (nN v0.1.1) 0) (dr 0 v1)) [(a1, a2)]) (tk (nsub (len v2) (nN v0.1.1)) (dr (nN v0.1.1) v3))) (nN s.1.1)).1, (nth (0, 0) (cat (cat (tk (nsub (nN v0.1.1) 0) (dr 0 v1)) [(a1, a2)]) (tk (nsub (len v2) (nN v0.1.1)) (dr (nN v0.1.1) v3))) (nN s.1.1)).2)])) 16777216) (gd (nlt p9 (len s.2.2.2.2.2.1)) (k (((iadd IntKind.i64 s.1.1 1), ()), ((), ((), ((), ((updF (0, (0, none)) s.2.2.2.2.1 a0 (fun r11 => (r11.1, (r11.2.1, (some (len (upd s.2.2.2.2.2.1 p9 none))))))), ((cat (upd s.2.2.2.2.2.1 p9 none) [(some (cat p10 [((nth (0, 0) (cat (cat (tk (nsub (nN v0.1.1) 0) (dr 0 v1)) [(a1, a2)]) (tk (nsub (len v2) (nN v0.1.1)) (dr (nN v0.1.1) v3))) (nN s.1.1)).1, (nth (0, 0) (cat (cat (tk (nsub (nN v0.1.1) 0) (dr 0 v1)) [(a1, a2)]) (tk (nsub (len v2) (nN v0.1.1)) (dr (nN v0.1.1) v3))) (nN s.1.1)).2)]))]), ())))))))))))))))) (fun p12 => (bd (rwA s.2.2.2.2.2.1 p12) (fun p13 => (jn (fun (k14 : U7 → _) => (br (ileq 0 (isub IntKind.i64 (zN (len p13)) 1)) (opt (nth (0, (0, none)) s.2.2.2.2.1 a0).2.2 none (fun p15 => (bd (rwA s.2.2.2.2.2.1 p15) (fun p16 => (gd (ige (isub IntKind.i64 (zN (len p13)) 1)) (gd (nlt (nN (isub IntKind.i64 (zN (len p13)) 1)) (len p16)) (bd (rwA s.2.2.2.2.2.1 p15) (fun p17 => (opt (nth (0, (0, none)) s.2.2.2.2.1 a0).2.2 none (fun p18 => (bd (rwA s.2.2.2.2.2.1 p18) (fun p19 => (gd (ige (isub IntKind.i64 (zN (len p13)) 1)) (gd (nlt (nN (isub IntKind.i64 (zN (len p13)) 1)) (len p19)) (bd (rwA s.2.2.2.2.2.1 p18) (fun p20 => (k14 (((ieql (iadd IntKind.i64 (nth (0, 0) p17 (nN (isub IntKind.i64 (zN (len p13)) 1))).1 (nth (0, 0) p20 (nN (isub IntKind.i64 (zN (len p13)) 1))).2) (nth (0, 0) (cat (cat (tk (nsub (nN v0.1.1) 0) (dr 0 v1)) [(a1, a2)]) (tk (nsub (len v2) (nN v0.1.1)) (dr (nN v0.1.1) v3))) (nN s.1.1)).1), ()), ((), ((), ((), ()))))))))))))))))))))) (k14 ((false, ()), ((), ((), ((), ()))))))) (fun (s21 : U7) => (br s21.1.1 (opt (nth (0, (0, none)) s.2.2.2.2.1 a0).2.2 none (fun p22 => (bd (rwA s.2.2.2.2.2.1 p22) (fun p23 => (gd (ige (isub IntKind.i64 (zN (len p13)) 1)) (gd (nlt (nN (isub IntKind.i64 (zN (len p13)) 1)) (len p23)) (bd (rwA s.2.2.2.2.2.1 p22) (fun p24 => (bd (rwA s.2.2.2.2.2.1 p22) (fun p25 => (gd (ige (isub IntKind.i64 (zN (len p13)) 1)) (gd (nlt (nN (isub IntKind.i64 (zN (len p13)) 1)) (len p25)) (bd (rwA s.2.2.2.2.2.1 p22) (fun p26 => (k (((iadd IntKind.i64 s.1.1 1), ()), ((), ((), ((), (s.2.2.2.2.1, ((upd s.2.2.2.2.2.1 p22 (some (updF (0, 0) p26 (nN (isub IntKind.i64 (zN (len p13)) 1)) (fun r27 => (r27.1, (iadd IntKind.i64 (nth (0, 0) p24 (nN (isub IntKind.i64 (zN (len p13)) 1))).2 (nth (0, 0) (cat (cat (tk (nsub (nN v0.1.1) 0) (dr 0 v1)) [(a1, a2)]) (tk (nsub (len v2) (nN v0.1.1)) (dr (nN v0.1.1) v3))) (nN s.1.1)).2)))))), ()))))))))))))))))))))) (opt (nth (0, (0, none)) s.2.2.2.2.1 a0).2.2 (gd (nle (len [((nth (0, 0) (cat (cat (tk (nsub (nN v0.1.1) 0) (dr 0 v1)) [(a1, a2)]) (tk (nsub (len v2) (nN v0.1.1)) (dr (nN v0.1.1) v3))) (nN s.1.1)).1, (nth (0, 0) (cat (cat (tk (nsub (nN v0.1.1) 0) (dr 0 v1)) [(a1, a2)]) (tk (nsub (len v2) (nN v0.1.1)) (dr (nN v0.1.1) v3))) (nN s.1.1)).2)]) 16777216) (k (((iadd IntKind.i64 s.1.1 1), ()), ((), ((), ((), ((updF (0, (0, none)) s.2.2.2.2.1 a0 (fun r11 => (r11.1, (r11.2.1, (some (len s.2.2.2.2.2.1)))))), ((cat s.2.2.2.2.2.1 [(some [((nth (0, 0) (cat (cat (tk (nsub (nN v0.1.1) 0) (dr 0 v1)) [(a1, a2)]) (tk (nsub (len v2) (nN v0.1.1)) (dr (nN v0.1.1) v3))) (nN s.1.1)).1, (nth (0, 0) (cat (cat (tk (nsub (nN v0.1.1) 0) (dr 0 v1)) [(a1, a2)]) (tk (nsub (len v2) (nN v0.1.1)) (dr (nN v0.1.1) v3))) (nN s.1.1)).2)])]), ())))))))) (fun p28 => (bd (rwA s.2.2.2.2.2.1 p28) (fun p29 => (gd (nle (nadd (len p29) (len [((nth (0, 0) (cat (cat (tk (nsub (nN v0.1.1) 0) (dr 0 v1)) [(a1, a2)]) (tk (nsub (len v2) (nN v0.1.1)) (dr (nN v0.1.1) v3))) (nN s.1.1)).1, (nth (0, 0) (cat (cat (tk (nsub (nN v0.1.1) 0) (dr 0 v1)) [(a1, a2)]) (tk (nsub (len v2) (nN v0.1.1)) (dr (nN v0.1.1) v3))) (nN s.1.1)).2)])) 16777216) (gd (nlt p28 (len s.2.2.2.2.2.1)) (k (((iadd IntKind.i64 s.1.1 1), ()), ((), ((), ((), ((updF (0, (0, none)) s.2.2.2.2.1 a0 (fun r30 => (r30.1, (r30.2.1, (some (len (upd s.2.2.2.2.2.1 p28 none))))))), ((cat (upd s.2.2.2.2.2.1 p28 none) [(some (cat p29 [((nth (0, 0) (cat (cat (tk (nsub (nN v0.1.1) 0) (dr 0 v1)) [(a1, a2)]) (tk (nsub (len v2) (nN v0.1.1)) (dr (nN v0.1.1) v3))) (nN s.1.1)).1, (nth (0, 0) (cat (cat (tk (nsub (nN v0.1.1) 0) (dr 0 v1)) [(a1, a2)]) (tk (nsub (len v2) (nN v0.1.1)) (dr (nN v0.1.1) v3))) (nN s.1.1)).2)]))]), ())))))))))))))))))))))) (some ((0, ()), (s.2.2.2.2.1, (s.2.2.2.2.2.1, ())))))
noncomputable def g.ground_Ground_Give_l1 (a0 : Nat) (a1 : Int) (a2 : Int) (v0 : U6) (v1 : (List (Int × Int))) (k : (U17 → U11)) (s : U17) : U11 := (br (ilss s.1.1 (zN (len (cat (cat (tk (nsub (nN v0.1.1) 0) (dr 0 v1)) [(a1, a2)]) [])))) (gd (ige s.1.1) (gd (nlt (nN s.1.1) (len (cat (cat (tk (nsub (nN v0.1.1) 0) (dr 0 v1)) [(a1, a2)]) []))) (opt (nth (0, (0, none)) s.2.2.2.2.1 a0).2.2 (jn (fun (k0 : U7 → _) => (k0 ((false, ()), ((), ((), ((), ())))))) (fun (s1 : U7) => (br s1.1.1 (opt (nth (0, (0, none)) s.2.2.2.2.1 a0).2.2 none (fun p2 => (bd (rwA s.2.2.2.2.2.1 p2) (fun p3 => (gd (ige (-1)) (gd (nlt 0 (len p3)) (bd (rwA s.2.2.2.2.2.1 p2) (fun p4 => (bd (rwA s.2.2.2.2.2.1 p2) (fun p5 => (gd (ige (-1)) (gd (nlt 0 (len p5)) (bd (rwA s.2.2.2.2.2.1 p2) (fun p6 => (k (((iadd IntKind.i64 s.1.1 1), ()), ((), ((), ((), (s.2.2.2.2.1, ((upd s.2.2.2.2.2.1 p2 (some (updF (0, 0) p6 0 (fun r7 => (r7.1, (iadd IntKind.i64 (nth (0, 0) p4 0).2 (nth (0, 0) (cat (cat (tk (nsub (nN v0.1.1) 0) (dr 0 v1)) [(a1, a2)]) []) (nN s.1.1)).2)))))), ()))))))))))))))))))))) (opt (nth (0, (0, none)) s.2.2.2.2.1 a0).2.2 (gd (nle (len [((nth (0, 0) (cat (cat (tk (nsub (nN v0.1.1) 0) (dr 0 v1)) [(a1, a2)]) []) (nN s.1.1)).1, (nth (0, 0) (cat (cat (tk (nsub (nN v0.1.1) 0) (dr 0 v1)) [(a1, a2)]) []) (nN s.1.1)).2)]) 16777216) (k (((iadd IntKind.i64 s.1.1 1), ()), ((), ((), ((), ((updF (0, (0, none)) s.2.2.2.2.1 a0 (fun r8 => (r8.1, (r8.2.1, (some (len s.2.2.2.2.2.1)))))), ((cat s.2.2.2.2.2.1 [(some [((nth (0, 0) (cat (cat (tk (nsub (nN v0.1.1) 0) (dr 0 v1)) [(a1, a2)]) []) (nN s.1.1)).1, (nth (0, 0) (cat (cat (tk (nsub (nN v0.1.1) 0) (dr 0 v1)) [(a1, a2)]) []) (nN s.1.1)).2)])]), ())))))))) (fun p9 => (bd (rwA s.2.2.2.2.2.1 p9) (fun p10 => (gd (nle (nadd (len p10) (len [((nth (0, 0) (cat (cat (tk (nsub (nN v0.1.1) 0) (dr 0 v1)) [(a1, a2)]) []) (nN s.1.1)).1, (nth (0, 0) (cat (cat (tk (nsub (nN v0.1.1) 0) (dr 0 v1)) [(a1, a2)]) []) (nN s.1.1)).2)])) 16777216) (gd (nlt p9 (len s.2.2.2.2.2.1)) (k (((iadd IntKind.i64 s.1.1 1), ()), ((), ((), ((), ((updF (0, (0, none)) s.2.2.2.2.1 a0 (fun r11 => (r11.1, (r11.2.1, (some (len (upd s.2.2.2.2.2.1 p9 none))))))), ((cat (upd s.2.2.2.2.2.1 p9 none) [(some (cat p10 [((nth (0, 0) (cat (cat (tk (nsub (nN v0.1.1) 0) (dr 0 v1)) [(a1, a2)]) []) (nN s.1.1)).1, (nth (0, 0) (cat (cat (tk (nsub (nN v0.1.1) 0) (dr 0 v1)) [(a1, a2)]) []) (nN s.1.1)).2)]))]), ())))))))))))))))) (fun p12 => (bd (rwA s.2.2.2.2.2.1 p12) (fun p13 => (jn (fun (k14 : U7 → _) => (br (ileq 0 (isub IntKind.i64 (zN (len p13)) 1)) (opt (nth (0, (0, none)) s.2.2.2.2.1 a0).2.2 none (fun p15 => (bd (rwA s.2.2.2.2.2.1 p15) (fun p16 => (gd (ige (isub IntKind.i64 (zN (len p13)) 1)) (gd (nlt (nN (isub IntKind.i64 (zN (len p13)) 1)) (len p16)) (bd (rwA s.2.2.2.2.2.1 p15) (fun p17 => (opt (nth (0, (0, none)) s.2.2.2.2.1 a0).2.2 none (fun p18 => (bd (rwA s.2.2.2.2.2.1 p18) (fun p19 => (gd (ige (isub IntKind.i64 (zN (len p13)) 1)) (gd (nlt (nN (isub IntKind.i64 (zN (len p13)) 1)) (len p19)) (bd (rwA s.2.2.2.2.2.1 p18) (fun p20 => (k14 (((ieql (iadd IntKind.i64 (nth (0, 0) p17 (nN (isub IntKind.i64 (zN (len p13)) 1))).1 (nth (0, 0) p20 (nN (isub IntKind.i64 (zN (len p13)) 1))).2) (nth (0, 0) (cat (cat (tk (nsub (nN v0.1.1) 0) (dr 0 v1)) [(a1, a2)]) []) (nN s.1.1)).1), ()), ((), ((), ((), ()))))))))))))))))))))) (k14 ((false, ()), ((), ((), ((), ()))))))) (fun (s21 : U7) => (br s21.1.1 (opt (nth (0, (0, none)) s.2.2.2.2.1 a0).2.2 none (fun p22 => (bd (rwA s.2.2.2.2.2.1 p22) (fun p23 => (gd (ige (isub IntKind.i64 (zN (len p13)) 1)) (gd (nlt (nN (isub IntKind.i64 (zN (len p13)) 1)) (len p23)) (bd (rwA s.2.2.2.2.2.1 p22) (fun p24 => (bd (rwA s.2.2.2.2.2.1 p22) (fun p25 => (gd (ige (isub IntKind.i64 (zN (len p13)) 1)) (gd (nlt (nN (isub IntKind.i64 (zN (len p13)) 1)) (len p25)) (bd (rwA s.2.2.2.2.2.1 p22) (fun p26 => (k (((iadd IntKind.i64 s.1.1 1), ()), ((), ((), ((), (s.2.2.2.2.1, ((upd s.2.2.2.2.2.1 p22 (some (updF (0, 0) p26 (nN (isub IntKind.i64 (zN (len p13)) 1)) (fun r27 => (r27.1, (iadd IntKind.i64 (nth (0, 0) p24 (nN (isub IntKind.i64 (zN (len p13)) 1))).2 (nth (0, 0) (cat (cat (tk (nsub (nN v0.1.1) 0) (dr 0 v1)) [(a1, a2)]) []) (nN s.1.1)).2)))))), ()))))))))))))))))))))) (opt (nth (0, (0, none)) s.2.2.2.2.1 a0).2.2 (gd (nle (len [((nth (0, 0) (cat (cat (tk (nsub (nN v0.1.1) 0) (dr 0 v1)) [(a1, a2)]) []) (nN s.1.1)).1, (nth (0, 0) (cat (cat (tk (nsub (nN v0.1.1) 0) (dr 0 v1)) [(a1, a2)]) []) (nN s.1.1)).2)]) 16777216) (k (((iadd IntKind.i64 s.1.1 1), ()), ((), ((), ((), ((updF (0, (0, none)) s.2.2.2.2.1 a0 (fun r11 => (r11.1, (r11.2.1, (some (len s.2.2.2.2.2.1)))))), ((cat s.2.2.2.2.2.1 [(some [((nth (0, 0) (cat (cat (tk (nsub (nN v0.1.1) 0) (dr 0 v1)) [(a1, a2)]) []) (nN s.1.1)).1, (nth (0, 0) (cat (cat (tk (nsub (nN v0.1.1) 0) (dr 0 v1)) [(a1, a2)]) []) (nN s.1.1)).2)])]), ())))))))) (fun p28 => (bd (rwA s.2.2.2.2.2.1 p28) (fun p29 => (gd (nle (nadd (len p29) (len [((nth (0, 0) (cat (cat (tk (nsub (nN v0.1.1) 0) (dr 0 v1)) [(a1, a2)]) []) (nN s.1.1)).1, (nth (0, 0) (cat (cat (tk (nsub (nN v0.1.1) 0) (dr 0 v1)) [(a1, a2)]) []) (nN s.1.1)).2)])) 16777216) (gd (nlt p28 (len s.2.2.2.2.2.1)) (k (((iadd IntKind.i64 s.1.1 1), ()), ((), ((), ((), ((updF (0, (0, none)) s.2.2.2.2.1 a0 (fun r30 => (r30.1, (r30.2.1, (some (len (upd s.2.2.2.2.2.1 p28 none))))))), ((cat (upd s.2.2.2.2.2.1 p28 none) [(some (cat p29 [((nth (0, 0) (cat (cat (tk (nsub (nN v0.1.1) 0) (dr 0 v1)) [(a1, a2)]) []) (nN s.1.1)).1, (nth (0, 0) (cat (cat (tk (nsub (nN v0.1.1) 0) (dr 0 v1)) [(a1, a2)]) []) (nN s.1.1)).2)]))]), ())))))))))))))))))))))) (some ((0, ()), (s.2.2.2.2.1, (s.2.2.2.2.2.1, ())))))
noncomputable def g.ground_Ground_Give_l2 (a0 : Nat) (a1 : Int) (a2 : Int) (v0 : (List (Int × Int))) (v1 : U6) (v2 : (List (Int × Int))) (k : (U17 → U11)) (s : U17) : U11 := (br (ilss s.1.1 (zN (len (cat [(a1, a2)] (tk (nsub (len v0) (nN v1.1.1)) (dr (nN v1.1.1) v2)))))) (gd (ige s.1.1) (gd (nlt (nN s.1.1) (len (cat [(a1, a2)] (tk (nsub (len v0) (nN v1.1.1)) (dr (nN v1.1.1) v2))))) (opt (nth (0, (0, none)) s.2.2.2.2.1 a0).2.2 (jn (fun (k0 : U7 → _) => (k0 ((false, ()), ((), ((), ((), ())))))) (fun (s1 : U7) => (br s1.1.1 (opt (nth (0, (0, none)) s.2.2.2.2.1 a0).2.2 none (fun p2 => (bd (rwA s.2.2.2.2.2.1 p2) (fun p3 => (gd (ige (-1)) (gd (nlt 0 (len p3)) (bd (rwA s.2.2.2.2.2.1 p2) (fun p4 => (bd (rwA s.2.2.2.2.2.1 p2) (fun p5 => (gd (ige (-1)) (gd (nlt 0 (len p5)) (bd (rwA s.2.2.2.2.2.1 p2) (fun p6 => (k (((iadd IntKind.i64 s.1.1 1), ()), ((), ((), ((), (s.2.2.2.2.1, ((upd s.2.2.2.2.2.1 p2 (some (updF (0, 0) p6 0 (fun r7 => (r7.1, (iadd IntKind.i64 (nth (0, 0) p4 0).2 (nth (0, 0) (cat [(a1, a2)] (tk (nsub (len v0) (nN v1.1.1)) (dr (nN v1.1.1) v2))) (nN s.1.1)).2)))))), ()))))))))))))))))))))) (opt (nth (0, (0, none)) s.2.2.2.2.1 a0).2.2 (gd (nle (len [((nth (0, 0) (cat [(a1, a2)] (tk (nsub (len v0) (nN v1.1.1)) (dr (nN v1.1.1) v2))) (nN s.1.1)).1, (nth (0, 0) (cat [(a1, a2)] (tk (nsub (len v0) (nN v1.1.1)) (dr (nN v1.1.1) v2))) (nN s.1.1)).2)]) 16777216) (k (((iadd IntKind.i64 s.1.1 1), ()), ((), ((), ((), ((updF (0, (0, none)) s.2.2.2.2.1 a0 (fun r8 => (r8.1, (r8.2.1, (some (len s.2.2.2.2.2.1)))))), ((cat s.2.2.2.2.2.1 [(some [((nth (0, 0) (cat [(a1, a2)] (tk (nsub (len v0) (nN v1.1.1)) (dr (nN v1.1.1) v2))) (nN s.1.1)).1, (nth (0, 0) (cat [(a1, a2)] (tk (nsub (len v0) (nN v1.1.1)) (dr (nN v1.1.1) v2))) (nN s.1.1)).2)])]), ())))))))) (fun p9 => (bd (rwA s.2.2.2.2.2.1 p9) (fun p10 => (gd (nle (nadd (len p10) (len [((nth (0, 0) (cat [(a1, a2)] (tk (nsub (len v0) (nN v1.1.1)) (dr (nN v1.1.1) v2))) (nN s.1.1)).1, (nth (0, 0) (cat [(a1, a2)] (tk (nsub (len v0) (nN v1.1.1)) (dr (nN v1.1.1) v2))) (nN s.1.1)).2)])) 16777216) (gd (nlt p9 (len s.2.2.2.2.2.1)) (k (((iadd IntKind.i64 s.1.1 1), ()), ((), ((), ((), ((updF (0, (0, none)) s.2.2.2.2.1 a0 (fun r11 => (r11.1, (r11.2.1, (some (len (upd s.2.2.2.2.2.1 p9 none))))))), ((cat (upd s.2.2.2.2.2.1 p9 none) [(some (cat p10 [((nth (0, 0) (cat [(a1, a2)] (tk (nsub (len v0) (nN v1.1.1)) (dr (nN v1.1.1) v2))) (nN s.1.1)).1, (nth (0, 0) (cat [(a1, a2)] (tk (nsub (len v0) (nN v1.1.1)) (dr (nN v1.1.1) v2))) (nN s.1.1)).2)]))]), ())))))))))))))))) (fun p12 => (bd (rwA s.2.2.2.2.2.1 p12) (fun p13 => (jn (fun (k14 : U7 → _) => (br (ileq 0 (isub IntKind.i64 (zN (len p13)) 1)) (opt (nth (0, (0, none)) s.2.2.2.2.1 a0).2.2 none (fun p15 => (bd (rwA s.2.2.2.2.2.1 p15) (fun p16 => (gd (ige (isub IntKind.i64 (zN (len p13)) 1)) (gd (nlt (nN (isub IntKind.i64 (zN (len p13)) 1)) (len p16)) (bd (rwA s.2.2.2.2.2.1 p15) (fun p17 => (opt (nth (0, (0, none)) s.2.2.2.2.1 a0).2.2 none (fun p18 => (bd (rwA s.2.2.2.2.2.1 p18) (fun p19 => (gd (ige (isub IntKind.i64 (zN (len p13)) 1)) (gd (nlt (nN (isub IntKind.i64 (zN (len p13)) 1)) (len p19)) (bd (rwA s.2.2.2.2.2.1 p18) (fun p20 => (k14 (((ieql (iadd IntKind.i64 (nth (0, 0) p17 (nN (isub IntKind.i64 (zN (len p13)) 1))).1 (nth (0, 0) p20 (nN (isub IntKind.i64 (zN (len p13)) 1))).2) (nth (0, 0) (cat [(a1, a2)] (tk (nsub (len v0) (nN v1.1.1)) (dr (nN v1.1.1) v2))) (nN s.1.1)).1), ()), ((), ((), ((), ()))))))))))))))))))))) (k14 ((false, ()), ((), ((), ((), ()))))))) (fun (s21 : U7) => (br s21.1.1 (opt (nth (0, (0, none)) s.2.2.2.2.1 a0).2.2 none (fun p22 => (bd (rwA s.2.2.2.2.2.1 p22) (fun p23 => (gd (ige (isub IntKind.i64 (zN (len p13)) 1)) (gd (nlt (nN (isub IntKind.i64 (zN (len p13)) 1)) (len p23)) (bd (rwA s.2.2.2.2.2.1 p22) (fun p24 => (bd (rwA s.2.2.2.2.2.1 p22) (fun p25 => (gd (ige (isub IntKind.i64 (zN (len p13)) 1)) (gd (nlt (nN (isub IntKind.i64 (zN (len p13)) 1)) (len p25)) (bd (rwA s.2.2.2.2.2.1 p22) (fun p26 => (k (((iadd IntKind.i64 s.1.1 1), ()), ((), ((), ((), (s.2.2.2.2.1, ((upd s.2.2.2.2.2.1 p22 (some (updF (0, 0) p26 (nN (isub IntKind.i64 (zN (len p13)) 1)) (fun r27 => (r27.1, (iadd IntKind.i64 (nth (0, 0) p24 (nN (isub IntKind.i64 (zN (len p13)) 1))).2 (nth (0, 0) (cat [(a1, a2)] (tk (nsub (len v0) (nN v1.1.1)) (dr (nN v1.1.1) v2))) (nN s.1.1)).2)))))), ()))))))))))))))))))))) (opt (nth (0, (0, none)) s.2.2.2.2.1 a0).2.2 (gd (nle (len [((nth (0, 0) (cat [(a1, a2)] (tk (nsub (len v0) (nN v1.1.1)) (dr (nN v1.1.1) v2))) (nN s.1.1)).1, (nth (0, 0) (cat [(a1, a2)] (tk (nsub (len v0) (nN v1.1.1)) (dr (nN v1.1.1) v2))) (nN s.1.1)).2)]) 16777216) (k (((iadd IntKind.i64 s.1.1 1), ()), ((), ((), ((), ((updF (0, (0, none)) s.2.2.2.2.1 a0 (fun r11 => (r11.1, (r11.2.1, (some (len s.2.2.2.2.2.1)))))), ((cat s.2.2.2.2.2.1 [(some [((nth (0, 0) (cat [(a1, a2)] (tk (nsub (len v0) (nN v1.1.1)) (dr (nN v1.1.1) v2))) (nN s.1.1)).1, (nth (0, 0) (cat [(a1, a2)] (tk (nsub (len v0) (nN v1.1.1)) (dr (nN v1.1.1) v2))) (nN s.1.1)).2)])]), ())))))))) (fun p28 => (bd (rwA s.2.2.2.2.2.1 p28) (fun p29 => (gd (nle (nadd (len p29) (len [((nth (0, 0) (cat [(a1, a2)] (tk (nsub (len v0) (nN v1.1.1)) (dr (nN v1.1.1) v2))) (nN s.1.1)).1, (nth (0, 0) (cat [(a1, a2)] (tk (nsub (len v0) (nN v1.1.1)) (dr (nN v1.1.1) v2))) (nN s.1.1)).2)])) 16777216) (gd (nlt p28 (len s.2.2.2.2.2.1)) (k (((iadd IntKind.i64 s.1.1 1), ()), ((), ((), ((), ((updF (0, (0, none)) s.2.2.2.2.1 a0 (fun r30 => (r30.1, (r30.2.1, (some (len (upd s.2.2.2.2.2.1 p28 none))))))), ((cat (upd s.2.2.2.2.2.1 p28 none) [(some (cat p29 [((nth (0, 0) (cat [(a1, a2)] (tk (nsub (len v0) (nN v1.1.1)) (dr (nN v1.1.1) v2))) (nN s.1.1)).1, (nth (0, 0) (cat [(a1, a2)] (tk (nsub (len v0) (nN v1.1.1)) (dr (nN v1.1.1) v2))) (nN s.1.1)).2)]))]), ())))))))))))))))))))))) (some ((0, ()), (s.2.2.2.2.1, (s.2.2.2.2.2.1, ())))))
noncomputable def g.ground_Ground_Give_l3 (a0 : Nat) (a1 : Int) (a2 : Int) (k : (U17 → U11)) (s : U17) : U11 := (br (ilss s.1.1 (zN (len (cat [(a1, a2)] [])))) (gd (ige s.1.1) (gd (nlt (nN s.1.1) (len (cat [(a1, a2)] []))) (opt (nth (0, (0, none)) s.2.2.2.2.1 a0).2.2 (jn (fun (k0 : U7 → _) => (k0 ((false, ()), ((), ((), ((), ())))))) (fun (s1 : U7) => (br s1.1.1 (opt (nth (0, (0, none)) s.2.2.2.2.1 a0).2.2 none (fun p2 => (bd (rwA s.2.2.2.2.2.1 p2) (fun p3 => (gd (ige (-1)) (gd (nlt 0 (len p3)) (bd (rwA s.2.2.2.2.2.1 p2) (fun p4 => (bd (rwA s.2.2.2.2.2.1 p2) (fun p5 => (gd (ige (-1)) (gd (nlt 0 (len p5)) (bd (rwA s.2.2.2.2.2.1 p2) (fun p6 => (k (((iadd IntKind.i64 s.1.1 1), ()), ((), ((), ((), (s.2.2.2.2.1, ((upd s.2.2.2.2.2.1 p2 (some (updF (0, 0) p6 0 (fun r7 => (r7.1, (iadd IntKind.i64 (nth (0, 0) p4 0).2 (nth (0, 0) (cat [(a1, a2)] []) (nN s.1.1)).2)))))), ()))))))))))))))))))))) (opt (nth (0, (0, none)) s.2.2.2.2.1 a0).2.2 (gd (nle (len [((nth (0, 0) (cat [(a1, a2)] []) (nN s.1.1)).1, (nth (0, 0) (cat [(a1, a2)] []) (nN s.1.1)).2)]) 16777216) (k (((iadd IntKind.i64 s.1.1 1), ()), ((), ((), ((), ((updF (0, (0, none)) s.2.2.2.2.1 a0 (fun r8 => (r8.1, (r8.2.1, (some (len s.2.2.2.2.2.1)))))), ((cat s.2.2.2.2.2.1 [(some [((nth (0, 0) (cat [(a1, a2)] []) (nN s.1.1)).1, (nth (0, 0) (cat [(a1, a2)] []) (nN s.1.1)).2)])]), ())))))))) (fun p9 => (bd (rwA s.2.2.2.2.2.1 p9) (fun p10 => (gd (nle (nadd (len p10) (len [((nth (0, 0) (cat [(a1, a2)] []) (nN s.1.1)).1, (nth (0, 0) (cat [(a1, a2)] []) (nN s.1.1)).2)])) 16777216) (gd (nlt p9 (len s.2.2.2.2.2.1)) (k (((iadd IntKind.i64 s.1.1 1), ()), ((), ((), ((), ((updF (0, (0, none)) s.2.2.2.2.1 a0 (fun r11 => (r11.1, (r11.2.1, (some (len (upd s.2.2.2.2.2.1 p9 none))))))), ((cat (upd s.2.2.2.2.2.1 p9 none) [(some (cat p10 [((nth (0, 0) (cat [(a1, a2)] []) (nN s.1.1)).1, (nth (0, 0) (cat [(a1, a2)] []) (nN s.1.1)).2)]))]), ())))))))))))))))) (fun p12 => (bd (rwA s.2.2.2.2.2.1 p12) (fun p13 => (jn (fun (k14 : U7 → _) => (br (ileq 0 (isub IntKind.i64 (zN (len p13)) 1)) (opt (nth (0, (0, none)) s.2.2.2.2.1 a0).2.2 none (fun p15 => (bd (rwA s.2.2.2.2.2.1 p15) (fun p16 => (gd (ige (isub IntKind.i64 (zN (len p13)) 1)) (gd (nlt (nN (isub IntKind.i64 (zN (len p13)) 1)) (len p16)) (bd (rwA s.2.2.2.2.2.1 p15) (fun p17 => (opt (nth (0, (0, none)) s.2.2.2.2.1 a0).2.2 none (fun p18 => (bd (rwA s.2.2.2.2.2.1 p18) (fun p19 => (gd (ige (isub IntKind.i64 (zN (len p13)) 1)) (gd (nlt (nN (isub IntKind.i64 (zN (len p13)) 1)) (len p19)) (bd (rwA s.2.2.2.2.2.1 p18) (fun p20 => (k14 (((ieql (iadd IntKind.i64 (nth (0, 0) p17 (nN (isub IntKind.i64 (zN (len p13)) 1))).1 (nth (0, 0) p20 (nN (isub IntKind.i64 (zN (len p13)) 1))).2) (nth (0, 0) (cat [(a1, a2)] []) (nN s.1.1)).1), ()), ((), ((), ((), ()))))))))))))))))))))) (k14 ((false, ()), ((), ((), ((), ()))))))) (fun (s21 : U7) => (br s21.1.1 (opt (nth (0, (0, none)) s.2.2.2.2.1 a0).2.2 none (fun p22 => (bd (rwA s.2.2.2.2.2.1 p22) (fun p23 => (gd (ige (isub IntKind.i64 (zN (len p13)) 1)) (gd (nlt (nN (isub IntKind.i64 (zN (len p13)) 1)) (len p23)) (bd (rwA s.2.2.2.2.2.1 p22) (fun p24 => (bd (rwA s.2.2.2.2.2.1 p22) (fun p25 => (gd (ige (isub IntKind.i64 (zN (len p13)) 1)) (gd (nlt (nN (isub IntKind.i64 (zN (len p13)) 1)) (len p25)) (bd (rwA s.2.2.2.2.2.1 p22) (fun p26 => (k (((iadd IntKind.i64 s.1.1 1), ()), ((), ((), ((), (s.2.2.2.2.1, ((upd s.2.2.2.2.2.1 p22 (some (updF (0, 0) p26 (nN (isub IntKind.i64 (zN (len p13)) 1)) (fun r27 => (r27.1, (iadd IntKind.i64 (nth (0, 0) p24 (nN (isub IntKind.i64 (zN (len p13)) 1))).2 (nth (0, 0) (cat [(a1, a2)] []) (nN s.1.1)).2)))))), ()))))))))))))))))))))) (opt (nth (0, (0, none)) s.2.2.2.2.1 a0).2.2 (gd (nle (len [((nth (0, 0) (cat [(a1, a2)] []) (nN s.1.1)).1, (nth (0, 0) (cat [(a1, a2)] []) (nN s.1.1)).2)]) 16777216) (k (((iadd IntKind.i64 s.1.1 1), ()), ((), ((), ((), ((updF (0, (0, none)) s.2.2.2.2.1 a0 (fun r11 => (r11.1, (r11.2.1, (some (len s.2.2.2.2.2.1)))))), ((cat s.2.2.2.2.2.1 [(some [((nth (0, 0) (cat [(a1, a2)] []) (nN s.1.1)).1, (nth (0, 0) (cat [(a1, a2)] []) (nN s.1.1)).2)])]), ())))))))) (fun p28 => (bd (rwA s.2.2.2.2.2.1 p28) (fun p29 => (gd (nle (nadd (len p29) (len [((nth (0, 0) (cat [(a1, a2)] []) (nN s.1.1)).1, (nth (0, 0) (cat [(a1, a2)] []) (nN s.1.1)).2)])) 16777216) (gd (nlt p28 (len s.2.2.2.2.2.1)) (k (((iadd IntKind.i64 s.1.1 1), ()), ((), ((), ((), ((updF (0, (0, none)) s.2.2.2.2.1 a0 (fun r30 => (r30.1, (r30.2.1, (some (len (upd s.2.2.2.2.2.1 p28 none))))))), ((cat (upd s.2.2.2.2.2.1 p28 none) [(some (cat p29 [((nth (0, 0) (cat [(a1, a2)] []) (nN s.1.1)).1, (nth (0, 0) (cat [(a1, a2)] []) (nN s.1.1)).2)]))]), ())))))))))))))))))))))) (some ((0, ()), (s.2.2.2.2.1, (s.2.2.2.2.2.1, ())))))
noncomputable def g.ground_Ground_Give_l4 (a1 : Int) (d1 : T4) (v0 : (List (Int × Int))) (v1 : Nat) (v2 : U6 → U11) (k : (U6 → U11)) (s : U6) : U11 := (br (ilss s.1.1 (zN (len v0))) (bd (rwA d1 v1) (fun p0 => (gd (ige s.1.1) (gd (nlt (nN s.1.1) (len p0)) (bd (rwA d1 v1) (fun p1 => (br (ilss a1 (iadd IntKind.i64 (nth (0, 0) p1 (nN s.1.1)).1 (nth (0, 0) p1 (nN s.1.1)).2)) (v2 ((s.1.1, ()), ((), ((), ((), ()))))) (k (((iadd IntKind.i64 s.1.1 1), ()), ((), ((), ((), ())))))))))))) (v2 (((-1), ()), ((), ((), ((), ()))))))
noncomputable def g.ground_Ground_Give_l5 (v0 : U6 → U11) (k : (U6 → U11)) (s : U6) : U11 := (br (ilss s.1.1 0) none (v0 (((-1), ()), ((), ((), ((), ()))))))
noncomputable def g.ground_Ground_Give (a0 : Nat) (a1 : Int) (a2 : Int) (d0 : T2) (d1 : T4) : U11 := (jn (fun (k0 : (Unit × U0) → _) => (br (ilss a2 1) (some ((1, ()), (d0, (d1, ())))) (br (bnot (ieql (irem a2 8) 0)) (some ((1, ()), (d0, (d1, ())))) (br (bnot (ieql (irem a1 8) 0)) (some ((1, ()), (d0, (d1, ())))) (bd (g.num_Within a1 (nth (0, (0, none)) d0 a0).1 (isub IntKind.i64 (nth (0, (0, none)) d0 a0).2.1 1)) (fun p1 => (br (bnot p1.1.1) (some ((1, ()), (d0, (d1, ())))) (br (ilss (isub IntKind.i64 (nth (0, (0, none)) d0 a0).2.1 a1) a2) (some ((1, ()), (d0, (d1, ())))) (k0 ((), ((), ((), ((), ()))))))))))))) (fun (s2 : (Unit × U0)) => (jn (fun (k3 : U6 → _) => (opt (nth (0, (0, none)) d0 a0).2.2 (loop (g.ground_Ground_Give_l5 k3) ((0, ()), ((), ((), ((), ()))))) (fun p6 => (bd (rwA d1 p6) (fun p7 => (loop (g.ground_Ground_Give_l4 a1 d1 p7 p6 k3) ((0, ()), ((), ((), ((), ())))))))))) (fun (s12 : U6) => (jn (fun (k13 : U6 → _) => (br (ilss s12.1.1 0) (opt (nth (0, (0, none)) d0 a0).2.2 (k13 ((0, ()), ((), ((), ((), ()))))) (fun p14 => (bd (rwA d1 p14) (fun p15 => (k13 (((zN (len p15)), ()), ((), ((), ((), ()))))))))) (k13 ((s12.1.1, ()), ((), ((), ((), ()))))))) (fun (s16 : U6) => (jn (fun (k17 : (Unit × U0) → _) => (opt (nth (0, (0, none)) d0 a0).2.2 (br (ilss s16.1.1 0) (opt (nth (0, (0, none)) d0 a0).2.2 none (fun p18 => (bd (rwA d1 p18) (fun p19 => (gd (ige s16.1.1) (gd (nlt (nN s16.1.1) (len p19)) (bd (rwA d1 p18) (fun p20 => (br (ilss (nth (0, 0) p20 (nN s16.1.1)).1 (iadd IntKind.i64 a1 a2)) (some ((1, ()), (d0, (d1, ())))) (k17 ((), ((), ((), ((), ())))))))))))))) (k17 ((), ((), ((), ((), ())))))) (fun p21 => (bd (rwA d1 p21) (fun p22 => (br (ilss s16.1.1 (zN (len p22))) (opt (nth (0, (0, none)) d0 a0).2.2 none (fun p23 => (bd (rwA d1 p23) (fun p24 => (gd (ige s16.1.1) (gd (nlt (nN s16.1.1) (len p24)) (bd (rwA d1 p23) (fun p25 => (br (ilss (nth (0, 0) p25 (nN s16.1.1)).1 (iadd IntKind.i64 a1 a2)) (some ((1, ()), (d0, (d1, ())))) (k17 ((), ((), ((), ((), ())))))))))))))) (k17 ((), ((), ((), ((), ()))))))))))) (fun (s26 : (Unit × U0)) => (opt (nth (0, (0, none)) d0 a0).2.2 (gd (ieq s16.1.1 s16.1.1) (gd (ige s16.1.1) (gd (nle 0 (nN s16.1.1)) (gd (nle (nN s16.1.1) 0) (gd (nle (len [(a1, a2)]) 16777216) (opt (nth (0, (0, none)) d0 a0).2.2 (gd (ige s16.1.1) (gd (nle (nN s16.1.1) 0) (gd (nle (nadd (len [(a1, a2)]) 0) 16777216) (loop (g.ground_Ground_Give_l3 a0 a1 a2) ((0, ()), ((), ((), ((), ((updF (0, (0, none)) d0 a0 (fun r9 => (r9.1, (r9.2.1, none)))), (d1, ())))))))))) (fun p55 => (bd (rwA d1 p55) (fun p56 => (gd (ige s16.1.1) (gd (nle (nN s16.1.1) (len p56)) (gd (nle (len p56) (len p56)) (bd (rwA d1 p55) (fun p57 => (gd (nle (nadd (len [(a1, a2)]) (len (tk (nsub (len p56) (nN s16.1.1)) (dr (nN s16.1.1) p57)))) 16777216) (loop (g.ground_Ground_Give_l2 a0 a1 a2 p56 s16 p57) ((0, ()), ((), ((), ((), ((updF (0, (0, none)) d0 a0 (fun r12 => (r12.1, (r12.2.1, none)))), (d1, ())))))))))))))))))))))) (fun p86 => (gd (ieq s16.1.1 s16.1.1) (bd (rwA d1 p86) (fun p87 => (gd (ige s16.1.1) (gd (nle 0 (nN s16.1.1)) (gd (nle (nN s16.1.1) (len p87)) (br (ieql (zN (nsub (nN s16.1.1) 0)) 0) (gd (nle (len [(a1, a2)]) 16777216) (opt (nth (0, (0, none)) d0 a0).2.2 (gd (ige s16.1.1) (gd (nle (nN s16.1.1) 0) (gd (nle (nadd (len [(a1, a2)]) 0) 16777216) (loop (g.ground_Ground_Give_l3 a0 a1 a2) ((0, ()), ((), ((), ((), ((updF (0, (0, none)) d0 a0 (fun r11 => (r11.1, (r11.2.1, none)))), (d1, ())))))))))) (fun p116 => (bd (rwA d1 p116) (fun p117 => (gd (ige s16.1.1) (gd (nle (nN s16.1.1) (len p117)) (gd (nle (len p117) (len p117)) (bd (rwA d1 p116) (fun p118 => (gd (nle (nadd (len [(a1, a2)]) (len (tk (nsub (len p117) (nN s16.1.1)) (dr (nN s16.1.1) p118)))) 16777216) (loop (g.ground_Ground_Give_l2 a0 a1 a2 p117 s16 p118) ((0, ()), ((), ((), ((), ((updF (0, (0, none)) d0 a0 (fun r14 => (r14.1, (r14.2.1, none)))), (d1, ())))))))))))))))))) (bd (rwA d1 p86) (fun p147 => (gd (nlt 0 (len [(a1, a2)])) (gd (nle (nadd (nsub (nN s16.1.1) 0) (len [(a1, a2)])) 16777216) (opt (nth (0, (0, none)) d0 a0).2.2 (gd (ige s16.1.1) (gd (nle (nN s16.1.1) 0) (gd (nle (nadd (len (cat (tk (nsub (nN s16.1.1) 0) (dr 0 p147)) [(a1, a2)])) 0) 16777216) (loop (g.ground_Ground_Give_l1 a0 a1 a2 s16 p147) ((0, ()), ((), ((), ((), ((updF (0, (0, none)) d0 a0 (fun r12 => (r12.1, (r12.2.1, none)))), (d1, ())))))))))) (fun p176 => (bd (rwA d1 p176) (fun p177 => (gd (ige s16.1.1) (gd (nle (nN s16.1.1) (len p177)) (gd (nle (len p177) (len p177)) (bd (rwA d1 p176) (fun p178 => (gd (nle (nadd (len (cat (tk (nsub (nN s16.1.1) 0) (dr 0 p147)) [(a1, a2)])) (len (tk (nsub (len p177) (nN s16.1.1)) (dr (nN s16.1.1) p178)))) 16777216) (loop (g.ground_Ground_Give_l0 a0 a1 a2 s16 p147 p177 p178) ((0, ()), ((), ((), ((), ((updF (0, (0, none)) d0 a0 (fun r15 => (r15.1, (r15.2.1, none)))), (d1, ()))))))))))))))))))))))))))))))))))))))
noncomputable def F127 : Plain sg127 := fun x c d => g.ground_Ground_Give x.1 x.2.1 x.2.2.1 d.1 d.2.1
theorem ct127 : CtOk Tryz.prog 127 sg127 F127 := ct_of envok mixed fnok (hm := homes) (ctC_ok ct39 (ctN_ok)) 8 (fun x c d => by kernel_rfl)
noncomputable def sg78 : Sig := ⟨[(false, (.nptr 1)), (false, (.int .i64))], [(false, (.int .i64))], [(1, R1)], [(2, R2), (3, R3), (4, R4)]⟩
noncomputable def g.scopes_Scopes_Destroy (a0 : Nat) (a1 : Int) (c0 : T1) (d0 : T2) (d1 : T3) (d2 : T4) : (Option ((Int × Unit) × U21)) := (opt (nth (none, none) c0 a0).1 (bd (g.num_Within a1 1 (-1)) (fun p0 => (br (bnot p0.1.1) (jn (fun (k1 : U7 → _) => (k1 ((true, ()), ((), ((), ((), ())))))) (fun (s2 : U7) => (br s2.1.1 (some ((11, ()), (d0, (d1, (d2, ()))))) none))) (opt (nth (none, none) c0 a0).1 none (fun p3 => (bd (rwA d1 p3) (fun p4 => (gd (ige a1) (gd (nlt (nN a1) (len p4)) (jn (fun (k5 : U7 → _) => (bd (rwA d1 p3) (fun p6 => (k5 (((ieql (nth ((0, (0, (0, 0))), (0, 0)) p6 (nN a1)).1.1 0), ()), ((), ((), ((), ())))))))) (fun (s7 : U7) => (br s7.1.1 (some ((11, ()), (d0, (d1, (d2, ()))))) (bd (rwA d1 p3) (fun p8 => (br (bnot (ieql (nth ((0, (0, (0, 0))), (0, 0)) p8 (nN a1)).1.1 1)) (some ((12, ()), (d0, (d1, (d2, ()))))) (opt (nth (none, none) c0 a0).2 (bd (rwA d1 p3) (fun p9 => (bd (rwA d1 p3) (fun p10 => none)))) (fun p11 => (bd (rwA d1 p3) (fun p12 => (bd (rwA d1 p3) (fun p13 => (bd (g.ground_Ground_Give p11 (nth ((0, (0, (0, 0))), (0, 0)) p12 (nN a1)).2.1 (nth ((0, (0, (0, 0))), (0, 0)) p13 (nN a1)).2.2 d0 d2) (fun p14 => (bd (rwA d1 p3) (fun p15 => (bd (rwA d1 p3) (fun p16 => (some ((0, ()), (p14.2.1, ((upd d1 p3 (some (upd p16 (nN a1) ((0, (0, ((-1), (bits BinOp.and IntKind.i64 (iadd IntKind.i64 (nth ((0, (0, (0, 0))), (0, 0)) p15 (nN a1)).1.2.2.2 1) 16777215)))), (0, 0))))), (p14.2.2.1, ())))))))))))))))))))))))))))))))) (fun p17 => (bd (rwA d1 p17) (fun p18 => (bd (g.num_Within a1 1 (isub IntKind.i64 (zN (len p18)) 1)) (fun p19 => (br (bnot p19.1.1) (jn (fun (k20 : U7 → _) => (k20 ((true, ()), ((), ((), ((), ())))))) (fun (s21 : U7) => (br s21.1.1 (some ((11, ()), (d0, (d1, (d2, ()))))) none))) (opt (nth (none, none) c0 a0).1 none (fun p22 => (bd (rwA d1 p22) (fun p23 => (gd (ige a1) (gd (nlt (nN a1) (len p23)) (jn (fun (k24 : U7 → _) => (bd (rwA d1 p22) (fun p25 => (k24 (((ieql (nth ((0, (0, (0, 0))), (0, 0)) p25 (nN a1)).1.1 0), ()), ((), ((), ((), ())))))))) (fun (s26 : U7) => (br s26.1.1 (some ((11, ()), (d0, (d1, (d2, ()))))) (bd (rwA d1 p22) (fun p27 => (br (bnot (ieql (nth ((0, (0, (0, 0))), (0, 0)) p27 (nN a1)).1.1 1)) (some ((12, ()), (d0, (d1, (d2, ()))))) (opt (nth (none, none) c0 a0).2 (bd (rwA d1 p22) (fun p28 => (bd (rwA d1 p22) (fun p29 => none)))) (fun p30 => (bd (rwA d1 p22) (fun p31 => (bd (rwA d1 p22) (fun p32 => (bd (g.ground_Ground_Give p30 (nth ((0, (0, (0, 0))), (0, 0)) p31 (nN a1)).2.1 (nth ((0, (0, (0, 0))), (0, 0)) p32 (nN a1)).2.2 d0 d2) (fun p33 => (bd (rwA d1 p22) (fun p34 => (bd (rwA d1 p22) (fun p35 => (some ((0, ()), (p33.2.1, ((upd d1 p22 (some (upd p35 (nN a1) ((0, (0, ((-1), (bits BinOp.and IntKind.i64 (iadd IntKind.i64 (nth ((0, (0, (0, 0))), (0, 0)) p34 (nN a1)).1.2.2.2 1) 16777215)))), (0, 0))))), (p33.2.2.1, ()))))))))))))))))))))))))))))))))))))
noncomputable def F78 : Plain sg78 := fun x c d => g.scopes_Scopes_Destroy x.1 x.2.1 c.1 d.1 d.2.1 d.2.2.1
theorem ct78 : CtOk Tryz.prog 78 sg78 F78 := ct_of envok mixed fnok (hm := homes) (ctC_ok ct39 (ctC_ok ct127 (ctN_ok))) 8 (fun x c d => by kernel_rfl)
noncomputable def sg166 : Sig := ⟨[(false, (.int .i64))], [(false, (.int .i64))], [], []⟩
noncomputable def g.ctl_kind (a0 : Int) : (Option ((Int × Unit) × Unit)) := (jn (fun (k0 : U7 → _) => (br (ieql a0 0) (k0 ((true, ()), ((), ((), ((), ()))))) (k0 (((ieql a0 1), ()), ((), ((), ((), ()))))))) (fun (s1 : U7) => (br s1.1.1 (some ((0, ()), ())) (br (ieql a0 2) (some ((1, ()), ())) (br (ieql a0 3) (some ((2, ()), ())) (some (((-1), ()), ())))))))
noncomputable def F166 : Plain sg166 := fun x c d => g.ctl_kind x.1
theorem ct166 : CtOk Tryz.prog 166 sg166 F166 := ct_of envok mixed fnok (hm := homes) (ctN_ok) 8 (fun x c d => by kernel_rfl)
noncomputable def sg157 : Sig := ⟨[(true, (.pair (.int .i64) (.pair (.int .i64) (.pair (.int .i64) (.int .i64)))))], [(false, .bool)], [], []⟩
noncomputable def g.ctl_Right (a0 : (Int × U2)) : U10 := (bd (g.num_Within a0.2.2.2 0 16777215) (fun p0 => (br (bnot p0.1.1) (some ((false, ()), ())) (bd (g.ctl_kind a0.1) (fun p1 => (br (ieql p1.1.1 0) (br (ieql a0.2.1 0) (some (((ieql a0.2.2.1 (-1)), ()), ())) (some ((false, ()), ()))) (br (ieql p1.1.1 1) (bd (g.num_Within a0.2.1 1 7) (fun p2 => (br p2.1.1 (bd (g.num_Within a0.2.2.1 (-1) 7) (fun p3 => (some ((p3.1.1, ()), ())))) (some ((false, ()), ()))))) (br (ieql p1.1.1 2) (br (ieql a0.2.1 0) (bd (g.num_Within a0.2.2.1 (-1) 7) (fun p4 => (some ((p4.1.1, ()), ())))) (some ((false, ()), ()))) (some ((false, ()), ()))))))))))
noncomputable def F157 : Plain sg157 := fun x c d => g.ctl_Right x.1
theorem ct157 : CtOk Tryz.prog 157 sg157 F157 := ct_of envok mixed fnok (hm := homes) (ctC_ok ct39 (ctC_ok ct166 (ctN_ok))) 8 (fun x c d => by kernel_rfl)
noncomputable def sg131 : Sig := ⟨[(true, (.pair (.int .i64) (.pair (.int .i64) (.pair (.int .i64) (.int .i64))))), (false, (.int .i64))], [(true, (.pair (.int .i64) (.pair (.int .i64) (.pair (.int .i64) (.int .i64))))), (false, (.int .i64))], [], []⟩
noncomputable def g.ctl_Enter (a0 : (Int × U2)) (a1 : Int) : (Option (((Int × U2) × (Int × Unit)) × Unit)) := (jn (fun (k0 : (Unit × (Unit × (Unit × (((Int × (Int × U15)) × ((Int × (Int × U15)) × Unit)) × Unit)))) → _) => (jn (fun (k1 : U7 → _) => (bd (g.ctl_Right (a0.1, (a0.2.1, (a0.2.2.1, a0.2.2.2)))) (fun p2 => (br (bnot p2.1.1) (k1 ((true, ()), ((), ((), ((), ()))))) (bd (g.num_Within a1 0 7) (fun p3 => (k1 (((bnot p3.1.1), ()), ((), ((), ((), ()))))))))))) (fun (s4 : U7) => (br s4.1.1 (some (((0, (0, (0, 0))), (1, ())), ())) (br (ieql a0.1 0) (some (((0, (0, (0, 0))), (11, ())), ())) (br (ieql a0.1 3) (some (((0, (0, (0, 0))), (10, ())), ())) (br (ieql a0.1 1) (k0 ((), ((), ((), (((2, (a0.2.1, (a1, (a0.2.2.2, ())))), ((0, (0, (0, (0, ())))), ())), ()))))) (br (bnot (ieql a0.2.2.1 a1)) (some (((0, (0, (0, 0))), (15, ())), ())) (br (ieql a0.2.1 7) (some (((0, (0, (0, 0))), (16, ())), ())) (k0 ((), ((), ((), (((a0.1, (a0.2.1, (a0.2.2.1, (a0.2.2.2, ())))), ((0, (0, (0, (0, ())))), ())), ())))))))))))))) (fun (s5 : (Unit × (Unit × (Unit × (((Int × (Int × U15)) × ((Int × (Int × U15)) × Unit)) × Unit))))) => (some (((s5.2.2.2.1.1.1, ((iadd IntKind.i64 s5.2.2.2.1.1.2.1 1), (s5.2.2.2.1.1.2.2.1, s5.2.2.2.1.1.2.2.2.1))), (0, ())), ()))))
noncomputable def F131 : Plain sg131 := fun x c d => g.ctl_Enter x.1 x.2.1
theorem ct131 : CtOk Tryz.prog 131 sg131 F131 := ct_of envok mixed fnok (hm := homes) (ctC_ok ct39 (ctC_ok ct157 (ctN_ok))) 8 (fun x c d => by kernel_rfl)
noncomputable def sg82 : Sig := ⟨[(false, (.nptr 1)), (false, (.int .i64)), (false, (.int .i64))], [(false, (.int .i64))], [(1, R1), (2, R2), (4, R4)], [(3, R3)]⟩
noncomputable def g.scopes_Scopes_Enter (a0 : Nat) (a1 : Int) (a2 : Int) (c0 : T1) (c1 : T2) (c2 : T4) (d0 : T3) : (Option ((Int × Unit) × (T3 × Unit))) := (opt (nth (none, none) c0 a0).1 (bd (g.num_Within a1 1 (-1)) (fun p0 => (br (bnot p0.1.1) (some ((11, ()), (d0, ()))) (opt (nth (none, none) c0 a0).1 none (fun p1 => (bd (rwA d0 p1) (fun p2 => (gd (ige a1) (gd (nlt (nN a1) (len p2)) (bd (rwA d0 p1) (fun p3 => (bd (g.ctl_Enter ((nth ((0, (0, (0, 0))), (0, 0)) p3 (nN a1)).1.1, ((nth ((0, (0, (0, 0))), (0, 0)) p3 (nN a1)).1.2.1, ((nth ((0, (0, (0, 0))), (0, 0)) p3 (nN a1)).1.2.2.1, (nth ((0, (0, (0, 0))), (0, 0)) p3 (nN a1)).1.2.2.2))) a2) (fun p4 => (br (ieql p4.1.2.1 0) (bd (rwA d0 p1) (fun p5 => (some ((p4.1.2.1, ()), ((upd d0 p1 (some (updF ((0, (0, (0, 0))), (0, 0)) p5 (nN a1) (fun r13 => ((p4.1.1.1, (p4.1.1.2.1, (p4.1.1.2.2.1, p4.1.1.2.2.2))), r13.2))))), ()))))) (some ((p4.1.2.1, ()), (d0, ()))))))))))))))))) (fun p6 => (bd (rwA d0 p6) (fun p7 => (bd (g.num_Within a1 1 (isub IntKind.i64 (zN (len p7)) 1)) (fun p8 => (br (bnot p8.1.1) (some ((11, ()), (d0, ()))) (opt (nth (none, none) c0 a0).1 none (fun p9 => (bd (rwA d0 p9) (fun p10 => (gd (ige a1) (gd (nlt (nN a1) (len p10)) (bd (rwA d0 p9) (fun p11 => (bd (g.ctl_Enter ((nth ((0, (0, (0, 0))), (0, 0)) p11 (nN a1)).1.1, ((nth ((0, (0, (0, 0))), (0, 0)) p11 (nN a1)).1.2.1, ((nth ((0, (0, (0, 0))), (0, 0)) p11 (nN a1)).1.2.2.1, (nth ((0, (0, (0, 0))), (0, 0)) p11 (nN a1)).1.2.2.2))) a2) (fun p12 => (br (ieql p12.1.2.1 0) (bd (rwA d0 p9) (fun p13 => (some ((p12.1.2.1, ()), ((upd d0 p9 (some (updF ((0, (0, (0, 0))), (0, 0)) p13 (nN a1) (fun r15 => ((p12.1.1.1, (p12.1.1.2.1, (p12.1.1.2.2.1, p12.1.1.2.2.2))), r15.2))))), ()))))) (some ((p12.1.2.1, ()), (d0, ())))))))))))))))))))))
noncomputable def F82 : Plain sg82 := fun x c d => g.scopes_Scopes_Enter x.1 x.2.1 x.2.2.1 c.1 c.2.1 c.2.2.1 d.1
theorem ct82 : CtOk Tryz.prog 82 sg82 F82 := ct_of envok mixed fnok (hm := homes) (ctC_ok ct39 (ctC_ok ct131 (ctN_ok))) 8 (fun x c d => by kernel_rfl)
noncomputable def sg83 : Sig := ⟨[(false, (.slc (.pair (.int .i64) .bool)))], [(false, (.int .i64))], [], []⟩
noncomputable def g.chain_Area (a0 : U19) : (Option ((Int × Unit) × Unit)) := (br (ieql (zN (len a0)) 0) (some ((0, ()), ())) (gd (ige (isub IntKind.i64 (zN (len a0)) 1)) (gd (nlt (nN (isub IntKind.i64 (zN (len a0)) 1)) (len a0)) (some (((nth (0, false) a0 (nN (isub IntKind.i64 (zN (len a0)) 1))).1, ()), ())))))
noncomputable def F83 : Plain sg83 := fun x c d => g.chain_Area x.1
theorem ct83 : CtOk Tryz.prog 83 sg83 F83 := ct_of envok mixed fnok (hm := homes) (ctN_ok) 8 (fun x c d => by kernel_rfl)
noncomputable def sg56 : Sig := ⟨[(false, (.slc (.pair (.int .i64) .bool)))], [(false, (.slc (.pair (.int .i64) .bool)))], [], []⟩
noncomputable def g.slices_Clone_ (a0 : U19) : (Option ((U19 × Unit) × Unit)) := (gd (nle (nadd 0 (len a0)) 16777216) (some (((cat [] a0), ()), ())))
noncomputable def F56 : Plain sg56 := fun x c d => g.slices_Clone_ x.1
theorem ct56 : CtOk Tryz.prog 56 sg56 F56 := ct_nil (cxF_ok envok mixed fnok (hm := homes) (ctN_ok) 8) (t := (.pair (.int .i64) .bool)) (rs := [(false, .slc (.pair (.int .i64) .bool))]) (F := fun l => F56 (l, ()) () ()) (by kernel_rfl) (fun l => by kernel_rfl)
noncomputable def sg84 : Sig := ⟨[(false, (.slc (.pair (.int .i64) .bool)))], [(false, (.slc (.pair (.int .i64) .bool))), (true, (.pair (.int .i64) .bool)), (false, (.int .i64))], [], []⟩
noncomputable def g.chain_Pop (a0 : U19) : (Option ((U19 × ((Int × Bool) × (Int × Unit))) × Unit)) := (br (ilss (isub IntKind.i64 (zN (len a0)) 1) 0) (some (([], ((0, false), (23, ()))), ())) (gd (ige (isub IntKind.i64 (zN (len a0)) 1)) (gd (nle 0 (nN (isub IntKind.i64 (zN (len a0)) 1))) (gd (nle (nN (isub IntKind.i64 (zN (len a0)) 1)) (len a0)) (bd (g.slices_Clone_ (tk (nsub (nN (isub IntKind.i64 (zN (len a0)) 1)) 0) (dr 0 a0))) (fun p0 => (gd (ige (isub IntKind.i64 (zN (len a0)) 1)) (gd (nlt (nN (isub IntKind.i64 (zN (len a0)) 1)) (len a0)) (some ((p0.1.1, (((nth (0, false) a0 (nN (isub IntKind.i64 (zN (len a0)) 1))).1, (nth (0, false) a0 (nN (isub IntKind.i64 (zN (len a0)) 1))).2), (0, ()))), ()))))))))))
noncomputable def F84 : Plain sg84 := fun x c d => g.chain_Pop x.1
theorem ct84 : CtOk Tryz.prog 84 sg84 F84 := ct_of envok mixed fnok (hm := homes) (ctC_ok ct56 (ctN_ok)) 8 (fun x c d => by kernel_rfl)
noncomputable def sg160 : Sig := ⟨[(true, (.pair (.int .i64) (.pair (.int .i64) (.pair (.int .i64) (.int .i64))))), (false, (.int .i64))], [(false, (.int .i64))], [], []⟩
noncomputable def g.ctl_of (a0 : (Int × U2)) (a1 : Int) : (Option ((Int × Unit) × Unit)) := (bd (g.ctl_Right (a0.1, (a0.2.1, (a0.2.2.1, a0.2.2.2)))) (fun p0 => (br (bnot p0.1.1) (some ((1, ()), ())) (br (bnot (ieql a0.1 a1)) (some ((11, ()), ())) (some ((0, ()), ()))))))
noncomputable def F160 : Plain sg160 := fun x c d => g.ctl_of x.1 x.2.1
theorem ct160 : CtOk Tryz.prog 160 sg160 F160 := ct_of envok mixed fnok (hm := homes) (ctC_ok ct157 (ctN_ok)) 8 (fun x c d => by kernel_rfl)
noncomputable def sg135 : Sig := ⟨[(true, (.pair (.int .i64) (.pair (.int .i64) (.pair (.int .i64) (.int .i64)))))], [(true, (.pair (.int .i64) (.pair (.int .i64) (.pair (.int .i64) (.int .i64))))), (false, (.int .i64))], [], []⟩
noncomputable def g.ctl_Leave (a0 : (Int × U2)) : (Option (((Int × U2) × (Int × Unit)) × Unit)) := (bd (g.ctl_of (a0.1, (a0.2.1, (a0.2.2.1, a0.2.2.2))) 2) (fun p0 => (br (bnot (ieql p0.1.1 0)) (some (((0, (0, (0, 0))), (p0.1.1, ())), ())) (br (ieql (isub IntKind.i64 a0.2.1 1) 0) (some (((3, ((isub IntKind.i64 a0.2.1 1), (a0.2.2.1, a0.2.2.2))), (0, ())), ())) (some (((a0.1, ((isub IntKind.i64 a0.2.1 1), (a0.2.2.1, a0.2.2.2))), (0, ())), ()))))))
noncomputable def F135 : Plain sg135 := fun x c d => g.ctl_Leave x.1
theorem ct135 : CtOk Tryz.prog 135 sg135 F135 := ct_of envok mixed fnok (hm := homes) (ctC_ok ct160 (ctN_ok)) 8 (fun x c d => by kernel_rfl)
noncomputable def sg86 : Sig := ⟨[(false, (.nptr 1)), (false, (.int .i64))], [(false, .bool), (false, (.int .i64))], [(1, R1), (2, R2), (4, R4)], [(3, R3)]⟩
noncomputable def g.scopes_Scopes_Leave (a0 : Nat) (a1 : Int) (c0 : T1) (c1 : T2) (c2 : T4) (d0 : T3) : (Option ((Bool × (Int × Unit)) × (T3 × Unit))) := (jn (fun (k0 : (Unit × (Unit × (Unit × (Unit × (T3 × Unit))))) → _) => (opt (nth (none, none) c0 a0).1 (bd (g.num_Within a1 1 (-1)) (fun p1 => (br (bnot p1.1.1) (some ((false, (11, ())), (d0, ()))) (opt (nth (none, none) c0 a0).1 none (fun p2 => (bd (rwA d0 p2) (fun p3 => (gd (ige a1) (gd (nlt (nN a1) (len p3)) (bd (rwA d0 p2) (fun p4 => (bd (g.ctl_Leave ((nth ((0, (0, (0, 0))), (0, 0)) p4 (nN a1)).1.1, ((nth ((0, (0, (0, 0))), (0, 0)) p4 (nN a1)).1.2.1, ((nth ((0, (0, (0, 0))), (0, 0)) p4 (nN a1)).1.2.2.1, (nth ((0, (0, (0, 0))), (0, 0)) p4 (nN a1)).1.2.2.2)))) (fun p5 => (br (ieql p5.1.2.1 0) (bd (rwA d0 p2) (fun p6 => (br (bnot (ieql p5.1.2.1 0)) (some ((false, (p5.1.2.1, ())), ((upd d0 p2 (some (updF ((0, (0, (0, 0))), (0, 0)) p6 (nN a1) (fun r13 => ((p5.1.1.1, (p5.1.1.2.1, (p5.1.1.2.2.1, p5.1.1.2.2.2))), r13.2))))), ()))) (k0 ((), ((), ((), ((), ((upd d0 p2 (some (updF ((0, (0, (0, 0))), (0, 0)) p6 (nN a1) (fun r13 => ((p5.1.1.1, (p5.1.1.2.1, (p5.1.1.2.2.1, p5.1.1.2.2.2))), r13.2))))), ()))))))))) (br (bnot (ieql p5.1.2.1 0)) (some ((false, (p5.1.2.1, ())), (d0, ()))) (k0 ((), ((), ((), ((), (d0, ()))))))))))))))))))))) (fun p7 => (bd (rwA d0 p7) (fun p8 => (bd (g.num_Within a1 1 (isub IntKind.i64 (zN (len p8)) 1)) (fun p9 => (br (bnot p9.1.1) (some ((false, (11, ())), (d0, ()))) (opt (nth (none, none) c0 a0).1 none (fun p10 => (bd (rwA d0 p10) (fun p11 => (gd (ige a1) (gd (nlt (nN a1) (len p11)) (bd (rwA d0 p10) (fun p12 => (bd (g.ctl_Leave ((nth ((0, (0, (0, 0))), (0, 0)) p12 (nN a1)).1.1, ((nth ((0, (0, (0, 0))), (0, 0)) p12 (nN a1)).1.2.1, ((nth ((0, (0, (0, 0))), (0, 0)) p12 (nN a1)).1.2.2.1, (nth ((0, (0, (0, 0))), (0, 0)) p12 (nN a1)).1.2.2.2)))) (fun p13 => (br (ieql p13.1.2.1 0) (bd (rwA d0 p10) (fun p14 => (br (bnot (ieql p13.1.2.1 0)) (some ((false, (p13.1.2.1, ())), ((upd d0 p10 (some (updF ((0, (0, (0, 0))), (0, 0)) p14 (nN a1) (fun r15 => ((p13.1.1.1, (p13.1.1.2.1, (p13.1.1.2.2.1, p13.1.1.2.2.2))), r15.2))))), ()))) (k0 ((), ((), ((), ((), ((upd d0 p10 (some (updF ((0, (0, (0, 0))), (0, 0)) p14 (nN a1) (fun r15 => ((p13.1.1.1, (p13.1.1.2.1, (p13.1.1.2.2.1, p13.1.1.2.2.2))), r15.2))))), ()))))))))) (br (bnot (ieql p13.1.2.1 0)) (some ((false, (p13.1.2.1, ())), (d0, ()))) (k0 ((), ((), ((), ((), (d0, ())))))))))))))))))))))))))) (fun (s15 : (Unit × (Unit × (Unit × (Unit × (T3 × Unit)))))) => (opt (nth (none, none) c0 a0).1 none (fun p16 => (bd (rwA s15.2.2.2.2.1 p16) (fun p17 => (gd (ige a1) (gd (nlt (nN a1) (len p17)) (bd (rwA s15.2.2.2.2.1 p16) (fun p18 => (some (((ieql (nth ((0, (0, (0, 0))), (0, 0)) p18 (nN a1)).1.1 3), (0, ())), (s15.2.2.2.2.1, ())))))))))))))
noncomputable def F86 : Plain sg86 := fun x c d => g.scopes_Scopes_Leave x.1 x.2.1 c.1 c.2.1 c.2.2.1 d.1
theorem ct86 : CtOk Tryz.prog 86 sg86 F86 := ct_of envok mixed fnok (hm := homes) (ctC_ok ct39 (ctC_ok ct135 (ctN_ok))) 8 (fun x c d => by kernel_rfl)
noncomputable def sg136 : Sig := ⟨[(true, (.pair (.int .i64) (.pair (.int .i64) (.pair (.int .i64) (.int .i64)))))], [(true, (.pair (.int .i64) (.pair (.int .i64) (.pair (.int .i64) (.int .i64))))), (false, (.int .i64))], [], []⟩
noncomputable def g.ctl_Open (a0 : (Int × U2)) : (Option (((Int × U2) × (Int × Unit)) × Unit)) := (bd (g.ctl_of (a0.1, (a0.2.1, (a0.2.2.1, a0.2.2.2))) 3) (fun p0 => (br (bnot (ieql p0.1.1 0)) (some (((0, (0, (0, 0))), (p0.1.1, ())), ())) (some (((1, (0, ((-1), (bits BinOp.and IntKind.i64 (iadd IntKind.i64 a0.2.2.2 1) 16777215)))), (0, ())), ())))))
noncomputable def F136 : Plain sg136 := fun x c d => g.ctl_Open x.1
theorem ct136 : CtOk Tryz.prog 136 sg136 F136 := ct_of envok mixed fnok (hm := homes) (ctC_ok ct160 (ctN_ok)) 8 (fun x c d => by kernel_rfl)
noncomputable def sg87 : Sig := ⟨[(false, (.nptr 1)), (false, (.int .i64))], [(false, (.int .i64))], [(1, R1), (2, R2), (4, R4)], [(3, R3)]⟩
noncomputable def g.scopes_Scopes_Open (a0 : Nat) (a1 : Int) (c0 : T1) (c1 : T2) (c2 : T4) (d0 : T3) : (Option ((Int × Unit) × (T3 × Unit))) := (opt (nth (none, none) c0 a0).1 (bd (g.num_Within a1 1 (-1)) (fun p0 => (br (bnot p0.1.1) (some ((11, ()), (d0, ()))) (opt (nth (none, none) c0 a0).1 none (fun p1 => (bd (rwA d0 p1) (fun p2 => (gd (ige a1) (gd (nlt (nN a1) (len p2)) (bd (rwA d0 p1) (fun p3 => (bd (g.ctl_Open ((nth ((0, (0, (0, 0))), (0, 0)) p3 (nN a1)).1.1, ((nth ((0, (0, (0, 0))), (0, 0)) p3 (nN a1)).1.2.1, ((nth ((0, (0, (0, 0))), (0, 0)) p3 (nN a1)).1.2.2.1, (nth ((0, (0, (0, 0))), (0, 0)) p3 (nN a1)).1.2.2.2)))) (fun p4 => (br (ieql p4.1.2.1 0) (bd (rwA d0 p1) (fun p5 => (some ((p4.1.2.1, ()), ((upd d0 p1 (some (updF ((0, (0, (0, 0))), (0, 0)) p5 (nN a1) (fun r12 => ((p4.1.1.1, (p4.1.1.2.1, (p4.1.1.2.2.1, p4.1.1.2.2.2))), r12.2))))), ()))))) (some ((p4.1.2.1, ()), (d0, ()))))))))))))))))) (fun p6 => (bd (rwA d0 p6) (fun p7 => (bd (g.num_Within a1 1 (isub IntKind.i64 (zN (len p7)) 1)) (fun p8 => (br (bnot p8.1.1) (some ((11, ()), (d0, ()))) (opt (nth (none, none) c0 a0).1 none (fun p9 => (bd (rwA d0 p9) (fun p10 => (gd (ige a1) (gd (nlt (nN a1) (len p10)) (bd (rwA d0 p9) (fun p11 => (bd (g.ctl_Open ((nth ((0, (0, (0, 0))), (0, 0)) p11 (nN a1)).1.1, ((nth ((0, (0, (0, 0))), (0, 0)) p11 (nN a1)).1.2.1, ((nth ((0, (0, (0, 0))), (0, 0)) p11 (nN a1)).1.2.2.1, (nth ((0, (0, (0, 0))), (0, 0)) p11 (nN a1)).1.2.2.2)))) (fun p12 => (br (ieql p12.1.2.1 0) (bd (rwA d0 p9) (fun p13 => (some ((p12.1.2.1, ()), ((upd d0 p9 (some (updF ((0, (0, (0, 0))), (0, 0)) p13 (nN a1) (fun r14 => ((p12.1.1.1, (p12.1.1.2.1, (p12.1.1.2.2.1, p12.1.1.2.2.2))), r14.2))))), ()))))) (some ((p12.1.2.1, ()), (d0, ())))))))))))))))))))))
noncomputable def F87 : Plain sg87 := fun x c d => g.scopes_Scopes_Open x.1 x.2.1 c.1 c.2.1 c.2.2.1 d.1
theorem ct87 : CtOk Tryz.prog 87 sg87 F87 := ct_of envok mixed fnok (hm := homes) (ctC_ok ct39 (ctC_ok ct136 (ctN_ok))) 8 (fun x c d => by kernel_rfl)
noncomputable def sg137 : Sig := ⟨[(false, (.slc (.pair (.int .i64) .bool))), (false, (.int .i64))], [(false, (.int .i64))], [], []⟩
noncomputable def g.chain_at_l0 (a0 : U19) (a1 : Int) (k : (U6 → (Option ((Int × Unit) × Unit)))) (s : U6) : (Option ((Int × Unit) × Unit)) := (br (ilss s.1.1 (zN (len a0))) (gd (ige s.1.1) (gd (nlt (nN s.1.1) (len a0)) (br (band (ieql a1 (nth (0, false) a0 (nN s.1.1)).1) (band (beql true (nth (0, false) a0 (nN s.1.1)).2) true)) (some ((s.1.1, ()), ())) (k (((iadd IntKind.i64 s.1.1 1), ()), ((), ((), ((), ())))))))) (some (((-1), ()), ())))
noncomputable def g.chain_at (a0 : U19) (a1 : Int) : (Option ((Int × Unit) × Unit)) := (loop (g.chain_at_l0 a0 a1) ((0, ()), ((), ((), ((), ())))))
noncomputable def F137 : Plain sg137 := fun x c d => g.chain_at x.1 x.2.1
theorem ct137 : CtOk Tryz.prog 137 sg137 F137 := ct_of envok mixed fnok (hm := homes) (ctN_ok) 8 (fun x c d => by kernel_rfl)
noncomputable def sg88 : Sig := ⟨[(false, (.slc (.pair (.int .i64) .bool))), (false, (.int .i64))], [(false, .bool)], [], []⟩
noncomputable def g.chain_Reach (a0 : U19) (a1 : Int) : U10 := (br (ieql a1 0) (some ((true, ()), ())) (bd (g.chain_at a0 a1) (fun p0 => (some (((ileq 0 p0.1.1), ()), ())))))
noncomputable def F88 : Plain sg88 := fun x c d => g.chain_Reach x.1 x.2.1
theorem ct88 : CtOk Tryz.prog 88 sg88 F88 := ct_of envok mixed fnok (hm := homes) (ctC_ok ct137 (ctN_ok)) 8 (fun x c d => by kernel_rfl)
noncomputable def sg138 : Sig := ⟨[(false, (.int .i64))], [(false, (.int .i64)), (false, (.int .i64))], [], []⟩
noncomputable def g.num_Words (a0 : Int) : (Option (U15 × Unit)) := (bd (g.num_Up a0) (fun p0 => (some (((iquo IntKind.i64 p0.1.1 8), (p0.1.2.1, ())), ()))))
noncomputable def F138 : Plain sg138 := fun x c d => g.num_Words x.1
theorem ct138 : CtOk Tryz.prog 138 sg138 F138 := ct_of envok mixed fnok (hm := homes) (ctC_ok ct125 (ctN_ok)) 8 (fun x c d => by kernel_rfl)
noncomputable def sg90 : Sig := ⟨[(false, (.int .i64)), (false, (.int .i64))], [(false, (.int .i64)), (false, (.int .i64))], [], []⟩
noncomputable def g.head_Words (a0 : Int) (a1 : Int) : (Option (U15 × Unit)) := (jn (fun (k0 : (Unit × U0) → _) => (bd (g.num_Within a0 0 6) (fun p1 => (br (bnot p1.1.1) (some ((0, (1, ())), ())) (bd (g.num_Within a1 0 512) (fun p2 => (br (bnot p2.1.1) (some ((0, (1, ())), ())) (k0 ((), ((), ((), ((), ())))))))))))) (fun (s3 : (Unit × U0)) => (bd (g.num_Words a1) (fun p4 => (some (((iadd IntKind.i64 (iadd IntKind.i64 2 a0) p4.1.1), (p4.1.2.1, ())), ()))))))
noncomputable def F90 : Plain sg90 := fun x c d => g.head_Words x.1 x.2.1
theorem ct90 : CtOk Tryz.prog 90 sg90 F90 := ct_of envok mixed fnok (hm := homes) (ctC_ok ct39 (ctC_ok ct138 (ctN_ok))) 8 (fun x c d => by kernel_rfl)
noncomputable def sg91 : Sig := ⟨[(false, (.nptr 1)), (false, (.int .i64))], [(true, (.pair (.int .i64) (.int .i64))), (false, (.int .i64))], [(1, R1), (2, R2), (3, R3), (4, R4)], []⟩
noncomputable def g.scopes_Scopes_Extent (a0 : Nat) (a1 : Int) (c0 : T1) (c1 : T2) (c2 : T3) (c3 : T4) : (Option (((Int × Int) × (Int × Unit)) × Unit)) := (opt (nth (none, none) c0 a0).1 (bd (g.num_Within a1 0 (-1)) (fun p0 => (br (bnot p0.1.1) (some (((0, 0), (11, ())), ())) (opt (nth (none, none) c0 a0).1 none (fun p1 => (bd (rwA c2 p1) (fun p2 => (gd (ige a1) (gd (nlt (nN a1) (len p2)) (bd (rwA c2 p1) (fun p3 => (some ((((nth ((0, (0, (0, 0))), (0, 0)) p3 (nN a1)).2.1, (nth ((0, (0, (0, 0))), (0, 0)) p3 (nN a1)).2.2), (0, ())), ()))))))))))))) (fun p4 => (bd (rwA c2 p4) (fun p5 => (bd (g.num_Within a1 0 (isub IntKind.i64 (zN (len p5)) 1)) (fun p6 => (br (bnot p6.1.1) (some (((0, 0), (11, ())), ())) (opt (nth (none, none) c0 a0).1 none (fun p7 => (bd (rwA c2 p7) (fun p8 => (gd (ige a1) (gd (nlt (nN a1) (len p8)) (bd (rwA c2 p7) (fun p9 => (some ((((nth ((0, (0, (0, 0))), (0, 0)) p9 (nN a1)).2.1, (nth ((0, (0, (0, 0))), (0, 0)) p9 (nN a1)).2.2), (0, ())), ())))))))))))))))))
noncomputable def F91 : Plain sg91 := fun x c d => g.scopes_Scopes_Extent x.1 x.2.1 c.1 c.2.1 c.2.2.1 c.2.2.2.1
theorem ct91 : CtOk Tryz.prog 91 sg91 F91 := ct_of envok mixed fnok (hm := homes) (ctC_ok ct39 (ctN_ok)) 8 (fun x c d => by kernel_rfl)
noncomputable def sg128 : Sig := ⟨[(false, (.slc (.pair (.int .i64) .bool))), (true, (.pair (.int .i64) .bool))], [(false, (.slc (.pair (.int .i64) .bool))), (false, (.int .i64))], [], []⟩
noncomputable def g.chain_Push (a0 : U19) (a1 : (Int × Bool)) : (Option ((U19 × (Int × Unit)) × Unit)) := (br (ileq 6 (zN (len a0))) (some (([], (24, ())), ())) (gd (ige (iadd IntKind.i64 (zN (len a0)) 1)) (gd (nle (nN (iadd IntKind.i64 (zN (len a0)) 1)) 16777216) (gd (nlt 0 (len (rep (α := (Int × Bool)) (nN (iadd IntKind.i64 (zN (len a0)) 1)) (0, false)))) (gd (nle (len a0) (len (rep (α := (Int × Bool)) (nN (iadd IntKind.i64 (zN (len a0)) 1)) (0, false)))) (gd (ige (zN (len a0))) (gd (nlt (nN (zN (len a0))) (len (cat a0 (dr (len a0) (rep (α := (Int × Bool)) (nN (iadd IntKind.i64 (zN (len a0)) 1)) (0, false)))))) (some (((upd (cat a0 (dr (len a0) (rep (α := (Int × Bool)) (nN (iadd IntKind.i64 (zN (len a0)) 1)) (0, false)))) (nN (zN (len a0))) (a1.1, a1.2)), (0, ())), ())))))))))
noncomputable def F128 : Plain sg128 := fun x c d => g.chain_Push x.1 x.2.1
theorem ct128 : CtOk Tryz.prog 128 sg128 F128 := ct_of envok mixed fnok (hm := homes) (ctN_ok) 8 (fun x c d => by kernel_rfl)
noncomputable def sg133 : Sig := ⟨[(false, (.slc (.slc (.pair (.int .u8) (.pair (.int .i64) (.int .i64)))))), (false, (.int .i64))], [(false, (.slc (.pair (.int .u8) (.pair (.int .i64) (.int .i64)))))], [], []⟩
noncomputable def g.fin_Of (a0 : (List (List U2))) (a1 : Int) : (Option (((List U2) × Unit) × Unit)) := (bd (g.num_Within a1 0 (isub IntKind.i64 (zN (len a0)) 1)) (fun p0 => (br (bnot p0.1.1) (some (([], ()), ())) (gd (ige a1) (gd (nlt (nN a1) (len a0)) (some (((nth [] a0 (nN a1)), ()), ())))))))
noncomputable def F133 : Plain sg133 := fun x c d => g.fin_Of x.1 x.2.1
theorem ct133 : CtOk Tryz.prog 133 sg133 F133 := ct_of envok mixed fnok (hm := homes) (ctC_ok ct39 (ctN_ok)) 8 (fun x c d => by kernel_rfl)
noncomputable def sg134 : Sig := ⟨[(false, (.slc (.pair (.int .u8) (.pair (.int .i64) (.int .i64))))), (false, (.rsl 10 1))], [(false, (.rsl 10 1)), (false, (.slc (.int .i64))), (false, .bool), (false, (.int .i64))], [], [(10, R10)]⟩
noncomputable def g.fin_Run_l0 (a0 : (List U2)) (v0 : ((Bool × U15) × (((List Int) × U13) × (Unit × (Unit × Unit))))) (v1 : U7 → U9) (k : (U6 → U9)) (s : U6) : U9 := (br (ilss s.1.1 (zN (len [(nth (0, (0, 0)) a0 (nN v0.1.2.2.1)).2.1]))) (gd (ige s.1.1) (gd (nlt (nN s.1.1) (len [(nth (0, (0, 0)) a0 (nN v0.1.2.2.1)).2.1])) (bd (g.num_Within (nth 0 [(nth (0, (0, 0)) a0 (nN v0.1.2.2.1)).2.1] (nN s.1.1)) 0 (isub IntKind.i64 (zN (len (cat [] v0.2.1.1))) 1)) (fun p0 => (br (bnot p0.1.1) (br (bnot (ileq 0 s.1.1)) (gd (ige (nth (0, (0, 0)) a0 (nN v0.1.2.2.1)).2.1) (gd (nlt (nN (nth (0, (0, 0)) a0 (nN v0.1.2.2.1)).2.1) (len (cat [] v0.2.1.1))) (v1 (((ieql (nth 0 (cat [] v0.2.1.1) (nN (nth (0, (0, 0)) a0 (nN v0.1.2.2.1)).2.1)) 0), ()), ((), ((), ((), ()))))))) (v1 ((false, ()), ((), ((), ((), ())))))) (k (((iadd IntKind.i64 s.1.1 1), ()), ((), ((), ((), ())))))))))) (gd (ige (nth (0, (0, 0)) a0 (nN v0.1.2.2.1)).2.1) (gd (nlt (nN (nth (0, (0, 0)) a0 (nN v0.1.2.2.1)).2.1) (len (cat [] v0.2.1.1))) (v1 (((ieql (nth 0 (cat [] v0.2.1.1) (nN (nth (0, (0, 0)) a0 (nN v0.1.2.2.1)).2.1)) 0), ()), ((), ((), ((), ()))))))))
noncomputable def g.fin_Run_l1 (a0 : (List U2)) (v0 : ((Bool × U15) × (((List Int) × U13) × (Unit × (Unit × Unit))))) (v1 : U7 → U9) (k : (U6 → U9)) (s : U6) : U9 := (br (ilss s.1.1 (zN (len [(nth (0, (0, 0)) a0 (nN v0.1.2.2.1)).2.1, (nth (0, (0, 0)) a0 (nN v0.1.2.2.1)).2.2]))) (gd (ige s.1.1) (gd (nlt (nN s.1.1) (len [(nth (0, (0, 0)) a0 (nN v0.1.2.2.1)).2.1, (nth (0, (0, 0)) a0 (nN v0.1.2.2.1)).2.2])) (bd (g.num_Within (nth 0 [(nth (0, (0, 0)) a0 (nN v0.1.2.2.1)).2.1, (nth (0, (0, 0)) a0 (nN v0.1.2.2.1)).2.2] (nN s.1.1)) 0 (isub IntKind.i64 (zN (len (cat [] v0.2.1.1))) 1)) (fun p0 => (br (bnot p0.1.1) (v1 (((bnot (ileq 0 s.1.1)), ()), ((), ((), ((), ()))))) (k (((iadd IntKind.i64 s.1.1 1), ()), ((), ((), ((), ())))))))))) (v1 ((true, ()), ((), ((), ((), ()))))))
noncomputable def g.fin_Run_l2 (a0 : (List U2)) (v0 : ((Bool × U15) × (((List Int) × U13) × (Unit × (Unit × Unit))))) (v1 : U7 → U9) (k : (U6 → U9)) (s : U6) : U9 := (br (ilss s.1.1 (zN (len [(nth (0, (0, 0)) a0 (nN v0.1.2.2.1)).2.1]))) (gd (ige s.1.1) (gd (nlt (nN s.1.1) (len [(nth (0, (0, 0)) a0 (nN v0.1.2.2.1)).2.1])) (bd (g.num_Within (nth 0 [(nth (0, (0, 0)) a0 (nN v0.1.2.2.1)).2.1] (nN s.1.1)) 0 (isub IntKind.i64 (zN (len (cat [] v0.2.1.1))) 1)) (fun p0 => (br (bnot p0.1.1) (v1 (((bnot (ileq 0 s.1.1)), ()), ((), ((), ((), ()))))) (k (((iadd IntKind.i64 s.1.1 1), ()), ((), ((), ((), ())))))))))) (v1 ((true, ()), ((), ((), ((), ()))))))
noncomputable def g.fin_Run_l3 (a0 : (List U2)) (d0 : T10) (k : (((Bool × U15) × (((List Int) × U13) × (Unit × (Unit × Unit)))) → U9)) (s : ((Bool × U15) × (((List Int) × U13) × (Unit × (Unit × Unit))))) : U9 := (br (ilss s.1.2.2.1 (zN (len a0))) (jn (fun (k0 : ((Int × (Bool × Unit)) × (((List Int) × U13) × (Unit × (Unit × Unit)))) → _) => (gd (nle (nadd 0 (len s.2.1.1)) 16777216) (bd (g.num_Within s.1.2.2.1 0 (isub IntKind.i64 (zN (len a0)) 1)) (fun p1 => (br (bnot p1.1.1) (k0 ((s.1.2.2.1, (false, ())), (((cat [] s.2.1.1), ([], ())), ((), ((), ()))))) (gd (ige s.1.2.2.1) (gd (nlt (nN s.1.2.2.1) (len a0)) (jn (fun (k2 : (Unit × (Unit × (Unit × ((((List Int) × ((List Int) × (Bool × (Int × Unit)))) × Unit) × Unit)))) → _) => (br (ilss (wrp IntKind.i64 (nth (0, (0, 0)) a0 (nN s.1.2.2.1)).1) 5) (br (ieql (nth (0, (0, 0)) a0 (nN s.1.2.2.1)).1 0) (gd (nle (len [(nth (0, (0, 0)) a0 (nN s.1.2.2.1)).2.1]) 16777216) (k2 ((), ((), ((), ((((cat [] s.2.1.1), ([(nth (0, (0, 0)) a0 (nN s.1.2.2.1)).2.1], (false, (0, ())))), ()), ())))))) (br (ieql (nth (0, (0, 0)) a0 (nN s.1.2.2.1)).1 1) (jn (fun (k3 : U7 → _) => (loop (g.fin_Run_l2 a0 s k3) ((0, ()), ((), ((), ((), ())))))) (fun (s4 : U7) => (br s4.1.1 (gd (ige (nth (0, (0, 0)) a0 (nN s.1.2.2.1)).2.1) (gd (nlt (nN (nth (0, (0, 0)) a0 (nN s.1.2.2.1)).2.1) (len (cat [] s.2.1.1))) (k2 ((), ((), ((), ((((upd (cat [] s.2.1.1) (nN (nth (0, (0, 0)) a0 (nN s.1.2.2.1)).2.1) 0), ([], (false, (0, ())))), ()), ()))))))) (k2 ((), ((), ((), ((((cat [] s.2.1.1), ([], (false, (0, ())))), ()), ())))))))) (br (ieql (nth (0, (0, 0)) a0 (nN s.1.2.2.1)).1 2) (jn (fun (k5 : U7 → _) => (loop (g.fin_Run_l1 a0 s k5) ((0, ()), ((), ((), ((), ())))))) (fun (s6 : U7) => (br s6.1.1 (gd (ige (nth (0, (0, 0)) a0 (nN s.1.2.2.1)).2.2) (gd (nlt (nN (nth (0, (0, 0)) a0 (nN s.1.2.2.1)).2.2) (len (cat [] s.2.1.1))) (gd (ige (nth (0, (0, 0)) a0 (nN s.1.2.2.1)).2.1) (gd (nlt (nN (nth (0, (0, 0)) a0 (nN s.1.2.2.1)).2.1) (len (cat [] s.2.1.1))) (k2 ((), ((), ((), ((((upd (cat [] s.2.1.1) (nN (nth (0, (0, 0)) a0 (nN s.1.2.2.1)).2.1) (nth 0 (cat [] s.2.1.1) (nN (nth (0, (0, 0)) a0 (nN s.1.2.2.1)).2.2))), ([], (false, (0, ())))), ()), ()))))))))) (k2 ((), ((), ((), ((((cat [] s.2.1.1), ([], (false, (0, ())))), ()), ())))))))) (br (ieql (nth (0, (0, 0)) a0 (nN s.1.2.2.1)).1 3) (jn (fun (k7 : U7 → _) => (loop (g.fin_Run_l0 a0 s k7) ((0, ()), ((), ((), ((), ())))))) (fun (s8 : U7) => (br s8.1.1 (k2 ((), ((), ((), ((((cat [] s.2.1.1), ([], (false, ((nth (0, (0, 0)) a0 (nN s.1.2.2.1)).2.2, ())))), ()), ()))))) (k2 ((), ((), ((), ((((cat [] s.2.1.1), ([], (false, (0, ())))), ()), ())))))))) (br (ieql (nth (0, (0, 0)) a0 (nN s.1.2.2.1)).1 4) (k2 ((), ((), ((), ((((cat [] s.2.1.1), ([], (true, (0, ())))), ()), ()))))) none))))) (k2 ((), ((), ((), ((((cat [] s.2.1.1), ([], (false, (0, ())))), ()), ()))))))) (fun (s9 : (Unit × (Unit × (Unit × ((((List Int) × ((List Int) × (Bool × (Int × Unit)))) × Unit) × Unit))))) => (k0 (((iadd IntKind.i64 (iadd IntKind.i64 s.1.2.2.1 1) s9.2.2.2.1.1.2.2.2.1), (s9.2.2.2.1.1.2.2.1, ())), ((s9.2.2.2.1.1.1, (s9.2.2.2.1.1.2.1, ())), ((), ((), ())))))))))))))) (fun (s10 : ((Int × (Bool × Unit)) × (((List Int) × U13) × (Unit × (Unit × Unit))))) => (gd (nle (nadd (len s.2.1.2.1) (len s10.2.1.2.1)) 16777216) (br s.1.1 (k ((true, ((iadd IntKind.i64 s.1.2.1 1), (s10.1.1, ()))), ((s10.2.1.1, ((cat s.2.1.2.1 s10.2.1.2.1), ())), ((), ((), ()))))) (k ((s10.1.2.1, ((iadd IntKind.i64 s.1.2.1 1), (s10.1.1, ()))), ((s10.2.1.1, ((cat s.2.1.2.1 s10.2.1.2.1), ())), ((), ((), ()))))))))) (some (((some (len d0)), (s.2.1.2.1, (s.1.1, (s.1.2.1, ())))), ((cat d0 [(some s.2.1.1)]), ()))))
noncomputable def g.fin_Run (a0 : (List U2)) (a1 : (Option Nat)) (d0 : T10) : U9 := (opt a1 (loop (g.fin_Run_l3 a0 d0) ((false, (0, (0, ()))), (((cat [] []), ([], ())), ((), ((), ()))))) (fun p22 => (bd (rwA d0 p22) (fun p23 => (gd (nle (nadd 0 (len p23)) 16777216) (loop (g.fin_Run_l3 a0 d0) ((false, (0, (0, ()))), (((cat [] p23), ([], ())), ((), ((), ()))))))))))
noncomputable def F134 : Plain sg134 := fun x c d => g.fin_Run x.1 x.2.1 d.1
theorem ct134 : CtOk Tryz.prog 134 sg134 F134 := ct_of envok mixed fnok (hm := homes) (ctC_ok ct39 (ctN_ok)) 8 (fun x c d => by kernel_rfl)
noncomputable def sg162 : Sig := ⟨[(false, (.slc (.pair (.int .i64) .bool))), (false, (.int .i64))], [(false, (.int .i64))], [], []⟩
noncomputable def g.chain_Parent (a0 : U19) (a1 : Int) : (Option ((Int × Unit) × Unit)) := (bd (g.chain_at a0 a1) (fun p0 => (br (ilss p0.1.1 0) (some (((-1), ()), ())) (gd (ieq p0.1.1 p0.1.1) (gd (ige p0.1.1) (gd (nle 0 (nN p0.1.1)) (gd (nle (nN p0.1.1) (len a0)) (bd (g.chain_Area (tk (nsub (nN p0.1.1) 0) (dr 0 a0))) (fun p1 => (some ((p1.1.1, ()), ())))))))))))
noncomputable def F162 : Plain sg162 := fun x c d => g.chain_Parent x.1 x.2.1
theorem ct162 : CtOk Tryz.prog 162 sg162 F162 := ct_of envok mixed fnok (hm := homes) (ctC_ok ct83 (ctC_ok ct137 (ctN_ok))) 8 (fun x c d => by kernel_rfl)
noncomputable def sg140 : Sig := ⟨[(false, (.slc (.pair (.int .i64) .bool))), (false, (.int .i64)), (false, (.int .i64))], [(false, .bool)], [], []⟩
noncomputable def g.chain_Above_l0 (a0 : U19) (a1 : Int) (k : ((U15 × U0) → U10)) (s : (U15 × U0)) : U10 := (br (ilss s.1.2.1 9) (br (ieql s.1.1 a1) (some ((true, ()), ())) (bd (g.chain_Parent a0 s.1.1) (fun p0 => (k ((p0.1.1, ((iadd IntKind.i64 s.1.2.1 1), ())), ((), ((), ((), ())))))))) (some ((false, ()), ())))
noncomputable def g.chain_Above (a0 : U19) (a1 : Int) (a2 : Int) : U10 := (br (ieql a1 0) (some ((true, ()), ())) (loop (g.chain_Above_l0 a0 a1) ((a2, (0, ())), ((), ((), ((), ()))))))
noncomputable def F140 : Plain sg140 := fun x c d => g.chain_Above x.1 x.2.1 x.2.2.1
theorem ct140 : CtOk Tryz.prog 140 sg140 F140 := ct_of envok mixed fnok (hm := homes) (ctC_ok ct162 (ctN_ok)) 8 (fun x c d => by kernel_rfl)
noncomputable def sg14 : Sig := ⟨[(false, (.nptr 0)), (false, (.int .i64)), (true, (.pair (.int .u8) (.pair (.int .u8) (.pair (.int .u8) (.pair (.int .u8) (.pair (.int .i64) (.pair (.int .i64) (.int .i64))))))))], [(true, (.pair (.int .i64) (.pair (.int .i64) (.slc (.int .i64))))), (false, (.int .i64))], [(0, R0), (1, R1)], [(2, R2), (3, R3), (4, R4), (5, R5), (6, R6), (7, R7), (8, R8), (9, R9), (10, R10)]⟩
noncomputable def g.model_Model_Do_l0 (a0 : Nat) (c0 : T0) (d3 : T5) (d7 : T9) (v0 : (List (Option Nat))) (v1 : Nat) (v2 : U18) (v3 : ((U19 × ((Int × Bool) × (Int × Unit))) × Unit)) (v4 : (Unit × (Unit × (Unit × (Unit × (T3 × (T5 × (T7 × Unit))))))) → U5) (v5 : ((Int × Unit) × (T3 × Unit))) (k : (((Int × Unit) × (Unit × (Unit × (Unit × (T7 × Unit))))) → U5)) (s : ((Int × Unit) × (Unit × (Unit × (Unit × (T7 × Unit)))))) : U5 := (br (ilss s.1.1 (zN (len v0))) (bd (rwA d7 v1) (fun p0 => (gd (ige s.1.1) (gd (nlt (nN s.1.1) (len p0)) (bd (rwA d7 v1) (fun p1 => (opt (nth none p1 (nN s.1.1)) (opt (nth dv0 c0 a0).2.2.2.2.2 none (fun p2 => none)) (fun p3 => (opt (nth dv0 c0 a0).2.2.2.2.2 none (fun p4 => (opt (mfi (eqT (Ty.pair (Ty.int IntKind.i64) (Ty.pair (Ty.int IntKind.i64) (Ty.int IntKind.i64))) ((nth ((0, (0, 0)), (0, (none, false))) v2.2.2.2.2.1 p3).1.1, ((nth ((0, (0, 0)), (0, (none, false))) v2.2.2.2.2.1 p3).1.2.1, (nth ((0, (0, 0)), (0, (none, false))) v2.2.2.2.2.1 p3).1.2.2))) (nth [] s.2.2.2.2.1 p4) 0) (k (((iadd IntKind.i64 s.1.1 1), ()), ((), ((), ((), ((updF [] s.2.2.2.2.1 p4 (fun r5 => r5)), ())))))) (fun p6 => (k (((iadd IntKind.i64 s.1.1 1), ()), ((), ((), ((), ((updF [] s.2.2.2.2.1 p4 (fun r7 => (mdel r7 p6.1))), ())))))))))))))))))) (opt (nth dv0 c0 a0).2.2.2.1 none (fun p8 => (bd (rwA d3 p8) (fun p9 => (gd (ige v3.1.2.1.1) (gd (nlt (nN v3.1.2.1.1) (len p9)) (bd (rwA d3 p8) (fun p10 => (v4 ((), ((), ((), ((), (v5.2.1, ((upd d3 p8 (some (upd p10 (nN v3.1.2.1.1) (0, (0, none))))), (s.2.2.2.2.1, ())))))))))))))))))
noncomputable def g.model_Model_Do_l1 (a0 : Nat) (c0 : T0) (d3 : T5) (v0 : ((U19 × ((Int × Bool) × (Int × Unit))) × Unit)) (v1 : (Unit × (Unit × (Unit × (Unit × (T3 × (T5 × (T7 × Unit))))))) → U5) (v2 : ((Int × Unit) × (T3 × Unit))) (k : (((Int × Unit) × (Unit × (Unit × (Unit × (T7 × Unit))))) → U5)) (s : ((Int × Unit) × (Unit × (Unit × (Unit × (T7 × Unit)))))) : U5 := (br (ilss s.1.1 0) none (opt (nth dv0 c0 a0).2.2.2.1 none (fun p0 => (bd (rwA d3 p0) (fun p1 => (gd (ige v0.1.2.1.1) (gd (nlt (nN v0.1.2.1.1) (len p1)) (bd (rwA d3 p0) (fun p2 => (v1 ((), ((), ((), ((), (v2.2.1, ((upd d3 p0 (some (upd p2 (nN v0.1.2.1.1) (0, (0, none))))), (s.2.2.2.2.1, ())))))))))))))))))
noncomputable def g.model_Model_Do_l2 (a0 : Nat) (c0 : T0) (d0 : T2) (d1 : T3) (d2 : T4) (d3 : T5) (d4 : T6) (d5 : T7) (d7 : T9) (v0 : Nat) (v1 : U18 → U5) (k : (((Int × Unit) × (Unit × (Unit × (((Int × (Int × U13)) × Unit) × (T8 × (T10 × Unit)))))) → U5)) (s : ((Int × Unit) × (Unit × (Unit × (((Int × (Int × U13)) × Unit) × (T8 × (T10 × Unit))))))) : U5 := (br (ileq 0 s.1.1) (bd (rwA d7 v0) (fun p0 => (gd (ige s.1.1) (gd (nlt (nN s.1.1) (len p0)) (bd (rwA d7 v0) (fun p1 => (opt (nth none p1 (nN s.1.1)) none (fun p2 => (bd (g.fin_Of (nth dv0 c0 a0).2.1 (nth ((0, (0, 0)), (0, (none, false))) s.2.2.2.2.1 p2).2.1) (fun p3 => (jn (fun (k4 : (Unit × U0) → _) => (br (nth ((0, (0, 0)), (0, (none, false))) s.2.2.2.2.1 p2).2.2.2 (k (((isub IntKind.i64 s.1.1 1), ()), ((), ((), (((s.2.2.2.1.1.1, (s.2.2.2.1.1.2.1, (s.2.2.2.1.1.2.2.1, ()))), ()), (s.2.2.2.2.1, (s.2.2.2.2.2.1, ()))))))) (br (ieql (zN (len p3.1.1)) 0) (k (((isub IntKind.i64 s.1.1 1), ()), ((), ((), (((s.2.2.2.1.1.1, (s.2.2.2.1.1.2.1, (s.2.2.2.1.1.2.2.1, ()))), ()), (s.2.2.2.2.1, (s.2.2.2.2.2.1, ()))))))) (k4 ((), ((), ((), ((), ())))))))) (fun (s5 : (Unit × U0)) => (opt (nth ((0, (0, 0)), (0, (none, false))) s.2.2.2.2.1 p2).2.2.1 (bd (g.fin_Run p3.1.1 none s.2.2.2.2.2.1) (fun p6 => (opt p6.1.1 (gd (nle (nadd (len s.2.2.2.1.1.2.2.1) (len p6.1.2.1)) 16777216) (br p6.1.2.2.1 (k (((isub IntKind.i64 s.1.1 1), ()), ((), ((), (((25, ((iadd IntKind.i64 s.2.2.2.1.1.2.1 1), ((cat s.2.2.2.1.1.2.2.1 p6.1.2.1), ()))), ()), ((updF ((0, (0, 0)), (0, (none, false))) (updF ((0, (0, 0)), (0, (none, false))) s.2.2.2.2.1 p2 (fun r7 => (r7.1, (r7.2.1, (none, r7.2.2.2))))) p2 (fun r8 => (r8.1, (r8.2.1, (r8.2.2.1, true))))), (p6.2.1, ()))))))) (k (((isub IntKind.i64 s.1.1 1), ()), ((), ((), (((s.2.2.2.1.1.1, ((iadd IntKind.i64 s.2.2.2.1.1.2.1 1), ((cat s.2.2.2.1.1.2.2.1 p6.1.2.1), ()))), ()), ((updF ((0, (0, 0)), (0, (none, false))) (updF ((0, (0, 0)), (0, (none, false))) s.2.2.2.2.1 p2 (fun r7 => (r7.1, (r7.2.1, (none, r7.2.2.2))))) p2 (fun r8 => (r8.1, (r8.2.1, (r8.2.2.1, true))))), (p6.2.1, ()))))))))) (fun p9 => (gd (nle (nadd (len s.2.2.2.1.1.2.2.1) (len p6.1.2.1)) 16777216) (br p6.1.2.2.1 (k (((isub IntKind.i64 s.1.1 1), ()), ((), ((), (((25, ((iadd IntKind.i64 s.2.2.2.1.1.2.1 1), ((cat s.2.2.2.1.1.2.2.1 p6.1.2.1), ()))), ()), ((updF ((0, (0, 0)), (0, (none, false))) (updF ((0, (0, 0)), (0, (none, false))) s.2.2.2.2.1 p2 (fun r10 => (r10.1, (r10.2.1, ((some p9), r10.2.2.2))))) p2 (fun r7 => (r7.1, (r7.2.1, (r7.2.2.1, true))))), (p6.2.1, ()))))))) (k (((isub IntKind.i64 s.1.1 1), ()), ((), ((), (((s.2.2.2.1.1.1, ((iadd IntKind.i64 s.2.2.2.1.1.2.1 1), ((cat s.2.2.2.1.1.2.2.1 p6.1.2.1), ()))), ()), ((updF ((0, (0, 0)), (0, (none, false))) (updF ((0, (0, 0)), (0, (none, false))) s.2.2.2.2.1 p2 (fun r10 => (r10.1, (r10.2.1, ((some p9), r10.2.2.2))))) p2 (fun r7 => (r7.1, (r7.2.1, (r7.2.2.1, true))))), (p6.2.1, ()))))))))))))) (fun p11 => (bd (g.fin_Run p3.1.1 (some p11) s.2.2.2.2.2.1) (fun p12 => (opt p12.1.1 (gd (nle (nadd (len s.2.2.2.1.1.2.2.1) (len p12.1.2.1)) 16777216) (br p12.1.2.2.1 (k (((isub IntKind.i64 s.1.1 1), ()), ((), ((), (((25, ((iadd IntKind.i64 s.2.2.2.1.1.2.1 1), ((cat s.2.2.2.1.1.2.2.1 p12.1.2.1), ()))), ()), ((updF ((0, (0, 0)), (0, (none, false))) (updF ((0, (0, 0)), (0, (none, false))) s.2.2.2.2.1 p2 (fun r10 => (r10.1, (r10.2.1, (none, r10.2.2.2))))) p2 (fun r7 => (r7.1, (r7.2.1, (r7.2.2.1, true))))), (p12.2.1, ()))))))) (k (((isub IntKind.i64 s.1.1 1), ()), ((), ((), (((s.2.2.2.1.1.1, ((iadd IntKind.i64 s.2.2.2.1.1.2.1 1), ((cat s.2.2.2.1.1.2.2.1 p12.1.2.1), ()))), ()), ((updF ((0, (0, 0)), (0, (none, false))) (updF ((0, (0, 0)), (0, (none, false))) s.2.2.2.2.1 p2 (fun r10 => (r10.1, (r10.2.1, (none, r10.2.2.2))))) p2 (fun r7 => (r7.1, (r7.2.1, (r7.2.2.1, true))))), (p12.2.1, ()))))))))) (fun p13 => (gd (nle (nadd (len s.2.2.2.1.1.2.2.1) (len p12.1.2.1)) 16777216) (br p12.1.2.2.1 (k (((isub IntKind.i64 s.1.1 1), ()), ((), ((), (((25, ((iadd IntKind.i64 s.2.2.2.1.1.2.1 1), ((cat s.2.2.2.1.1.2.2.1 p12.1.2.1), ()))), ()), ((updF ((0, (0, 0)), (0, (none, false))) (updF ((0, (0, 0)), (0, (none, false))) s.2.2.2.2.1 p2 (fun r14 => (r14.1, (r14.2.1, ((some p13), r14.2.2.2))))) p2 (fun r10 => (r10.1, (r10.2.1, (r10.2.2.1, true))))), (p12.2.1, ()))))))) (k (((isub IntKind.i64 s.1.1 1), ()), ((), ((), (((s.2.2.2.1.1.1, ((iadd IntKind.i64 s.2.2.2.1.1.2.1 1), ((cat s.2.2.2.1.1.2.2.1 p12.1.2.1), ()))), ()), ((updF ((0, (0, 0)), (0, (none, false))) (updF ((0, (0, 0)), (0, (none, false))) s.2.2.2.2.1 p2 (fun r14 => (r14.1, (r14.2.1, ((some p13), r14.2.2.2))))) p2 (fun r10 => (r10.1, (r10.2.1, (r10.2.2.1, true))))), (p12.2.1, ()))))))))))))))))))))))))))) (br (bnot (ieql s.2.2.2.1.1.1 0)) (some (((s.2.2.2.1.1.1, (s.2.2.2.1.1.2.1, s.2.2.2.1.1.2.2.1)), (0, ())), (d0, (d1, (d2, (d3, (d4, (d5, (s.2.2.2.2.1, (d7, (s.2.2.2.2.2.1, ()))))))))))) (v1 ((), ((), ((), (((0, (0, ([], ()))), ((s.2.2.2.1.1.1, (s.2.2.2.1.1.2.1, (s.2.2.2.1.1.2.2.1, ()))), ())), (s.2.2.2.2.1, (s.2.2.2.2.2.1, ())))))))))
noncomputable def g.model_Model_Do_l3 (d0 : T2) (d1 : T3) (d2 : T4) (d3 : T5) (d4 : T6) (d5 : T7) (d7 : T9) (v0 : U18 → U5) (k : (((Int × Unit) × (Unit × (Unit × (((Int × (Int × U13)) × Unit) × (T8 × (T10 × Unit)))))) → U5)) (s : ((Int × Unit) × (Unit × (Unit × (((Int × (Int × U13)) × Unit) × (T8 × (T10 × Unit))))))) : U5 := (br (ileq 0 s.1.1) none (br (bnot (ieql s.2.2.2.1.1.1 0)) (some (((s.2.2.2.1.1.1, (s.2.2.2.1.1.2.1, s.2.2.2.1.1.2.2.1)), (0, ())), (d0, (d1, (d2, (d3, (d4, (d5, (s.2.2.2.2.1, (d7, (s.2.2.2.2.2.1, ()))))))))))) (v0 ((), ((), ((), (((0, (0, ([], ()))), ((s.2.2.2.1.1.1, (s.2.2.2.1.1.2.1, (s.2.2.2.1.1.2.2.1, ()))), ())), (s.2.2.2.2.1, (s.2.2.2.2.2.1, ())))))))))
noncomputable def g.model_Model_Do_0 (a0 : Nat) (a1 : Int) (a2 : U8) (c0 : T0) (c1 : T1) (d0 : T2) (d1 : T3) (d2 : T4) (d3 : T5) (d4 : T6) (d5 : T7) (d6 : T8) (d7 : T9) (d8 : T10) : U5 := (bd (g.model_registers (a2.1, (a2.2.1, (a2.2.2.1, (a2.2.2.2.1, (a2.2.2.2.2.1, (a2.2.2.2.2.2.1, a2.2.2.2.2.2.2))))))) (fun p0 => (br (bnot p0.1.1) (bd (g.model_code 1) (fun p1 => (some (((p1.1.1.1, (p1.1.1.2.1, p1.1.1.2.2)), (0, ())), (d0, (d1, (d2, (d3, (d4, (d5, (d6, (d7, (d8, ()))))))))))))) (some (((0, (0, [])), (0, ())), (d0, (d1, (d2, (d3, (d4, (d5, (d6, (d7, (d8, ()))))))))))))))
noncomputable def g.model_Model_Do_1 (a0 : Nat) (a1 : Int) (a2 : U8) (c0 : T0) (c1 : T1) (d0 : T2) (d1 : T3) (d2 : T4) (d3 : T5) (d4 : T6) (d5 : T7) (d6 : T8) (d7 : T9) (d8 : T10) (q0 : Nat) : U5 := (bd (g.model_registers (a2.1, (a2.2.1, (a2.2.2.1, (a2.2.2.2.1, (a2.2.2.2.2.1, (a2.2.2.2.2.2.1, a2.2.2.2.2.2.2))))))) (fun p0 => (br (bnot p0.1.1) (bd (g.model_code 1) (fun p1 => (some (((p1.1.1.1, (p1.1.1.2.1, p1.1.1.2.2)), (0, ())), (d0, (d1, (d2, (d3, (d4, (d5, (d6, (d7, (d8, ()))))))))))))) (gd (ige a2.2.1) (gd (nlt (nN a2.2.1) 4) (bd (rwA d4 q0) (fun p2 => (some (((0, (0, [])), (0, ())), (d0, (d1, (d2, (d3, ((upd d4 q0 (some (updF ([0, 0, 0, 0], []) p2 (nN a1) (fun r3 => ((aset 0 r3.1 (nN a2.2.1) (wrp IntKind.u64 a2.2.2.2.2.1)), r3.2))))), (d5, (d6, (d7, (d8, ()))))))))))))))))))
noncomputable def g.model_Model_Do_2 (a0 : Nat) (a1 : Int) (a2 : U8) (c0 : T0) (c1 : T1) (d0 : T2) (d1 : T3) (d2 : T4) (d3 : T5) (d4 : T6) (d5 : T7) (d6 : T8) (d7 : T9) (d8 : T10) : U5 := (bd (g.model_registers (a2.1, (a2.2.1, (a2.2.2.1, (a2.2.2.2.1, (a2.2.2.2.2.1, (a2.2.2.2.2.2.1, a2.2.2.2.2.2.2))))))) (fun p0 => (br (bnot p0.1.1) (bd (g.model_code 1) (fun p1 => (some (((p1.1.1.1, (p1.1.1.2.1, p1.1.1.2.2)), (0, ())), (d0, (d1, (d2, (d3, (d4, (d5, (d6, (d7, (d8, ()))))))))))))) (opt (nth dv0 c0 a0).2.2.1 none (fun p2 => (bd (g.scopes_Scopes_Create p2 a2.2.2.2.2.1 c1 d0 d1 d2) (fun p3 => (some (((p3.1.2.1, (p3.1.1, [])), (0, ())), (p3.2.1, (p3.2.2.1, (p3.2.2.2.1, (d3, (d4, (d5, (d6, (d7, (d8, ()))))))))))))))))))
noncomputable def g.model_Model_Do_3 (a0 : Nat) (a1 : Int) (a2 : U8) (c0 : T0) (c1 : T1) (d0 : T2) (d1 : T3) (d2 : T4) (d3 : T5) (d4 : T6) (d5 : T7) (d6 : T8) (d7 : T9) (d8 : T10) : U5 := (bd (g.model_registers (a2.1, (a2.2.1, (a2.2.2.1, (a2.2.2.2.1, (a2.2.2.2.2.1, (a2.2.2.2.2.2.1, a2.2.2.2.2.2.2))))))) (fun p0 => (br (bnot p0.1.1) (bd (g.model_code 1) (fun p1 => (some (((p1.1.1.1, (p1.1.1.2.1, p1.1.1.2.2)), (0, ())), (d0, (d1, (d2, (d3, (d4, (d5, (d6, (d7, (d8, ()))))))))))))) (opt (nth dv0 c0 a0).2.2.1 none (fun p2 => (bd (g.scopes_Scopes_Destroy p2 a2.2.2.2.2.1 c1 d0 d1 d2) (fun p3 => (bd (g.model_code p3.1.1) (fun p4 => (some (((p4.1.1.1, (p4.1.1.2.1, p4.1.1.2.2)), (0, ())), (p3.2.1, (p3.2.2.1, (p3.2.2.2.1, (d3, (d4, (d5, (d6, (d7, (d8, ()))))))))))))))))))))
noncomputable def g.model_Model_Do_4 (a0 : Nat) (a1 : Int) (a2 : U8) (c0 : T0) (c1 : T1) (d0 : T2) (d1 : T3) (d2 : T4) (d3 : T5) (d4 : T6) (d5 : T7) (d6 : T8) (d7 : T9) (d8 : T10) (q0 : Nat) : U5 := (bd (g.model_registers (a2.1, (a2.2.1, (a2.2.2.1, (a2.2.2.2.1, (a2.2.2.2.2.1, (a2.2.2.2.2.2.1, a2.2.2.2.2.2.2))))))) (fun p0 => (br (bnot p0.1.1) (bd (g.model_code 1) (fun p1 => (some (((p1.1.1.1, (p1.1.1.2.1, p1.1.1.2.2)), (0, ())), (d0, (d1, (d2, (d3, (d4, (d5, (d6, (d7, (d8, ()))))))))))))) (bd (g.num_Within a2.2.2.2.2.1 1 (isub IntKind.i64 (nth dv0 c0 a0).1.1 1)) (fun p2 => (br (bnot p2.1.1) (bd (g.model_code 11) (fun p3 => (some (((p3.1.1.1, (p3.1.1.2.1, p3.1.1.2.2)), (0, ())), (d0, (d1, (d2, (d3, (d4, (d5, (d6, (d7, (d8, ()))))))))))))) (bd (rwA d4 q0) (fun p4 => (bd (g.chain_Push (nth ([0, 0, 0, 0], []) p4 (nN a1)).2 (a2.2.2.2.2.1, true)) (fun p5 => (jn (fun (k6 : U20 → _) => (br (ieql p5.1.2.1 0) (opt (nth dv0 c0 a0).2.2.1 (bd (rwA d4 q0) (fun p7 => (bd (g.chain_Area (nth ([0, 0, 0, 0], []) p7 (nN a1)).2) (fun p8 => none)))) (fun p9 => (bd (rwA d4 q0) (fun p10 => (bd (g.chain_Area (nth ([0, 0, 0, 0], []) p10 (nN a1)).2) (fun p11 => (bd (g.scopes_Scopes_Enter p9 a2.2.2.2.2.1 p11.1.1 c1 d0 d2 d1) (fun p12 => (k6 ((p12.1.1, ()), ((), ((), ((), (p12.2.1, ())))))))))))))) (k6 ((p5.1.2.1, ()), ((), ((), ((), (d1, ())))))))) (fun (s13 : U20) => (br (ieql s13.1.1 0) (bd (rwA d4 q0) (fun p14 => (bd (g.model_code s13.1.1) (fun p15 => (some (((p15.1.1.1, (p15.1.1.2.1, p15.1.1.2.2)), (0, ())), (d0, (s13.2.2.2.2.1, (d2, (d3, ((upd d4 q0 (some (updF ([0, 0, 0, 0], []) p14 (nN a1) (fun r16 => (r16.1, p5.1.1))))), (d5, (d6, (d7, (d8, ()))))))))))))))) (bd (g.model_code s13.1.1) (fun p17 => (some (((p17.1.1.1, (p17.1.1.2.1, p17.1.1.2.2)), (0, ())), (d0, (s13.2.2.2.2.1, (d2, (d3, (d4, (d5, (d6, (d7, (d8, ()))))))))))))))))))))))))))
noncomputable def g.model_Model_Do_5 (a0 : Nat) (a1 : Int) (a2 : U8) (c0 : T0) (c1 : T1) (d0 : T2) (d1 : T3) (d2 : T4) (d3 : T5) (d4 : T6) (d5 : T7) (d6 : T8) (d7 : T9) (d8 : T10) (q0 : Nat) : U5 := (bd (g.model_registers (a2.1, (a2.2.1, (a2.2.2.1, (a2.2.2.2.1, (a2.2.2.2.2.1, (a2.2.2.2.2.2.1, a2.2.2.2.2.2.2))))))) (fun p0 => (br (bnot p0.1.1) (bd (g.model_code 1) (fun p1 => (some (((p1.1.1.1, (p1.1.1.2.1, p1.1.1.2.2)), (0, ())), (d0, (d1, (d2, (d3, (d4, (d5, (d6, (d7, (d8, ()))))))))))))) (bd (rwA d4 q0) (fun p2 => (bd (g.chain_Pop (nth ([0, 0, 0, 0], []) p2 (nN a1)).2) (fun p3 => (jn (fun (k4 : U7 → _) => (br (bnot (ieql p3.1.2.2.1 0)) (k4 ((true, ()), ((), ((), ((), ()))))) (k4 (((bnot p3.1.2.1.2), ()), ((), ((), ((), ()))))))) (fun (s5 : U7) => (br s5.1.1 (bd (rwA d4 q0) (fun p6 => (bd (g.model_code p3.1.2.2.1) (fun p7 => (some (((p7.1.1.1, (p7.1.1.2.1, p7.1.1.2.2)), (0, ())), (d0, (d1, (d2, (d3, ((upd d4 q0 (some (updF ([0, 0, 0, 0], []) p6 (nN a1) (fun r8 => (r8.1, p3.1.1))))), (d5, (d6, (d7, (d8, ()))))))))))))))) (jn (fun (k9 : U18 → _) => (opt (nth dv0 c0 a0).2.2.1 none (fun p10 => (bd (g.scopes_Scopes_Ctl p10 p3.1.2.1.1 c1 d0 d1 d2) (fun p11 => (br (ieql p11.1.1.2.1 1) (opt (nth dv0 c0 a0).2.2.2.1 none (fun p12 => (bd (rwA d3 p12) (fun p13 => (gd (ige p3.1.2.1.1) (gd (nlt (nN p3.1.2.1.1) (len p13)) (bd (rwA d3 p12) (fun p14 => (opt (nth (0, (0, none)) p14 (nN p3.1.2.1.1)).2.2 (loop (g.model_Model_Do_l3 d0 d1 d2 d3 d4 d5 d7 k9) (((-1), ()), ((), ((), (((0, (0, ([], ()))), ()), (d6, (d8, ()))))))) (fun p15 => (bd (rwA d7 p15) (fun p16 => (loop (g.model_Model_Do_l2 a0 c0 d0 d1 d2 d3 d4 d5 d7 p15 k9) (((isub IntKind.i64 (zN (len p16)) 1), ()), ((), ((), (((0, (0, ([], ()))), ()), (d6, (d8, ()))))))))))))))))))) (k9 ((), ((), ((), (((0, (0, ([], ()))), ((0, (0, ([], ()))), ())), (d6, (d8, ()))))))))))))) (fun (s17 : U18) => (jn (fun (k18 : (Unit × (Unit × (Unit × (Unit × (T3 × (T5 × (T7 × Unit))))))) → _) => (opt (nth dv0 c0 a0).2.2.1 none (fun p19 => (bd (g.scopes_Scopes_Leave p19 p3.1.2.1.1 c1 d0 d2 d1) (fun p20 => (br p20.1.1 (opt (nth dv0 c0 a0).2.2.1 none (fun p21 => (bd (g.scopes_Scopes_Open p21 p3.1.2.1.1 c1 d0 d2 p20.2.1) (fun p22 => (opt (nth dv0 c0 a0).2.2.2.1 none (fun p23 => (bd (rwA d3 p23) (fun p24 => (gd (ige p3.1.2.1.1) (gd (nlt (nN p3.1.2.1.1) (len p24)) (bd (rwA d3 p23) (fun p25 => (opt (nth (0, (0, none)) p25 (nN p3.1.2.1.1)).2.2 (loop (g.model_Model_Do_l1 a0 c0 d3 p3 k18 p22) ((0, ()), ((), ((), ((), (d5, ())))))) (fun p26 => (bd (rwA d7 p26) (fun p27 => (loop (g.model_Model_Do_l0 a0 c0 d3 d7 p27 p26 s17 p3 k18 p22) ((0, ()), ((), ((), ((), (d5, ())))))))))))))))))))))) (k18 ((), ((), ((), ((), (p20.2.1, (d3, (d5, ())))))))))))))) (fun (s28 : (Unit × (Unit × (Unit × (Unit × (T3 × (T5 × (T7 × Unit)))))))) => (bd (rwA d4 q0) (fun p29 => (some (((s17.2.2.2.1.2.1.1, (s17.2.2.2.1.2.1.2.1, s17.2.2.2.1.2.1.2.2.1)), (0, ())), (d0, (s28.2.2.2.2.1, (d2, (s28.2.2.2.2.2.1, ((upd d4 q0 (some (updF ([0, 0, 0, 0], []) p29 (nN a1) (fun r30 => (r30.1, p3.1.1))))), (s28.2.2.2.2.2.2.1, (s17.2.2.2.2.1, (d7, (s17.2.2.2.2.2.1, ())))))))))))))))))))))))))))
noncomputable def g.model_Model_Do_6 (a0 : Nat) (a1 : Int) (a2 : U8) (c0 : T0) (c1 : T1) (d0 : T2) (d1 : T3) (d2 : T4) (d3 : T5) (d4 : T6) (d5 : T7) (d6 : T8) (d7 : T9) (d8 : T10) (q0 : Nat) : U5 := (bd (g.model_registers (a2.1, (a2.2.1, (a2.2.2.1, (a2.2.2.2.1, (a2.2.2.2.2.1, (a2.2.2.2.2.2.1, a2.2.2.2.2.2.2))))))) (fun p0 => (br (bnot p0.1.1) (bd (g.model_code 1) (fun p1 => (some (((p1.1.1.1, (p1.1.1.2.1, p1.1.1.2.2)), (0, ())), (d0, (d1, (d2, (d3, (d4, (d5, (d6, (d7, (d8, ()))))))))))))) (bd (g.num_Within a2.2.2.2.2.1 0 (isub IntKind.i64 (nth dv0 c0 a0).1.1 1)) (fun p2 => (br (bnot p2.1.1) (bd (g.model_code 11) (fun p3 => (some (((p3.1.1.1, (p3.1.1.2.1, p3.1.1.2.2)), (0, ())), (d0, (d1, (d2, (d3, (d4, (d5, (d6, (d7, (d8, ()))))))))))))) (bd (rwA d4 q0) (fun p4 => (bd (g.chain_Reach (nth ([0, 0, 0, 0], []) p4 (nN a1)).2 a2.2.2.2.2.1) (fun p5 => (br (bnot p5.1.1) (bd (g.model_code 20) (fun p6 => (some (((p6.1.1.1, (p6.1.1.2.1, p6.1.1.2.2)), (0, ())), (d0, (d1, (d2, (d3, (d4, (d5, (d6, (d7, (d8, ()))))))))))))) (bd (rwA d4 q0) (fun p7 => (bd (g.chain_Push (nth ([0, 0, 0, 0], []) p7 (nN a1)).2 (a2.2.2.2.2.1, false)) (fun p8 => (jn (fun (k9 : U20 → _) => (br (ieql p8.1.2.1 0) (k9 ((0, ()), ((), ((), ((), (d1, ())))))) (k9 ((p8.1.2.1, ()), ((), ((), ((), (d1, ())))))))) (fun (s10 : U20) => (br (ieql s10.1.1 0) (bd (rwA d4 q0) (fun p11 => (bd (g.model_code s10.1.1) (fun p12 => (some (((p12.1.1.1, (p12.1.1.2.1, p12.1.1.2.2)), (0, ())), (d0, (s10.2.2.2.2.1, (d2, (d3, ((upd d4 q0 (some (updF ([0, 0, 0, 0], []) p11 (nN a1) (fun r13 => (r13.1, p8.1.1))))), (d5, (d6, (d7, (d8, ()))))))))))))))) (bd (g.model_code s10.1.1) (fun p14 => (some (((p14.1.1.1, (p14.1.1.2.1, p14.1.1.2.2)), (0, ())), (d0, (s10.2.2.2.2.1, (d2, (d3, (d4, (d5, (d6, (d7, (d8, ())))))))))))))))))))))))))))))))
noncomputable def g.model_Model_Do_7 (a0 : Nat) (a1 : Int) (a2 : U8) (c0 : T0) (c1 : T1) (d0 : T2) (d1 : T3) (d2 : T4) (d3 : T5) (d4 : T6) (d5 : T7) (d6 : T8) (d7 : T9) (d8 : T10) (q0 : Nat) : U5 := (bd (g.model_registers (a2.1, (a2.2.1, (a2.2.2.1, (a2.2.2.2.1, (a2.2.2.2.2.1, (a2.2.2.2.2.2.1, a2.2.2.2.2.2.2))))))) (fun p0 => (br (bnot p0.1.1) (bd (g.model_code 1) (fun p1 => (some (((p1.1.1.1, (p1.1.1.2.1, p1.1.1.2.2)), (0, ())), (d0, (d1, (d2, (d3, (d4, (d5, (d6, (d7, (d8, ()))))))))))))) (bd (g.head_Words a2.2.2.2.2.1 a2.2.2.2.2.2.1) (fun p2 => (jn (fun (k3 : (Unit × (Unit × (Unit × (((Int × (Int × U13)) × Unit) × Unit)))) → _) => (br (bnot (ieql p2.1.2.1 0)) (bd (g.model_code 1) (fun p4 => (some (((p4.1.1.1, (p4.1.1.2.1, p4.1.1.2.2)), (0, ())), (d0, (d1, (d2, (d3, (d4, (d5, (d6, (d7, (d8, ()))))))))))))) (bd (g.num_Within a2.2.2.2.2.2.2 0 7) (fun p5 => (br (bnot p5.1.1) (bd (g.model_code 1) (fun p6 => (some (((p6.1.1.1, (p6.1.1.2.1, p6.1.1.2.2)), (0, ())), (d0, (d1, (d2, (d3, (d4, (d5, (d6, (d7, (d8, ()))))))))))))) (k3 ((), ((), ((), (((0, (0, ([], ()))), ()), ())))))))))) (fun (s7 : (Unit × (Unit × (Unit × (((Int × (Int × U13)) × Unit) × Unit))))) => (bd (rwA d4 q0) (fun p8 => (bd (g.chain_Area (nth ([0, 0, 0, 0], []) p8 (nN a1)).2) (fun p9 => (opt (nth dv0 c0 a0).2.2.2.1 none (fun p10 => (bd (rwA d3 p10) (fun p11 => (gd (ige p9.1.1) (gd (nlt (nN p9.1.1) (len p11)) (opt (nth dv0 c0 a0).2.2.1 none (fun p12 => (bd (g.scopes_Scopes_Extent p12 p9.1.1 c1 d0 d1 d2) (fun p13 => (bd (rwA d3 p10) (fun p14 => (br (ilss p13.1.1.2 (iadd IntKind.i64 (nth (0, (0, none)) p14 (nN p9.1.1)).1 (imul IntKind.i64 p2.1.1 8))) (bd (g.model_code 17) (fun p15 => (some (((p15.1.1.1, (p15.1.1.2.1, p15.1.1.2.2)), (0, ())), (d0, (d1, (d2, (d3, (d4, (d5, (d6, (d7, (d8, ()))))))))))))) (opt (nth dv0 c0 a0).2.2.1 none (fun p16 => (bd (g.scopes_Scopes_Ctl p16 p9.1.1 c1 d0 d1 d2) (fun p17 => (bd (rwA d3 p10) (fun p18 => (gd (ige a2.2.2.2.2.1) (gd (nle (nN a2.2.2.2.2.1) 16777216) (bd (rwA d3 p10) (fun p19 => (bd (rwA d3 p10) (fun p20 => (bd (rwA (upd d3 p10 (some (updF (0, (0, none)) p20 (nN p9.1.1) (fun r21 => ((iadd IntKind.i64 (nth (0, (0, none)) p19 (nN p9.1.1)).1 (imul IntKind.i64 p2.1.1 8)), r21.2))))) p10) (fun p22 => (opt (nth (0, (0, none)) p22 (nN p9.1.1)).2.2 (gd (nle (len [(some (len d6))]) 16777216) (bd (rwA (upd d3 p10 (some (updF (0, (0, none)) p20 (nN p9.1.1) (fun r23 => ((iadd IntKind.i64 (nth (0, (0, none)) p19 (nN p9.1.1)).1 (imul IntKind.i64 p2.1.1 8)), r23.2))))) p10) (fun p24 => (opt (nth dv0 c0 a0).2.2.2.2.2 none (fun p25 => (opt (mfi (eqT (Ty.pair (Ty.int IntKind.i64) (Ty.pair (Ty.int IntKind.i64) (Ty.int IntKind.i64))) ((nth ((0, (0, 0)), (0, (none, false))) (cat d6 [((p9.1.1, (p17.1.1.2.2.2, (iadd IntKind.i64 p13.1.1.1 (nth (0, (0, none)) p18 (nN p9.1.1)).1))), (a2.2.2.2.2.2.2, ((some (len d8)), false)))]) (len d6)).1.1, ((nth ((0, (0, 0)), (0, (none, false))) (cat d6 [((p9.1.1, (p17.1.1.2.2.2, (iadd IntKind.i64 p13.1.1.1 (nth (0, (0, none)) p18 (nN p9.1.1)).1))), (a2.2.2.2.2.2.2, ((some (len d8)), false)))]) (len d6)).1.2.1, (nth ((0, (0, 0)), (0, (none, false))) (cat d6 [((p9.1.1, (p17.1.1.2.2.2, (iadd IntKind.i64 p13.1.1.1 (nth (0, (0, none)) p18 (nN p9.1.1)).1))), (a2.2.2.2.2.2.2, ((some (len d8)), false)))]) (len d6)).1.2.2))) (nth [] d5 p25) 0) (bd (g.ref_Pack ((nth ((0, (0, 0)), (0, (none, false))) (cat d6 [((p9.1.1, (p17.1.1.2.2.2, (iadd IntKind.i64 p13.1.1.1 (nth (0, (0, none)) p18 (nN p9.1.1)).1))), (a2.2.2.2.2.2.2, ((some (len d8)), false)))]) (len d6)).1.1, ((nth ((0, (0, 0)), (0, (none, false))) (cat d6 [((p9.1.1, (p17.1.1.2.2.2, (iadd IntKind.i64 p13.1.1.1 (nth (0, (0, none)) p18 (nN p9.1.1)).1))), (a2.2.2.2.2.2.2, ((some (len d8)), false)))]) (len d6)).1.2.1, (nth ((0, (0, 0)), (0, (none, false))) (cat d6 [((p9.1.1, (p17.1.1.2.2.2, (iadd IntKind.i64 p13.1.1.1 (nth (0, (0, none)) p18 (nN p9.1.1)).1))), (a2.2.2.2.2.2.2, ((some (len d8)), false)))]) (len d6)).1.2.2))) (fun p26 => (gd (ige a2.2.1) (gd (nlt (nN a2.2.1) 4) (bd (rwA d4 q0) (fun p27 => (some (((0, ((wrp IntKind.i64 p26.1.1), [])), (0, ())), (d0, (d1, (d2, ((upd (upd d3 p10 (some (updF (0, (0, none)) p20 (nN p9.1.1) (fun r28 => ((iadd IntKind.i64 (nth (0, (0, none)) p19 (nN p9.1.1)).1 (imul IntKind.i64 p2.1.1 8)), r28.2))))) p10 (some (updF (0, (0, none)) p24 (nN p9.1.1) (fun r28 => (r28.1, (r28.2.1, (some (len d7)))))))), ((upd d4 q0 (some (updF ([0, 0, 0, 0], []) p27 (nN a1) (fun r28 => ((aset 0 r28.1 (nN a2.2.1) p26.1.1), r28.2))))), ((updF [] d5 p25 (fun r28 => (cat r28 [(((nth ((0, (0, 0)), (0, (none, false))) (cat d6 [((p9.1.1, (p17.1.1.2.2.2, (iadd IntKind.i64 p13.1.1.1 (nth (0, (0, none)) p18 (nN p9.1.1)).1))), (a2.2.2.2.2.2.2, ((some (len d8)), false)))]) (len d6)).1.1, ((nth ((0, (0, 0)), (0, (none, false))) (cat d6 [((p9.1.1, (p17.1.1.2.2.2, (iadd IntKind.i64 p13.1.1.1 (nth (0, (0, none)) p18 (nN p9.1.1)).1))), (a2.2.2.2.2.2.2, ((some (len d8)), false)))]) (len d6)).1.2.1, (nth ((0, (0, 0)), (0, (none, false))) (cat d6 [((p9.1.1, (p17.1.1.2.2.2, (iadd IntKind.i64 p13.1.1.1 (nth (0, (0, none)) p18 (nN p9.1.1)).1))), (a2.2.2.2.2.2.2, ((some (len d8)), false)))]) (len d6)).1.2.2)), (some (len d6)))]))), ((cat d6 [((p9.1.1, (p17.1.1.2.2.2, (iadd IntKind.i64 p13.1.1.1 (nth (0, (0, none)) p18 (nN p9.1.1)).1))), (a2.2.2.2.2.2.2, ((some (len d8)), false)))]), ((cat d7 [(some [(some (len d6))])]), ((cat d8 [(some (rep (α := Int) (nN a2.2.2.2.2.1) 0))]), ()))))))))))))))))) (fun p29 => (bd (g.ref_Pack ((nth ((0, (0, 0)), (0, (none, false))) (cat d6 [((p9.1.1, (p17.1.1.2.2.2, (iadd IntKind.i64 p13.1.1.1 (nth (0, (0, none)) p18 (nN p9.1.1)).1))), (a2.2.2.2.2.2.2, ((some (len d8)), false)))]) (len d6)).1.1, ((nth ((0, (0, 0)), (0, (none, false))) (cat d6 [((p9.1.1, (p17.1.1.2.2.2, (iadd IntKind.i64 p13.1.1.1 (nth (0, (0, none)) p18 (nN p9.1.1)).1))), (a2.2.2.2.2.2.2, ((some (len d8)), false)))]) (len d6)).1.2.1, (nth ((0, (0, 0)), (0, (none, false))) (cat d6 [((p9.1.1, (p17.1.1.2.2.2, (iadd IntKind.i64 p13.1.1.1 (nth (0, (0, none)) p18 (nN p9.1.1)).1))), (a2.2.2.2.2.2.2, ((some (len d8)), false)))]) (len d6)).1.2.2))) (fun p30 => (gd (ige a2.2.1) (gd (nlt (nN a2.2.1) 4) (bd (rwA d4 q0) (fun p31 => (some (((0, ((wrp IntKind.i64 p30.1.1), [])), (0, ())), (d0, (d1, (d2, ((upd (upd d3 p10 (some (updF (0, (0, none)) p20 (nN p9.1.1) (fun r32 => ((iadd IntKind.i64 (nth (0, (0, none)) p19 (nN p9.1.1)).1 (imul IntKind.i64 p2.1.1 8)), r32.2))))) p10 (some (updF (0, (0, none)) p24 (nN p9.1.1) (fun r32 => (r32.1, (r32.2.1, (some (len d7)))))))), ((upd d4 q0 (some (updF ([0, 0, 0, 0], []) p31 (nN a1) (fun r32 => ((aset 0 r32.1 (nN a2.2.1) p30.1.1), r32.2))))), ((updF [] d5 p25 (fun r32 => (mset r32 p29.1 (some (len d6))))), ((cat d6 [((p9.1.1, (p17.1.1.2.2.2, (iadd IntKind.i64 p13.1.1.1 (nth (0, (0, none)) p18 (nN p9.1.1)).1))), (a2.2.2.2.2.2.2, ((some (len d8)), false)))]), ((cat d7 [(some [(some (len d6))])]), ((cat d8 [(some (rep (α := Int) (nN a2.2.2.2.2.1) 0))]), ())))))))))))))))))))))))) (fun p33 => (bd (rwA d7 p33) (fun p34 => (gd (nle (nadd (len p34) (len [(some (len d6))])) 16777216) (gd (nlt p33 (len d7)) (bd (rwA (upd d3 p10 (some (updF (0, (0, none)) p20 (nN p9.1.1) (fun r35 => ((iadd IntKind.i64 (nth (0, (0, none)) p19 (nN p9.1.1)).1 (imul IntKind.i64 p2.1.1 8)), r35.2))))) p10) (fun p36 => (opt (nth dv0 c0 a0).2.2.2.2.2 none (fun p37 => (opt (mfi (eqT (Ty.pair (Ty.int IntKind.i64) (Ty.pair (Ty.int IntKind.i64) (Ty.int IntKind.i64))) ((nth ((0, (0, 0)), (0, (none, false))) (cat d6 [((p9.1.1, (p17.1.1.2.2.2, (iadd IntKind.i64 p13.1.1.1 (nth (0, (0, none)) p18 (nN p9.1.1)).1))), (a2.2.2.2.2.2.2, ((some (len d8)), false)))]) (len d6)).1.1, ((nth ((0, (0, 0)), (0, (none, false))) (cat d6 [((p9.1.1, (p17.1.1.2.2.2, (iadd IntKind.i64 p13.1.1.1 (nth (0, (0, none)) p18 (nN p9.1.1)).1))), (a2.2.2.2.2.2.2, ((some (len d8)), false)))]) (len d6)).1.2.1, (nth ((0, (0, 0)), (0, (none, false))) (cat d6 [((p9.1.1, (p17.1.1.2.2.2, (iadd IntKind.i64 p13.1.1.1 (nth (0, (0, none)) p18 (nN p9.1.1)).1))), (a2.2.2.2.2.2.2, ((some (len d8)), false)))]) (len d6)).1.2.2))) (nth [] d5 p37) 0) (bd (g.ref_Pack ((nth ((0, (0, 0)), (0, (none, false))) (cat d6 [((p9.1.1, (p17.1.1.2.2.2, (iadd IntKind.i64 p13.1.1.1 (nth (0, (0, none)) p18 (nN p9.1.1)).1))), (a2.2.2.2.2.2.2, ((some (len d8)), false)))]) (len d6)).1.1, ((nth ((0, (0, 0)), (0, (none, false))) (cat d6 [((p9.1.1, (p17.1.1.2.2.2, (iadd IntKind.i64 p13.1.1.1 (nth (0, (0, none)) p18 (nN p9.1.1)).1))), (a2.2.2.2.2.2.2, ((some (len d8)), false)))]) (len d6)).1.2.1, (nth ((0, (0, 0)), (0, (none, false))) (cat d6 [((p9.1.1, (p17.1.1.2.2.2, (iadd IntKind.i64 p13.1.1.1 (nth (0, (0, none)) p18 (nN p9.1.1)).1))), (a2.2.2.2.2.2.2, ((some (len d8)), false)))]) (len d6)).1.2.2))) (fun p38 => (gd (ige a2.2.1) (gd (nlt (nN a2.2.1) 4) (bd (rwA d4 q0) (fun p39 => (some (((0, ((wrp IntKind.i64 p38.1.1), [])), (0, ())), (d0, (d1, (d2, ((upd (upd d3 p10 (some (updF (0, (0, none)) p20 (nN p9.1.1) (fun r40 => ((iadd IntKind.i64 (nth (0, (0, none)) p19 (nN p9.1.1)).1 (imul IntKind.i64 p2.1.1 8)), r40.2))))) p10 (some (updF (0, (0, none)) p36 (nN p9.1.1) (fun r40 => (r40.1, (r40.2.1, (some (len (upd d7 p33 none))))))))), ((upd d4 q0 (some (updF ([0, 0, 0, 0], []) p39 (nN a1) (fun r40 => ((aset 0 r40.1 (nN a2.2.1) p38.1.1), r40.2))))), ((updF [] d5 p37 (fun r40 => (cat r40 [(((nth ((0, (0, 0)), (0, (none, false))) (cat d6 [((p9.1.1, (p17.1.1.2.2.2, (iadd IntKind.i64 p13.1.1.1 (nth (0, (0, none)) p18 (nN p9.1.1)).1))), (a2.2.2.2.2.2.2, ((some (len d8)), false)))]) (len d6)).1.1, ((nth ((0, (0, 0)), (0, (none, false))) (cat d6 [((p9.1.1, (p17.1.1.2.2.2, (iadd IntKind.i64 p13.1.1.1 (nth (0, (0, none)) p18 (nN p9.1.1)).1))), (a2.2.2.2.2.2.2, ((some (len d8)), false)))]) (len d6)).1.2.1, (nth ((0, (0, 0)), (0, (none, false))) (cat d6 [((p9.1.1, (p17.1.1.2.2.2, (iadd IntKind.i64 p13.1.1.1 (nth (0, (0, none)) p18 (nN p9.1.1)).1))), (a2.2.2.2.2.2.2, ((some (len d8)), false)))]) (len d6)).1.2.2)), (some (len d6)))]))), ((cat d6 [((p9.1.1, (p17.1.1.2.2.2, (iadd IntKind.i64 p13.1.1.1 (nth (0, (0, none)) p18 (nN p9.1.1)).1))), (a2.2.2.2.2.2.2, ((some (len d8)), false)))]), ((cat (upd d7 p33 none) [(some (cat p34 [(some (len d6))]))]), ((cat d8 [(some (rep (α := Int) (nN a2.2.2.2.2.1) 0))]), ()))))))))))))))))) (fun p41 => (bd (g.ref_Pack ((nth ((0, (0, 0)), (0, (none, false))) (cat d6 [((p9.1.1, (p17.1.1.2.2.2, (iadd IntKind.i64 p13.1.1.1 (nth (0, (0, none)) p18 (nN p9.1.1)).1))), (a2.2.2.2.2.2.2, ((some (len d8)), false)))]) (len d6)).1.1, ((nth ((0, (0, 0)), (0, (none, false))) (cat d6 [((p9.1.1, (p17.1.1.2.2.2, (iadd IntKind.i64 p13.1.1.1 (nth (0, (0, none)) p18 (nN p9.1.1)).1))), (a2.2.2.2.2.2.2, ((some (len d8)), false)))]) (len d6)).1.2.1, (nth ((0, (0, 0)), (0, (none, false))) (cat d6 [((p9.1.1, (p17.1.1.2.2.2, (iadd IntKind.i64 p13.1.1.1 (nth (0, (0, none)) p18 (nN p9.1.1)).1))), (a2.2.2.2.2.2.2, ((some (len d8)), false)))]) (len d6)).1.2.2))) (fun p42 => (gd (ige a2.2.1) (gd (nlt (nN a2.2.1) 4) (bd (rwA d4 q0) (fun p43 => (some (((0, ((wrp IntKind.i64 p42.1.1), [])), (0, ())), (d0, (d1, (d2, ((upd (upd d3 p10 (some (updF (0, (0, none)) p20 (nN p9.1.1) (fun r44 => ((iadd IntKind.i64 (nth (0, (0, none)) p19 (nN p9.1.1)).1 (imul IntKind.i64 p2.1.1 8)), r44.2))))) p10 (some (updF (0, (0, none)) p36 (nN p9.1.1) (fun r44 => (r44.1, (r44.2.1, (some (len (upd d7 p33 none))))))))), ((upd d4 q0 (some (updF ([0, 0, 0, 0], []) p43 (nN a1) (fun r44 => ((aset 0 r44.1 (nN a2.2.1) p42.1.1), r44.2))))), ((updF [] d5 p37 (fun r44 => (mset r44 p41.1 (some (len d6))))), ((cat d6 [((p9.1.1, (p17.1.1.2.2.2, (iadd IntKind.i64 p13.1.1.1 (nth (0, (0, none)) p18 (nN p9.1.1)).1))), (a2.2.2.2.2.2.2, ((some (len d8)), false)))]), ((cat (upd d7 p33 none) [(some (cat p34 [(some (len d6))]))]), ((cat d8 [(some (rep (α := Int) (nN a2.2.2.2.2.1) 0))]), ())))))))))))))))))))))))))))))))))))))))))))))))))))))))))))))))))))
noncomputable def g.model_Model_Do_8 (a0 : Nat) (a1 : Int) (a2 : U8) (c0 : T0) (c1 : T1) (d0 : T2) (d1 : T3) (d2 : T4) (d3 : T5) (d4 : T6) (d5 : T7) (d6 : T8) (d7 : T9) (d8 : T10) (q0 : Nat) : U5 := (bd (g.model_registers (a2.1, (a2.2.1, (a2.2.2.1, (a2.2.2.2.1, (a2.2.2.2.2.1, (a2.2.2.2.2.2.1, a2.2.2.2.2.2.2))))))) (fun p0 => (br (bnot p0.1.1) (bd (g.model_code 1) (fun p1 => (some (((p1.1.1.1, (p1.1.1.2.1, p1.1.1.2.2)), (0, ())), (d0, (d1, (d2, (d3, (d4, (d5, (d6, (d7, (d8, ()))))))))))))) (jn (fun (k2 : (U14 × U0) → _) => (gd (ige a2.2.2.1) (gd (nlt (nN a2.2.2.1) 4) (bd (rwA d4 q0) (fun p3 => (bd (g.ref_Unpack (nth 0 (nth ([0, 0, 0, 0], []) p3 (nN a1)).1 (nN a2.2.2.1))) (fun p4 => (jn (fun (k5 : U7 → _) => (br (bnot (ieql p4.1.2.1 0)) (k5 ((true, ()), ((), ((), ((), ()))))) (k5 (((ileq (nth dv0 c0 a0).1.1 p4.1.1.1), ()), ((), ((), ((), ()))))))) (fun (s6 : U7) => (br s6.1.1 (k2 ((none, (18, ())), ((), ((), ((), ()))))) (bd (rwA d4 q0) (fun p7 => (bd (g.chain_Reach (nth ([0, 0, 0, 0], []) p7 (nN a1)).2 p4.1.1.1) (fun p8 => (br (bnot p8.1.1) (k2 ((none, (20, ())), ((), ((), ((), ()))))) (opt (nth dv0 c0 a0).2.2.1 none (fun p9 => (bd (g.scopes_Scopes_Ctl p9 p4.1.1.1 c1 d0 d1 d2) (fun p10 => (br (bnot (ieql p10.1.1.2.2.2 p4.1.1.2.1)) (k2 ((none, (19, ())), ((), ((), ((), ()))))) (opt (nth dv0 c0 a0).2.2.2.2.2 none (fun p11 => (opt (mfi (eqT (Ty.pair (Ty.int IntKind.i64) (Ty.pair (Ty.int IntKind.i64) (Ty.int IntKind.i64))) (p4.1.1.1, (p4.1.1.2.1, p4.1.1.2.2))) (nth [] d5 p11) 0) (k2 ((none, (18, ())), ((), ((), ((), ()))))) (fun p12 => (opt p12.2 (k2 ((none, (18, ())), ((), ((), ((), ()))))) (fun p13 => (k2 (((some p13), (0, ())), ((), ((), ((), ()))))))))))))))))))))))))))))))) (fun (s14 : (U14 × U0)) => (br (bnot (ieql s14.1.2.1 0)) (br (bnot (ieql s14.1.2.1 0)) (bd (g.model_code s14.1.2.1) (fun p15 => (some (((p15.1.1.1, (p15.1.1.2.1, p15.1.1.2.2)), (0, ())), (d0, (d1, (d2, (d3, (d4, (d5, (d6, (d7, (d8, ()))))))))))))) none) (opt s14.1.1 none (fun p16 => (opt (nth ((0, (0, 0)), (0, (none, false))) d6 p16).2.2.1 (bd (g.num_Within a2.2.2.2.2.2.1 0 (-1)) (fun p17 => (br (bnot p17.1.1) (bd (g.model_code 21) (fun p18 => (some (((p18.1.1.1, (p18.1.1.2.1, p18.1.1.2.2)), (0, ())), (d0, (d1, (d2, (d3, (d4, (d5, (d6, (d7, (d8, ()))))))))))))) (opt s14.1.1 none (fun p19 => (opt (nth ((0, (0, 0)), (0, (none, false))) d6 p19).2.2.1 none (fun p20 => (bd (rwA d8 p20) (fun p21 => (gd (ige a2.2.2.2.2.2.1) (gd (nlt (nN a2.2.2.2.2.2.1) (len p21)) (opt s14.1.1 none (fun p22 => (bd (rwA d8 p20) (fun p23 => (gd (ige a2.2.1) (gd (nlt (nN a2.2.1) 4) (bd (rwA d4 q0) (fun p24 => (some (((0, ((wrp IntKind.i64 (nth 0 p23 (nN a2.2.2.2.2.2.1))), [])), (0, ())), (d0, (d1, (d2, (d3, ((upd d4 q0 (some (updF ([0, 0, 0, 0], []) p24 (nN a1) (fun r25 => ((aset 0 r25.1 (nN a2.2.1) (nth 0 p23 (nN a2.2.2.2.2.2.1))), r25.2))))), (d5, (d6, (d7, (d8, ())))))))))))))))))))))))))))))) (fun p26 => (bd (rwA d8 p26) (fun p27 => (bd (g.num_Within a2.2.2.2.2.2.1 0 (isub IntKind.i64 (zN (len p27)) 1)) (fun p28 => (br (bnot p28.1.1) (bd (g.model_code 21) (fun p29 => (some (((p29.1.1.1, (p29.1.1.2.1, p29.1.1.2.2)), (0, ())), (d0, (d1, (d2, (d3, (d4, (d5, (d6, (d7, (d8, ()))))))))))))) (opt s14.1.1 none (fun p30 => (opt (nth ((0, (0, 0)), (0, (none, false))) d6 p30).2.2.1 none (fun p31 => (bd (rwA d8 p31) (fun p32 => (gd (ige a2.2.2.2.2.2.1) (gd (nlt (nN a2.2.2.2.2.2.1) (len p32)) (opt s14.1.1 none (fun p33 => (bd (rwA d8 p31) (fun p34 => (gd (ige a2.2.1) (gd (nlt (nN a2.2.1) 4) (bd (rwA d4 q0) (fun p35 => (some (((0, ((wrp IntKind.i64 (nth 0 p34 (nN a2.2.2.2.2.2.1))), [])), (0, ())), (d0, (d1, (d2, (d3, ((upd d4 q0 (some (updF ([0, 0, 0, 0], []) p35 (nN a1) (fun r36 => ((aset 0 r36.1 (nN a2.2.1) (nth 0 p34 (nN a2.2.2.2.2.2.1))), r36.2))))), (d5, (d6, (d7, (d8, ()))))))))))))))))))))))))))))))))))))))))))
noncomputable def g.model_Model_Do_9 (a0 : Nat) (a1 : Int) (a2 : U8) (c0 : T0) (c1 : T1) (d0 : T2) (d1 : T3) (d2 : T4) (d3 : T5) (d4 : T6) (d5 : T7) (d6 : T8) (d7 : T9) (d8 : T10) (q0 : Nat) : U5 := (bd (g.model_registers (a2.1, (a2.2.1, (a2.2.2.1, (a2.2.2.2.1, (a2.2.2.2.2.1, (a2.2.2.2.2.2.1, a2.2.2.2.2.2.2))))))) (fun p0 => (br (bnot p0.1.1) (bd (g.model_code 1) (fun p1 => (some (((p1.1.1.1, (p1.1.1.2.1, p1.1.1.2.2)), (0, ())), (d0, (d1, (d2, (d3, (d4, (d5, (d6, (d7, (d8, ()))))))))))))) (jn (fun (k2 : (U14 × U0) → _) => (gd (ige a2.2.2.1) (gd (nlt (nN a2.2.2.1) 4) (bd (rwA d4 q0) (fun p3 => (bd (g.ref_Unpack (nth 0 (nth ([0, 0, 0, 0], []) p3 (nN a1)).1 (nN a2.2.2.1))) (fun p4 => (jn (fun (k5 : U7 → _) => (br (bnot (ieql p4.1.2.1 0)) (k5 ((true, ()), ((), ((), ((), ()))))) (k5 (((ileq (nth dv0 c0 a0).1.1 p4.1.1.1), ()), ((), ((), ((), ()))))))) (fun (s6 : U7) => (br s6.1.1 (k2 ((none, (18, ())), ((), ((), ((), ()))))) (bd (rwA d4 q0) (fun p7 => (bd (g.chain_Reach (nth ([0, 0, 0, 0], []) p7 (nN a1)).2 p4.1.1.1) (fun p8 => (br (bnot p8.1.1) (k2 ((none, (20, ())), ((), ((), ((), ()))))) (opt (nth dv0 c0 a0).2.2.1 none (fun p9 => (bd (g.scopes_Scopes_Ctl p9 p4.1.1.1 c1 d0 d1 d2) (fun p10 => (br (bnot (ieql p10.1.1.2.2.2 p4.1.1.2.1)) (k2 ((none, (19, ())), ((), ((), ((), ()))))) (opt (nth dv0 c0 a0).2.2.2.2.2 none (fun p11 => (opt (mfi (eqT (Ty.pair (Ty.int IntKind.i64) (Ty.pair (Ty.int IntKind.i64) (Ty.int IntKind.i64))) (p4.1.1.1, (p4.1.1.2.1, p4.1.1.2.2))) (nth [] d5 p11) 0) (k2 ((none, (18, ())), ((), ((), ((), ()))))) (fun p12 => (opt p12.2 (k2 ((none, (18, ())), ((), ((), ((), ()))))) (fun p13 => (k2 (((some p13), (0, ())), ((), ((), ((), ()))))))))))))))))))))))))))))))) (fun (s14 : (U14 × U0)) => (br (bnot (ieql s14.1.2.1 0)) (br (bnot (ieql s14.1.2.1 0)) (bd (g.model_code s14.1.2.1) (fun p15 => (some (((p15.1.1.1, (p15.1.1.2.1, p15.1.1.2.2)), (0, ())), (d0, (d1, (d2, (d3, (d4, (d5, (d6, (d7, (d8, ()))))))))))))) (gd (ige a2.2.2.2.1) (gd (nlt (nN a2.2.2.2.1) 4) (bd (rwA d4 q0) (fun p16 => (br (bnot (ieql (nth 0 (nth ([0, 0, 0, 0], []) p16 (nN a1)).1 (nN a2.2.2.2.1)) 0)) (jn (fun (k17 : (U14 × U0) → _) => (bd (g.ref_Unpack (nth 0 (nth ([0, 0, 0, 0], []) p16 (nN a1)).1 (nN a2.2.2.2.1))) (fun p18 => (jn (fun (k19 : U7 → _) => (br (bnot (ieql p18.1.2.1 0)) (k19 ((true, ()), ((), ((), ((), ()))))) (k19 (((ileq (nth dv0 c0 a0).1.1 p18.1.1.1), ()), ((), ((), ((), ()))))))) (fun (s20 : U7) => (br s20.1.1 (k17 ((none, (18, ())), ((), ((), ((), ()))))) (bd (rwA d4 q0) (fun p21 => (bd (g.chain_Reach (nth ([0, 0, 0, 0], []) p21 (nN a1)).2 p18.1.1.1) (fun p22 => (br (bnot p22.1.1) (k17 ((none, (20, ())), ((), ((), ((), ()))))) (opt (nth dv0 c0 a0).2.2.1 none (fun p23 => (bd (g.scopes_Scopes_Ctl p23 p18.1.1.1 c1 d0 d1 d2) (fun p24 => (br (bnot (ieql p24.1.1.2.2.2 p18.1.1.2.1)) (k17 ((none, (19, ())), ((), ((), ((), ()))))) (opt (nth dv0 c0 a0).2.2.2.2.2 none (fun p25 => (opt (mfi (eqT (Ty.pair (Ty.int IntKind.i64) (Ty.pair (Ty.int IntKind.i64) (Ty.int IntKind.i64))) (p18.1.1.1, (p18.1.1.2.1, p18.1.1.2.2))) (nth [] d5 p25) 0) (k17 ((none, (18, ())), ((), ((), ((), ()))))) (fun p26 => (opt p26.2 (k17 ((none, (18, ())), ((), ((), ((), ()))))) (fun p27 => (k17 (((some p27), (0, ())), ((), ((), ((), ()))))))))))))))))))))))))))) (fun (s28 : (U14 × U0)) => (br (bnot (ieql s28.1.2.1 0)) (bd (g.model_code s28.1.2.1) (fun p29 => (some (((p29.1.1.1, (p29.1.1.2.1, p29.1.1.2.2)), (0, ())), (d0, (d1, (d2, (d3, (d4, (d5, (d6, (d7, (d8, ()))))))))))))) (bd (rwA d4 q0) (fun p30 => (opt s28.1.1 none (fun p31 => (bd (g.chain_Above (nth ([0, 0, 0, 0], []) p30 (nN a1)).2 (nth ((0, (0, 0)), (0, (none, false))) d6 p31).1.1 0) (fun p32 => (br (bnot p32.1.1) (bd (g.model_code 22) (fun p33 => (some (((p33.1.1.1, (p33.1.1.2.1, p33.1.1.2.2)), (0, ())), (d0, (d1, (d2, (d3, (d4, (d5, (d6, (d7, (d8, ()))))))))))))) none)))))))))) none)))))) (opt s14.1.1 none (fun p34 => (opt (nth ((0, (0, 0)), (0, (none, false))) d6 p34).2.2.1 (bd (g.num_Within a2.2.2.2.2.2.1 0 (-1)) (fun p35 => (br (bnot p35.1.1) (bd (g.model_code 21) (fun p36 => (some (((p36.1.1.1, (p36.1.1.2.1, p36.1.1.2.2)), (0, ())), (d0, (d1, (d2, (d3, (d4, (d5, (d6, (d7, (d8, ()))))))))))))) (opt s14.1.1 none (fun p37 => (opt (nth ((0, (0, 0)), (0, (none, false))) d6 p37).2.2.1 none (fun p38 => (bd (rwA d8 p38) (fun p39 => (gd (ige a2.2.2.2.2.2.1) (gd (nlt (nN a2.2.2.2.2.2.1) (len p39)) (opt s14.1.1 none (fun p40 => (gd (ige a2.2.2.2.1) (gd (nlt (nN a2.2.2.2.1) 4) (bd (rwA d4 q0) (fun p41 => (br (bnot (ieql (nth 0 (nth ([0, 0, 0, 0], []) p41 (nN a1)).1 (nN a2.2.2.2.1)) 0)) (jn (fun (k42 : (U14 × U0) → _) => (bd (g.ref_Unpack (nth 0 (nth ([0, 0, 0, 0], []) p41 (nN a1)).1 (nN a2.2.2.2.1))) (fun p43 => (jn (fun (k44 : U7 → _) => (br (bnot (ieql p43.1.2.1 0)) (k44 ((true, ()), ((), ((), ((), ()))))) (k44 (((ileq (nth dv0 c0 a0).1.1 p43.1.1.1), ()), ((), ((), ((), ()))))))) (fun (s45 : U7) => (br s45.1.1 (k42 ((none, (18, ())), ((), ((), ((), ()))))) (bd (rwA d4 q0) (fun p46 => (bd (g.chain_Reach (nth ([0, 0, 0, 0], []) p46 (nN a1)).2 p43.1.1.1) (fun p47 => (br (bnot p47.1.1) (k42 ((none, (20, ())), ((), ((), ((), ()))))) (opt (nth dv0 c0 a0).2.2.1 none (fun p48 => (bd (g.scopes_Scopes_Ctl p48 p43.1.1.1 c1 d0 d1 d2) (fun p49 => (br (bnot (ieql p49.1.1.2.2.2 p43.1.1.2.1)) (k42 ((none, (19, ())), ((), ((), ((), ()))))) (opt (nth dv0 c0 a0).2.2.2.2.2 none (fun p50 => (opt (mfi (eqT (Ty.pair (Ty.int IntKind.i64) (Ty.pair (Ty.int IntKind.i64) (Ty.int IntKind.i64))) (p43.1.1.1, (p43.1.1.2.1, p43.1.1.2.2))) (nth [] d5 p50) 0) (k42 ((none, (18, ())), ((), ((), ((), ()))))) (fun p51 => (opt p51.2 (k42 ((none, (18, ())), ((), ((), ((), ()))))) (fun p52 => (k42 (((some p52), (0, ())), ((), ((), ((), ()))))))))))))))))))))))))))) (fun (s53 : (U14 × U0)) => (br (bnot (ieql s53.1.2.1 0)) (bd (g.model_code s53.1.2.1) (fun p54 => (some (((p54.1.1.1, (p54.1.1.2.1, p54.1.1.2.2)), (0, ())), (d0, (d1, (d2, (d3, (d4, (d5, (d6, (d7, (d8, ()))))))))))))) (bd (rwA d4 q0) (fun p55 => (opt s53.1.1 none (fun p56 => (bd (g.chain_Above (nth ([0, 0, 0, 0], []) p55 (nN a1)).2 (nth ((0, (0, 0)), (0, (none, false))) d6 p56).1.1 (nth ((0, (0, 0)), (0, (none, false))) d6 p40).1.1) (fun p57 => (br (bnot p57.1.1) (bd (g.model_code 22) (fun p58 => (some (((p58.1.1.1, (p58.1.1.2.1, p58.1.1.2.2)), (0, ())), (d0, (d1, (d2, (d3, (d4, (d5, (d6, (d7, (d8, ()))))))))))))) (bd (rwA d8 p38) (fun p59 => (some (((0, (0, [])), (0, ())), (d0, (d1, (d2, (d3, (d4, (d5, (d6, (d7, ((upd d8 p38 (some (upd p59 (nN a2.2.2.2.2.2.1) (nth 0 (nth ([0, 0, 0, 0], []) p41 (nN a1)).1 (nN a2.2.2.2.1))))), ()))))))))))))))))))))))) (bd (rwA d8 p38) (fun p60 => (some (((0, (0, [])), (0, ())), (d0, (d1, (d2, (d3, (d4, (d5, (d6, (d7, ((upd d8 p38 (some (upd p60 (nN a2.2.2.2.2.2.1) (nth 0 (nth ([0, 0, 0, 0], []) p41 (nN a1)).1 (nN a2.2.2.2.1))))), ()))))))))))))))))))))))))))))))) (fun p61 => (bd (rwA d8 p61) (fun p62 => (bd (g.num_Within a2.2.2.2.2.2.1 0 (isub IntKind.i64 (zN (len p62)) 1)) (fun p63 => (br (bnot p63.1.1) (bd (g.model_code 21) (fun p64 => (some (((p64.1.1.1, (p64.1.1.2.1, p64.1.1.2.2)), (0, ())), (d0, (d1, (d2, (d3, (d4, (d5, (d6, (d7, (d8, ()))))))))))))) (opt s14.1.1 none (fun p65 => (opt (nth ((0, (0, 0)), (0, (none, false))) d6 p65).2.2.1 none (fun p66 => (bd (rwA d8 p66) (fun p67 => (gd (ige a2.2.2.2.2.2.1) (gd (nlt (nN a2.2.2.2.2.2.1) (len p67)) (opt s14.1.1 none (fun p68 => (gd (ige a2.2.2.2.1) (gd (nlt (nN a2.2.2.2.1) 4) (bd (rwA d4 q0) (fun p69 => (br (bnot (ieql (nth 0 (nth ([0, 0, 0, 0], []) p69 (nN a1)).1 (nN a2.2.2.2.1)) 0)) (jn (fun (k70 : (U14 × U0) → _) => (bd (g.ref_Unpack (nth 0 (nth ([0, 0, 0, 0], []) p69 (nN a1)).1 (nN a2.2.2.2.1))) (fun p71 => (jn (fun (k72 : U7 → _) => (br (bnot (ieql p71.1.2.1 0)) (k72 ((true, ()), ((), ((), ((), ()))))) (k72 (((ileq (nth dv0 c0 a0).1.1 p71.1.1.1), ()), ((), ((), ((), ()))))))) (fun (s73 : U7) => (br s73.1.1 (k70 ((none, (18, ())), ((), ((), ((), ()))))) (bd (rwA d4 q0) (fun p74 => (bd (g.chain_Reach (nth ([0, 0, 0, 0], []) p74 (nN a1)).2 p71.1.1.1) (fun p75 => (br (bnot p75.1.1) (k70 ((none, (20, ())), ((), ((), ((), ()))))) (opt (nth dv0 c0 a0).2.2.1 none (fun p76 => (bd (g.scopes_Scopes_Ctl p76 p71.1.1.1 c1 d0 d1 d2) (fun p77 => (br (bnot (ieql p77.1.1.2.2.2 p71.1.1.2.1)) (k70 ((none, (19, ())), ((), ((), ((), ()))))) (opt (nth dv0 c0 a0).2.2.2.2.2 none (fun p78 => (opt (mfi (eqT (Ty.pair (Ty.int IntKind.i64) (Ty.pair (Ty.int IntKind.i64) (Ty.int IntKind.i64))) (p71.1.1.1, (p71.1.1.2.1, p71.1.1.2.2))) (nth [] d5 p78) 0) (k70 ((none, (18, ())), ((), ((), ((), ()))))) (fun p79 => (opt p79.2 (k70 ((none, (18, ())), ((), ((), ((), ()))))) (fun p80 => (k70 (((some p80), (0, ())), ((), ((), ((), ()))))))))))))))))))))))))))) (fun (s81 : (U14 × U0)) => (br (bnot (ieql s81.1.2.1 0)) (bd (g.model_code s81.1.2.1) (fun p82 => (some (((p82.1.1.1, (p82.1.1.2.1, p82.1.1.2.2)), (0, ())), (d0, (d1, (d2, (d3, (d4, (d5, (d6, (d7, (d8, ()))))))))))))) (bd (rwA d4 q0) (fun p83 => (opt s81.1.1 none (fun p84 => (bd (g.chain_Above (nth ([0, 0, 0, 0], []) p83 (nN a1)).2 (nth ((0, (0, 0)), (0, (none, false))) d6 p84).1.1 (nth ((0, (0, 0)), (0, (none, false))) d6 p68).1.1) (fun p85 => (br (bnot p85.1.1) (bd (g.model_code 22) (fun p86 => (some (((p86.1.1.1, (p86.1.1.2.1, p86.1.1.2.2)), (0, ())), (d0, (d1, (d2, (d3, (d4, (d5, (d6, (d7, (d8, ()))))))))))))) (bd (rwA d8 p66) (fun p87 => (some (((0, (0, [])), (0, ())), (d0, (d1, (d2, (d3, (d4, (d5, (d6, (d7, ((upd d8 p66 (some (upd p87 (nN a2.2.2.2.2.2.1) (nth 0 (nth ([0, 0, 0, 0], []) p69 (nN a1)).1 (nN a2.2.2.2.1))))), ()))))))))))))))))))))))) (bd (rwA d8 p66) (fun p88 => (some (((0, (0, [])), (0, ())), (d0, (d1, (d2, (d3, (d4, (d5, (d6, (d7, ((upd d8 p66 (some (upd p88 (nN a2.2.2.2.2.2.1) (nth 0 (nth ([0, 0, 0, 0], []) p69 (nN a1)).1 (nN a2.2.2.2.1))))), ())))))))))))))))))))))))))))))))))))))))))))
noncomputable def g.model_Model_Do_10 (a0 : Nat) (a1 : Int) (a2 : U8) (c0 : T0) (c1 : T1) (d0 : T2) (d1 : T3) (d2 : T4) (d3 : T5) (d4 : T6) (d5 : T7) (d6 : T8) (d7 : T9) (d8 : T10) (q0 : Nat) : U5 := (bd (g.model_registers (a2.1, (a2.2.1, (a2.2.2.1, (a2.2.2.2.1, (a2.2.2.2.2.1, (a2.2.2.2.2.2.1, a2.2.2.2.2.2.2))))))) (fun p0 => (br (bnot p0.1.1) (bd (g.model_code 1) (fun p1 => (some (((p1.1.1.1, (p1.1.1.2.1, p1.1.1.2.2)), (0, ())), (d0, (d1, (d2, (d3, (d4, (d5, (d6, (d7, (d8, ()))))))))))))) (bd (g.num_Within a2.2.2.2.2.1 1 (isub IntKind.i64 (nth dv0 c0 a0).1.1 1)) (fun p2 => (br (bnot p2.1.1) (bd (g.model_code 11) (fun p3 => (some (((p3.1.1.1, (p3.1.1.2.1, p3.1.1.2.2)), (0, ())), (d0, (d1, (d2, (d3, (d4, (d5, (d6, (d7, (d8, ()))))))))))))) (bd (rwA d4 q0) (fun p4 => (bd (g.chain_Reach (nth ([0, 0, 0, 0], []) p4 (nN a1)).2 a2.2.2.2.2.1) (fun p5 => (br (bnot p5.1.1) (bd (g.model_code 20) (fun p6 => (some (((p6.1.1.1, (p6.1.1.2.1, p6.1.1.2.2)), (0, ())), (d0, (d1, (d2, (d3, (d4, (d5, (d6, (d7, (d8, ()))))))))))))) (opt (nth dv0 c0 a0).2.2.2.1 none (fun p7 => (bd (rwA d3 p7) (fun p8 => (gd (ige a2.2.2.2.2.1) (gd (nlt (nN a2.2.2.2.2.1) (len p8)) (bd (rwA d3 p7) (fun p9 => (gd (ige a2.2.1) (gd (nlt (nN a2.2.1) 4) (bd (rwA d4 q0) (fun p10 => (some (((0, ((wrp IntKind.i64 (nth (0, (0, none)) p9 (nN a2.2.2.2.2.1)).2.1), [])), (0, ())), (d0, (d1, (d2, (d3, ((upd d4 q0 (some (updF ([0, 0, 0, 0], []) p10 (nN a1) (fun r11 => ((aset 0 r11.1 (nN a2.2.1) (nth (0, (0, none)) p9 (nN a2.2.2.2.2.1)).2.1), r11.2))))), (d5, (d6, (d7, (d8, ()))))))))))))))))))))))))))))))))))
noncomputable def g.model_Model_Do_11 (a0 : Nat) (a1 : Int) (a2 : U8) (c0 : T0) (c1 : T1) (d0 : T2) (d1 : T3) (d2 : T4) (d3 : T5) (d4 : T6) (d5 : T7) (d6 : T8) (d7 : T9) (d8 : T10) (q0 : Nat) : U5 := (bd (g.model_registers (a2.1, (a2.2.1, (a2.2.2.1, (a2.2.2.2.1, (a2.2.2.2.2.1, (a2.2.2.2.2.2.1, a2.2.2.2.2.2.2))))))) (fun p0 => (br (bnot p0.1.1) (bd (g.model_code 1) (fun p1 => (some (((p1.1.1.1, (p1.1.1.2.1, p1.1.1.2.2)), (0, ())), (d0, (d1, (d2, (d3, (d4, (d5, (d6, (d7, (d8, ()))))))))))))) (bd (g.num_Within a2.2.2.2.2.1 1 (isub IntKind.i64 (nth dv0 c0 a0).1.1 1)) (fun p2 => (br (bnot p2.1.1) (bd (g.model_code 11) (fun p3 => (some (((p3.1.1.1, (p3.1.1.2.1, p3.1.1.2.2)), (0, ())), (d0, (d1, (d2, (d3, (d4, (d5, (d6, (d7, (d8, ()))))))))))))) (bd (rwA d4 q0) (fun p4 => (bd (g.chain_Reach (nth ([0, 0, 0, 0], []) p4 (nN a1)).2 a2.2.2.2.2.1) (fun p5 => (br (bnot p5.1.1) (bd (g.model_code 20) (fun p6 => (some (((p6.1.1.1, (p6.1.1.2.1, p6.1.1.2.2)), (0, ())), (d0, (d1, (d2, (d3, (d4, (d5, (d6, (d7, (d8, ()))))))))))))) (opt (nth dv0 c0 a0).2.2.2.1 none (fun p7 => (bd (rwA d3 p7) (fun p8 => (gd (ige a2.2.2.2.2.1) (gd (nlt (nN a2.2.2.2.2.1) (len p8)) (gd (ige a2.2.2.2.1) (gd (nlt (nN a2.2.2.2.1) 4) (bd (rwA d4 q0) (fun p9 => (br (bnot (ieql (nth 0 (nth ([0, 0, 0, 0], []) p9 (nN a1)).1 (nN a2.2.2.2.1)) 0)) (jn (fun (k10 : (U14 × U0) → _) => (bd (g.ref_Unpack (nth 0 (nth ([0, 0, 0, 0], []) p9 (nN a1)).1 (nN a2.2.2.2.1))) (fun p11 => (jn (fun (k12 : U7 → _) => (br (bnot (ieql p11.1.2.1 0)) (k12 ((true, ()), ((), ((), ((), ()))))) (k12 (((ileq (nth dv0 c0 a0).1.1 p11.1.1.1), ()), ((), ((), ((), ()))))))) (fun (s13 : U7) => (br s13.1.1 (k10 ((none, (18, ())), ((), ((), ((), ()))))) (bd (rwA d4 q0) (fun p14 => (bd (g.chain_Reach (nth ([0, 0, 0, 0], []) p14 (nN a1)).2 p11.1.1.1) (fun p15 => (br (bnot p15.1.1) (k10 ((none, (20, ())), ((), ((), ((), ()))))) (opt (nth dv0 c0 a0).2.2.1 none (fun p16 => (bd (g.scopes_Scopes_Ctl p16 p11.1.1.1 c1 d0 d1 d2) (fun p17 => (br (bnot (ieql p17.1.1.2.2.2 p11.1.1.2.1)) (k10 ((none, (19, ())), ((), ((), ((), ()))))) (opt (nth dv0 c0 a0).2.2.2.2.2 none (fun p18 => (opt (mfi (eqT (Ty.pair (Ty.int IntKind.i64) (Ty.pair (Ty.int IntKind.i64) (Ty.int IntKind.i64))) (p11.1.1.1, (p11.1.1.2.1, p11.1.1.2.2))) (nth [] d5 p18) 0) (k10 ((none, (18, ())), ((), ((), ((), ()))))) (fun p19 => (opt p19.2 (k10 ((none, (18, ())), ((), ((), ((), ()))))) (fun p20 => (k10 (((some p20), (0, ())), ((), ((), ((), ()))))))))))))))))))))))))))) (fun (s21 : (U14 × U0)) => (br (bnot (ieql s21.1.2.1 0)) (bd (g.model_code s21.1.2.1) (fun p22 => (some (((p22.1.1.1, (p22.1.1.2.1, p22.1.1.2.2)), (0, ())), (d0, (d1, (d2, (d3, (d4, (d5, (d6, (d7, (d8, ()))))))))))))) (bd (rwA d4 q0) (fun p23 => (opt s21.1.1 none (fun p24 => (bd (g.chain_Above (nth ([0, 0, 0, 0], []) p23 (nN a1)).2 (nth ((0, (0, 0)), (0, (none, false))) d6 p24).1.1 a2.2.2.2.2.1) (fun p25 => (br (bnot p25.1.1) (bd (g.model_code 22) (fun p26 => (some (((p26.1.1.1, (p26.1.1.2.1, p26.1.1.2.2)), (0, ())), (d0, (d1, (d2, (d3, (d4, (d5, (d6, (d7, (d8, ()))))))))))))) (bd (rwA d3 p7) (fun p27 => (some (((0, (0, [])), (0, ())), (d0, (d1, (d2, ((upd d3 p7 (some (updF (0, (0, none)) p27 (nN a2.2.2.2.2.1) (fun r28 => (r28.1, ((nth 0 (nth ([0, 0, 0, 0], []) p9 (nN a1)).1 (nN a2.2.2.2.1)), r28.2.2)))))), (d4, (d5, (d6, (d7, (d8, ()))))))))))))))))))))))) (bd (rwA d3 p7) (fun p29 => (some (((0, (0, [])), (0, ())), (d0, (d1, (d2, ((upd d3 p7 (some (updF (0, (0, none)) p29 (nN a2.2.2.2.2.1) (fun r30 => (r30.1, ((nth 0 (nth ([0, 0, 0, 0], []) p9 (nN a1)).1 (nN a2.2.2.2.1)), r30.2.2)))))), (d4, (d5, (d6, (d7, (d8, ())))))))))))))))))))))))))))))))))))
noncomputable def g.model_Model_Do (a0 : Nat) (a1 : Int) (a2 : U8) (c0 : T0) (c1 : T1) (d0 : T2) (d1 : T3) (d2 : T4) (d3 : T5) (d4 : T6) (d5 : T7) (d6 : T8) (d7 : T9) (d8 : T10) : U5 := (opt (nth dv0 c0 a0).2.2.2.2.1 (bd (g.num_Within a1 0 (-1)) (fun p0 => (br (bnot p0.1.1) (some (((0, (0, [])), (2, ())), (d0, (d1, (d2, (d3, (d4, (d5, (d6, (d7, (d8, ()))))))))))) (opt (nth dv0 c0 a0).2.2.2.2.1 none (fun p1 => (bd (rwA d4 p1) (fun p2 => (gd (ige a1) (gd (nlt (nN a1) (len p2)) (br (ieql a2.1 0) (g.model_Model_Do_0 a0 a1 a2 c0 c1 d0 d1 d2 d3 d4 d5 d6 d7 d8) (br (ieql a2.1 1) (g.model_Model_Do_1 a0 a1 a2 c0 c1 d0 d1 d2 d3 d4 d5 d6 d7 d8 p1) (br (ieql a2.1 2) (g.model_Model_Do_2 a0 a1 a2 c0 c1 d0 d1 d2 d3 d4 d5 d6 d7 d8) (br (ieql a2.1 3) (g.model_Model_Do_3 a0 a1 a2 c0 c1 d0 d1 d2 d3 d4 d5 d6 d7 d8) (br (ieql a2.1 4) (g.model_Model_Do_4 a0 a1 a2 c0 c1 d0 d1 d2 d3 d4 d5 d6 d7 d8 p1) (br (ieql a2.1 5) (g.model_Model_Do_5 a0 a1 a2 c0 c1 d0 d1 d2 d3 d4 d5 d6 d7 d8 p1) (br (ieql a2.1 6) (g.model_Model_Do_6 a0 a1 a2 c0 c1 d0 d1 d2 d3 d4 d5 d6 d7 d8 p1) (br (ieql a2.1 7) (g.model_Model_Do_7 a0 a1 a2 c0 c1 d0 d1 d2 d3 d4 d5 d6 d7 d8 p1) (br (ieql a2.1 8) (g.model_Model_Do_8 a0 a1 a2 c0 c1 d0 d1 d2 d3 d4 d5 d6 d7 d8 p1) (br (ieql a2.1 9) (g.model_Model_Do_9 a0 a1 a2 c0 c1 d0 d1 d2 d3 d4 d5 d6 d7 d8 p1) (br (ieql a2.1 10) (g.model_Model_Do_10 a0 a1 a2 c0 c1 d0 d1 d2 d3 d4 d5 d6 d7 d8 p1) (br (ieql a2.1 11) (g.model_Model_Do_11 a0 a1 a2 c0 c1 d0 d1 d2 d3 d4 d5 d6 d7 d8 p1) (bd (g.model_code 1) (fun p310 => (some (((p310.1.1.1, (p310.1.1.2.1, p310.1.1.2.2)), (0, ())), (d0, (d1, (d2, (d3, (d4, (d5, (d6, (d7, (d8, ())))))))))))))))))))))))))))))))))) (fun p311 => (bd (rwA d4 p311) (fun p312 => (bd (g.num_Within a1 0 (isub IntKind.i64 (zN (len p312)) 1)) (fun p313 => (br (bnot p313.1.1) (some (((0, (0, [])), (2, ())), (d0, (d1, (d2, (d3, (d4, (d5, (d6, (d7, (d8, ()))))))))))) (opt (nth dv0 c0 a0).2.2.2.2.1 none (fun p314 => (bd (rwA d4 p314) (fun p315 => (gd (ige a1) (gd (nlt (nN a1) (len p315)) (br (ieql a2.1 0) (g.model_Model_Do_0 a0 a1 a2 c0 c1 d0 d1 d2 d3 d4 d5 d6 d7 d8) (br (ieql a2.1 1) (g.model_Model_Do_1 a0 a1 a2 c0 c1 d0 d1 d2 d3 d4 d5 d6 d7 d8 p314) (br (ieql a2.1 2) (g.model_Model_Do_2 a0 a1 a2 c0 c1 d0 d1 d2 d3 d4 d5 d6 d7 d8) (br (ieql a2.1 3) (g.model_Model_Do_3 a0 a1 a2 c0 c1 d0 d1 d2 d3 d4 d5 d6 d7 d8) (br (ieql a2.1 4) (g.model_Model_Do_4 a0 a1 a2 c0 c1 d0 d1 d2 d3 d4 d5 d6 d7 d8 p314) (br (ieql a2.1 5) (g.model_Model_Do_5 a0 a1 a2 c0 c1 d0 d1 d2 d3 d4 d5 d6 d7 d8 p314) (br (ieql a2.1 6) (g.model_Model_Do_6 a0 a1 a2 c0 c1 d0 d1 d2 d3 d4 d5 d6 d7 d8 p314) (br (ieql a2.1 7) (g.model_Model_Do_7 a0 a1 a2 c0 c1 d0 d1 d2 d3 d4 d5 d6 d7 d8 p314) (br (ieql a2.1 8) (g.model_Model_Do_8 a0 a1 a2 c0 c1 d0 d1 d2 d3 d4 d5 d6 d7 d8 p314) (br (ieql a2.1 9) (g.model_Model_Do_9 a0 a1 a2 c0 c1 d0 d1 d2 d3 d4 d5 d6 d7 d8 p314) (br (ieql a2.1 10) (g.model_Model_Do_10 a0 a1 a2 c0 c1 d0 d1 d2 d3 d4 d5 d6 d7 d8 p314) (br (ieql a2.1 11) (g.model_Model_Do_11 a0 a1 a2 c0 c1 d0 d1 d2 d3 d4 d5 d6 d7 d8 p314) (bd (g.model_code 1) (fun p623 => (some (((p623.1.1.1, (p623.1.1.2.1, p623.1.1.2.2)), (0, ())), (d0, (d1, (d2, (d3, (d4, (d5, (d6, (d7, (d8, ()))))))))))))))))))))))))))))))))))))))
noncomputable def F14 : Plain sg14 := fun x c d => g.model_Model_Do x.1 x.2.1 x.2.2.1 c.1 c.2.1 d.1 d.2.1 d.2.2.1 d.2.2.2.1 d.2.2.2.2.1 d.2.2.2.2.2.1 d.2.2.2.2.2.2.1 d.2.2.2.2.2.2.2.1 d.2.2.2.2.2.2.2.2.1
theorem ct14 : CtOk Tryz.prog 14 sg14 F14 := ct_of envok mixed fnok (hm := homes) (ctC_ok ct39 (ctC_ok ct52 (ctC_ok ct53 (ctC_ok ct54 (ctC_ok ct70 (ctC_ok ct77 (ctC_ok ct78 (ctC_ok ct82 (ctC_ok ct83 (ctC_ok ct84 (ctC_ok ct86 (ctC_ok ct87 (ctC_ok ct88 (ctC_ok ct90 (ctC_ok ct91 (ctC_ok ct116 (ctC_ok ct128 (ctC_ok ct133 (ctC_ok ct134 (ctC_ok ct140 (ctN_ok))))))))))))))))))))) 8 (fun x c d => by kernel_rfl)
noncomputable def sg11 : Sig := ⟨[], [(false, .bool)], [], [(0, R0), (1, R1), (2, R2), (3, R3), (4, R4), (5, R5), (6, R6), (7, R7), (8, R8), (9, R9), (10, R10)]⟩
noncomputable def g.penfoldlaw12_shown (d0 : T0) (d1 : T1) (d2 : T2) (d3 : T3) (d4 : T4) (d5 : T5) (d6 : T6) (d7 : T7) (d8 : T8) (d9 : T9) (d10 : T10) : U4 := (bd g.penfoldlaw12_some (fun p0 => (bd (g.model_New (p0.1.1.1, (p0.1.1.2.1, (p0.1.1.2.2.1, p0.1.1.2.2.2))) [] d8 d9 d10 d0 d1 d2 d3 d4 d5 d6 d7) (fun p1 => (opt p1.1.1 (jn (fun (k2 : (Unit × U0) → _) => (some ((false, ()), (p1.2.1, (p1.2.2.1, (p1.2.2.2.1, (p1.2.2.2.2.1, (p1.2.2.2.2.2.1, (p1.2.2.2.2.2.2.1, (p1.2.2.2.2.2.2.2.1, (p1.2.2.2.2.2.2.2.2.1, (d8, (d9, (d10, ())))))))))))))) (fun (s3 : (Unit × U0)) => none)) (fun p4 => (jn (fun (k5 : (Unit × U0) → _) => (br (bnot (ieql p1.1.2.1 0)) (some ((false, ()), (p1.2.1, (p1.2.2.1, (p1.2.2.2.1, (p1.2.2.2.2.1, (p1.2.2.2.2.2.1, (p1.2.2.2.2.2.2.1, (p1.2.2.2.2.2.2.2.1, (p1.2.2.2.2.2.2.2.2.1, (d8, (d9, (d10, ()))))))))))))) (k5 ((), ((), ((), ((), ()))))))) (fun (s6 : (Unit × U0)) => (bd (g.model_Model_Do p4 0 (2, (0, (0, (0, (64, (0, 0)))))) p1.2.1 p1.2.2.1 p1.2.2.2.1 p1.2.2.2.2.1 p1.2.2.2.2.2.1 p1.2.2.2.2.2.2.1 p1.2.2.2.2.2.2.2.1 p1.2.2.2.2.2.2.2.2.1 d8 d9 d10) (fun p7 => (bd (g.model_Model_Do p4 0 (4, (0, (0, (0, (1, (0, 0)))))) p1.2.1 p1.2.2.1 p7.2.1 p7.2.2.1 p7.2.2.2.1 p7.2.2.2.2.1 p7.2.2.2.2.2.1 p7.2.2.2.2.2.2.1 p7.2.2.2.2.2.2.2.1 p7.2.2.2.2.2.2.2.2.1 p7.2.2.2.2.2.2.2.2.2.1) (fun p8 => (bd (g.model_Model_Do p4 0 (7, (0, (0, (0, (1, (0, 0)))))) p1.2.1 p1.2.2.1 p8.2.1 p8.2.2.1 p8.2.2.2.1 p8.2.2.2.2.1 p8.2.2.2.2.2.1 p8.2.2.2.2.2.2.1 p8.2.2.2.2.2.2.2.1 p8.2.2.2.2.2.2.2.2.1 p8.2.2.2.2.2.2.2.2.2.1) (fun p9 => (bd (g.model_Model_Do p4 0 (5, (0, (0, (0, (0, (0, 0)))))) p1.2.1 p1.2.2.1 p9.2.1 p9.2.2.1 p9.2.2.2.1 p9.2.2.2.2.1 p9.2.2.2.2.2.1 p9.2.2.2.2.2.2.1 p9.2.2.2.2.2.2.2.1 p9.2.2.2.2.2.2.2.2.1 p9.2.2.2.2.2.2.2.2.2.1) (fun p10 => (bd (g.model_Model_Do p4 0 (8, (0, (0, (0, (0, (0, 0)))))) p1.2.1 p1.2.2.1 p10.2.1 p10.2.2.1 p10.2.2.2.1 p10.2.2.2.2.1 p10.2.2.2.2.2.1 p10.2.2.2.2.2.2.1 p10.2.2.2.2.2.2.2.1 p10.2.2.2.2.2.2.2.2.1 p10.2.2.2.2.2.2.2.2.2.1) (fun p11 => (br (ieql p7.1.1.2.1 1) (br (ieql p8.1.1.1 0) (br (ieql p9.1.1.1 0) (br (ilss 0 p9.1.1.2.1) (br (ieql p10.1.1.1 0) (some (((ieql p11.1.1.1 20), ()), (p1.2.1, (p1.2.2.1, (p11.2.1, (p11.2.2.1, (p11.2.2.2.1, (p11.2.2.2.2.1, (p11.2.2.2.2.2.1, (p11.2.2.2.2.2.2.1, (p11.2.2.2.2.2.2.2.1, (p11.2.2.2.2.2.2.2.2.1, (p11.2.2.2.2.2.2.2.2.2.1, ()))))))))))))) (some ((false, ()), (p1.2.1, (p1.2.2.1, (p11.2.1, (p11.2.2.1, (p11.2.2.2.1, (p11.2.2.2.2.1, (p11.2.2.2.2.2.1, (p11.2.2.2.2.2.2.1, (p11.2.2.2.2.2.2.2.1, (p11.2.2.2.2.2.2.2.2.1, (p11.2.2.2.2.2.2.2.2.2.1, ())))))))))))))) (some ((false, ()), (p1.2.1, (p1.2.2.1, (p11.2.1, (p11.2.2.1, (p11.2.2.2.1, (p11.2.2.2.2.1, (p11.2.2.2.2.2.1, (p11.2.2.2.2.2.2.1, (p11.2.2.2.2.2.2.2.1, (p11.2.2.2.2.2.2.2.2.1, (p11.2.2.2.2.2.2.2.2.2.1, ())))))))))))))) (some ((false, ()), (p1.2.1, (p1.2.2.1, (p11.2.1, (p11.2.2.1, (p11.2.2.2.1, (p11.2.2.2.2.1, (p11.2.2.2.2.2.1, (p11.2.2.2.2.2.2.1, (p11.2.2.2.2.2.2.2.1, (p11.2.2.2.2.2.2.2.2.1, (p11.2.2.2.2.2.2.2.2.2.1, ())))))))))))))) (some ((false, ()), (p1.2.1, (p1.2.2.1, (p11.2.1, (p11.2.2.1, (p11.2.2.2.1, (p11.2.2.2.2.1, (p11.2.2.2.2.2.1, (p11.2.2.2.2.2.2.1, (p11.2.2.2.2.2.2.2.1, (p11.2.2.2.2.2.2.2.2.1, (p11.2.2.2.2.2.2.2.2.2.1, ())))))))))))))) (some ((false, ()), (p1.2.1, (p1.2.2.1, (p11.2.1, (p11.2.2.1, (p11.2.2.2.1, (p11.2.2.2.2.1, (p11.2.2.2.2.2.1, (p11.2.2.2.2.2.2.1, (p11.2.2.2.2.2.2.2.1, (p11.2.2.2.2.2.2.2.2.1, (p11.2.2.2.2.2.2.2.2.2.1, ()))))))))))))))))))))))))))))))))
noncomputable def F11 : Plain sg11 := fun x c d => g.penfoldlaw12_shown d.1 d.2.1 d.2.2.1 d.2.2.2.1 d.2.2.2.2.1 d.2.2.2.2.2.1 d.2.2.2.2.2.2.1 d.2.2.2.2.2.2.2.1 d.2.2.2.2.2.2.2.2.1 d.2.2.2.2.2.2.2.2.2.1 d.2.2.2.2.2.2.2.2.2.2.1
theorem ct11 : CtOk Tryz.prog 11 sg11 F11 := ct_of envok mixed fnok (hm := homes) (ctC_ok ct12 (ctC_ok ct13 (ctC_ok ct14 (ctN_ok)))) 8 (fun x c d => by kernel_rfl)
noncomputable def sg15 : Sig := ⟨[(false, (.nptr 0)), (false, (.int .i64))], [(true, (.pair (.int .i64) (.pair (.int .i64) (.pair (.int .i64) (.int .i64))))), (false, (.int .i64))], [(0, R0), (1, R1), (2, R2), (3, R3), (4, R4), (5, R5), (6, R6), (7, R7), (8, R8), (9, R9), (10, R10)], []⟩
noncomputable def g.model_Model_Ctl (a0 : Nat) (a1 : Int) (c0 : T0) (c1 : T1) (c2 : T2) (c3 : T3) (c4 : T4) (c5 : T5) (c6 : T6) (c7 : T7) (c8 : T8) (c9 : T9) (c10 : T10) : (Option (((Int × U2) × (Int × Unit)) × Unit)) := (opt (nth dv0 c0 a0).2.2.1 none (fun p0 => (bd (g.scopes_Scopes_Ctl p0 a1 c1 c2 c3 c4) (fun p1 => (some (((p1.1.1.1, (p1.1.1.2.1, (p1.1.1.2.2.1, p1.1.1.2.2.2))), (p1.1.2.1, ())), ()))))))
noncomputable def F15 : Plain sg15 := fun x c d => g.model_Model_Ctl x.1 x.2.1 c.1 c.2.1 c.2.2.1 c.2.2.2.1 c.2.2.2.2.1 c.2.2.2.2.2.1 c.2.2.2.2.2.2.1 c.2.2.2.2.2.2.2.1 c.2.2.2.2.2.2.2.2.1 c.2.2.2.2.2.2.2.2.2.1 c.2.2.2.2.2.2.2.2.2.2.1
theorem ct15 : CtOk Tryz.prog 15 sg15 F15 := ct_of envok mixed fnok (hm := homes) (ctC_ok ct54 (ctN_ok)) 8 (fun x c d => by kernel_rfl)
noncomputable def sg55 : Sig := ⟨[(false, (.nptr 0)), (false, (.int .i64))], [(true, (.pair (.int .i64) (.pair (.int .u64) (.rsl 9 1))))], [(0, R0), (1, R1), (2, R2), (3, R3), (4, R4), (5, R5), (6, R6), (7, R7), (8, R8), (9, R9), (10, R10)], []⟩
noncomputable def g.model_Model_of (a0 : Nat) (a1 : Int) (c0 : T0) (c1 : T1) (c2 : T2) (c3 : T3) (c4 : T4) (c5 : T5) (c6 : T6) (c7 : T7) (c8 : T8) (c9 : T9) (c10 : T10) : (Option (((Int × (Int × (Option Nat))) × Unit) × Unit)) := (opt (nth dv0 c0 a0).2.2.2.1 (bd (g.num_Within a1 0 (-1)) (fun p0 => (br (bnot p0.1.1) (some (((0, (0, none)), ()), ())) (opt (nth dv0 c0 a0).2.2.2.1 none (fun p1 => (bd (rwA c5 p1) (fun p2 => (gd (ige a1) (gd (nlt (nN a1) (len p2)) (bd (rwA c5 p1) (fun p3 => (some ((((nth (0, (0, none)) p3 (nN a1)).1, ((nth (0, (0, none)) p3 (nN a1)).2.1, (nth (0, (0, none)) p3 (nN a1)).2.2)), ()), ()))))))))))))) (fun p4 => (bd (rwA c5 p4) (fun p5 => (bd (g.num_Within a1 0 (isub IntKind.i64 (zN (len p5)) 1)) (fun p6 => (br (bnot p6.1.1) (some (((0, (0, none)), ()), ())) (opt (nth dv0 c0 a0).2.2.2.1 none (fun p7 => (bd (rwA c5 p7) (fun p8 => (gd (ige a1) (gd (nlt (nN a1) (len p8)) (bd (rwA c5 p7) (fun p9 => (some ((((nth (0, (0, none)) p9 (nN a1)).1, ((nth (0, (0, none)) p9 (nN a1)).2.1, (nth (0, (0, none)) p9 (nN a1)).2.2)), ()), ())))))))))))))))))
noncomputable def F55 : Plain sg55 := fun x c d => g.model_Model_of x.1 x.2.1 c.1 c.2.1 c.2.2.1 c.2.2.2.1 c.2.2.2.2.1 c.2.2.2.2.2.1 c.2.2.2.2.2.2.1 c.2.2.2.2.2.2.2.1 c.2.2.2.2.2.2.2.2.1 c.2.2.2.2.2.2.2.2.2.1 c.2.2.2.2.2.2.2.2.2.2.1
theorem ct55 : CtOk Tryz.prog 55 sg55 F55 := ct_of envok mixed fnok (hm := homes) (ctC_ok ct39 (ctN_ok)) 8 (fun x c d => by kernel_rfl)
noncomputable def sg16 : Sig := ⟨[(false, (.nptr 0)), (false, (.int .i64))], [(false, (.int .u64))], [(0, R0), (1, R1), (2, R2), (3, R3), (4, R4), (5, R5), (6, R6), (7, R7), (8, R8), (9, R9), (10, R10)], []⟩
noncomputable def g.model_Model_Portal (a0 : Nat) (a1 : Int) (c0 : T0) (c1 : T1) (c2 : T2) (c3 : T3) (c4 : T4) (c5 : T5) (c6 : T6) (c7 : T7) (c8 : T8) (c9 : T9) (c10 : T10) : (Option ((Int × Unit) × Unit)) := (bd (g.model_Model_of a0 a1 c0 c1 c2 c3 c4 c5 c6 c7 c8 c9 c10) (fun p0 => (some ((p0.1.1.2.1, ()), ()))))
noncomputable def F16 : Plain sg16 := fun x c d => g.model_Model_Portal x.1 x.2.1 c.1 c.2.1 c.2.2.1 c.2.2.2.1 c.2.2.2.2.1 c.2.2.2.2.2.1 c.2.2.2.2.2.2.1 c.2.2.2.2.2.2.2.1 c.2.2.2.2.2.2.2.2.1 c.2.2.2.2.2.2.2.2.2.1 c.2.2.2.2.2.2.2.2.2.2.1
theorem ct16 : CtOk Tryz.prog 16 sg16 F16 := ct_of envok mixed fnok (hm := homes) (ctC_ok ct55 (ctN_ok)) 8 (fun x c d => by kernel_rfl)
noncomputable def sg17 : Sig := ⟨[(false, (.nptr 0)), (false, (.int .i64))], [(false, (.int .i64))], [(0, R0), (1, R1), (2, R2), (3, R3), (4, R4), (5, R5), (6, R6), (7, R7), (8, R8), (9, R9), (10, R10)], []⟩
noncomputable def g.model_Model_Used (a0 : Nat) (a1 : Int) (c0 : T0) (c1 : T1) (c2 : T2) (c3 : T3) (c4 : T4) (c5 : T5) (c6 : T6) (c7 : T7) (c8 : T8) (c9 : T9) (c10 : T10) : (Option ((Int × Unit) × Unit)) := (bd (g.model_Model_of a0 a1 c0 c1 c2 c3 c4 c5 c6 c7 c8 c9 c10) (fun p0 => (some ((p0.1.1.1, ()), ()))))
noncomputable def F17 : Plain sg17 := fun x c d => g.model_Model_Used x.1 x.2.1 c.1 c.2.1 c.2.2.1 c.2.2.2.1 c.2.2.2.2.1 c.2.2.2.2.2.1 c.2.2.2.2.2.2.1 c.2.2.2.2.2.2.2.1 c.2.2.2.2.2.2.2.2.1 c.2.2.2.2.2.2.2.2.2.1 c.2.2.2.2.2.2.2.2.2.2.1
theorem ct17 : CtOk Tryz.prog 17 sg17 F17 := ct_of envok mixed fnok (hm := homes) (ctC_ok ct55 (ctN_ok)) 8 (fun x c d => by kernel_rfl)
noncomputable def sg20 : Sig := ⟨[(false, (.slc (.slc (.pair (.int .u8) (.pair (.int .i64) (.int .i64))))))], [(false, (.slc (.slc (.pair (.int .u8) (.pair (.int .i64) (.int .i64))))))], [], []⟩
noncomputable def g.penfoldref10_Fit_l0 (a0 : (List (List U2))) (v0 : U16) (v1 : U16 → (Option (((List (List U2)) × Unit) × Unit))) (k : (((Int × Unit) × (((List U2) × Unit) × (Unit × (Unit × Unit)))) → (Option (((List (List U2)) × Unit) × Unit)))) (s : ((Int × Unit) × (((List U2) × Unit) × (Unit × (Unit × Unit))))) : (Option (((List (List U2)) × Unit) × Unit)) := (jn (fun (k0 : (Unit × U0) → _) => (gd (ige v0.1.1) (gd (nlt (nN v0.1.1) (len a0)) (br (ilss s.1.1 (zN (len (nth [] a0 (nN v0.1.1))))) (br (ilss s.1.1 8) (k0 ((), ((), ((), ((), ()))))) (gd (nle (nadd (len v0.2.1.1) (len [s.2.1.1])) 16777216) (v1 (((iadd IntKind.i64 v0.1.1 1), ()), (((cat v0.2.1.1 [s.2.1.1]), ()), ((), ((), ()))))))) (gd (nle (nadd (len v0.2.1.1) (len [s.2.1.1])) 16777216) (v1 (((iadd IntKind.i64 v0.1.1 1), ()), (((cat v0.2.1.1 [s.2.1.1]), ()), ((), ((), ())))))))))) (fun (s1 : (Unit × U0)) => (gd (ige v0.1.1) (gd (nlt (nN v0.1.1) (len a0)) (gd (ige s.1.1) (gd (nlt (nN s.1.1) (len (nth [] a0 (nN v0.1.1)))) (br (ieql (irem (nth (0, (0, 0)) (nth [] a0 (nN v0.1.1)) (nN s.1.1)).1 5) 0) (gd (ige v0.1.1) (gd (nlt (nN v0.1.1) (len a0)) (gd (ige s.1.1) (gd (nlt (nN s.1.1) (len (nth [] a0 (nN v0.1.1)))) (gd (nle (nadd (len s.2.1.1) (len [((irem (nth (0, (0, 0)) (nth [] a0 (nN v0.1.1)) (nN s.1.1)).1 5), ((bits BinOp.and IntKind.i64 (nth (0, (0, 0)) (nth [] a0 (nN v0.1.1)) (nN s.1.1)).2.1 63), 0))])) 16777216) (k (((iadd IntKind.i64 s.1.1 1), ()), (((cat s.2.1.1 [((irem (nth (0, (0, 0)) (nth [] a0 (nN v0.1.1)) (nN s.1.1)).1 5), ((bits BinOp.and IntKind.i64 (nth (0, (0, 0)) (nth [] a0 (nN v0.1.1)) (nN s.1.1)).2.1 63), 0))]), ()), ((), ((), ())))))))))) (br (ieql (irem (nth (0, (0, 0)) (nth [] a0 (nN v0.1.1)) (nN s.1.1)).1 5) 1) (gd (ige v0.1.1) (gd (nlt (nN v0.1.1) (len a0)) (gd (ige s.1.1) (gd (nlt (nN s.1.1) (len (nth [] a0 (nN v0.1.1)))) (gd (nle (nadd (len s.2.1.1) (len [((irem (nth (0, (0, 0)) (nth [] a0 (nN v0.1.1)) (nN s.1.1)).1 5), ((irem (bits BinOp.and IntKind.i64 (nth (0, (0, 0)) (nth [] a0 (nN v0.1.1)) (nN s.1.1)).2.1 7) 6), 0))])) 16777216) (k (((iadd IntKind.i64 s.1.1 1), ()), (((cat s.2.1.1 [((irem (nth (0, (0, 0)) (nth [] a0 (nN v0.1.1)) (nN s.1.1)).1 5), ((irem (bits BinOp.and IntKind.i64 (nth (0, (0, 0)) (nth [] a0 (nN v0.1.1)) (nN s.1.1)).2.1 7) 6), 0))]), ()), ((), ((), ())))))))))) (br (ieql (irem (nth (0, (0, 0)) (nth [] a0 (nN v0.1.1)) (nN s.1.1)).1 5) 2) (gd (ige v0.1.1) (gd (nlt (nN v0.1.1) (len a0)) (gd (ige s.1.1) (gd (nlt (nN s.1.1) (len (nth [] a0 (nN v0.1.1)))) (gd (ige v0.1.1) (gd (nlt (nN v0.1.1) (len a0)) (gd (ige s.1.1) (gd (nlt (nN s.1.1) (len (nth [] a0 (nN v0.1.1)))) (gd (nle (nadd (len s.2.1.1) (len [((irem (nth (0, (0, 0)) (nth [] a0 (nN v0.1.1)) (nN s.1.1)).1 5), ((irem (bits BinOp.and IntKind.i64 (nth (0, (0, 0)) (nth [] a0 (nN v0.1.1)) (nN s.1.1)).2.1 7) 6), (irem (bits BinOp.and IntKind.i64 (nth (0, (0, 0)) (nth [] a0 (nN v0.1.1)) (nN s.1.1)).2.2 7) 6)))])) 16777216) (k (((iadd IntKind.i64 s.1.1 1), ()), (((cat s.2.1.1 [((irem (nth (0, (0, 0)) (nth [] a0 (nN v0.1.1)) (nN s.1.1)).1 5), ((irem (bits BinOp.and IntKind.i64 (nth (0, (0, 0)) (nth [] a0 (nN v0.1.1)) (nN s.1.1)).2.1 7) 6), (irem (bits BinOp.and IntKind.i64 (nth (0, (0, 0)) (nth [] a0 (nN v0.1.1)) (nN s.1.1)).2.2 7) 6)))]), ()), ((), ((), ())))))))))))))) (br (ieql (irem (nth (0, (0, 0)) (nth [] a0 (nN v0.1.1)) (nN s.1.1)).1 5) 3) (gd (ige v0.1.1) (gd (nlt (nN v0.1.1) (len a0)) (gd (ige s.1.1) (gd (nlt (nN s.1.1) (len (nth [] a0 (nN v0.1.1)))) (gd (ige v0.1.1) (gd (nlt (nN v0.1.1) (len a0)) (gd (ige s.1.1) (gd (nlt (nN s.1.1) (len (nth [] a0 (nN v0.1.1)))) (gd (nle (nadd (len s.2.1.1) (len [((irem (nth (0, (0, 0)) (nth [] a0 (nN v0.1.1)) (nN s.1.1)).1 5), ((irem (bits BinOp.and IntKind.i64 (nth (0, (0, 0)) (nth [] a0 (nN v0.1.1)) (nN s.1.1)).2.1 7) 6), (bits BinOp.and IntKind.i64 (nth (0, (0, 0)) (nth [] a0 (nN v0.1.1)) (nN s.1.1)).2.2 7)))])) 16777216) (k (((iadd IntKind.i64 s.1.1 1), ()), (((cat s.2.1.1 [((irem (nth (0, (0, 0)) (nth [] a0 (nN v0.1.1)) (nN s.1.1)).1 5), ((irem (bits BinOp.and IntKind.i64 (nth (0, (0, 0)) (nth [] a0 (nN v0.1.1)) (nN s.1.1)).2.1 7) 6), (bits BinOp.and IntKind.i64 (nth (0, (0, 0)) (nth [] a0 (nN v0.1.1)) (nN s.1.1)).2.2 7)))]), ()), ((), ((), ())))))))))))))) (gd (nle (nadd (len s.2.1.1) (len [((irem (nth (0, (0, 0)) (nth [] a0 (nN v0.1.1)) (nN s.1.1)).1 5), (0, 0))])) 16777216) (k (((iadd IntKind.i64 s.1.1 1), ()), (((cat s.2.1.1 [((irem (nth (0, (0, 0)) (nth [] a0 (nN v0.1.1)) (nN s.1.1)).1 5), (0, 0))]), ()), ((), ((), ()))))))))))))))))
noncomputable def g.penfoldref10_Fit_l1 (a0 : (List (List U2))) (k : (U16 → (Option (((List (List U2)) × Unit) × Unit)))) (s : U16) : (Option (((List (List U2)) × Unit) × Unit)) := (jn (fun (k0 : (Unit × U0) → _) => (br (ilss s.1.1 (zN (len a0))) (br (ilss s.1.1 8) (k0 ((), ((), ((), ((), ()))))) (some ((s.2.1.1, ()), ()))) (some ((s.2.1.1, ()), ())))) (fun (s1 : (Unit × U0)) => (loop (g.penfoldref10_Fit_l0 a0 s k) ((0, ()), (([], ()), ((), ((), ())))))))
noncomputable def g.penfoldref10_Fit (a0 : (List (List U2))) : (Option (((List (List U2)) × Unit) × Unit)) := (loop (g.penfoldref10_Fit_l1 a0) ((0, ()), (([], ()), ((), ((), ())))))
noncomputable def F20 : Plain sg20 := fun x c d => g.penfoldref10_Fit x.1
theorem ct20 : CtOk Tryz.prog 20 sg20 F20 := ct_of envok mixed fnok (hm := homes) (ctN_ok) 8 (fun x c d => by kernel_rfl)
noncomputable def sg21 : Sig := ⟨[(false, (.nptr 0)), (false, (.int .i64))], [(false, (.slc (.pair (.int .i64) .bool)))], [(0, R0), (1, R1), (2, R2), (3, R3), (4, R4), (5, R5), (6, R6), (7, R7), (8, R8), (9, R9), (10, R10)], []⟩
noncomputable def g.model_Model_Entries (a0 : Nat) (a1 : Int) (c0 : T0) (c1 : T1) (c2 : T2) (c3 : T3) (c4 : T4) (c5 : T5) (c6 : T6) (c7 : T7) (c8 : T8) (c9 : T9) (c10 : T10) : (Option ((U19 × Unit) × Unit)) := (opt (nth dv0 c0 a0).2.2.2.2.1 (bd (g.num_Within a1 0 (-1)) (fun p0 => (br (bnot p0.1.1) (some (([], ()), ())) (opt (nth dv0 c0 a0).2.2.2.2.1 none (fun p1 => (bd (rwA c6 p1) (fun p2 => (gd (ige a1) (gd (nlt (nN a1) (len p2)) (bd (rwA c6 p1) (fun p3 => (bd (g.slices_Clone_ (nth ([0, 0, 0, 0], []) p3 (nN a1)).2) (fun p4 => (some ((p4.1.1, ()), ()))))))))))))))) (fun p5 => (bd (rwA c6 p5) (fun p6 => (bd (g.num_Within a1 0 (isub IntKind.i64 (zN (len p6)) 1)) (fun p7 => (br (bnot p7.1.1) (some (([], ()), ())) (opt (nth dv0 c0 a0).2.2.2.2.1 none (fun p8 => (bd (rwA c6 p8) (fun p9 => (gd (ige a1) (gd (nlt (nN a1) (len p9)) (bd (rwA c6 p8) (fun p10 => (bd (g.slices_Clone_ (nth ([0, 0, 0, 0], []) p10 (nN a1)).2) (fun p11 => (some ((p11.1.1, ()), ())))))))))))))))))))
noncomputable def F21 : Plain sg21 := fun x c d => g.model_Model_Entries x.1 x.2.1 c.1 c.2.1 c.2.2.1 c.2.2.2.1 c.2.2.2.2.1 c.2.2.2.2.2.1 c.2.2.2.2.2.2.1 c.2.2.2.2.2.2.2.1 c.2.2.2.2.2.2.2.2.1 c.2.2.2.2.2.2.2.2.2.1 c.2.2.2.2.2.2.2.2.2.2.1
theorem ct21 : CtOk Tryz.prog 21 sg21 F21 := ct_of envok mixed fnok (hm := homes) (ctC_ok ct39 (ctC_ok ct56 (ctN_ok))) 8 (fun x c d => by kernel_rfl)
noncomputable def sg28 : Sig := ⟨[(false, (.nptr 0)), (false, (.int .i64))], [(false, (.slc (.int .u64)))], [(0, R0), (1, R1), (2, R2), (3, R3), (4, R4), (5, R5), (6, R6), (7, R7), (8, R8), (9, R9), (10, R10)], []⟩
noncomputable def g.model_Model_Regs (a0 : Nat) (a1 : Int) (c0 : T0) (c1 : T1) (c2 : T2) (c3 : T3) (c4 : T4) (c5 : T5) (c6 : T6) (c7 : T7) (c8 : T8) (c9 : T9) (c10 : T10) : (Option (U13 × Unit)) := (opt (nth dv0 c0 a0).2.2.2.2.1 (bd (g.num_Within a1 0 (-1)) (fun p0 => (br (bnot p0.1.1) (some (([], ()), ())) (opt (nth dv0 c0 a0).2.2.2.2.1 none (fun p1 => (bd (rwA c6 p1) (fun p2 => (gd (ige a1) (gd (nlt (nN a1) (len p2)) (bd (rwA c6 p1) (fun p3 => (gd (nle (nadd 0 (len (fitL 0 4 (nth ([0, 0, 0, 0], []) p3 (nN a1)).1))) 16777216) (some (((cat [] (fitL 0 4 (nth ([0, 0, 0, 0], []) p3 (nN a1)).1)), ()), ())))))))))))))) (fun p4 => (bd (rwA c6 p4) (fun p5 => (bd (g.num_Within a1 0 (isub IntKind.i64 (zN (len p5)) 1)) (fun p6 => (br (bnot p6.1.1) (some (([], ()), ())) (opt (nth dv0 c0 a0).2.2.2.2.1 none (fun p7 => (bd (rwA c6 p7) (fun p8 => (gd (ige a1) (gd (nlt (nN a1) (len p8)) (bd (rwA c6 p7) (fun p9 => (gd (nle (nadd 0 (len (fitL 0 4 (nth ([0, 0, 0, 0], []) p9 (nN a1)).1))) 16777216) (some (((cat [] (fitL 0 4 (nth ([0, 0, 0, 0], []) p9 (nN a1)).1)), ()), ()))))))))))))))))))
noncomputable def F28 : Plain sg28 := fun x c d => g.model_Model_Regs x.1 x.2.1 c.1 c.2.1 c.2.2.1 c.2.2.2.1 c.2.2.2.2.1 c.2.2.2.2.2.1 c.2.2.2.2.2.2.1 c.2.2.2.2.2.2.2.1 c.2.2.2.2.2.2.2.2.1 c.2.2.2.2.2.2.2.2.2.1 c.2.2.2.2.2.2.2.2.2.2.1
theorem ct28 : CtOk Tryz.prog 28 sg28 F28 := ct_of envok mixed fnok (hm := homes) (ctC_ok ct39 (ctN_ok)) 8 (fun x c d => by kernel_rfl)
noncomputable def sg27 : Sig := ⟨[(false, (.slc (.int .u64))), (false, (.slc (.int .u64)))], [(false, .bool)], [], []⟩
noncomputable def g.penfoldref10_Words_l0 (a0 : (List Int)) (a1 : (List Int)) (k : (U6 → U10)) (s : U6) : U10 := (br (ilss s.1.1 (zN (len a0))) (gd (ige s.1.1) (gd (nlt (nN s.1.1) (len a0)) (gd (ige s.1.1) (gd (nlt (nN s.1.1) (len a1)) (br (bnot (ieql (nth 0 a0 (nN s.1.1)) (nth 0 a1 (nN s.1.1)))) (some ((false, ()), ())) (k (((iadd IntKind.i64 s.1.1 1), ()), ((), ((), ((), ())))))))))) (some ((true, ()), ())))
noncomputable def g.penfoldref10_Words (a0 : (List Int)) (a1 : (List Int)) : U10 := (br (bnot (ieql (zN (len a0)) (zN (len a1)))) (some ((false, ()), ())) (loop (g.penfoldref10_Words_l0 a0 a1) ((0, ()), ((), ((), ((), ()))))))
noncomputable def F27 : Plain sg27 := fun x c d => g.penfoldref10_Words x.1 x.2.1
theorem ct27 : CtOk Tryz.prog 27 sg27 F27 := ct_of envok mixed fnok (hm := homes) (ctN_ok) 8 (fun x c d => by kernel_rfl)
noncomputable def sg29 : Sig := ⟨[(false, (.slc (.pair (.int .i64) .bool))), (false, (.slc (.pair (.int .i64) .bool)))], [(false, .bool)], [], []⟩
noncomputable def g.penfoldref09_Same_l0 (a0 : U19) (a1 : U19) (k : (U6 → U10)) (s : U6) : U10 := (br (ilss s.1.1 (zN (len a0))) (gd (ige s.1.1) (gd (nlt (nN s.1.1) (len a0)) (gd (ige s.1.1) (gd (nlt (nN s.1.1) (len a1)) (br (bnot (band (ieql (nth (0, false) a0 (nN s.1.1)).1 (nth (0, false) a1 (nN s.1.1)).1) (band (beql (nth (0, false) a0 (nN s.1.1)).2 (nth (0, false) a1 (nN s.1.1)).2) true))) (some ((false, ()), ())) (k (((iadd IntKind.i64 s.1.1 1), ()), ((), ((), ((), ())))))))))) (some ((true, ()), ())))
noncomputable def g.penfoldref09_Same (a0 : U19) (a1 : U19) : U10 := (br (bnot (ieql (zN (len a0)) (zN (len a1)))) (some ((false, ()), ())) (loop (g.penfoldref09_Same_l0 a0 a1) ((0, ()), ((), ((), ((), ()))))))
noncomputable def F29 : Plain sg29 := fun x c d => g.penfoldref09_Same x.1 x.2.1
theorem ct29 : CtOk Tryz.prog 29 sg29 F29 := ct_of envok mixed fnok (hm := homes) (ctN_ok) 8 (fun x c d => by kernel_rfl)
end Go.Proofs.YtihiooaimdoapaaGreat
set_option linter.unusedVariables false
set_option linter.unusedSimpArgs false
namespace Go.Proofs.YtihiooaimdoapaaGreat
open Go.Bm Go.Pen
theorem num_Within_s (a b c : Int) : g.num_Within a b c = some ((within a b c, ()), ()) := by
 unfold g.num_Within within ileq
 by_cases h : b ≤ a <;> simp [h, br]
theorem num_Add_s {a b : Int} (h : -9223372036854775808 ≤ a + b ∧ a + b ≤ 9223372036854775807) : g.num_Add a b = some ((a + b, (0, ())), ()) := by
 unfold g.num_Add
 rw [iadd_s h]
 have : beql (ilss a (a + b)) (ilss 0 b) = true := by
  unfold beql ilss
  by_cases h1 : 0 < b
  ·rw [decide_eq_true h1, decide_eq_true (by omega : a < a + b)]; rfl
  ·rw [decide_eq_false h1, decide_eq_false (by omega : ¬ a < a + b)]; rfl
 rw [this]; rfl
theorem num_Up_s {n : Int} (h : 0 ≤ n ∧ n ≤ 9223372036854775800) : g.num_Up n = some ((up8 n, (0, ())), ()) := by
 unfold g.num_Up
 rw [br_lss_f (by omega), num_Add_s (by omega), bd_some, br_not, br_eql_t rfl]
 simp only
 rw [andNot7 (by omega)]
 rfl
theorem num_Words_s {n : Int} (h : 0 ≤ n ∧ n ≤ 9223372036854775800) : g.num_Words n = some (((n + 7) / 8, (0, ())), ()) := by
 unfold g.num_Words
 rw [num_Up_s h, bd_some]
 simp only
 rw [iquo_p (by unfold up8; omega)]
 have : up8 n / 8 = (n + 7) / 8 := by unfold up8; omega
 rw [this]
theorem plan_Right_s (p : Pln) : g.plan_Right p = some ((planRight p, ()), ()) := by
 unfold g.plan_Right planRight
 simp only [num_Within_s, bd_some]
 cases h1 : within p.1 1 8 with
 | false => rfl
 | true =>
 cases h2 : within p.2.1 1 4 with
 | false => rfl
 | true =>
 cases h3 : within p.2.2.1 0 2048 with
 | false => rfl
 | true =>
 cases h4 : within p.2.2.2 0 8192 with
 | false => rfl
 | true =>
 rw [wi_iff] at h3 h4
 simp only [br_true, Bool.true_and]
 have := or_rem8 (a := p.2.2.1) (b := p.2.2.2) (by omega) (by omega)
 unfold ieql
 simp only [this, Bool.decide_and]
theorem plan_Immortal_s {p : Pln} (h : planRight p = true) : g.plan_Immortal p = some (((p.1 * 64, p.2.2.1), (0, ())), ()) := by
 unfold g.plan_Immortal
 rw [show (p.1, p.2.1, p.2.2.1, p.2.2.2) = p from rfl, plan_Right_s, bd_some, h]
 rw [planRight_iff] at h
 rw [br_not, br_true, imul_s (by omega)]
theorem plan_Heap_s {p : Pln} (h : planRight p = true) : g.plan_Heap p = some (((p.1 * 64 + p.2.2.1, p.2.2.2), (0, ())), ()) := by
 unfold g.plan_Heap
 rw [show (p.1, p.2.1, p.2.2.1, p.2.2.2) = p from rfl, plan_Immortal_s h, bd_some]
 rw [planRight_iff] at h
 rw [br_not, br_eql_t rfl, iadd_s (by simp only; omega)]
theorem ctl_kind_s (s : Int) : g.ctl_kind s = some ((if s = 0 ∨ s = 1 then 0 else if s = 2 then 1 else if s = 3 then 2 else -1, ()), ()) := by
 unfold g.ctl_kind
 rw [jn_eq]
 by_cases h0 : s = 0
 ·subst h0; rw [br_eql_t rfl]; rfl
 rw [br_eql_f h0]
 by_cases h1 : s = 1
 ·subst h1; rfl
 have e : ieql s 1 = false := decide_eq_false h1
 simp only [e, br_false, h0, h1, or_self, if_false]
 by_cases h2 : s = 2
 ·subst h2; rfl
 rw [br_eql_f h2, if_neg h2]
 by_cases h3 : s = 3
 ·subst h3; rfl
 rw [br_eql_f h3, if_neg h3]
theorem ctl_Right_s (c : Ctl) : g.ctl_Right c = some ((ctlRight c, ()), ()) := by
 unfold g.ctl_Right ctlRight
 simp only [num_Within_s, ctl_kind_s, bd_some, br_not]
 cases h : within c.2.2.2 0 16777215 with
 | false => rfl
 | true =>
 simp only [br_true, Bool.true_and]
 by_cases h0 : c.1 = 0 ∨ c.1 = 1
 ·simp only [h0, if_true]
  rw [br_eql_t rfl]
  by_cases h1 : c.2.1 = 0
  ·rw [br_eql_t h1]; simp [h1, ieql]
  ·rw [br_eql_f h1]; simp [h1]
 simp only [h0, if_false]
 by_cases h2 : c.1 = 2
 ·simp only [h2, if_true]
  rw [br_eql_f (by decide), br_eql_t rfl]
  cases h3 : within c.2.1 1 7 <;> rfl
 simp only [h2, if_false]
 by_cases h3 : c.1 = 3
 ·simp only [h3, if_true]
  rw [br_eql_f (by decide), br_eql_f (by decide), br_eql_t rfl]
  by_cases h1 : c.2.1 = 0
  ·rw [br_eql_t h1]; simp [h1]
  ·rw [br_eql_f h1]; simp [h1]
 simp only [h3, if_false]
 rfl
theorem ctl_Enter_s (c : Ctl) (fr : Int) : g.ctl_Enter c fr = some (((ctlEnter c fr).1, ((ctlEnter c fr).2, ())), ()) := by
 unfold g.ctl_Enter ctlEnter
 simp only [jn_eq, ctl_Right_s, num_Within_s, bd_some, br_not]
 cases hr : ctlRight c with
 | false => rfl
 | true =>
 cases hw : within fr 0 7 with
 | false => rfl
 | true =>
 simp only [br_true, bnot, Bool.not_true, br_false]
 by_cases h0 : c.1 = 0
 ·rw [br_eql_t h0]; simp [h0]; rfl
 rw [br_eql_f h0]
 by_cases h3 : c.1 = 3
 ·rw [br_eql_t h3]; simp [h3]; rfl
 rw [br_eql_f h3]
 have hc : 0 ≤ c.2.1 ∧ c.2.1 ≤ 7 := by
  simp only [ctlRight, Bool.and_eq_true, wi_iff, h0, h3, false_or, if_false] at hr
  obtain ⟨_, hr⟩ := hr
  split at hr
  ·simp at hr; omega
  ·split at hr
   ·simp [wi_iff] at hr; omega
   ·cases hr
 by_cases h1 : c.1 = 1
 ·rw [br_eql_t h1]; simp [h1, iadd_s (show -9223372036854775808 ≤ c.2.1 + 1 ∧ c.2.1 + 1 ≤ 9223372036854775807 by omega)]
 rw [br_eql_f h1]
 by_cases hp : c.2.2.1 = fr
 ·rw [br_eql_t hp]
  by_cases h7 : c.2.1 = 7
  ·rw [br_eql_t h7]; simp [h0, h1, h3, hp, h7]; rfl
  ·rw [br_eql_f h7]; simp [h0, h1, h3, hp, h7, iadd_s (show -9223372036854775808 ≤ c.2.1 + 1 ∧ c.2.1 + 1 ≤ 9223372036854775807 by omega)]
 ·rw [br_eql_f hp]; simp [h0, h1, h3, hp]; rfl
theorem ctl_of_s (c : Ctl) (s : Int) : g.ctl_of c s = some ((ctlOf c s, ()), ()) := by
 unfold g.ctl_of ctlOf
 simp only [ctl_Right_s, bd_some, br_not]
 cases hr : ctlRight c with
 | false => rfl
 | true =>
 simp only [br_true]
 by_cases h : c.1 = s
 ·rw [br_eql_t h]; simp [h]
 ·rw [br_eql_f h]; simp [h]
theorem ctlOf_live {c : Ctl} (h : ctlOf c 2 = 0) : ctlRight c = true ∧ c.1 = 2 ∧ 1 ≤ c.2.1 ∧ c.2.1 ≤ 7 ∧ -1 ≤ c.2.2.1 ∧ c.2.2.1 ≤ 7 ∧ 0 ≤ c.2.2.2 ∧ c.2.2.2 ≤ 16777215 := by
 unfold ctlOf at h
 split at h
 ·omega
 ·split at h
  ·omega
  ·rename_i h1 h2
   have h1 : ctlRight c = true := by simpa using h1
   have h2 : c.1 = 2 := by simpa using h2
   have h3 := h1
   simp [ctlRight, h2, wi_iff] at h3
   exact ⟨h1, h2, by omega⟩
theorem ctlOf_drain {c : Ctl} (h : ctlOf c 3 = 0) : ctlRight c = true ∧ c.1 = 3 ∧ c.2.1 = 0 ∧ -1 ≤ c.2.2.1 ∧ c.2.2.1 ≤ 7 ∧ 0 ≤ c.2.2.2 ∧ c.2.2.2 ≤ 16777215 := by
 unfold ctlOf at h
 split at h
 ·omega
 ·split at h
  ·omega
  ·rename_i h1 h2
   have h1 : ctlRight c = true := by simpa using h1
   have h2 : c.1 = 3 := by simpa using h2
   have h3 := h1
   simp [ctlRight, h2, wi_iff] at h3
   exact ⟨h1, h2, by omega⟩
theorem ctl_Leave_s (c : Ctl) : g.ctl_Leave c = some (((ctlLeave c).1, ((ctlLeave c).2, ())), ()) := by
 unfold g.ctl_Leave ctlLeave
 simp only [ctl_of_s, bd_some, br_not]
 by_cases h : ctlOf c 2 = 0
 ·obtain ⟨h1, h2, h3, h4, h5⟩ := ctlOf_live h
  rw [br_eql_t h, isub_s (by omega)]
  by_cases h6 : c.2.1 = 1
  ·rw [br_eql_t (by omega)]; simp [h, h6]
  ·rw [br_eql_f (by omega)]; simp [h, h6]
 ·rw [br_eql_f h]; simp [h]; rfl
theorem ctl_Open_s (c : Ctl) : g.ctl_Open c = some (((ctlOpen c).1, ((ctlOpen c).2, ())), ()) := by
 unfold g.ctl_Open ctlOpen
 simp only [ctl_of_s, bd_some, br_not]
 by_cases h : ctlOf c 3 = 0
 ·obtain ⟨h1, h2, h3, h4⟩ := ctlOf_drain h
  rw [br_eql_t h, iadd_s (by omega), and_i64 24 (by omega) (by decide)]
  simp [h, nextEpoch]
 ·rw [br_eql_f h]; simp [h]; rfl
theorem chain_Area_s {l : List Enty} (hl : l.length ≤ 1000) : g.chain_Area l = some ((area l, ()), ()) := by
 unfold g.chain_Area area
 by_cases h : l.length = 0
 ·have : l = [] := List.eq_nil_of_length_eq_zero h
  subst this; rfl
 ·simp (disch := omega) only [↓gd_ige, ↓gd_nlt, ↓gd_nle, ↓gd_neq, ↓gd_ieq, ↓gd_ine, Int.toNat_natCast, br_lss_t, br_lss_f, br_leq_t, br_leq_f, br_eql_t, br_eql_f, br_not, br_true, br_false, bd_some, opt_some, opt_none, ↓jn_eq, iadd_s, isub_s, imul_s, wrp_s, wrp_u, irem_p, iquo_p, zN_c, len_d, nN_c, nN_d, nadd, nsub]
  rw [nth_lt (by omega), List.getLast?_eq_getElem?, List.getElem?_eq_getElem (by omega)]
  simp only
  congr 5
  omega
theorem entAt_lt : ∀ {l : List Enty} {s : Int} {i : Nat}, entAt l s = some i → i < l.length
 | e :: l, s, i, h => by
  unfold entAt at h
  split at h
  ·cases h; simp
  ·cases hh : entAt l s with
   | none => rw [hh] at h; cases h
   | some j => rw [hh] at h; cases h; have := entAt_lt hh; simp; omega
theorem entAt_drop (l : List Enty) (s : Int) (k : Nat) (h : k < l.length) : entAt (l.drop k) s = if l[k] = (s, true) then some 0 else (entAt (l.drop (k + 1)) s).map (· + 1) := by
 rw [List.drop_eq_getElem_cons h]; rfl
theorem chain_at_s {l : List Enty} (s : Int) (hl : l.length ≤ 1000) : g.chain_at l s = some (((match entAt l s with | some i => (i : Int) | none => -1), ()), ()) := by
 unfold g.chain_at
 refine (loop_up (fun k => ((((k : Nat) : Int), ()), ((), ((), ((), ()))))) (fun k => some (((match entAt (l.drop k) s with | some i => ((k + i : Nat) : Int) | none => -1), ()), ())) l.length (by unfold big; omega) (fun K => ?_) (fun k hk => ?_)).trans ?_
 ·simp (disch := omega) only [g.chain_at_l0, ↓gd_ige, ↓gd_nlt, ↓gd_nle, ↓gd_neq, ↓gd_ieq, ↓gd_ine, Int.toNat_natCast, br_lss_t, br_lss_f, br_leq_t, br_leq_f, br_eql_t, br_eql_f, br_not, br_true, br_false, bd_some, opt_some, opt_none, ↓jn_eq, iadd_s, isub_s, imul_s, wrp_s, wrp_u, irem_p, iquo_p, zN_c, len_d, nN_c, nN_d, nadd, nsub]
  rw [List.drop_of_length_le (by omega)]
  rfl
 ·rw [entAt_drop l s k hk]
  by_cases he : l[k] = (s, true)
  ·refine .inl (fun K => ?_)
   simp (disch := omega) only [g.chain_at_l0, ↓gd_ige, ↓gd_nlt, ↓gd_nle, ↓gd_neq, ↓gd_ieq, ↓gd_ine, Int.toNat_natCast, br_lss_t, br_lss_f, br_leq_t, br_leq_f, br_eql_t, br_eql_f, br_not, br_true, br_false, bd_some, opt_some, opt_none, ↓jn_eq, iadd_s, isub_s, imul_s, wrp_s, wrp_u, irem_p, iquo_p, zN_c, len_d, nN_c, nN_d, nadd, nsub]
   rw [nth_lt hk, he]
   simp [ieql, beql, band, br]
  ·refine .inr ⟨?_, fun K => ?_⟩
   ·rw [if_neg he]
    cases entAt (l.drop (k + 1)) s with
    | none => rfl
    | some i => simp only [Option.map_some]; congr 4; omega
   ·simp (disch := omega) only [g.chain_at_l0, ↓gd_ige, ↓gd_nlt, ↓gd_nle, ↓gd_neq, ↓gd_ieq, ↓gd_ine, Int.toNat_natCast, br_lss_t, br_lss_f, br_leq_t, br_leq_f, br_eql_t, br_eql_f, br_not, br_true, br_false, bd_some, opt_some, opt_none, ↓jn_eq, iadd_s, isub_s, imul_s, wrp_s, wrp_u, irem_p, iquo_p, zN_c, len_d, nN_c, nN_d, nadd, nsub]
    rw [nth_lt hk]
    have : band (ieql s (l[k]).1) (band (beql true (l[k]).2) true) = false := by
     generalize l[k] = e at he
     obtain ⟨a, b⟩ := e
     simp only [ieql, beql, band]
     by_cases h1 : s = a
     ·subst h1
      cases b with
      | true => exact absurd rfl he
      | false => simp
     ·simp [h1]
    simp only [this, br_false]
    congr 5
 ·simp
theorem chain_Reach_s {l : List Enty} (s : Int) (hl : l.length ≤ 1000) : g.chain_Reach l s = some ((reach l s, ()), ()) := by
 unfold g.chain_Reach reach
 by_cases h : s = 0
 ·rw [br_eql_t h]; simp [h]
 ·rw [br_eql_f h, chain_at_s s hl, bd_some]
  cases entAt l s with
  | none => simp [ileq, h]
  | some i => simp [ileq, h]
theorem chain_Parent_s {l : List Enty} (s : Int) (hl : l.length ≤ 1000) : g.chain_Parent l s = some ((parent l s, ()), ()) := by
 unfold g.chain_Parent parent
 rw [chain_at_s s hl]
 cases h : entAt l s with
 | none => rfl
 | some i =>
  have := entAt_lt h
  simp (disch := omega) only [↓gd_ige, ↓gd_nlt, ↓gd_nle, ↓gd_neq, ↓gd_ieq, ↓gd_ine, Int.toNat_natCast, br_lss_t, br_lss_f, br_leq_t, br_leq_f, br_eql_t, br_eql_f, br_not, br_true, br_false, bd_some, opt_some, opt_none, ↓jn_eq, iadd_s, isub_s, imul_s, wrp_s, wrp_u, irem_p, iquo_p, zN_c, len_d, nN_c, nN_d, nadd, nsub]
  have e : tk (i - 0) (dr 0 l) = l.take i := by simp [tk, dr]
  rw [e, chain_Area_s (by simp; omega)]
  simp (disch := omega) only [↓gd_ige, ↓gd_nlt, ↓gd_nle, ↓gd_neq, ↓gd_ieq, ↓gd_ine, Int.toNat_natCast, br_lss_t, br_lss_f, br_leq_t, br_leq_f, br_eql_t, br_eql_f, br_not, br_true, br_false, bd_some, opt_some, opt_none, ↓jn_eq, iadd_s, isub_s, imul_s, wrp_s, wrp_u, irem_p, iquo_p, zN_c, len_d, nN_c, nN_d, nadd, nsub]
theorem chain_Above_s {l : List Enty} (s b : Int) (hl : l.length ≤ 1000) : g.chain_Above l s b = some ((above l s b, ()), ()) := by
 unfold g.chain_Above above
 by_cases h : s = 0
 ·rw [br_eql_t h]; simp [h]
 ·rw [br_eql_f h]
  have run : ∀ (m k : Nat) (x : Int), k + m = 9 → Run (g.chain_Above_l0 l s) ((x, ((k : Int), ())), ((), ((), ((), ())))) (some ((aboveN l s m x, ()), ())) m := by
   intro m
   induction m with
   | zero =>
    intro k x hk
    refine .stop 0 (fun K => ?_)
    simp (disch := omega) only [g.chain_Above_l0, ↓gd_ige, ↓gd_nlt, ↓gd_nle, ↓gd_neq, ↓gd_ieq, ↓gd_ine, Int.toNat_natCast, br_lss_t, br_lss_f, br_leq_t, br_leq_f, br_eql_t, br_eql_f, br_not, br_true, br_false, bd_some, opt_some, opt_none, ↓jn_eq, iadd_s, isub_s, imul_s, wrp_s, wrp_u, irem_p, iquo_p, zN_c, len_d, nN_c, nN_d, nadd, nsub]
    rfl
   | succ m ih =>
    intro k x hk
    unfold aboveN
    by_cases hx : x = s
    ·refine .stop _ (fun K => ?_)
     simp (disch := omega) only [g.chain_Above_l0, ↓gd_ige, ↓gd_nlt, ↓gd_nle, ↓gd_neq, ↓gd_ieq, ↓gd_ine, Int.toNat_natCast, br_lss_t, br_lss_f, br_leq_t, br_leq_f, br_eql_t, br_eql_f, br_not, br_true, br_false, bd_some, opt_some, opt_none, ↓jn_eq, iadd_s, isub_s, imul_s, wrp_s, wrp_u, irem_p, iquo_p, zN_c, len_d, nN_c, nN_d, nadd, nsub]
     rw [if_pos hx]
    ·rw [if_neg hx]
     refine .step (ih (k + 1) (parent l x) (by omega)) (fun K => ?_)
     simp (disch := omega) only [g.chain_Above_l0, ↓gd_ige, ↓gd_nlt, ↓gd_nle, ↓gd_neq, ↓gd_ieq, ↓gd_ine, Int.toNat_natCast, br_lss_t, br_lss_f, br_leq_t, br_leq_f, br_eql_t, br_eql_f, br_not, br_true, br_false, bd_some, opt_some, opt_none, ↓jn_eq, iadd_s, isub_s, imul_s, wrp_s, wrp_u, irem_p, iquo_p, zN_c, len_d, nN_c, nN_d, nadd, nsub, chain_Parent_s x hl]
     rfl
  refine ((run 9 0 b rfl).loop (by unfold big; omega)).trans ?_
  simp [h]
end Go.Proofs.YtihiooaimdoapaaGreat
set_option linter.unusedVariables false
set_option linter.unusedSimpArgs false
namespace Go.Proofs.YtihiooaimdoapaaGreat
open Go.Bm Go.Pen
theorem head_Words_s (a b : Int) : g.head_Words a b = some (((headWords a b).1, ((headWords a b).2, ())), ()) := by
 unfold g.head_Words headWords
 simp only [jn_eq, num_Within_s, bd_some, br_not]
 cases h1 : within a 0 6 with
 | false => rfl
 | true =>
 cases h2 : within b 0 512 with
 | false => rfl
 | true =>
 rw [wi_iff] at h1 h2
 simp (disch := omega) only [↓gd_ige, ↓gd_nlt, ↓gd_nle, ↓gd_neq, ↓gd_ieq, ↓gd_ine, Int.toNat_natCast, br_lss_t, br_lss_f, br_leq_t, br_leq_f, br_eql_t, br_eql_f, br_not, br_true, br_false, bd_some, opt_some, opt_none, ↓jn_eq, iadd_s, isub_s, imul_s, wrp_s, wrp_u, irem_p, iquo_p, zN_c, len_d, nN_c, nN_d, nadd, nsub, num_Words_s]
 simp
theorem ref_Pack_s (r : Hnd) : g.ref_Pack r = some (((hndPack r).1, ((hndPack r).2, ())), ()) := by
 unfold g.ref_Pack hndPack
 simp only [jn_eq, num_Within_s, bd_some, br_not]
 cases h1 : within r.1 0 7 with
 | false => simp [hndRight, h1, br]
 | true =>
 cases h2 : within r.2.1 0 16777215 with
 | false => simp [hndRight, h1, h2, br]
 | true =>
 cases h3 : within r.2.2 8 65528 with
 | false => simp [hndRight, h1, h2, h3, br]
 | true =>
 have k1 := wi_iff.1 h1
 have k2 := wi_iff.1 h2
 have k3 := wi_iff.1 h3
 simp only [br_true]
 rw [irem_p (by omega)]
 by_cases h4 : r.2.2 % 8 = 0
 ·rw [br_eql_t h4, if_pos (by simp [hndRight, h1, h2, h3, h4])]
  rw [iquo_p (by omega), wrp_u (by omega), wrp_u (by omega), wrp_u (by omega), ishl_u (b := 24) 24 rfl (by omega) (by omega), ishl_u (b := 32) 32 rfl (by omega) (by omega)]
  rw [or_u64 (a := r.2.2 / 8) (b := r.1 * 2 ^ 24) 24 r.1 (by omega) (by omega) (by omega) (by omega) (by omega), or_u64 (a := r.2.2 / 8 + r.1 * 2 ^ 24) (b := r.2.1 * 2 ^ 32) 32 r.2.1 (by omega) (by omega) (by omega) (by omega) (by omega)]
  simp [hndNum]
 ·rw [br_eql_f h4, if_neg (by simp [hndRight, h4])]
theorem ref_Unpack_s {h : Int} (h0 : 0 ≤ h ∧ h ≤ 18446744073709551615) : g.ref_Unpack h = some (((hndUnpack h).1, ((hndUnpack h).2, ())), ()) := by
 unfold g.ref_Unpack
 have e1 : wrp IntKind.i64 (bits BinOp.and IntKind.u64 (ishr IntKind.u64 h 24) 255) = (hndOf h).1 := by
  rw [ishr_u (b := 24) 24 rfl (by omega), and_u64 8 (by omega) (by decide) (by decide), wrp_s (by omega)]
  rfl
 have e2 : wrp IntKind.i64 (ishr IntKind.u64 h 32) = (hndOf h).2.1 := by
  rw [ishr_u (b := 32) 32 rfl (by omega), wrp_s (by omega)]; rfl
 have e3 : imul IntKind.i64 (wrp IntKind.i64 (bits BinOp.and IntKind.u64 h 16777215)) 8 = (hndOf h).2.2 := by
  rw [and_u64 24 (by omega) (by decide) (by decide), wrp_s (by omega), imul_s (by omega)]; rfl
 rw [e1, e2, e3]
 rw [show ((hndOf h).1, ((hndOf h).2.1, (hndOf h).2.2)) = hndOf h from rfl, ref_Pack_s]
 unfold hndPack hndUnpack
 by_cases hr : hndRight (hndOf h) = true
 ·have h3 := hndRight_iff.1 hr
  simp only [hr, if_true]
  have h2 := hndNum_of h0.1 h3.1.2
  simp only [bd_some, br_not, h2]
  rw [br_eql_t rfl, br_eql_t rfl]
  have : band (ieql (hndOf h).1 0) (band (ieql (hndOf h).2.1 0) (band (ieql (hndOf h).2.2 0) true)) = false := by
   have : ieql (hndOf h).2.2 0 = false := decide_eq_false (by omega)
   simp [band, this]
  rw [this]; rfl
 ·simp only [hr]
  rfl
theorem fin_Of_s {l : List (List FOp)} (t : Int) (hl : l.length ≤ 1000) : g.fin_Of l t = some (((if 0 ≤ t then l.getD t.toNat [] else []), ()), ()) := by
 unfold g.fin_Of
 simp (disch := omega) only [↓gd_ige, ↓gd_nlt, ↓gd_nle, ↓gd_neq, ↓gd_ieq, ↓gd_ine, Int.toNat_natCast, br_lss_t, br_lss_f, br_leq_t, br_leq_f, br_eql_t, br_eql_f, br_not, br_true, br_false, bd_some, opt_some, opt_none, ↓jn_eq, iadd_s, isub_s, imul_s, wrp_s, wrp_u, irem_p, iquo_p, zN_c, len_d, nN_c, nN_d, nadd, nsub, num_Within_s]
 cases h : within t 0 ((l.length : Int) - 1) with
 | false =>
  rw [wi_f] at h
  simp only [br_false]
  split
  ·rw [List.getD_eq_getElem?_getD, List.getElem?_eq_none (by omega)]; rfl
  ·rfl
 | true =>
  rw [wi_iff] at h
  simp (disch := omega) only [↓gd_ige, ↓gd_nlt, ↓gd_nle, ↓gd_neq, ↓gd_ieq, ↓gd_ine, Int.toNat_natCast, br_lss_t, br_lss_f, br_leq_t, br_leq_f, br_eql_t, br_eql_f, br_not, br_true, br_false, bd_some, opt_some, opt_none, ↓jn_eq, iadd_s, isub_s, imul_s, wrp_s, wrp_u, irem_p, iquo_p, zN_c, len_d, nN_c, nN_d, nadd, nsub]
  rw [if_pos h.1]; rfl
def named (c : Cal) : List Int :=
 if c.1 = 1 ∨ c.1 = 7 ∨ c.1 = 10 then [c.2.1] else if c.1 = 8 then [c.2.1, c.2.2.1] else if c.1 = 9 then [c.2.2.1, c.2.2.2.1] else if c.1 = 11 then [c.2.2.2.1] else []
def regsOk (c : Cal) : Bool := (named c).all fun r => decide (r < 4)
theorem reg_loop (l : List Int) (hl : l.length ≤ 10) : loop (fun (k0 : ((Int × Unit) × (Unit × (Unit × (Unit × Unit)))) → _) => (fun (s1 : ((Int × Unit) × (Unit × (Unit × (Unit × Unit))))) => (br (ilss s1.1.1 (zN (len l))) (gd (ige s1.1.1) (gd (nlt (nN s1.1.1) (len l)) (br (ileq 4 (nth 0 l (nN s1.1.1))) (some (((bnot (ileq 0 s1.1.1)), ()), ())) (k0 (((iadd IntKind.i64 s1.1.1 1), ()), ((), ((), ((), ())))))))) (some ((true, ()), ()))))) ((0, ()), ((), ((), ((), ())))) = some ((l.all fun r => decide (r < 4), ()), ()) := by
 refine (loop_up (fun k => ((((k : Nat) : Int), ()), ((), ((), ((), ()))))) (fun k => some ((((l.drop k).all fun r => decide (r < 4)), ()), ())) l.length (by unfold big; omega) (fun K => ?_) (fun k hk => ?_)).trans ?_
 ·simp (disch := omega) only [↓gd_ige, ↓gd_nlt, ↓gd_nle, ↓gd_neq, ↓gd_ieq, ↓gd_ine, Int.toNat_natCast, br_lss_t, br_lss_f, br_leq_t, br_leq_f, br_eql_t, br_eql_f, br_not, br_true, br_false, bd_some, opt_some, opt_none, ↓jn_eq, iadd_s, isub_s, imul_s, wrp_s, wrp_u, irem_p, iquo_p, zN_c, len_d, nN_c, nN_d, nadd, nsub]
  rw [List.drop_of_length_le (by omega)]
  rfl
 ·rw [List.drop_eq_getElem_cons hk, List.all_cons]
  by_cases he : l[k] < 4
  ·refine .inr ⟨by simp [he], fun K => ?_⟩
   have : nth 0 l k < 4 := by rw [nth_lt hk]; exact he
   simp (disch := omega) only [↓gd_ige, ↓gd_nlt, ↓gd_nle, ↓gd_neq, ↓gd_ieq, ↓gd_ine, Int.toNat_natCast, br_lss_t, br_lss_f, br_leq_t, br_leq_f, br_eql_t, br_eql_f, br_not, br_true, br_false, bd_some, opt_some, opt_none, ↓jn_eq, iadd_s, isub_s, imul_s, wrp_s, wrp_u, irem_p, iquo_p, zN_c, len_d, nN_c, nN_d, nadd, nsub]
   congr 4
  ·refine .inl fun K => ?_
   have : 4 ≤ nth 0 l k := by rw [nth_lt hk]; omega
   simp (disch := omega) only [↓gd_ige, ↓gd_nlt, ↓gd_nle, ↓gd_neq, ↓gd_ieq, ↓gd_ine, Int.toNat_natCast, br_lss_t, br_lss_f, br_leq_t, br_leq_f, br_eql_t, br_eql_f, br_not, br_true, br_false, bd_some, opt_some, opt_none, ↓jn_eq, iadd_s, isub_s, imul_s, wrp_s, wrp_u, irem_p, iquo_p, zN_c, len_d, nN_c, nN_d, nadd, nsub]
   simp [he, ileq, bnot]
 ·simp
theorem model_registers_s (c : Cal) : g.model_registers c = some ((regsOk c, ()), ()) := by
 unfold g.model_registers regsOk named
 by_cases h1 : c.1 = 1
 ·rw [br_eql_t h1]; simp only [h1, true_or, if_true]; exact reg_loop [c.2.1] (by simp)
 rw [br_eql_f h1]
 by_cases h7 : c.1 = 7
 ·rw [br_eql_t h7]; simp only [h7, true_or, or_true, if_true]; exact reg_loop [c.2.1] (by simp)
 rw [br_eql_f h7]
 by_cases h10 : c.1 = 10
 ·rw [br_eql_t h10]; simp only [h10, or_true, if_true]; exact reg_loop [c.2.1] (by simp)
 rw [br_eql_f h10]
 simp only [h1, h7, h10, or_self, if_false]
 by_cases h8 : c.1 = 8
 ·rw [br_eql_t h8]; simp only [h8, if_true]; exact reg_loop [c.2.1, c.2.2.1] (by simp)
 rw [br_eql_f h8]
 simp only [h8, if_false]
 by_cases h9 : c.1 = 9
 ·rw [br_eql_t h9]; simp only [h9, if_true]; exact reg_loop [c.2.2.1, c.2.2.2.1] (by simp)
 rw [br_eql_f h9]
 simp only [h9, if_false]
 by_cases h11 : c.1 = 11
 ·rw [br_eql_t h11]; simp only [h11, if_true]; exact reg_loop [c.2.2.2.1] (by simp)
 rw [br_eql_f h11]
 simp only [h11, if_false]
 rw [loop_eq]
 rfl
end Go.Proofs.YtihiooaimdoapaaGreat
set_option linter.unusedVariables false
set_option linter.unusedSimpArgs false
namespace Go.Pen
open Go.Bm
def finStep (o : FOp) (sl : List Int) : Nat × List Int × List Int × Bool :=
 if o.1 = 0 then (0, sl, [o.2.1], false)
 else if o.1 = 1 then (0, sl.set o.2.1.toNat 0, [], false)
 else if o.1 = 2 then (0, if o.2.1.toNat < sl.length ∧ o.2.2.toNat < sl.length then sl.set o.2.1.toNat (sl.getD o.2.2.toNat 0) else sl, [], false)
 else if o.1 = 3 then (if o.2.1.toNat < sl.length ∧ sl.getD o.2.1.toNat 0 = 0 then o.2.2.toNat else 0, sl, [], false)
 else (0, sl, [], decide (o.1 = 4))
def finGo (ops : List FOp) : Nat → Nat → List Int → List Int → Bool → Int → List Int × List Int × Bool × Int
 | 0, _, sl, sd, h, n => (sl, sd, h, n)
 | f + 1, at', sl, sd, h, n => if at' < ops.length then
   finGo ops f (at' + 1 + (finStep (ops.getD at' (0, 0, 0)) sl).1) (finStep (ops.getD at' (0, 0, 0)) sl).2.1 (sd ++ (finStep (ops.getD at' (0, 0, 0)) sl).2.2.1) (h || (finStep (ops.getD at' (0, 0, 0)) sl).2.2.2) (n + 1)
  else (sl, sd, h, n)
def finRun (ops : List FOp) (sl : List Int) : List Int × List Int × Bool × Int := finGo ops ops.length 0 sl [] false 0
def opOk (o : FOp) : Prop := (0 ≤ o.1 ∧ o.1 ≤ 4) ∧ (0 ≤ o.2.1 ∧ o.2.1 ≤ 99) ∧ (0 ≤ o.2.2 ∧ o.2.2 ≤ 8)
def opsOk (l : List FOp) : Prop := l.length ≤ 8 ∧ ∀ o ∈ l, opOk o
def finsOk (l : List (List FOp)) : Prop := l.length ≤ 8 ∧ ∀ x ∈ l, opsOk x
theorem finGo_end {ops : List FOp} {f a : Nat} (h : ¬ a < ops.length) (sl sd : List Int) (hd : Bool) (n : Int) : finGo ops f a sl sd hd n = (sl, sd, hd, n) := by
 cases f with
 | zero => rfl
 | succ f => unfold finGo; rw [if_neg h]
theorem finGo_step {ops : List FOp} {f a : Nat} (h : a < ops.length) (sl sd : List Int) (hd : Bool) (n : Int) : finGo ops (f + 1) a sl sd hd n =
  finGo ops f (a + 1 + (finStep (ops.getD a (0, 0, 0)) sl).1) (finStep (ops.getD a (0, 0, 0)) sl).2.1 (sd ++ (finStep (ops.getD a (0, 0, 0)) sl).2.2.1) (hd || (finStep (ops.getD a (0, 0, 0)) sl).2.2.2) (n + 1) := by
 rw [finGo, if_pos h]
theorem finStep_len (o : FOp) (sl : List Int) : (finStep o sl).2.1.length = sl.length := by
 unfold finStep
 repeat' split
 all_goals simp
theorem finStep_skip {o : FOp} (h : opOk o) (sl : List Int) : (finStep o sl).1 ≤ 8 := by
 obtain ⟨_, _, h⟩ := h
 unfold finStep
 repeat' split
 all_goals simp only
 all_goals omega
theorem finStep_said (o : FOp) (sl : List Int) : (finStep o sl).2.2.1.length ≤ 1 := by
 unfold finStep
 repeat' split
 all_goals simp
theorem finGo_len {ops : List FOp} : ∀ (f a : Nat) (sl sd : List Int) (hd : Bool) (n : Int), (finGo ops f a sl sd hd n).1.length = sl.length
 | 0, a, sl, sd, hd, n => rfl
 | f + 1, a, sl, sd, hd, n => by
  unfold finGo
  split
  ·rw [finGo_len, finStep_len]
  ·rfl
theorem finRun_len (ops : List FOp) (sl : List Int) : (finRun ops sl).1.length = sl.length := finGo_len _ _ _ _ _ _
theorem finGo_said {ops : List FOp} : ∀ (f a : Nat) (sl sd : List Int) (hd : Bool) (n : Int), (finGo ops f a sl sd hd n).2.1.length ≤ sd.length + f
 | 0, a, sl, sd, hd, n => Nat.le_refl _
 | f + 1, a, sl, sd, hd, n => by
  unfold finGo
  split
  ·refine Nat.le_trans (finGo_said _ _ _ _ _ _) ?_
   have := finStep_said (ops.getD a (0, 0, 0)) sl
   rw [List.length_append]; omega
  ·simp
theorem finRun_said (ops : List FOp) (sl : List Int) : (finRun ops sl).2.1.length ≤ ops.length := by
 have := finGo_said (ops := ops) ops.length 0 sl [] false 0
 simpa [finRun] using this
end Go.Pen
set_option linter.unusedVariables false
set_option linter.unusedSimpArgs false
namespace Go.Proofs.YtihiooaimdoapaaGreat
open Go.Bm Go.Pen
theorem fin_l2_s (a0 : List FOp) (v0 : ((Bool × (Int × (Int × Unit))) × (((List Int) × ((List Int) × Unit)) × (Unit × (Unit × Unit))))) (v1) (hl : v0.2.1.1.length ≤ 100) (o : FOp) (ho : nth (0, (0, 0)) a0 (nN v0.1.2.2.1) = o) (hA : opOk o) :
  loop (g.fin_Run_l2 a0 v0 v1) ((0, ()), ((), ((), ((), ())))) = v1 ((decide (o.2.1.toNat < v0.2.1.1.length), ()), ((), ((), ((), ())))) := by
 obtain ⟨_, hA, _⟩ := hA
 rw [loop3]
 unfold g.fin_Run_l2
 simp only [ho]
 have e : cat [] v0.2.1.1 = v0.2.1.1 := rfl
 simp only [e]
 by_cases h : o.2.1.toNat < v0.2.1.1.length
 ·have hw : within o.2.1 0 ((v0.2.1.1.length : Int) - 1) = true := wi_iff.2 (by omega)
  simp (disch := omega) only [↓gd_ige, ↓gd_nlt, ↓gd_nle, ↓gd_neq, ↓gd_ieq, ↓gd_ine, Int.toNat_natCast, br_lss_t, br_lss_f, br_leq_t, br_leq_f, br_eql_t, br_eql_f, br_not, br_true, br_false, bd_some, opt_some, opt_none, ↓jn_eq, iadd_s, isub_s, imul_s, wrp_s, wrp_u, irem_p, iquo_p, zN_c, len_d, nN_c, nN_d, nadd, nsub, num_Within_s, List.length_singleton, nth, List.getD_cons_zero, hw]
  simp (disch := omega) only [↓gd_ige, ↓gd_nlt, ↓gd_nle, ↓gd_neq, ↓gd_ieq, ↓gd_ine, Int.toNat_natCast, br_lss_t, br_lss_f, br_leq_t, br_leq_f, br_eql_t, br_eql_f, br_not, br_true, br_false, bd_some, opt_some, opt_none, ↓jn_eq, iadd_s, isub_s, imul_s, wrp_s, wrp_u, irem_p, iquo_p, zN_c, len_d, nN_c, nN_d, nadd, nsub, num_Within_s, List.length_singleton, nth, List.getD_cons_zero, hw, Int.toNat_zero]
  simp [h]
 ·have hw : within o.2.1 0 ((v0.2.1.1.length : Int) - 1) = false := wi_f.2 (by omega)
  simp (disch := omega) only [↓gd_ige, ↓gd_nlt, ↓gd_nle, ↓gd_neq, ↓gd_ieq, ↓gd_ine, Int.toNat_natCast, br_lss_t, br_lss_f, br_leq_t, br_leq_f, br_eql_t, br_eql_f, br_not, br_true, br_false, bd_some, opt_some, opt_none, ↓jn_eq, iadd_s, isub_s, imul_s, wrp_s, wrp_u, irem_p, iquo_p, zN_c, len_d, nN_c, nN_d, nadd, nsub, num_Within_s, List.length_singleton, nth, List.getD_cons_zero, hw]
  simp (disch := omega) only [↓gd_ige, ↓gd_nlt, ↓gd_nle, ↓gd_neq, ↓gd_ieq, ↓gd_ine, Int.toNat_natCast, br_lss_t, br_lss_f, br_leq_t, br_leq_f, br_eql_t, br_eql_f, br_not, br_true, br_false, bd_some, opt_some, opt_none, ↓jn_eq, iadd_s, isub_s, imul_s, wrp_s, wrp_u, irem_p, iquo_p, zN_c, len_d, nN_c, nN_d, nadd, nsub, num_Within_s, List.length_singleton, nth, List.getD_cons_zero, hw, Int.toNat_zero]
  simp [h, bnot, ileq]
theorem fin_l1_s (a0 : List FOp) (v0 : ((Bool × (Int × (Int × Unit))) × (((List Int) × ((List Int) × Unit)) × (Unit × (Unit × Unit))))) (v1) (hl : v0.2.1.1.length ≤ 100) (o : FOp) (ho : nth (0, (0, 0)) a0 (nN v0.1.2.2.1) = o) (hA : opOk o) :
  loop (g.fin_Run_l1 a0 v0 v1) ((0, ()), ((), ((), ((), ())))) = v1 ((decide (o.2.1.toNat < v0.2.1.1.length ∧ o.2.2.toNat < v0.2.1.1.length), ()), ((), ((), ((), ())))) := by
 obtain ⟨_, hA, hB⟩ := hA
 rw [loop3]
 unfold g.fin_Run_l1
 simp only [ho]
 have e : cat [] v0.2.1.1 = v0.2.1.1 := rfl
 simp only [e]
 have hlen : [o.2.1, o.2.2].length = 2 := rfl
 by_cases h : o.2.1.toNat < v0.2.1.1.length
 ·have hw : within o.2.1 0 ((v0.2.1.1.length : Int) - 1) = true := wi_iff.2 (by omega)
  by_cases h2 : o.2.2.toNat < v0.2.1.1.length
  ·have hw2 : within o.2.2 0 ((v0.2.1.1.length : Int) - 1) = true := wi_iff.2 (by omega)
   simp (disch := omega) only [↓gd_ige, ↓gd_nlt, ↓gd_nle, ↓gd_neq, ↓gd_ieq, ↓gd_ine, Int.toNat_natCast, br_lss_t, br_lss_f, br_leq_t, br_leq_f, br_eql_t, br_eql_f, br_not, br_true, br_false, bd_some, opt_some, opt_none, ↓jn_eq, iadd_s, isub_s, imul_s, wrp_s, wrp_u, irem_p, iquo_p, zN_c, len_d, nN_c, nN_d, nadd, nsub, num_Within_s, hlen, nth, List.getD_cons_zero, hw]
   simp (disch := omega) only [↓gd_ige, ↓gd_nlt, ↓gd_nle, ↓gd_neq, ↓gd_ieq, ↓gd_ine, Int.toNat_natCast, br_lss_t, br_lss_f, br_leq_t, br_leq_f, br_eql_t, br_eql_f, br_not, br_true, br_false, bd_some, opt_some, opt_none, ↓jn_eq, iadd_s, isub_s, imul_s, wrp_s, wrp_u, irem_p, iquo_p, zN_c, len_d, nN_c, nN_d, nadd, nsub, num_Within_s, hlen, nth, List.getD_cons_zero, hw, Int.toNat_zero]
   simp (disch := omega) only [↓gd_ige, ↓gd_nlt, ↓gd_nle, ↓gd_neq, ↓gd_ieq, ↓gd_ine, Int.toNat_natCast, br_lss_t, br_lss_f, br_leq_t, br_leq_f, br_eql_t, br_eql_f, br_not, br_true, br_false, bd_some, opt_some, opt_none, ↓jn_eq, iadd_s, isub_s, imul_s, wrp_s, wrp_u, irem_p, iquo_p, zN_c, len_d, nN_c, nN_d, nadd, nsub, num_Within_s, hlen, nth, List.getD_cons_zero, hw, Int.toNat_zero, Int.zero_add, Int.toNat_one, List.getD_cons_succ, hw2]
   simp [h, h2]
  ·have hw2 : within o.2.2 0 ((v0.2.1.1.length : Int) - 1) = false := wi_f.2 (by omega)
   simp (disch := omega) only [↓gd_ige, ↓gd_nlt, ↓gd_nle, ↓gd_neq, ↓gd_ieq, ↓gd_ine, Int.toNat_natCast, br_lss_t, br_lss_f, br_leq_t, br_leq_f, br_eql_t, br_eql_f, br_not, br_true, br_false, bd_some, opt_some, opt_none, ↓jn_eq, iadd_s, isub_s, imul_s, wrp_s, wrp_u, irem_p, iquo_p, zN_c, len_d, nN_c, nN_d, nadd, nsub, num_Within_s, hlen, nth, List.getD_cons_zero, hw]
   simp (disch := omega) only [↓gd_ige, ↓gd_nlt, ↓gd_nle, ↓gd_neq, ↓gd_ieq, ↓gd_ine, Int.toNat_natCast, br_lss_t, br_lss_f, br_leq_t, br_leq_f, br_eql_t, br_eql_f, br_not, br_true, br_false, bd_some, opt_some, opt_none, ↓jn_eq, iadd_s, isub_s, imul_s, wrp_s, wrp_u, irem_p, iquo_p, zN_c, len_d, nN_c, nN_d, nadd, nsub, num_Within_s, hlen, nth, List.getD_cons_zero, hw, Int.toNat_zero]
   simp (disch := omega) only [↓gd_ige, ↓gd_nlt, ↓gd_nle, ↓gd_neq, ↓gd_ieq, ↓gd_ine, Int.toNat_natCast, br_lss_t, br_lss_f, br_leq_t, br_leq_f, br_eql_t, br_eql_f, br_not, br_true, br_false, bd_some, opt_some, opt_none, ↓jn_eq, iadd_s, isub_s, imul_s, wrp_s, wrp_u, irem_p, iquo_p, zN_c, len_d, nN_c, nN_d, nadd, nsub, num_Within_s, hlen, nth, List.getD_cons_zero, hw, Int.toNat_zero, Int.zero_add, Int.toNat_one, List.getD_cons_succ, hw2]
   simp [h, h2, bnot, ileq]
 ·have hw : within o.2.1 0 ((v0.2.1.1.length : Int) - 1) = false := wi_f.2 (by omega)
  simp (disch := omega) only [↓gd_ige, ↓gd_nlt, ↓gd_nle, ↓gd_neq, ↓gd_ieq, ↓gd_ine, Int.toNat_natCast, br_lss_t, br_lss_f, br_leq_t, br_leq_f, br_eql_t, br_eql_f, br_not, br_true, br_false, bd_some, opt_some, opt_none, ↓jn_eq, iadd_s, isub_s, imul_s, wrp_s, wrp_u, irem_p, iquo_p, zN_c, len_d, nN_c, nN_d, nadd, nsub, num_Within_s, hlen, nth, List.getD_cons_zero, hw]
  simp (disch := omega) only [↓gd_ige, ↓gd_nlt, ↓gd_nle, ↓gd_neq, ↓gd_ieq, ↓gd_ine, Int.toNat_natCast, br_lss_t, br_lss_f, br_leq_t, br_leq_f, br_eql_t, br_eql_f, br_not, br_true, br_false, bd_some, opt_some, opt_none, ↓jn_eq, iadd_s, isub_s, imul_s, wrp_s, wrp_u, irem_p, iquo_p, zN_c, len_d, nN_c, nN_d, nadd, nsub, num_Within_s, hlen, nth, List.getD_cons_zero, hw, Int.toNat_zero]
  simp [h, bnot, ileq]
theorem fin_l0_s (a0 : List FOp) (v0 : ((Bool × (Int × (Int × Unit))) × (((List Int) × ((List Int) × Unit)) × (Unit × (Unit × Unit))))) (v1) (hl : v0.2.1.1.length ≤ 100) (o : FOp) (ho : nth (0, (0, 0)) a0 (nN v0.1.2.2.1) = o) (hA : opOk o) :
  loop (g.fin_Run_l0 a0 v0 v1) ((0, ()), ((), ((), ((), ())))) = v1 ((decide (o.2.1.toNat < v0.2.1.1.length ∧ v0.2.1.1.getD o.2.1.toNat 0 = 0), ()), ((), ((), ((), ())))) := by
 obtain ⟨_, hA, _⟩ := hA
 rw [loop3]
 unfold g.fin_Run_l0
 simp only [ho]
 have e : cat [] v0.2.1.1 = v0.2.1.1 := rfl
 simp only [e]
 by_cases h : o.2.1.toNat < v0.2.1.1.length
 ·have hw : within o.2.1 0 ((v0.2.1.1.length : Int) - 1) = true := wi_iff.2 (by omega)
  simp (disch := omega) only [↓gd_ige, ↓gd_nlt, ↓gd_nle, ↓gd_neq, ↓gd_ieq, ↓gd_ine, Int.toNat_natCast, br_lss_t, br_lss_f, br_leq_t, br_leq_f, br_eql_t, br_eql_f, br_not, br_true, br_false, bd_some, opt_some, opt_none, ↓jn_eq, iadd_s, isub_s, imul_s, wrp_s, wrp_u, irem_p, iquo_p, zN_c, len_d, nN_c, nN_d, nadd, nsub, num_Within_s, List.length_singleton, nth, List.getD_cons_zero, hw]
  simp (disch := omega) only [↓gd_ige, ↓gd_nlt, ↓gd_nle, ↓gd_neq, ↓gd_ieq, ↓gd_ine, Int.toNat_natCast, br_lss_t, br_lss_f, br_leq_t, br_leq_f, br_eql_t, br_eql_f, br_not, br_true, br_false, bd_some, opt_some, opt_none, ↓jn_eq, iadd_s, isub_s, imul_s, wrp_s, wrp_u, irem_p, iquo_p, zN_c, len_d, nN_c, nN_d, nadd, nsub, num_Within_s, List.length_singleton, nth, List.getD_cons_zero, hw, Int.toNat_zero]
  simp [h, ieql]
 ·have hw : within o.2.1 0 ((v0.2.1.1.length : Int) - 1) = false := wi_f.2 (by omega)
  simp (disch := omega) only [↓gd_ige, ↓gd_nlt, ↓gd_nle, ↓gd_neq, ↓gd_ieq, ↓gd_ine, Int.toNat_natCast, br_lss_t, br_lss_f, br_leq_t, br_leq_f, br_eql_t, br_eql_f, br_not, br_true, br_false, bd_some, opt_some, opt_none, ↓jn_eq, iadd_s, isub_s, imul_s, wrp_s, wrp_u, irem_p, iquo_p, zN_c, len_d, nN_c, nN_d, nadd, nsub, num_Within_s, List.length_singleton, nth, List.getD_cons_zero, hw]
  simp (disch := omega) only [↓gd_ige, ↓gd_nlt, ↓gd_nle, ↓gd_neq, ↓gd_ieq, ↓gd_ine, Int.toNat_natCast, br_lss_t, br_lss_f, br_leq_t, br_leq_f, br_eql_t, br_eql_f, br_not, br_true, br_false, bd_some, opt_some, opt_none, ↓jn_eq, iadd_s, isub_s, imul_s, wrp_s, wrp_u, irem_p, iquo_p, zN_c, len_d, nN_c, nN_d, nadd, nsub, num_Within_s, List.length_singleton, nth, List.getD_cons_zero, hw, Int.toNat_zero, bnot, ileq, decide_true, Bool.not_true, br_false]
  simp [h]
theorem fin_loop_s {ops : List FOp} (hops : opsOk ops) (d0 : T10) : ∀ (m a : Nat) (sl sd : List Int) (hd : Bool) (n : Int), ops.length ≤ a + m → sl.length ≤ 100 → sd.length + m ≤ 100 → (0 ≤ n ∧ n + m ≤ 1000) → (a ≤ 100) →
  Run (g.fin_Run_l3 ops d0) ((hd, (n, ((a : Int), ()))), ((sl, (sd, ())), ((), ((), ()))))
   (some (((some (len d0)), ((finGo ops m a sl sd hd n).2.1, ((finGo ops m a sl sd hd n).2.2.1, ((finGo ops m a sl sd hd n).2.2.2, ())))), ((cat d0 [(some (finGo ops m a sl sd hd n).1)]), ()))) m := by
 obtain ⟨hlen, hop⟩ := hops
 intro m
 induction m with
 | zero =>
  intro a sl sd hd n h1 h2 h3 h4 h5
  refine .stop 0 (fun K => ?_)
  unfold g.fin_Run_l3
  simp (disch := omega) only [↓gd_ige, ↓gd_nlt, ↓gd_nle, ↓gd_neq, ↓gd_ieq, ↓gd_ine, Int.toNat_natCast, br_lss_t, br_lss_f, br_leq_t, br_leq_f, br_eql_t, br_eql_f, br_not, br_true, br_false, bd_some, opt_some, opt_none, ↓jn_eq, iadd_s, isub_s, imul_s, wrp_s, wrp_u, irem_p, iquo_p, zN_c, len_d, nN_c, nN_d, nadd, nsub]
  rfl
 | succ m ih =>
  intro a sl sd hd n h1 h2 h3 h4 h5
  by_cases ha : a < ops.length
  ·have ho : opOk (ops.getD a (0, 0, 0)) := by
    rw [List.getD_eq_getElem?_getD, List.getElem?_eq_getElem ha]
    exact hop _ (List.getElem_mem ha)
   rw [finGo_step ha]
   generalize hoo : ops.getD a (0, 0, 0) = o at ho
   have hn : nth (0, (0, 0)) ops a = o := by rw [← hoo]; rfl
   have hs1 := finStep_len o sl
   have hs2 := finStep_said o sl
   refine .step (s' := ((hd || (finStep o sl).2.2.2, (n + 1, (((a + 1 + (finStep o sl).1 : Nat) : Int), ()))), (((finStep o sl).2.1, ((sd ++ (finStep o sl).2.2.1), ())), ((), ((), ()))))) ?_ (fun K => ?_)
   ·have hs3 := finStep_skip ho sl
    exact ih _ _ _ _ _ (by omega) (by omega) (by rw [List.length_append]; omega) (by omega) (by omega)
   ·have ho' := ho
    obtain ⟨k1, k2, k3⟩ := ho
    unfold g.fin_Run_l3
    have hw : within (a : Int) 0 ((ops.length : Int) - 1) = true := wi_iff.2 (by omega)
    have e : cat [] sl = sl := rfl
    simp (disch := omega) only [↓gd_ige, ↓gd_nlt, ↓gd_nle, ↓gd_neq, ↓gd_ieq, ↓gd_ine, Int.toNat_natCast, br_lss_t, br_lss_f, br_leq_t, br_leq_f, br_eql_t, br_eql_f, br_not, br_true, br_false, bd_some, opt_some, opt_none, ↓jn_eq, iadd_s, isub_s, imul_s, wrp_s, wrp_u, irem_p, iquo_p, zN_c, len_d, nN_c, nN_d, nadd, nsub, num_Within_s, hw, e, hn]
    have hn' : nth (0, (0, 0)) ops (nN (a : Int)) = o := hn
    have z0 : ((sd.length + ([] : List Int).length : Nat) : Int) ≤ ((16777216 : Nat) : Int) := by simp; omega
    have hcs : o.1 = 0 ∨ o.1 = 1 ∨ o.1 = 2 ∨ o.1 = 3 ∨ o.1 = 4 := by omega
    have c0 : cat sd [] = sd := List.append_nil _
    have q0 : (a : Int) + 1 + 0 = ((a + 1 + 0 : Nat) : Int) := by omega
    rcases hcs with h | h | h | h | h
    ·have z1 : (([o.2.1].length : Nat) : Int) ≤ ((16777216 : Nat) : Int) := by simp
     have z2 : ((sd.length + [o.2.1].length : Nat) : Int) ≤ ((16777216 : Nat) : Int) := by simp; omega
     rw [br_eql_t h, br_leq_t z1, br_leq_t z2]
     unfold finStep
     cases hd <;> simp only [h, if_true, br_true, br_false, q0, Bool.true_or, Bool.false_or] <;> rfl
    ·rw [br_eql_f (by omega), br_eql_t h, fin_l2_s ops _ _ (by simp only; omega) o hn' ho']
     simp only
     unfold finStep
     rw [if_neg (by omega), if_pos h]
     by_cases hx : o.2.1.toNat < sl.length
     ·simp (disch := omega) only [↓gd_ige, ↓gd_nlt, ↓gd_nle, ↓gd_neq, ↓gd_ieq, ↓gd_ine, Int.toNat_natCast, br_lss_t, br_lss_f, br_leq_t, br_leq_f, br_eql_t, br_eql_f, br_not, br_true, br_false, bd_some, opt_some, opt_none, ↓jn_eq, iadd_s, isub_s, imul_s, wrp_s, wrp_u, irem_p, iquo_p, zN_c, len_d, nN_c, nN_d, nadd, nsub, hx, decide_true, c0, q0]
      cases hd <;> simp only [br_true, br_false, List.append_nil] <;> rfl
     ·have hs : sl.set o.2.1.toNat 0 = sl := List.set_eq_of_length_le (by omega)
      simp (disch := omega) only [↓gd_ige, ↓gd_nlt, ↓gd_nle, ↓gd_neq, ↓gd_ieq, ↓gd_ine, Int.toNat_natCast, br_lss_t, br_lss_f, br_leq_t, br_leq_f, br_eql_t, br_eql_f, br_not, br_true, br_false, bd_some, opt_some, opt_none, ↓jn_eq, iadd_s, isub_s, imul_s, wrp_s, wrp_u, irem_p, iquo_p, zN_c, len_d, nN_c, nN_d, nadd, nsub, hx, decide_false, c0, q0, hs]
      cases hd <;> simp only [br_true, br_false, List.append_nil] <;> rfl
    ·rw [br_eql_f (by omega), br_eql_f (by omega), br_eql_t h, fin_l1_s ops _ _ (by simp only; omega) o hn' ho']
     simp only
     unfold finStep
     rw [if_neg (by omega), if_neg (by omega), if_pos h]
     by_cases hx : o.2.1.toNat < sl.length ∧ o.2.2.toNat < sl.length
     ·have hx1 := hx.1
      have hx2 := hx.2
      simp (disch := omega) only [↓gd_ige, ↓gd_nlt, ↓gd_nle, ↓gd_neq, ↓gd_ieq, ↓gd_ine, Int.toNat_natCast, br_lss_t, br_lss_f, br_leq_t, br_leq_f, br_eql_t, br_eql_f, br_not, br_true, br_false, bd_some, opt_some, opt_none, ↓jn_eq, iadd_s, isub_s, imul_s, wrp_s, wrp_u, irem_p, iquo_p, zN_c, len_d, nN_c, nN_d, nadd, nsub, hx, hx1, hx2, and_self, decide_true, c0, q0, if_true]
      cases hd <;> simp only [br_true, br_false, List.append_nil] <;> rfl
     ·simp (disch := omega) only [↓gd_ige, ↓gd_nlt, ↓gd_nle, ↓gd_neq, ↓gd_ieq, ↓gd_ine, Int.toNat_natCast, br_lss_t, br_lss_f, br_leq_t, br_leq_f, br_eql_t, br_eql_f, br_not, br_true, br_false, bd_some, opt_some, opt_none, ↓jn_eq, iadd_s, isub_s, imul_s, wrp_s, wrp_u, irem_p, iquo_p, zN_c, len_d, nN_c, nN_d, nadd, nsub, hx, decide_false, c0, q0, if_false]
      cases hd <;> simp only [br_true, br_false, List.append_nil] <;> rfl
    ·rw [br_eql_f (by omega), br_eql_f (by omega), br_eql_f (by omega), br_eql_t h, fin_l0_s ops _ _ (by simp only; omega) o hn' ho']
     simp only
     unfold finStep
     rw [if_neg (by omega), if_neg (by omega), if_neg (by omega), if_pos h]
     have q1 : (a : Int) + 1 + o.2.2 = ((a + 1 + o.2.2.toNat : Nat) : Int) := by omega
     by_cases hx : o.2.1.toNat < sl.length ∧ sl.getD o.2.1.toNat 0 = 0
     ·simp (disch := omega) only [↓gd_ige, ↓gd_nlt, ↓gd_nle, ↓gd_neq, ↓gd_ieq, ↓gd_ine, Int.toNat_natCast, br_lss_t, br_lss_f, br_leq_t, br_leq_f, br_eql_t, br_eql_f, br_not, br_true, br_false, bd_some, opt_some, opt_none, ↓jn_eq, iadd_s, isub_s, imul_s, wrp_s, wrp_u, irem_p, iquo_p, zN_c, len_d, nN_c, nN_d, nadd, nsub, hx, and_self, decide_true, c0, q1, if_true]
      cases hd <;> simp only [br_true, br_false, List.append_nil] <;> rfl
     ·simp (disch := omega) only [↓gd_ige, ↓gd_nlt, ↓gd_nle, ↓gd_neq, ↓gd_ieq, ↓gd_ine, Int.toNat_natCast, br_lss_t, br_lss_f, br_leq_t, br_leq_f, br_eql_t, br_eql_f, br_not, br_true, br_false, bd_some, opt_some, opt_none, ↓jn_eq, iadd_s, isub_s, imul_s, wrp_s, wrp_u, irem_p, iquo_p, zN_c, len_d, nN_c, nN_d, nadd, nsub, hx, decide_false, c0, q0, if_false]
      cases hd <;> simp only [br_true, br_false, List.append_nil] <;> rfl
    ·rw [br_eql_f (by omega), br_eql_f (by omega), br_eql_f (by omega), br_eql_f (by omega), br_eql_t h]
     unfold finStep
     rw [if_neg (by omega), if_neg (by omega), if_neg (by omega), if_neg (by omega)]
     simp (disch := omega) only [↓gd_ige, ↓gd_nlt, ↓gd_nle, ↓gd_neq, ↓gd_ieq, ↓gd_ine, Int.toNat_natCast, br_lss_t, br_lss_f, br_leq_t, br_leq_f, br_eql_t, br_eql_f, br_not, br_true, br_false, bd_some, opt_some, opt_none, ↓jn_eq, iadd_s, isub_s, imul_s, wrp_s, wrp_u, irem_p, iquo_p, zN_c, len_d, nN_c, nN_d, nadd, nsub, h, decide_true, c0, q0]
     cases hd <;> simp only [br_true, br_false, List.append_nil] <;> rfl
  ·rw [finGo_end ha]
   refine .stop _ (fun K => ?_)
   unfold g.fin_Run_l3
   simp (disch := omega) only [↓gd_ige, ↓gd_nlt, ↓gd_nle, ↓gd_neq, ↓gd_ieq, ↓gd_ine, Int.toNat_natCast, br_lss_t, br_lss_f, br_leq_t, br_leq_f, br_eql_t, br_eql_f, br_not, br_true, br_false, bd_some, opt_some, opt_none, ↓jn_eq, iadd_s, isub_s, imul_s, wrp_s, wrp_u, irem_p, iquo_p, zN_c, len_d, nN_c, nN_d, nadd, nsub]
theorem fin_Run_s {ops : List FOp} (hops : opsOk ops) {d0 : T10} {j : Nat} {sl : List Int} (hj : rwA d0 j = some sl) (hl : sl.length ≤ 100) :
  g.fin_Run ops (some j) d0 = some (((some d0.length), ((finRun ops sl).2.1, ((finRun ops sl).2.2.1, ((finRun ops sl).2.2.2, ())))), ((d0 ++ [some (finRun ops sl).1]), ())) := by
 have h8 := hops.1
 unfold g.fin_Run
 have e : cat [] sl = sl := rfl
 have z : ((0 + sl.length : Nat) : Int) ≤ ((16777216 : Nat) : Int) := by omega
 simp (disch := omega) only [↓gd_ige, ↓gd_nlt, ↓gd_nle, ↓gd_neq, ↓gd_ieq, ↓gd_ine, Int.toNat_natCast, br_lss_t, br_lss_f, br_leq_t, br_leq_f, br_eql_t, br_eql_f, br_not, br_true, br_false, bd_some, opt_some, opt_none, ↓jn_eq, iadd_s, isub_s, imul_s, wrp_s, wrp_u, irem_p, iquo_p, zN_c, len_d, nN_c, nN_d, nadd, nsub, hj, e]
 exact (fin_loop_s hops d0 ops.length 0 sl [] false 0 (by omega) hl (by simp; omega) (by omega) (by omega)).loop (by unfold big; omega)
end Go.Proofs.YtihiooaimdoapaaGreat
set_option linter.unusedVariables false
set_option linter.unusedSimpArgs false
namespace Go.Pen
open Go.Bm
def xtOk (x : Xt) : Prop := 0 ≤ x.1 ∧ 0 ≤ x.2 ∧ x.1 + x.2 ≤ 131072
def bigAt : List Xt → Int → Option Nat
 | [], _ => none
 | x :: l, n => if n ≤ x.2 then some 0 else (bigAt l n).map (· + 1)
def carve (l : List Xt) (n : Int) : Option (Int × List Xt) := match bigAt l n with
 | none => none
 | some i => some ((l.getD i (0, 0)).1, if (l.getD i (0, 0)).2 = n then l.eraseIdx i else l.set i ((l.getD i (0, 0)).1 + n, (l.getD i (0, 0)).2 - n))
def behind : List Xt → Int → Nat
 | [], _ => 0
 | x :: l, a => if a < x.1 + x.2 then 0 else behind l a + 1
def joinX (acc : List Xt) (x : Xt) : List Xt := match acc.getLast? with
 | some y => if y.1 + y.2 = x.1 then acc.dropLast ++ [(y.1, y.2 + x.2)] else acc ++ [x]
 | none => [x]
def mergeX (acc l : List Xt) : List Xt := l.foldl joinX acc
def give (fr en : Int) (l : List Xt) (a n : Int) : Option (List Xt) :=
 if n < 1 ∨ n % 8 ≠ 0 ∨ a % 8 ≠ 0 ∨ ¬ (fr ≤ a ∧ a ≤ en - 1) ∨ en - a < n then none
 else if behind l a < l.length ∧ (l.getD (behind l a) (0, 0)).1 < a + n then none
 else some (mergeX [] (l.take (behind l a) ++ [(a, n)] ++ l.drop (behind l a)))
theorem bigAt_lt : ∀ {l : List Xt} {n : Int} {i : Nat}, bigAt l n = some i → i < l.length ∧ n ≤ (l.getD i (0, 0)).2
 | [], _, _, h => by cases h
 | x :: l, n, i, h => by
  unfold bigAt at h
  split at h
  ·cases h; exact ⟨by simp, by simpa⟩
  ·cases hh : bigAt l n with
   | none => rw [hh] at h; cases h
   | some j =>
    rw [hh] at h
    have h : j + 1 = i := by simpa using h
    have := bigAt_lt hh
    subst h
    exact ⟨by simp; omega, by simpa using this.2⟩
theorem bigAt_drop (l : List Xt) (n : Int) (k : Nat) (h : k < l.length) : bigAt (l.drop k) n = if n ≤ l[k].2 then some 0 else (bigAt (l.drop (k + 1)) n).map (· + 1) := by
 rw [List.drop_eq_getElem_cons h]; rfl
theorem behind_drop (l : List Xt) (a : Int) (k : Nat) (h : k < l.length) : behind (l.drop k) a = if a < l[k].1 + l[k].2 then 0 else behind (l.drop (k + 1)) a + 1 := by
 rw [List.drop_eq_getElem_cons h]; rfl
theorem behind_le : ∀ (l : List Xt) (a : Int), behind l a ≤ l.length
 | [], _ => Nat.le_refl _
 | x :: l, a => by
  unfold behind
  split
  ·omega
  ·have := behind_le l a; simp; omega
theorem joinX_ok {acc : List Xt} {x : Xt} (h : ∀ y ∈ acc, xtOk y) (hx : xtOk x) : ∀ y ∈ joinX acc x, xtOk y := by
 intro y hy
 unfold joinX at hy
 split at hy
 ·rename_i z hz
  have hz' := h z (List.mem_of_getLast? hz)
  split at hy
  ·rcases List.mem_append.1 hy with hy | hy
   ·exact h y (List.dropLast_subset _ hy)
   ·rcases List.mem_singleton.1 hy with rfl
    unfold xtOk at *
    simp only
    omega
  ·rcases List.mem_append.1 hy with hy | hy
   ·exact h y hy
   ·rcases List.mem_singleton.1 hy with rfl; exact hx
 ·rcases List.mem_singleton.1 hy with rfl; exact hx
theorem joinX_len (acc : List Xt) (x : Xt) : (joinX acc x).length ≤ acc.length + 1 := by
 unfold joinX
 split
 ·split
  ·simp
  ·simp
 ·simp
theorem mergeX_take (l : List Xt) (k : Nat) (h : k < l.length) : mergeX [] (l.take (k + 1)) = joinX (mergeX [] (l.take k)) l[k] := by
 unfold mergeX
 rw [List.take_add_one, List.getElem?_eq_getElem h, List.foldl_append]
 rfl
theorem mergeX_ok : ∀ (l acc : List Xt), (∀ y ∈ acc, xtOk y) → (∀ y ∈ l, xtOk y) → ∀ y ∈ mergeX acc l, xtOk y
 | [], acc, h, _ => h
 | x :: l, acc, h, hl => mergeX_ok l _ (joinX_ok h (hl x (List.mem_cons_self ..))) (fun y hy => hl y (List.mem_cons_of_mem _ hy))
theorem mergeX_len : ∀ (l acc : List Xt), (mergeX acc l).length ≤ acc.length + l.length
 | [], acc => Nat.le_refl _
 | x :: l, acc => by
  have := mergeX_len l (joinX acc x)
  have := joinX_len acc x
  show (mergeX (joinX acc x) l).length ≤ _
  simp; omega
end Go.Pen
set_option linter.unusedVariables false
set_option linter.unusedSimpArgs false
namespace Go.Proofs.YtihiooaimdoapaaGreat
open Go.Bm Go.Pen
theorem HS {α : Type} {x y r : Option α} (k : y = r) (h : x = y := by (first | with_reducible exact (jn_eq _ _) | with_reducible exact bd_some | with_reducible exact opt_some | with_reducible exact opt_none | with_reducible exact (opt_x (by assumption)) | with_reducible exact (opt_y (by assumption)) | with_reducible exact (br_t (by assumption)) | with_reducible exact (br_f (by assumption)) | with_reducible exact br_true | with_reducible exact br_false | with_reducible exact gd_ige | with_reducible exact gd_nlt | with_reducible exact gd_nle | with_reducible exact gd_neq | with_reducible exact gd_ieq | with_reducible exact gd_ine | with_reducible exact br_not | with_reducible exact br_and | (with_reducible apply bd_x; with_reducible (first | exact num_Within_s _ _ _ | assumption | exact rwA_self (by assumption) | exact rwA_self (rwA_self (by assumption)) | exact rwA_self (rwA_self (rwA_self (by assumption))) | exact rwA_self (rwA_self (rwA_self (rwA_self (by assumption)))) | exact rwA_self (rwA_self (rwA_self (rwA_self (rwA_self (by assumption))))))) | (with_reducible refine br_lss_t ?qh; case qh => first | omega | (simp (disch := omega) only [iadd_s, isub_s, imul_s, wrp_s, wrp_u, irem_p, iquo_p, zN_c, len_d, nN_c, nN_d, nadd, nsub, Int.toNat_natCast, List.length_nil, List.length_singleton, List.length_cons, List.length_map, tk_len, dr_len, rep_len, lenc, updF_len, List.length_set] <;> omega)) | (with_reducible refine br_lss_f ?qh; case qh => first | omega | (simp (disch := omega) only [iadd_s, isub_s, imul_s, wrp_s, wrp_u, irem_p, iquo_p, zN_c, len_d, nN_c, nN_d, nadd, nsub, Int.toNat_natCast, List.length_nil, List.length_singleton, List.length_cons, List.length_map, tk_len, dr_len, rep_len, lenc, updF_len, List.length_set] <;> omega)) | (with_reducible refine br_leq_t ?qh; case qh => first | omega | (simp (disch := omega) only [iadd_s, isub_s, imul_s, wrp_s, wrp_u, irem_p, iquo_p, zN_c, len_d, nN_c, nN_d, nadd, nsub, Int.toNat_natCast, List.length_nil, List.length_singleton, List.length_cons, List.length_map, tk_len, dr_len, rep_len, lenc, updF_len, List.length_set] <;> omega)) | (with_reducible refine br_leq_f ?qh; case qh => first | omega | (simp (disch := omega) only [iadd_s, isub_s, imul_s, wrp_s, wrp_u, irem_p, iquo_p, zN_c, len_d, nN_c, nN_d, nadd, nsub, Int.toNat_natCast, List.length_nil, List.length_singleton, List.length_cons, List.length_map, tk_len, dr_len, rep_len, lenc, updF_len, List.length_set] <;> omega)) | (with_reducible refine br_eql_t ?qh; case qh => first | omega | (simp (disch := omega) only [iadd_s, isub_s, imul_s, wrp_s, wrp_u, irem_p, iquo_p, zN_c, len_d, nN_c, nN_d, nadd, nsub, Int.toNat_natCast, List.length_nil, List.length_singleton, List.length_cons, List.length_map, tk_len, dr_len, rep_len, lenc, updF_len, List.length_set] <;> omega)) | (with_reducible refine br_eql_f ?qh; case qh => first | omega | (simp (disch := omega) only [iadd_s, isub_s, imul_s, wrp_s, wrp_u, irem_p, iquo_p, zN_c, len_d, nN_c, nN_d, nadd, nsub, Int.toNat_natCast, List.length_nil, List.length_singleton, List.length_cons, List.length_map, tk_len, dr_len, rep_len, lenc, updF_len, List.length_set] <;> omega)))) : x = r := h.trans k
def GRel (r2 : T2) (r4 : T4) (gr : Nat) (fr en : Int) (l : List Xt) : Prop := ∃ fo : Option Nat, r2[gr]? = some (fr, (en, fo)) ∧ ((fo = none ∧ l = []) ∨ ∃ j, fo = some j ∧ rwA r4 j = some l)
theorem upd_at {α : Type} {l : List α} {i : Nat} {y x : α} (h : l[i]? = some y) : (upd l i x)[i]? = some x := by
 unfold upd
 rw [List.getElem?_set, if_pos rfl, if_pos (List.getElem?_eq_some_iff.1 h).1]
theorem carve_l0_s (d1 : T4) (n : Int) (l : List Xt) (j : Nat) (v2) (hj : rwA d1 j = some l) (hl : l.length ≤ 10000) :
  loop (g.ground_Ground_Carve_l0 n d1 l j v2) ((0, ()), ((), ((), ((), ())))) = v2 (((match bigAt l n with | some i => (i : Int) | none => -1), ()), ((), ((), ((), ())))) := by
 refine (loop_up (fun k => ((((k : Nat) : Int), ()), ((), ((), ((), ()))))) (fun k => v2 (((match bigAt (l.drop k) n with | some i => ((k + i : Nat) : Int) | none => -1), ()), ((), ((), ((), ()))))) l.length (by unfold big; omega) (fun K => ?_) (fun k hk => ?_)).trans ?_
 ·simp (disch := omega) only [g.ground_Ground_Carve_l0, ↓gd_ige, ↓gd_nlt, ↓gd_nle, ↓gd_neq, ↓gd_ieq, ↓gd_ine, Int.toNat_natCast, br_lss_t, br_lss_f, br_leq_t, br_leq_f, br_eql_t, br_eql_f, br_not, br_true, br_false, bd_some, opt_some, opt_none, ↓jn_eq, iadd_s, isub_s, imul_s, wrp_s, wrp_u, irem_p, iquo_p, zN_c, len_d, nN_c, nN_d, nadd, nsub]
  rw [List.drop_of_length_le (by omega)]
  rfl
 ·rw [bigAt_drop l n k hk]
  have e : nth (0, 0) l k = l[k] := nth_lt hk
  by_cases he : n ≤ l[k].2
  ·refine .inl (fun K => ?_)
   simp (disch := omega) only [g.ground_Ground_Carve_l0, ↓gd_ige, ↓gd_nlt, ↓gd_nle, ↓gd_neq, ↓gd_ieq, ↓gd_ine, Int.toNat_natCast, br_lss_t, br_lss_f, br_leq_t, br_leq_f, br_eql_t, br_eql_f, br_not, br_true, br_false, bd_some, opt_some, opt_none, ↓jn_eq, iadd_s, isub_s, imul_s, wrp_s, wrp_u, irem_p, iquo_p, zN_c, len_d, nN_c, nN_d, nadd, nsub, hj, e]
   rw [if_pos he]; rfl
  ·refine .inr ⟨?_, fun K => ?_⟩
   ·rw [if_neg he]
    cases bigAt (l.drop (k + 1)) n with
    | none => rfl
    | some i => simp only [Option.map_some]; congr 3; omega
   ·simp (disch := omega) only [g.ground_Ground_Carve_l0, ↓gd_ige, ↓gd_nlt, ↓gd_nle, ↓gd_neq, ↓gd_ieq, ↓gd_ine, Int.toNat_natCast, br_lss_t, br_lss_f, br_leq_t, br_leq_f, br_eql_t, br_eql_f, br_not, br_true, br_false, bd_some, opt_some, opt_none, ↓jn_eq, iadd_s, isub_s, imul_s, wrp_s, wrp_u, irem_p, iquo_p, zN_c, len_d, nN_c, nN_d, nadd, nsub, hj, e]
    rfl
 ·simp
theorem Carve_none {r2 : T2} {r4 : T4} {gr : Nat} {fr en : Int} {l : List Xt} (h : GRel r2 r4 gr fr en l) {n : Int} (hn : 1 ≤ n ∧ n ≤ 65536 ∧ n % 8 = 0) (hl : l.length ≤ 10000) (hb : bigAt l n = none) :
  g.ground_Ground_Carve gr n r2 r4 = some ((0, (false, ())), (r2, (r4, ()))) := by
 obtain ⟨fo, h2, h4⟩ := h
 have e2 : ∀ d, nth d r2 gr = (fr, (en, fo)) := fun d => nth_some h2
 have hr : irem n 8 = 0 := by rw [irem_p (by omega)]; exact hn.2.2
 unfold g.ground_Ground_Carve
 rcases h4 with ⟨rfl, rfl⟩ | ⟨j, rfl, hj⟩
 ·rw [e2, hr]
  repeat (refine HS ?_)
  rw [loop3]
  unfold g.ground_Ground_Carve_l1
  repeat (refine HS ?_)
  rfl
 ·rw [e2, hr]
  repeat (refine HS ?_)
  refine Eq.trans (carve_l0_s r4 n l j _ hj hl) ?_
  rw [hb]
  repeat (refine HS ?_)
  rfl
theorem Carve_some {r2 : T2} {r4 : T4} {gr : Nat} {fr en : Int} {l : List Xt} (h : GRel r2 r4 gr fr en l) {n : Int} (hn : 1 ≤ n ∧ n ≤ 65536 ∧ n % 8 = 0) (hx : ∀ x ∈ l, xtOk x) (hl : l.length ≤ 10000) {i : Nat} (hb : bigAt l n = some i) :
  ∃ r2' r4', g.ground_Ground_Carve gr n r2 r4 = some (((l.getD i (0, 0)).1, (true, ())), (r2', (r4', ()))) ∧ GRel r2' r4' gr fr en (if (l.getD i (0, 0)).2 = n then l.eraseIdx i else l.set i ((l.getD i (0, 0)).1 + n, (l.getD i (0, 0)).2 - n)) := by
 obtain ⟨fo, h2, h4⟩ := h
 have e2 : ∀ d, nth d r2 gr = (fr, (en, fo)) := fun d => nth_some h2
 have hr : irem n 8 = 0 := by rw [irem_p (by omega)]; exact hn.2.2
 obtain ⟨hi, hbig⟩ := bigAt_lt hb
 have hxi : xtOk (l.getD i (0, 0)) := by rw [List.getD_eq_getElem?_getD, List.getElem?_eq_getElem hi]; exact hx _ (List.getElem_mem hi)
 generalize hg : l.getD i (0, 0) = x at *
 have e0 : nth (0, 0) l i = x := hg
 obtain ⟨k1, k2, k3⟩ := hxi
 rcases h4 with ⟨rfl, rfl⟩ | ⟨j, rfl, hj⟩
 ·cases hi
 ·unfold g.ground_Ground_Carve
  rw [e2, hr]
  have nni : nN (i : Int) = i := rfl
  have eU : updF (0, 0) (updF (0, 0) l i fun r12 => (iadd IntKind.i64 (nth (0, 0) l i).1 n, r12.2)) i (fun r13 => (r13.1, isub IntKind.i64 (nth (0, 0) l i).2 n)) = l.set i (x.1 + n, x.2 - n) := by
   unfold updF
   rw [nth_self hi, e0, iadd_s (by omega), isub_s (by omega)]
   simp only [upd, List.set_set]
  have e1 : nth (0, 0) (l.set i (x.1 + n, x.2 - n)) i = (x.1 + n, x.2 - n) := nth_self hi
  have sl : (l.set i (x.1 + n, x.2 - n)).length = l.length := List.length_set
  by_cases hz : x.2 = n
  ·refine ⟨?r2, ?r4, ?eq, ?rel⟩
   case eq =>
    repeat (refine HS ?_)
    refine Eq.trans (carve_l0_s r4 n l j _ hj hl) ?_
    rw [hb]
    simp only [nni, e0]
    repeat (refine HS ?_)
    rw [eU]
    rw [e1, br_eql_t (show (x.1 + n, x.2 - n).2 = 0 by simp only; omega)]
    repeat (refine HS ?_)
    rw [e0]
   case rel =>
    refine ⟨some _, (upd_at h2).trans (by rw [e2]), .inr ⟨_, rfl, ?_⟩⟩
    have ti : ((i : Int) + 1).toNat = i + 1 := by omega
    simp (disch := omega) only [iadd_s, isub_s, imul_s, wrp_s, wrp_u, irem_p, iquo_p, zN_c, len_d, nN_c, nN_d, nadd, nsub, Int.toNat_natCast, List.length_nil, List.length_singleton, List.length_cons, List.length_map, tk_len, dr_len, rep_len, lenc, updF_len, List.length_set, sl, ti, Nat.sub_zero, Nat.min_self, Nat.zero_add]
    rw [rwA_cat, if_pos (by simp [upd]), if_pos hz]
    rw [del_list (by rw [sl]; exact hi) (by rw [sl]) rfl rfl, List.eraseIdx_set_eq]
  ·refine ⟨?s2, ?s4, ?eq2, ?rel2⟩
   case eq2 =>
    repeat (refine HS ?_)
    refine Eq.trans (carve_l0_s r4 n l j _ hj hl) ?_
    rw [hb]
    simp only [nni, e0]
    repeat (refine HS ?_)
    rw [eU]
    rw [e1, br_eql_f (show ¬ (x.1 + n, x.2 - n).2 = 0 by simp only; omega)]
    repeat (refine HS ?_)
    rw [e0]
   case rel2 =>
    refine ⟨some j, h2, .inr ⟨j, rfl, ?_⟩⟩
    rw [if_neg hz]
    exact rwA_self (rwA_self hj)
end Go.Proofs.YtihiooaimdoapaaGreat
set_option linter.unusedVariables false
set_option linter.unusedSimpArgs false
namespace Go.Proofs.YtihiooaimdoapaaGreat
open Go.Bm Go.Pen
noncomputable def giveBody (a0 : Nat) (all : List Xt) (k : (((Int × Unit) × (Unit × (Unit × (Unit × (T2 × (T4 × Unit)))))) → (Option ((Int × Unit) × (T2 × (T4 × Unit)))))) (s : ((Int × Unit) × (Unit × (Unit × (Unit × (T2 × (T4 × Unit))))))) : (Option ((Int × Unit) × (T2 × (T4 × Unit)))) := (br (ilss s.1.1 (zN (len all))) (gd (ige s.1.1) (gd (nlt (nN s.1.1) (len all)) (opt (nth (0, (0, none)) s.2.2.2.2.1 a0).2.2 (jn (fun (k0 : ((Bool × Unit) × (Unit × (Unit × (Unit × Unit)))) → _) => (k0 ((false, ()), ((), ((), ((), ())))))) (fun (s1 : ((Bool × Unit) × (Unit × (Unit × (Unit × Unit))))) => (br s1.1.1 (opt (nth (0, (0, none)) s.2.2.2.2.1 a0).2.2 none (fun p2 => (bd (rwA s.2.2.2.2.2.1 p2) (fun p3 => (gd (ige (-1)) (gd (nlt 0 (len p3)) (bd (rwA s.2.2.2.2.2.1 p2) (fun p4 => (bd (rwA s.2.2.2.2.2.1 p2) (fun p5 => (gd (ige (-1)) (gd (nlt 0 (len p5)) (bd (rwA s.2.2.2.2.2.1 p2) (fun p6 => (k (((iadd IntKind.i64 s.1.1 1), ()), ((), ((), ((), (s.2.2.2.2.1, ((upd s.2.2.2.2.2.1 p2 (some (updF (0, 0) p6 0 (fun r7 => (r7.1, (iadd IntKind.i64 (nth (0, 0) p4 0).2 (nth (0, 0) all (nN s.1.1)).2)))))), ()))))))))))))))))))))) (opt (nth (0, (0, none)) s.2.2.2.2.1 a0).2.2 (gd (nle (len [((nth (0, 0) all (nN s.1.1)).1, (nth (0, 0) all (nN s.1.1)).2)]) 16777216) (k (((iadd IntKind.i64 s.1.1 1), ()), ((), ((), ((), ((updF (0, (0, none)) s.2.2.2.2.1 a0 (fun r8 => (r8.1, (r8.2.1, (some (len s.2.2.2.2.2.1)))))), ((cat s.2.2.2.2.2.1 [(some [((nth (0, 0) all (nN s.1.1)).1, (nth (0, 0) all (nN s.1.1)).2)])]), ())))))))) (fun p9 => (bd (rwA s.2.2.2.2.2.1 p9) (fun p10 => (gd (nle (nadd (len p10) (len [((nth (0, 0) all (nN s.1.1)).1, (nth (0, 0) all (nN s.1.1)).2)])) 16777216) (gd (nlt p9 (len s.2.2.2.2.2.1)) (k (((iadd IntKind.i64 s.1.1 1), ()), ((), ((), ((), ((updF (0, (0, none)) s.2.2.2.2.1 a0 (fun r11 => (r11.1, (r11.2.1, (some (len (upd s.2.2.2.2.2.1 p9 none))))))), ((cat (upd s.2.2.2.2.2.1 p9 none) [(some (cat p10 [((nth (0, 0) all (nN s.1.1)).1, (nth (0, 0) all (nN s.1.1)).2)]))]), ())))))))))))))))) (fun p12 => (bd (rwA s.2.2.2.2.2.1 p12) (fun p13 => (jn (fun (k14 : ((Bool × Unit) × (Unit × (Unit × (Unit × Unit)))) → _) => (br (ileq 0 (isub IntKind.i64 (zN (len p13)) 1)) (opt (nth (0, (0, none)) s.2.2.2.2.1 a0).2.2 none (fun p15 => (bd (rwA s.2.2.2.2.2.1 p15) (fun p16 => (gd (ige (isub IntKind.i64 (zN (len p13)) 1)) (gd (nlt (nN (isub IntKind.i64 (zN (len p13)) 1)) (len p16)) (bd (rwA s.2.2.2.2.2.1 p15) (fun p17 => (opt (nth (0, (0, none)) s.2.2.2.2.1 a0).2.2 none (fun p18 => (bd (rwA s.2.2.2.2.2.1 p18) (fun p19 => (gd (ige (isub IntKind.i64 (zN (len p13)) 1)) (gd (nlt (nN (isub IntKind.i64 (zN (len p13)) 1)) (len p19)) (bd (rwA s.2.2.2.2.2.1 p18) (fun p20 => (k14 (((ieql (iadd IntKind.i64 (nth (0, 0) p17 (nN (isub IntKind.i64 (zN (len p13)) 1))).1 (nth (0, 0) p20 (nN (isub IntKind.i64 (zN (len p13)) 1))).2) (nth (0, 0) all (nN s.1.1)).1), ()), ((), ((), ((), ()))))))))))))))))))))) (k14 ((false, ()), ((), ((), ((), ()))))))) (fun (s21 : ((Bool × Unit) × (Unit × (Unit × (Unit × Unit))))) => (br s21.1.1 (opt (nth (0, (0, none)) s.2.2.2.2.1 a0).2.2 none (fun p22 => (bd (rwA s.2.2.2.2.2.1 p22) (fun p23 => (gd (ige (isub IntKind.i64 (zN (len p13)) 1)) (gd (nlt (nN (isub IntKind.i64 (zN (len p13)) 1)) (len p23)) (bd (rwA s.2.2.2.2.2.1 p22) (fun p24 => (bd (rwA s.2.2.2.2.2.1 p22) (fun p25 => (gd (ige (isub IntKind.i64 (zN (len p13)) 1)) (gd (nlt (nN (isub IntKind.i64 (zN (len p13)) 1)) (len p25)) (bd (rwA s.2.2.2.2.2.1 p22) (fun p26 => (k (((iadd IntKind.i64 s.1.1 1), ()), ((), ((), ((), (s.2.2.2.2.1, ((upd s.2.2.2.2.2.1 p22 (some (updF (0, 0) p26 (nN (isub IntKind.i64 (zN (len p13)) 1)) (fun r27 => (r27.1, (iadd IntKind.i64 (nth (0, 0) p24 (nN (isub IntKind.i64 (zN (len p13)) 1))).2 (nth (0, 0) all (nN s.1.1)).2)))))), ()))))))))))))))))))))) (opt (nth (0, (0, none)) s.2.2.2.2.1 a0).2.2 (gd (nle (len [((nth (0, 0) all (nN s.1.1)).1, (nth (0, 0) all (nN s.1.1)).2)]) 16777216) (k (((iadd IntKind.i64 s.1.1 1), ()), ((), ((), ((), ((updF (0, (0, none)) s.2.2.2.2.1 a0 (fun r11 => (r11.1, (r11.2.1, (some (len s.2.2.2.2.2.1)))))), ((cat s.2.2.2.2.2.1 [(some [((nth (0, 0) all (nN s.1.1)).1, (nth (0, 0) all (nN s.1.1)).2)])]), ())))))))) (fun p28 => (bd (rwA s.2.2.2.2.2.1 p28) (fun p29 => (gd (nle (nadd (len p29) (len [((nth (0, 0) all (nN s.1.1)).1, (nth (0, 0) all (nN s.1.1)).2)])) 16777216) (gd (nlt p28 (len s.2.2.2.2.2.1)) (k (((iadd IntKind.i64 s.1.1 1), ()), ((), ((), ((), ((updF (0, (0, none)) s.2.2.2.2.1 a0 (fun r30 => (r30.1, (r30.2.1, (some (len (upd s.2.2.2.2.2.1 p28 none))))))), ((cat (upd s.2.2.2.2.2.1 p28 none) [(some (cat p29 [((nth (0, 0) all (nN s.1.1)).1, (nth (0, 0) all (nN s.1.1)).2)]))]), ())))))))))))))))))))))) (some ((0, ()), (s.2.2.2.2.1, (s.2.2.2.2.2.1, ())))))
theorem give_l0 (a0 : Nat) (a1 a2 : Int) (v0 v1 v2 v3) : g.ground_Ground_Give_l0 a0 a1 a2 v0 v1 v2 v3 = giveBody a0 (cat (cat (tk (nsub (nN v0.1.1) 0) (dr 0 v1)) [(a1, a2)]) (tk (nsub (len v2) (nN v0.1.1)) (dr (nN v0.1.1) v3))) := rfl
theorem give_l2 (a0 : Nat) (a1 a2 : Int) (v0 v1 v2) : g.ground_Ground_Give_l2 a0 a1 a2 v0 v1 v2 = giveBody a0 (cat [(a1, a2)] (tk (nsub (len v0) (nN v1.1.1)) (dr (nN v1.1.1) v2))) := rfl
theorem give_l3 (a0 : Nat) (a1 a2 : Int) : g.ground_Ground_Give_l3 a0 a1 a2 = giveBody a0 (cat [(a1, a2)] []) := rfl
theorem joinX_snoc (init : List Xt) (y x : Xt) : joinX (init ++ [y]) x = if y.1 + y.2 = x.1 then init ++ [(y.1, y.2 + x.2)] else init ++ [y] ++ [x] := by
 unfold joinX; simp
theorem nth_snoc {α : Type} {d y : α} {l : List α} {i : Nat} (h : i = l.length) : nth d (l ++ [y]) i = y := by subst h; exact nth_last
theorem upd_snoc {α : Type} {x y : α} {l : List α} {i : Nat} (h : i = l.length) : upd (l ++ [y]) i x = l ++ [x] := by subst h; unfold upd; simp
theorem giveBody_step {r2 : T2} {r4 : T4} {gr : Nat} {fr en : Int} {acc all : List Xt} {k : Nat} (h : GRel r2 r4 gr fr en acc) (hk : k < all.length) (hl : all.length ≤ 10001) (ha : acc.length ≤ k) (hx : xtOk all[k]) (hxs : ∀ y ∈ acc, xtOk y) :
  ∃ r2' r4', GRel r2' r4' gr fr en (joinX acc all[k]) ∧ ∀ K, giveBody gr all K (((k : Int), ()), ((), ((), ((), (r2, (r4, ())))))) = K ((((k + 1 : Nat) : Int), ()), ((), ((), ((), (r2', (r4', ())))))) := by
 obtain ⟨fo, h2, h4⟩ := h
 have e2 : ∀ d, nth d r2 gr = (fr, (en, fo)) := fun d => nth_some h2
 have e : ∀ d, nth d all (nN (k : Int)) = all[k] := fun d => nth_lt hk
 have ek : iadd IntKind.i64 (k : Int) 1 = ((k + 1 : Nat) : Int) := by rw [iadd_s (by omega)]; omega
 rcases h4 with ⟨rfl, rfl⟩ | ⟨j, rfl, hj⟩
 ·refine ⟨?r2, ?r4, ?rel, fun K => ?eq⟩
  case eq =>
   unfold giveBody
   simp only [e2, e, ek]
   repeat (refine HS ?_)
   rfl
  case rel =>
   refine ⟨some r4.length, upd_at h2 |>.trans (by rw [e2]; rfl), .inr ⟨_, rfl, ?_⟩⟩
   exact rwA_last
 ·have hjl := rwA_lt hj
  rcases List.eq_nil_or_concat acc with rfl | ⟨init, y, rfl⟩
  ·refine ⟨?s2, ?s4, ?rel2, fun K => ?eq2⟩
   case eq2 =>
    unfold giveBody
    simp only [e2, e, ek]
    repeat (refine HS ?_)
    rfl
   case rel2 =>
    refine ⟨some (len (upd r4 j none)), upd_at h2 |>.trans (by rw [e2]), .inr ⟨_, rfl, ?_⟩⟩
    exact rwA_last
  ·simp only [List.concat_eq_append] at *
   have hle : (init ++ [y]).length = init.length + 1 := by simp
   have il : isub IntKind.i64 (zN (len (init ++ [y]))) 1 = (init.length : Int) := by
    rw [zN_c, len_d, hle, isub_s (by omega)]; omega
   have hy := hxs y (by simp)
   have ey : ∀ d, nth d (init ++ [y]) (nN (init.length : Int)) = y := fun d => nth_snoc (nN_c _)
   have ea : iadd IntKind.i64 y.1 y.2 = y.1 + y.2 := iadd_s (by unfold xtOk at hy; omega)
   have eb : iadd IntKind.i64 y.2 all[k].2 = y.2 + all[k].2 := iadd_s (by unfold xtOk at hy hx; omega)
   rw [joinX_snoc]
   by_cases hq : y.1 + y.2 = all[k].1
   ·rw [if_pos hq]
    refine ⟨?u2, ?u4, ?rel3, fun K => ?eq3⟩
    case eq3 =>
     unfold giveBody
     simp only [e2, e, ek]
     iterate 12 (try (refine HS ?_))
     simp only [il]
     repeat (refine HS ?_)
     simp only [ey, ea, eb]
     repeat (refine HS ?_)
     rfl
    case rel3 =>
     refine ⟨some j, h2, .inr ⟨j, rfl, (rwA_self hj).trans ?_⟩⟩
     unfold updF
     rw [ey, upd_snoc (nN_c _)]
     show some (init ++ [(y.1, iadd IntKind.i64 y.2 all[k].2)]) = _
     rw [eb]
   ·rw [if_neg hq]
    refine ⟨?v2, ?v4, ?rel4, fun K => ?eq4⟩
    case eq4 =>
     unfold giveBody
     simp only [e2, e, ek]
     iterate 12 (try (refine HS ?_))
     simp only [il]
     repeat (refine HS ?_)
     simp only [ey, ea, eb]
     repeat (refine HS ?_)
     rfl
    case rel4 =>
     refine ⟨some (len (upd r4 j none)), upd_at h2 |>.trans (by rw [e2]), .inr ⟨_, rfl, ?_⟩⟩
     exact rwA_last
theorem giveLoop {gr : Nat} {fr en : Int} {all : List Xt} (hl : all.length ≤ 10001) (hx : ∀ y ∈ all, xtOk y) : ∀ (m k : Nat) (r2 : T2) (r4 : T4), k + m = all.length → GRel r2 r4 gr fr en (mergeX [] (all.take k)) →
  ∃ r2' r4', GRel r2' r4' gr fr en (mergeX [] all) ∧ Run (giveBody gr all) (((k : Int), ()), ((), ((), ((), (r2, (r4, ())))))) (some ((0, ()), (r2', (r4', ())))) m
 | 0, k, r2, r4, hk, h => by
  obtain rfl : k = all.length := by omega
  rw [List.take_length] at h
  refine ⟨r2, r4, h, Run.stop 0 fun K => ?_⟩
  unfold giveBody
  repeat (refine HS ?_)
  rfl
 | m + 1, k, r2, r4, hk, h => by
  have hk' : k < all.length := by omega
  have ho : ∀ y ∈ mergeX [] (all.take k), xtOk y := mergeX_ok _ _ (by simp) (fun y hy => hx y (List.mem_of_mem_take hy))
  have hn : (mergeX [] (all.take k)).length ≤ k := by have := mergeX_len (all.take k) []; simp at this; omega
  obtain ⟨r2', r4', h', e⟩ := giveBody_step h hk' hl hn (hx _ (List.getElem_mem hk')) ho
  rw [← mergeX_take all k hk'] at h'
  obtain ⟨r2'', r4'', h'', r⟩ := giveLoop hl hx m (k + 1) r2' r4' (by omega) h'
  exact ⟨r2'', r4'', h'', Run.step r e⟩
theorem giveLoop_s {gr : Nat} {fr en : Int} {all : List Xt} {r2 : T2} {r4 : T4} (h : GRel r2 r4 gr fr en []) (hl : all.length ≤ 10001) (hx : ∀ y ∈ all, xtOk y) :
  ∃ r2' r4', GRel r2' r4' gr fr en (mergeX [] all) ∧ loop (giveBody gr all) ((0, ()), ((), ((), ((), (r2, (r4, ())))))) = some ((0, ()), (r2', (r4', ()))) := by
 obtain ⟨r2', r4', h', r⟩ := giveLoop hl hx all.length 0 r2 r4 (by omega) h
 exact ⟨r2', r4', h', r.loop (by unfold big; omega)⟩
theorem give_l4_s (a1 : Int) (d1 : T4) (l : List Xt) (j : Nat) (v2) (hj : rwA d1 j = some l) (hl : l.length ≤ 10000) (hx : ∀ x ∈ l, xtOk x) :
  loop (g.ground_Ground_Give_l4 a1 d1 l j v2) ((0, ()), ((), ((), ((), ())))) = v2 (((if behind l a1 < l.length then (behind l a1 : Int) else -1), ()), ((), ((), ((), ())))) := by
 refine (loop_up (fun k => ((((k : Nat) : Int), ()), ((), ((), ((), ()))))) (fun k => v2 (((if k + behind (l.drop k) a1 < l.length then ((k + behind (l.drop k) a1 : Nat) : Int) else -1), ()), ((), ((), ((), ()))))) l.length (by unfold big; omega) (fun K => ?_) (fun k hk => ?_)).trans ?_
 ·simp (disch := omega) only [g.ground_Ground_Give_l4, ↓gd_ige, ↓gd_nlt, ↓gd_nle, ↓gd_neq, ↓gd_ieq, ↓gd_ine, Int.toNat_natCast, br_lss_t, br_lss_f, br_leq_t, br_leq_f, br_eql_t, br_eql_f, br_not, br_true, br_false, bd_some, opt_some, opt_none, ↓jn_eq, iadd_s, isub_s, imul_s, wrp_s, wrp_u, irem_p, iquo_p, zN_c, len_d, nN_c, nN_d, nadd, nsub]
  rw [if_neg (by omega)]
 ·rw [behind_drop l a1 k hk]
  have e : nth (0, 0) l k = l[k] := nth_lt hk
  have hx' := hx _ (List.getElem_mem hk)
  unfold xtOk at hx'
  by_cases he : a1 < l[k].1 + l[k].2
  ·refine .inl (fun K => ?_)
   simp (disch := omega) only [g.ground_Ground_Give_l4, ↓gd_ige, ↓gd_nlt, ↓gd_nle, ↓gd_neq, ↓gd_ieq, ↓gd_ine, Int.toNat_natCast, br_lss_t, br_lss_f, br_leq_t, br_leq_f, br_eql_t, br_eql_f, br_not, br_true, br_false, bd_some, opt_some, opt_none, ↓jn_eq, iadd_s, isub_s, imul_s, wrp_s, wrp_u, irem_p, iquo_p, zN_c, len_d, nN_c, nN_d, nadd, nsub, hj, e]
   rw [if_pos he, if_pos (by omega)]; rfl
  ·refine .inr ⟨?_, fun K => ?_⟩
   ·rw [if_neg he]
    have e3 : k + (behind (l.drop (k + 1)) a1 + 1) = k + 1 + behind (l.drop (k + 1)) a1 := by omega
    rw [e3]
   ·simp (disch := omega) only [g.ground_Ground_Give_l4, ↓gd_ige, ↓gd_nlt, ↓gd_nle, ↓gd_neq, ↓gd_ieq, ↓gd_ine, Int.toNat_natCast, br_lss_t, br_lss_f, br_leq_t, br_leq_f, br_eql_t, br_eql_f, br_not, br_true, br_false, bd_some, opt_some, opt_none, ↓jn_eq, iadd_s, isub_s, imul_s, wrp_s, wrp_u, irem_p, iquo_p, zN_c, len_d, nN_c, nN_d, nadd, nsub, hj, e]
    rfl
 ·simp
theorem GRel.nil {r2 : T2} {r4 : T4} {gr : Nat} {fr en : Int} {l : List Xt} (h : GRel r2 r4 gr fr en l) : GRel (updF (0, (0, none)) r2 gr (fun r => (r.1, (r.2.1, none)))) r4 gr fr en [] := by
 obtain ⟨fo, h2, _⟩ := h
 have e2 : ∀ d, nth d r2 gr = (fr, (en, fo)) := fun d => nth_some h2
 exact ⟨none, upd_at h2 |>.trans (by rw [e2]), .inl ⟨rfl, rfl⟩⟩
theorem Give_s {r2 : T2} {r4 : T4} {gr : Nat} {fr en : Int} {l l' : List Xt} {a n : Int} (h : GRel r2 r4 gr fr en l) (hf : 0 ≤ fr ∧ 0 ≤ en ∧ en ≤ 131072) (ha : 0 ≤ a ∧ a ≤ 1048576) (hn : 0 ≤ n ∧ n ≤ 1048576) (hx : ∀ x ∈ l, xtOk x) (hl : l.length ≤ 10000) (hg : give fr en l a n = some l') :
  ∃ r2' r4', g.ground_Ground_Give gr a n r2 r4 = some ((0, ()), (r2', (r4', ()))) ∧ GRel r2' r4' gr fr en l' := by
 have hnil := h.nil
 obtain ⟨fo, h2, h4⟩ := h
 have e2 : ∀ d, nth d r2 gr = (fr, (en, fo)) := fun d => nth_some h2
 unfold give at hg
 split at hg
 ·cases hg
 rename_i hc
 split at hg
 ·cases hg
 rename_i hd
 cases hg
 have hc1 : 1 ≤ n := by omega
 have hc2 : n % 8 = 0 := by omega
 have hc3 : a % 8 = 0 := by omega
 have hc4 : fr ≤ a ∧ a ≤ en - 1 := by omega
 have hc5 : n ≤ en - a := by omega
 have hw : within a fr (isub IntKind.i64 en 1) = true := by
  rw [isub_s (by omega)]; simp [within, hc4.1, hc4.2]
 have hall : ∀ y ∈ l.take (behind l a) ++ [(a, n)] ++ l.drop (behind l a), xtOk y := by
  intro y hy
  simp only [List.mem_append, List.mem_singleton] at hy
  rcases hy with (hy | rfl) | hy
  ·exact hx _ (List.mem_of_mem_take hy)
  ·unfold xtOk; simp only; omega
  ·exact hx _ (List.mem_of_mem_drop hy)
 have hlen : (l.take (behind l a) ++ [(a, n)] ++ l.drop (behind l a)).length ≤ 10001 := by
  have := behind_le l a
  simp; omega
 obtain ⟨r2', r4', hr, hloop⟩ := giveLoop_s hnil hlen hall
 refine ⟨r2', r4', ?_, hr⟩
 unfold g.ground_Ground_Give
 rcases h4 with ⟨rfl, rfl⟩ | ⟨j, rfl, hj⟩
 ·simp only [e2]
  repeat (refine HS ?_)
  try rw [hw]
  repeat (refine HS ?_)
  rw [loop3]
  unfold g.ground_Ground_Give_l5
  repeat (refine HS ?_)
  rw [give_l3]
  exact hloop
 ·have hb := behind_le l a
  simp only [e2]
  repeat (refine HS ?_)
  try rw [hw]
  repeat (refine HS ?_)
  refine Eq.trans (give_l4_s a r4 l j _ hj hl hx) ?_
  generalize hi : behind l a = i at *
  have a0 : cat (cat (tk (nsub (nN (i : Int)) 0) (dr 0 l)) [(a, n)]) (tk (nsub (len l) (nN (i : Int))) (dr (nN (i : Int)) l)) = l.take i ++ [(a, n)] ++ l.drop i := by
   unfold cat tk dr nsub len nN
   rw [Int.toNat_natCast, Nat.sub_zero, List.drop_zero, List.take_of_length_le (l := l.drop i) (by simp)]
  have a2 : i = 0 → cat [(a, n)] (tk (nsub (len l) (nN (i : Int))) (dr (nN (i : Int)) l)) = l.take i ++ [(a, n)] ++ l.drop i := by
   rintro rfl
   unfold cat tk dr nsub len nN
   simp
  have k0 : (fun r : Int × (Int × Option Nat) => (r.1, (r.2.1, (none : Option Nat)))) = (fun r => (r.1, (r.2.1, none))) := rfl
  have hs : iadd IntKind.i64 a n = a + n := iadd_s (by omega)
  by_cases hlt : i < l.length
  ·rw [if_pos hlt]
   have e : ∀ d, nth d l (nN (i : Int)) = l[i] := fun d => nth_lt hlt
   have hd' : ¬ l[i].1 < a + n := by
    intro hh
    refine hd ⟨hlt, ?_⟩
    rw [List.getD_eq_getElem?_getD, List.getElem?_eq_getElem hlt]
    exact hh
   by_cases h0 : i = 0
   ·repeat (refine HS ?_)
    rw [e, hs]
    repeat (refine HS ?_)
    rw [give_l2]
    exact (congrArg (fun al => loop (giveBody gr al) _) (a2 h0)).trans hloop
   ·repeat (refine HS ?_)
    rw [e, hs]
    repeat (refine HS ?_)
    rw [give_l0]
    exact (congrArg (fun al => loop (giveBody gr al) _) a0).trans hloop
  ·rw [if_neg hlt]
   obtain rfl : i = l.length := by omega
   by_cases h0 : l.length = 0
   ·repeat (refine HS ?_)
    rw [give_l2]
    exact (congrArg (fun al => loop (giveBody gr al) _) (a2 h0)).trans hloop
   ·repeat (refine HS ?_)
    rw [give_l0]
    exact (congrArg (fun al => loop (giveBody gr al) _) a0).trans hloop
end Go.Proofs.YtihiooaimdoapaaGreat
