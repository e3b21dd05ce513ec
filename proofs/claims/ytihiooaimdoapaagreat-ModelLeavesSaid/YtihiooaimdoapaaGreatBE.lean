/- What is known of the program's types. -/
import Derived.Test.YtihiooaimdoapaaGreatBnR
import Derived.Test.YtihiooaimdoapaaGreatRows
set_option linter.unusedVariables false
set_option linter.unusedSimpArgs false
namespace Go.Proofs.YtihiooaimdoapaaGreat
open Go.Bm
set_option maxRecDepth 20000
def R0 : RK := (.box (.pair (.pair (.int .i64) (.pair (.int .i64) (.pair (.int .i64) (.int .i64)))) (.pair (.slc (.slc (.pair (.int .u8) (.pair (.int .i64) (.int .i64))))) (.pair (.ptr 1) (.pair (.rsl 5 3) (.pair (.rsl 6 5) (.mp 7)))))))
def R1 : RK := (.box (.pair (.rsl 3 6) (.ptr 2)))
def R2 : RK := (.box (.pair (.int .i64) (.pair (.int .i64) (.rsl 4 2))))
def R3 : RK := (.row (.pair (.pair (.int .i64) (.pair (.int .i64) (.pair (.int .i64) (.int .i64)))) (.pair (.int .i64) (.int .i64))))
def R4 : RK := (.row (.pair (.int .i64) (.int .i64)))
def R5 : RK := (.row (.pair (.int .i64) (.pair (.int .u64) (.rsl 9 1))))
def R6 : RK := (.row (.pair (.arr 4 (.int .u64)) (.slc (.pair (.int .i64) .bool))))
def R7 : RK := (.map true (.pair (.int .i64) (.pair (.int .i64) (.int .i64))) false (.ptr 8))
def R8 : RK := (.box (.pair (.pair (.int .i64) (.pair (.int .i64) (.int .i64))) (.pair (.int .i64) (.pair (.rsl 10 1) .bool))))
def R9 : RK := (.row (.ptr 8))
def R10 : RK := (.row (.int .u64))
def R11 : RK := (.box (.pair (.pair (.int .i64) (.pair (.int .i64) (.pair (.int .i64) (.int .i64)))) (.pair (.slc (.slc (.pair (.int .u8) (.pair (.int .i64) (.int .i64))))) (.pair (.ptr 12) (.pair (.rsl 17 5) (.pair (.arr 8 (.int .u64)) (.pair (.arr 8 (.int .i64)) (.pair (.arr 4 (.arr 4 (.int .u64))) (.arr 4 (.slc (.pair (.int .i64) .bool)))))))))))
def R12 : RK := (.box (.pair (.rsl 14 4) (.pair (.rsl 15 2) (.ptr 13))))
def R13 : RK := (.box (.pair (.int .i64) (.rsl 16 1)))
def R14 : RK := (.row (.pair (.int .i64) (.pair (.int .i64) (.pair (.int .i64) (.int .i64)))))
def R15 : RK := (.row (.pair (.int .i64) (.int .i64)))
def R16 : RK := (.row .bool)
def R17 : RK := (.row (.pair (.int .i64) (.pair (.int .i64) (.pair (.int .i64) (.pair (.rsl 18 1) .bool)))))
def R18 : RK := (.row (.int .u64))
def ty1 : TyE := ⟨.func #[] #[] false, 1, 8, .nilFunc, [], none, false⟩
theorem te1 : TyOk Tryz.prog 1 ty1 := tyOk_of Tryz.underlying1 (ti_of (by kernel_rfl) rfl rfl) (fun _ h => by cases h) (noTy rfl)
def ty2 : TyE := ⟨.int .i64, 1, 8, .int .i64 0, [], (some (.int .i64)), false⟩
theorem te2 : TyOk Tryz.prog 2 ty2 := tyOk_of Tryz.underlying2 (ti_of (by kernel_rfl) rfl rfl) (fun _ h => by cases h) (someTy rfl (by kernel_rfl) (by kernel_rfl))
def ty3 : TyE := ⟨.int .i64, 1, 8, .int .i64 0, [], (some (.int .i64)), false⟩
theorem te3 : TyOk Tryz.prog 3 ty3 := tyOk_of Tryz.underlying3 (ti_of (by kernel_rfl) rfl rfl) (fun _ h => by cases h) (someTy rfl (by kernel_rfl) (by kernel_rfl))
def ty4 : TyE := ⟨.bool, 1, 1, .bool false, [], (some .bool), false⟩
theorem te4 : TyOk Tryz.prog 4 ty4 := tyOk_of Tryz.underlying4 (ti_of (by kernel_rfl) rfl rfl) (fun _ h => by cases h) (someTy rfl (by kernel_rfl) (by kernel_rfl))
def ty5 : TyE := ⟨.int .u8, 1, 1, .int .u8 0, [], (some (.int .u8)), false⟩
theorem te5 : TyOk Tryz.prog 5 ty5 := tyOk_of Tryz.underlying5 (ti_of (by kernel_rfl) rfl rfl) (fun _ h => by cases h) (someTy rfl (by kernel_rfl) (by kernel_rfl))
def ty6 : TyE := ⟨.int .u8, 1, 1, .int .u8 0, [], (some (.int .u8)), false⟩
theorem te6 : TyOk Tryz.prog 6 ty6 := tyOk_of Tryz.underlying6 (ti_of (by kernel_rfl) rfl rfl) (fun _ h => by cases h) (someTy rfl (by kernel_rfl) (by kernel_rfl))
def ty7 : TyE := ⟨.struct #[⟨"x", 2, 0, false, "", "runtime", 0⟩, ⟨"y", 3, 1, false, "", "runtime", 8⟩, ⟨"signed", 4, 2, false, "", "runtime", 16⟩, ⟨"code", 6, 3, false, "", "runtime", 17⟩], 4, 24, .agg #[.int .i64 0, .int .i64 0, .bool false, .int .u8 0], [(0, 1), (1, 1), (2, 1), (3, 1)], (some (.pair (.int .i64) (.pair (.int .i64) (.pair .bool (.int .u8))))), false⟩
theorem te7 : TyOk Tryz.prog 7 ty7 := tyOk_of Tryz.underlying7 (ti_of (by kernel_rfl) rfl rfl) (fun fs h w => by cases h; kernel_rfl) (someTy rfl (by kernel_rfl) (by kernel_rfl))
def ty8 : TyE := ⟨.struct #[⟨"x", 2, 0, false, "", "runtime", 0⟩, ⟨"y", 3, 1, false, "", "runtime", 8⟩, ⟨"signed", 4, 2, false, "", "runtime", 16⟩, ⟨"code", 6, 3, false, "", "runtime", 17⟩], 4, 24, .agg #[.int .i64 0, .int .i64 0, .bool false, .int .u8 0], [(0, 1), (1, 1), (2, 1), (3, 1)], (some (.pair (.int .i64) (.pair (.int .i64) (.pair .bool (.int .u8))))), false⟩
theorem te8 : TyOk Tryz.prog 8 ty8 := tyOk_of Tryz.underlying8 (ti_of (by kernel_rfl) rfl rfl) (fun fs h w => by cases h; kernel_rfl) (someTy rfl (by kernel_rfl) (by kernel_rfl))
def ty9 : TyE := ⟨.string, 1, 16, .string ByteArray.empty, [], none, false⟩
theorem te9 : TyOk Tryz.prog 9 ty9 := tyOk_of Tryz.underlying9 (ti_of (by kernel_rfl) rfl rfl) (fun _ h => by cases h) (noTy rfl)
def ty10 : TyE := ⟨.string, 1, 16, .string ByteArray.empty, [], none, false⟩
theorem te10 : TyOk Tryz.prog 10 ty10 := tyOk_of Tryz.underlying10 (ti_of (by kernel_rfl) rfl rfl) (fun _ h => by cases h) (noTy rfl)
def ty11 : TyE := ⟨.string, 1, 16, .string ByteArray.empty, [], none, false⟩
theorem te11 : TyOk Tryz.prog 11 ty11 := tyOk_of Tryz.underlying11 (ti_of (by kernel_rfl) rfl rfl) (fun _ h => by cases h) (noTy rfl)
def ty12 : TyE := ⟨.int .u64, 1, 8, .int .u64 0, [], (some (.int .u64)), false⟩
theorem te12 : TyOk Tryz.prog 12 ty12 := tyOk_of Tryz.underlying12 (ti_of (by kernel_rfl) rfl rfl) (fun _ h => by cases h) (someTy rfl (by kernel_rfl) (by kernel_rfl))
def ty13 : TyE := ⟨.struct #[⟨"msg", 9, 0, false, "", "runtime", 0⟩, ⟨"addr", 12, 1, false, "", "runtime", 16⟩], 2, 24, .agg #[.string ByteArray.empty, .int .u64 0], [(0, 1), (1, 1)], none, false⟩
theorem te13 : TyOk Tryz.prog 13 ty13 := tyOk_of Tryz.underlying13 (ti_of (by kernel_rfl) rfl rfl) (fun fs h w => by cases h; kernel_rfl) (noTy rfl)
def ty14 : TyE := ⟨.struct #[⟨"msg", 9, 0, false, "", "runtime", 0⟩, ⟨"addr", 12, 1, false, "", "runtime", 16⟩], 2, 24, .agg #[.string ByteArray.empty, .int .u64 0], [(0, 1), (1, 1)], none, false⟩
theorem te14 : TyOk Tryz.prog 14 ty14 := tyOk_of Tryz.underlying14 (ti_of (by kernel_rfl) rfl rfl) (fun fs h w => by cases h; kernel_rfl) (noTy rfl)
def ty15 : TyE := ⟨.pointer 235, 1, 8, .pointer none, [], none, false⟩
theorem te15 : TyOk Tryz.prog 15 ty15 := tyOk_of Tryz.underlying15 (ti_of (by kernel_rfl) rfl rfl) (fun _ h => by cases h) (noTy rfl)
def ty16 : TyE := ⟨.pointer 238, 1, 8, .pointer none, [], none, false⟩
theorem te16 : TyOk Tryz.prog 16 ty16 := tyOk_of Tryz.underlying16 (ti_of (by kernel_rfl) rfl rfl) (fun _ h => by cases h) (noTy rfl)
def ty17 : TyE := ⟨.pointer 248, 1, 8, .pointer none, [], none, false⟩
theorem te17 : TyOk Tryz.prog 17 ty17 := tyOk_of Tryz.underlying17 (ti_of (by kernel_rfl) rfl rfl) (fun _ h => by cases h) (noTy rfl)
def ty18 : TyE := ⟨.struct #[⟨"typ", 17, 0, false, "", "internal/runtime/maps", 0⟩], 1, 8, .agg #[.pointer none], [(0, 1)], none, false⟩
theorem te18 : TyOk Tryz.prog 18 ty18 := tyOk_of Tryz.underlying18 (ti_of (by kernel_rfl) rfl rfl) (fun fs h w => by cases h; kernel_rfl) (noTy rfl)
def ty19 : TyE := ⟨.struct #[⟨"typ", 17, 0, false, "", "internal/runtime/maps", 0⟩], 1, 8, .agg #[.pointer none], [(0, 1)], none, false⟩
theorem te19 : TyOk Tryz.prog 19 ty19 := tyOk_of Tryz.underlying19 (ti_of (by kernel_rfl) rfl rfl) (fun fs h w => by cases h; kernel_rfl) (noTy rfl)
def ty21 : TyE := ⟨.int .i32, 1, 4, .int .i32 0, [], (some (.int .i32)), false⟩
theorem te21 : TyOk Tryz.prog 21 ty21 := tyOk_of Tryz.underlying21 (ti_of (by kernel_rfl) rfl rfl) (fun _ h => by cases h) (someTy rfl (by kernel_rfl) (by kernel_rfl))
def ty22 : TyE := ⟨.func #[] #[4] false, 1, 8, .nilFunc, [], none, false⟩
theorem te22 : TyOk Tryz.prog 22 ty22 := tyOk_of Tryz.underlying22 (ti_of (by kernel_rfl) rfl rfl) (fun _ h => by cases h) (noTy rfl)
def ty23 : TyE := ⟨.struct #[⟨"Op", 5, 0, false, "", "", 0⟩, ⟨"A", 3, 1, false, "", "", 8⟩, ⟨"B", 3, 2, false, "", "", 16⟩], 3, 24, .agg #[.int .u8 0, .int .i64 0, .int .i64 0], [(0, 1), (1, 1), (2, 1)], (some (.pair (.int .u8) (.pair (.int .i64) (.int .i64)))), false⟩
theorem te23 : TyOk Tryz.prog 23 ty23 := tyOk_of Tryz.underlying23 (ti_of (by kernel_rfl) rfl rfl) (fun fs h w => by cases h; kernel_rfl) (someTy rfl (by kernel_rfl) (by kernel_rfl))
def ty24 : TyE := ⟨.struct #[⟨"Op", 5, 0, false, "", "", 0⟩, ⟨"A", 3, 1, false, "", "", 8⟩, ⟨"B", 3, 2, false, "", "", 16⟩], 3, 24, .agg #[.int .u8 0, .int .i64 0, .int .i64 0], [(0, 1), (1, 1), (2, 1)], (some (.pair (.int .u8) (.pair (.int .i64) (.int .i64)))), false⟩
theorem te24 : TyOk Tryz.prog 24 ty24 := tyOk_of Tryz.underlying24 (ti_of (by kernel_rfl) rfl rfl) (fun fs h w => by cases h; kernel_rfl) (someTy rfl (by kernel_rfl) (by kernel_rfl))
def ty25 : TyE := ⟨.slice 24, 1, 24, .slice none 0 0, [], (some (.slc (.pair (.int .u8) (.pair (.int .i64) (.int .i64))))), false⟩
theorem te25 : TyOk Tryz.prog 25 ty25 := tyOk_of Tryz.underlying25 (ti_of (by kernel_rfl) rfl rfl) (fun _ h => by cases h) (someTy rfl (by kernel_rfl) (by kernel_rfl))
def ty26 : TyE := ⟨.slice 25, 1, 24, .slice none 0 0, [], (some (.slc (.slc (.pair (.int .u8) (.pair (.int .i64) (.int .i64)))))), false⟩
theorem te26 : TyOk Tryz.prog 26 ty26 := tyOk_of Tryz.underlying26 (ti_of (by kernel_rfl) rfl rfl) (fun _ h => by cases h) (someTy rfl (by kernel_rfl) (by kernel_rfl))
def ty27 : TyE := ⟨.pointer 109, 1, 8, .pointer none, [], (some (.ptr 0)), false⟩
theorem te27 : TyOk Tryz.prog 27 ty27 := tyOk_of Tryz.underlying27 (ti_of (by kernel_rfl) rfl rfl) (fun _ h => by cases h) (someTy rfl (by kernel_rfl) (by kernel_rfl))
def ty28 : TyE := ⟨.int .i64, 1, 8, .int .i64 0, [], (some (.int .i64)), false⟩
theorem te28 : TyOk Tryz.prog 28 ty28 := tyOk_of Tryz.underlying28 (ti_of (by kernel_rfl) rfl rfl) (fun _ h => by cases h) (someTy rfl (by kernel_rfl) (by kernel_rfl))
def ty30 : TyE := ⟨.func #[32, 26] #[27, 28] false, 1, 8, .nilFunc, [], none, false⟩
theorem te30 : TyOk Tryz.prog 30 ty30 := tyOk_of Tryz.underlying30 (ti_of (by kernel_rfl) rfl rfl) (fun _ h => by cases h) (noTy rfl)
def ty31 : TyE := ⟨.struct #[⟨"Scopes", 3, 0, false, "", "", 0⟩, ⟨"Threads", 3, 1, false, "", "", 8⟩, ⟨"Immortal", 3, 2, false, "", "", 16⟩, ⟨"Heap", 3, 3, false, "", "", 24⟩], 4, 32, .agg #[.int .i64 0, .int .i64 0, .int .i64 0, .int .i64 0], [(0, 1), (1, 1), (2, 1), (3, 1)], (some (.pair (.int .i64) (.pair (.int .i64) (.pair (.int .i64) (.int .i64))))), false⟩
theorem te31 : TyOk Tryz.prog 31 ty31 := tyOk_of Tryz.underlying31 (ti_of (by kernel_rfl) rfl rfl) (fun fs h w => by cases h; kernel_rfl) (someTy rfl (by kernel_rfl) (by kernel_rfl))
def ty32 : TyE := ⟨.struct #[⟨"Scopes", 3, 0, false, "", "", 0⟩, ⟨"Threads", 3, 1, false, "", "", 8⟩, ⟨"Immortal", 3, 2, false, "", "", 16⟩, ⟨"Heap", 3, 3, false, "", "", 24⟩], 4, 32, .agg #[.int .i64 0, .int .i64 0, .int .i64 0, .int .i64 0], [(0, 1), (1, 1), (2, 1), (3, 1)], (some (.pair (.int .i64) (.pair (.int .i64) (.pair (.int .i64) (.int .i64))))), false⟩
theorem te32 : TyOk Tryz.prog 32 ty32 := tyOk_of Tryz.underlying32 (ti_of (by kernel_rfl) rfl rfl) (fun fs h w => by cases h; kernel_rfl) (someTy rfl (by kernel_rfl) (by kernel_rfl))
def ty33 : TyE := ⟨.func #[] #[32] false, 1, 8, .nilFunc, [], none, false⟩
theorem te33 : TyOk Tryz.prog 33 ty33 := tyOk_of Tryz.underlying33 (ti_of (by kernel_rfl) rfl rfl) (fun _ h => by cases h) (noTy rfl)
def ty34 : TyE := ⟨.slice 3, 1, 24, .slice none 0 0, [], (some (.slc (.int .i64))), false⟩
theorem te34 : TyOk Tryz.prog 34 ty34 := tyOk_of Tryz.underlying34 (ti_of (by kernel_rfl) rfl rfl) (fun _ h => by cases h) (someTy rfl (by kernel_rfl) (by kernel_rfl))
def ty35 : TyE := ⟨.struct #[⟨"Code", 28, 0, false, "", "", 0⟩, ⟨"N", 3, 1, false, "", "", 8⟩, ⟨"Said", 34, 2, false, "", "", 16⟩], 3, 40, .agg #[.int .i64 0, .int .i64 0, .slice none 0 0], [(0, 1), (1, 1), (2, 1)], (some (.pair (.int .i64) (.pair (.int .i64) (.slc (.int .i64))))), false⟩
theorem te35 : TyOk Tryz.prog 35 ty35 := tyOk_of Tryz.underlying35 (ti_of (by kernel_rfl) rfl rfl) (fun fs h w => by cases h; kernel_rfl) (someTy rfl (by kernel_rfl) (by kernel_rfl))
def ty36 : TyE := ⟨.struct #[⟨"Code", 28, 0, false, "", "", 0⟩, ⟨"N", 3, 1, false, "", "", 8⟩, ⟨"Said", 34, 2, false, "", "", 16⟩], 3, 40, .agg #[.int .i64 0, .int .i64 0, .slice none 0 0], [(0, 1), (1, 1), (2, 1)], none, false⟩
theorem te36 : TyOk Tryz.prog 36 ty36 := tyOk_of Tryz.underlying36 (ti_of (by kernel_rfl) rfl rfl) (fun fs h w => by cases h; kernel_rfl) (noTy rfl)
def ty38 : TyE := ⟨.func #[3, 40] #[36, 28] false, 1, 8, .nilFunc, [], none, false⟩
theorem te38 : TyOk Tryz.prog 38 ty38 := tyOk_of Tryz.underlying38 (ti_of (by kernel_rfl) rfl rfl) (fun _ h => by cases h) (noTy rfl)
def ty39 : TyE := ⟨.struct #[⟨"Op", 5, 0, false, "", "", 0⟩, ⟨"R", 5, 1, false, "", "", 1⟩, ⟨"H", 5, 2, false, "", "", 2⟩, ⟨"V", 5, 3, false, "", "", 3⟩, ⟨"A", 3, 4, false, "", "", 8⟩, ⟨"B", 3, 5, false, "", "", 16⟩, ⟨"C", 3, 6, false, "", "", 24⟩], 7, 32, .agg #[.int .u8 0, .int .u8 0, .int .u8 0, .int .u8 0, .int .i64 0, .int .i64 0, .int .i64 0], [(0, 1), (1, 1), (2, 1), (3, 1), (4, 1), (5, 1), (6, 1)], (some (.pair (.int .u8) (.pair (.int .u8) (.pair (.int .u8) (.pair (.int .u8) (.pair (.int .i64) (.pair (.int .i64) (.int .i64)))))))), false⟩
theorem te39 : TyOk Tryz.prog 39 ty39 := tyOk_of Tryz.underlying39 (ti_of (by kernel_rfl) rfl rfl) (fun fs h w => by cases h; kernel_rfl) (someTy rfl (by kernel_rfl) (by kernel_rfl))
def ty40 : TyE := ⟨.struct #[⟨"Op", 5, 0, false, "", "", 0⟩, ⟨"R", 5, 1, false, "", "", 1⟩, ⟨"H", 5, 2, false, "", "", 2⟩, ⟨"V", 5, 3, false, "", "", 3⟩, ⟨"A", 3, 4, false, "", "", 8⟩, ⟨"B", 3, 5, false, "", "", 16⟩, ⟨"C", 3, 6, false, "", "", 24⟩], 7, 32, .agg #[.int .u8 0, .int .u8 0, .int .u8 0, .int .u8 0, .int .i64 0, .int .i64 0, .int .i64 0], [(0, 1), (1, 1), (2, 1), (3, 1), (4, 1), (5, 1), (6, 1)], (some (.pair (.int .u8) (.pair (.int .u8) (.pair (.int .u8) (.pair (.int .u8) (.pair (.int .i64) (.pair (.int .i64) (.int .i64)))))))), false⟩
theorem te40 : TyOk Tryz.prog 40 ty40 := tyOk_of Tryz.underlying40 (ti_of (by kernel_rfl) rfl rfl) (fun fs h w => by cases h; kernel_rfl) (someTy rfl (by kernel_rfl) (by kernel_rfl))
def ty41 : TyE := ⟨.struct #[⟨"State", 3, 0, false, "", "", 0⟩, ⟨"Count", 3, 1, false, "", "", 8⟩, ⟨"Parent", 3, 2, false, "", "", 16⟩, ⟨"Epoch", 3, 3, false, "", "", 24⟩], 4, 32, .agg #[.int .i64 0, .int .i64 0, .int .i64 0, .int .i64 0], [(0, 1), (1, 1), (2, 1), (3, 1)], (some (.pair (.int .i64) (.pair (.int .i64) (.pair (.int .i64) (.int .i64))))), false⟩
theorem te41 : TyOk Tryz.prog 41 ty41 := tyOk_of Tryz.underlying41 (ti_of (by kernel_rfl) rfl rfl) (fun fs h w => by cases h; kernel_rfl) (someTy rfl (by kernel_rfl) (by kernel_rfl))
def ty42 : TyE := ⟨.struct #[⟨"State", 3, 0, false, "", "", 0⟩, ⟨"Count", 3, 1, false, "", "", 8⟩, ⟨"Parent", 3, 2, false, "", "", 16⟩, ⟨"Epoch", 3, 3, false, "", "", 24⟩], 4, 32, .agg #[.int .i64 0, .int .i64 0, .int .i64 0, .int .i64 0], [(0, 1), (1, 1), (2, 1), (3, 1)], (some (.pair (.int .i64) (.pair (.int .i64) (.pair (.int .i64) (.int .i64))))), false⟩
theorem te42 : TyOk Tryz.prog 42 ty42 := tyOk_of Tryz.underlying42 (ti_of (by kernel_rfl) rfl rfl) (fun fs h w => by cases h; kernel_rfl) (someTy rfl (by kernel_rfl) (by kernel_rfl))
def ty44 : TyE := ⟨.func #[3] #[42, 28] false, 1, 8, .nilFunc, [], none, false⟩
theorem te44 : TyOk Tryz.prog 44 ty44 := tyOk_of Tryz.underlying44 (ti_of (by kernel_rfl) rfl rfl) (fun _ h => by cases h) (noTy rfl)
def ty45 : TyE := ⟨.int .u64, 1, 8, .int .u64 0, [], (some (.int .u64)), false⟩
theorem te45 : TyOk Tryz.prog 45 ty45 := tyOk_of Tryz.underlying45 (ti_of (by kernel_rfl) rfl rfl) (fun _ h => by cases h) (someTy rfl (by kernel_rfl) (by kernel_rfl))
def ty46 : TyE := ⟨.func #[3] #[45] false, 1, 8, .nilFunc, [], none, false⟩
theorem te46 : TyOk Tryz.prog 46 ty46 := tyOk_of Tryz.underlying46 (ti_of (by kernel_rfl) rfl rfl) (fun _ h => by cases h) (noTy rfl)
def ty47 : TyE := ⟨.func #[3] #[3] false, 1, 8, .nilFunc, [], none, false⟩
theorem te47 : TyOk Tryz.prog 47 ty47 := tyOk_of Tryz.underlying47 (ti_of (by kernel_rfl) rfl rfl) (fun _ h => by cases h) (noTy rfl)
def ty48 : TyE := ⟨.func #[27] #[45] false, 1, 8, .nilFunc, [], none, false⟩
theorem te48 : TyOk Tryz.prog 48 ty48 := tyOk_of Tryz.underlying48 (ti_of (by kernel_rfl) rfl rfl) (fun _ h => by cases h) (noTy rfl)
def ty49 : TyE := ⟨.func #[5, 5, 5] #[4] false, 1, 8, .nilFunc, [], none, false⟩
theorem te49 : TyOk Tryz.prog 49 ty49 := tyOk_of Tryz.underlying49 (ti_of (by kernel_rfl) rfl rfl) (fun _ h => by cases h) (noTy rfl)
def ty50 : TyE := ⟨.slice 54, 1, 24, .slice none 0 0, [], (some (.slc (.pair (.int .i64) (.pair (.int .u8) (.pair (.int .u8) (.pair (.int .u8) (.pair (.int .u8) (.pair (.int .i64) (.pair (.int .i64) (.int .i64)))))))))), false⟩
theorem te50 : TyOk Tryz.prog 50 ty50 := tyOk_of Tryz.underlying50 (ti_of (by kernel_rfl) rfl rfl) (fun _ h => by cases h) (someTy rfl (by kernel_rfl) (by kernel_rfl))
def ty51 : TyE := ⟨.func #[32] #[32] false, 1, 8, .nilFunc, [], none, false⟩
theorem te51 : TyOk Tryz.prog 51 ty51 := tyOk_of Tryz.underlying51 (ti_of (by kernel_rfl) rfl rfl) (fun _ h => by cases h) (noTy rfl)
def ty52 : TyE := ⟨.func #[26] #[26] false, 1, 8, .nilFunc, [], none, false⟩
theorem te52 : TyOk Tryz.prog 52 ty52 := tyOk_of Tryz.underlying52 (ti_of (by kernel_rfl) rfl rfl) (fun _ h => by cases h) (noTy rfl)
def ty53 : TyE := ⟨.struct #[⟨"Thread", 3, 0, false, "", "", 0⟩, ⟨"Call", 40, 1, false, "", "", 8⟩], 8, 40, .agg #[.int .i64 0, .int .u8 0, .int .u8 0, .int .u8 0, .int .u8 0, .int .i64 0, .int .i64 0, .int .i64 0], [(0, 1), (1, 7)], (some (.pair (.int .i64) (.pair (.int .u8) (.pair (.int .u8) (.pair (.int .u8) (.pair (.int .u8) (.pair (.int .i64) (.pair (.int .i64) (.int .i64))))))))), false⟩
theorem te53 : TyOk Tryz.prog 53 ty53 := tyOk_of Tryz.underlying53 (ti_of (by kernel_rfl) rfl rfl) (fun fs h w => by cases h; kernel_rfl) (someTy rfl (by kernel_rfl) (by kernel_rfl))
def ty54 : TyE := ⟨.struct #[⟨"Thread", 3, 0, false, "", "", 0⟩, ⟨"Call", 40, 1, false, "", "", 8⟩], 8, 40, .agg #[.int .i64 0, .int .u8 0, .int .u8 0, .int .u8 0, .int .u8 0, .int .i64 0, .int .i64 0, .int .i64 0], [(0, 1), (1, 7)], (some (.pair (.int .i64) (.pair (.int .u8) (.pair (.int .u8) (.pair (.int .u8) (.pair (.int .u8) (.pair (.int .i64) (.pair (.int .i64) (.int .i64))))))))), false⟩
theorem te54 : TyOk Tryz.prog 54 ty54 := tyOk_of Tryz.underlying54 (ti_of (by kernel_rfl) rfl rfl) (fun fs h w => by cases h; kernel_rfl) (someTy rfl (by kernel_rfl) (by kernel_rfl))
def ty55 : TyE := ⟨.slice 58, 1, 24, .slice none 0 0, [], (some (.slc (.pair (.int .i64) .bool))), false⟩
theorem te55 : TyOk Tryz.prog 55 ty55 := tyOk_of Tryz.underlying55 (ti_of (by kernel_rfl) rfl rfl) (fun _ h => by cases h) (someTy rfl (by kernel_rfl) (by kernel_rfl))
def ty56 : TyE := ⟨.func #[3] #[55] false, 1, 8, .nilFunc, [], none, false⟩
theorem te56 : TyOk Tryz.prog 56 ty56 := tyOk_of Tryz.underlying56 (ti_of (by kernel_rfl) rfl rfl) (fun _ h => by cases h) (noTy rfl)
def ty57 : TyE := ⟨.struct #[⟨"Scope", 3, 0, false, "", "", 0⟩, ⟨"Counted", 4, 1, false, "", "", 8⟩], 2, 16, .agg #[.int .i64 0, .bool false], [(0, 1), (1, 1)], (some (.pair (.int .i64) .bool)), false⟩
theorem te57 : TyOk Tryz.prog 57 ty57 := tyOk_of Tryz.underlying57 (ti_of (by kernel_rfl) rfl rfl) (fun fs h w => by cases h; kernel_rfl) (someTy rfl (by kernel_rfl) (by kernel_rfl))
def ty58 : TyE := ⟨.struct #[⟨"Scope", 3, 0, false, "", "", 0⟩, ⟨"Counted", 4, 1, false, "", "", 8⟩], 2, 16, .agg #[.int .i64 0, .bool false], [(0, 1), (1, 1)], (some (.pair (.int .i64) .bool)), false⟩
theorem te58 : TyOk Tryz.prog 58 ty58 := tyOk_of Tryz.underlying58 (ti_of (by kernel_rfl) rfl rfl) (fun fs h w => by cases h; kernel_rfl) (someTy rfl (by kernel_rfl) (by kernel_rfl))
def ty59 : TyE := ⟨.func #[32, 26, 50] #[4] false, 1, 8, .nilFunc, [], none, false⟩
theorem te59 : TyOk Tryz.prog 59 ty59 := tyOk_of Tryz.underlying59 (ti_of (by kernel_rfl) rfl rfl) (fun _ h => by cases h) (noTy rfl)
def ty60 : TyE := ⟨.pointer 71, 1, 8, .pointer none, [], (some (.ptr 11)), false⟩
theorem te60 : TyOk Tryz.prog 60 ty60 := tyOk_of Tryz.underlying60 (ti_of (by kernel_rfl) rfl rfl) (fun _ h => by cases h) (someTy rfl (by kernel_rfl) (by kernel_rfl))
def ty61 : TyE := ⟨.func #[32, 26] #[60] false, 1, 8, .nilFunc, [], none, false⟩
theorem te61 : TyOk Tryz.prog 61 ty61 := tyOk_of Tryz.underlying61 (ti_of (by kernel_rfl) rfl rfl) (fun _ h => by cases h) (noTy rfl)
def ty62 : TyE := ⟨.func #[3, 40] #[36] false, 1, 8, .nilFunc, [], none, false⟩
theorem te62 : TyOk Tryz.prog 62 ty62 := tyOk_of Tryz.underlying62 (ti_of (by kernel_rfl) rfl rfl) (fun _ h => by cases h) (noTy rfl)
def ty63 : TyE := ⟨.pointer 98, 1, 8, .pointer none, [], (some (.ptr 12)), false⟩
theorem te63 : TyOk Tryz.prog 63 ty63 := tyOk_of Tryz.underlying63 (ti_of (by kernel_rfl) rfl rfl) (fun _ h => by cases h) (someTy rfl (by kernel_rfl) (by kernel_rfl))
def ty64 : TyE := ⟨.slice 77, 1, 24, .slice none 0 0, [], none, false⟩
theorem te64 : TyOk Tryz.prog 64 ty64 := tyOk_of Tryz.underlying64 (ti_of (by kernel_rfl) rfl rfl) (fun _ h => by cases h) (noTy rfl)
def ty65 : TyE := ⟨.array 8 45, 8, 64, .agg #[.int .u64 0, .int .u64 0, .int .u64 0, .int .u64 0, .int .u64 0, .int .u64 0, .int .u64 0, .int .u64 0], [], (some (.arr 8 (.int .u64))), false⟩
theorem te65 : TyOk Tryz.prog 65 ty65 := tyOk_of Tryz.underlying65 (ti_of (by kernel_rfl) rfl rfl) (fun _ h => by cases h) (someTy rfl (by kernel_rfl) (by kernel_rfl))
def ty66 : TyE := ⟨.array 8 3, 8, 64, .agg #[.int .i64 0, .int .i64 0, .int .i64 0, .int .i64 0, .int .i64 0, .int .i64 0, .int .i64 0, .int .i64 0], [], (some (.arr 8 (.int .i64))), false⟩
theorem te66 : TyOk Tryz.prog 66 ty66 := tyOk_of Tryz.underlying66 (ti_of (by kernel_rfl) rfl rfl) (fun _ h => by cases h) (someTy rfl (by kernel_rfl) (by kernel_rfl))
def ty67 : TyE := ⟨.array 4 45, 4, 32, .agg #[.int .u64 0, .int .u64 0, .int .u64 0, .int .u64 0], [], (some (.arr 4 (.int .u64))), false⟩
theorem te67 : TyOk Tryz.prog 67 ty67 := tyOk_of Tryz.underlying67 (ti_of (by kernel_rfl) rfl rfl) (fun _ h => by cases h) (someTy rfl (by kernel_rfl) (by kernel_rfl))
def ty68 : TyE := ⟨.array 4 67, 16, 128, .agg #[.int .u64 0, .int .u64 0, .int .u64 0, .int .u64 0, .int .u64 0, .int .u64 0, .int .u64 0, .int .u64 0, .int .u64 0, .int .u64 0, .int .u64 0, .int .u64 0, .int .u64 0, .int .u64 0, .int .u64 0, .int .u64 0], [], (some (.arr 4 (.arr 4 (.int .u64)))), false⟩
theorem te68 : TyOk Tryz.prog 68 ty68 := tyOk_of Tryz.underlying68 (ti_of (by kernel_rfl) rfl rfl) (fun _ h => by cases h) (someTy rfl (by kernel_rfl) (by kernel_rfl))
def ty69 : TyE := ⟨.array 4 55, 4, 96, .agg #[.slice none 0 0, .slice none 0 0, .slice none 0 0, .slice none 0 0], [], (some (.arr 4 (.slc (.pair (.int .i64) .bool)))), false⟩
theorem te69 : TyOk Tryz.prog 69 ty69 := tyOk_of Tryz.underlying69 (ti_of (by kernel_rfl) rfl rfl) (fun _ h => by cases h) (someTy rfl (by kernel_rfl) (by kernel_rfl))
def ty70 : TyE := ⟨.struct #[⟨"P", 32, 0, false, "", "", 0⟩, ⟨"F", 26, 4, false, "", "", 32⟩, ⟨"S", 63, 5, false, "", "", 56⟩, ⟨"O", 64, 6, false, "", "", 64⟩, ⟨"Gate", 65, 7, false, "", "", 88⟩, ⟨"Bytes", 66, 15, false, "", "", 152⟩, ⟨"R", 68, 23, false, "", "", 216⟩, ⟨"C", 69, 39, false, "", "", 344⟩], 43, 440, .agg #[.int .i64 0, .int .i64 0, .int .i64 0, .int .i64 0, .slice none 0 0, .pointer none, .slice none 0 0, .int .u64 0, .int .u64 0, .int .u64 0, .int .u64 0, .int .u64 0, .int .u64 0, .int .u64 0, .int .u64 0, .int .i64 0, .int .i64 0, .int .i64 0, .int .i64 0, .int .i64 0, .int .i64 0, .int .i64 0, .int .i64 0, .int .u64 0, .int .u64 0, .int .u64 0, .int .u64 0, .int .u64 0, .int .u64 0, .int .u64 0, .int .u64 0, .int .u64 0, .int .u64 0, .int .u64 0, .int .u64 0, .int .u64 0, .int .u64 0, .int .u64 0, .int .u64 0, .slice none 0 0, .slice none 0 0, .slice none 0 0, .slice none 0 0], [(0, 4), (4, 1), (5, 1), (6, 1), (7, 8), (15, 8), (23, 16), (39, 4)], none, false⟩
theorem te70 : TyOk Tryz.prog 70 ty70 := tyOk_of Tryz.underlying70 (ti_of (by kernel_rfl) rfl rfl) (fun fs h w => by cases h; kernel_rfl) (noTy rfl)
def ty71 : TyE := ⟨.struct #[⟨"P", 32, 0, false, "", "", 0⟩, ⟨"F", 26, 4, false, "", "", 32⟩, ⟨"S", 63, 5, false, "", "", 56⟩, ⟨"O", 64, 6, false, "", "", 64⟩, ⟨"Gate", 65, 7, false, "", "", 88⟩, ⟨"Bytes", 66, 15, false, "", "", 152⟩, ⟨"R", 68, 23, false, "", "", 216⟩, ⟨"C", 69, 39, false, "", "", 344⟩], 43, 440, .agg #[.int .i64 0, .int .i64 0, .int .i64 0, .int .i64 0, .slice none 0 0, .pointer none, .slice none 0 0, .int .u64 0, .int .u64 0, .int .u64 0, .int .u64 0, .int .u64 0, .int .u64 0, .int .u64 0, .int .u64 0, .int .i64 0, .int .i64 0, .int .i64 0, .int .i64 0, .int .i64 0, .int .i64 0, .int .i64 0, .int .i64 0, .int .u64 0, .int .u64 0, .int .u64 0, .int .u64 0, .int .u64 0, .int .u64 0, .int .u64 0, .int .u64 0, .int .u64 0, .int .u64 0, .int .u64 0, .int .u64 0, .int .u64 0, .int .u64 0, .int .u64 0, .int .u64 0, .slice none 0 0, .slice none 0 0, .slice none 0 0, .slice none 0 0], [(0, 4), (4, 1), (5, 1), (6, 1), (7, 8), (15, 8), (23, 16), (39, 4)], (some (.pair (.pair (.int .i64) (.pair (.int .i64) (.pair (.int .i64) (.int .i64)))) (.pair (.slc (.slc (.pair (.int .u8) (.pair (.int .i64) (.int .i64))))) (.pair (.ptr 12) (.pair (.rsl 17 5) (.pair (.arr 8 (.int .u64)) (.pair (.arr 8 (.int .i64)) (.pair (.arr 4 (.arr 4 (.int .u64))) (.arr 4 (.slc (.pair (.int .i64) .bool))))))))))), false⟩
theorem te71 : TyOk Tryz.prog 71 ty71 := tyOk_of Tryz.underlying71 (ti_of (by kernel_rfl) rfl rfl) (fun fs h w => by cases h; kernel_rfl) (someTy rfl (by kernel_rfl) (by kernel_rfl))
def ty72 : TyE := ⟨.slice 45, 1, 24, .slice none 0 0, [], (some (.slc (.int .u64))), false⟩
theorem te72 : TyOk Tryz.prog 72 ty72 := tyOk_of Tryz.underlying72 (ti_of (by kernel_rfl) rfl rfl) (fun _ h => by cases h) (someTy rfl (by kernel_rfl) (by kernel_rfl))
def ty74 : TyE := ⟨.func #[45] #[72, 4] false, 1, 8, .nilFunc, [], none, false⟩
theorem te74 : TyOk Tryz.prog 74 ty74 := tyOk_of Tryz.underlying74 (ti_of (by kernel_rfl) rfl rfl) (fun _ h => by cases h) (noTy rfl)
def ty75 : TyE := ⟨.func #[72, 72] #[4] false, 1, 8, .nilFunc, [], none, false⟩
theorem te75 : TyOk Tryz.prog 75 ty75 := tyOk_of Tryz.underlying75 (ti_of (by kernel_rfl) rfl rfl) (fun _ h => by cases h) (noTy rfl)
def ty76 : TyE := ⟨.struct #[⟨"Scope", 3, 0, false, "", "", 0⟩, ⟨"At", 3, 1, false, "", "", 8⟩, ⟨"Tag", 3, 2, false, "", "", 16⟩, ⟨"Slots", 72, 3, false, "", "", 24⟩, ⟨"Done", 4, 4, false, "", "", 48⟩], 5, 56, .agg #[.int .i64 0, .int .i64 0, .int .i64 0, .slice none 0 0, .bool false], [(0, 1), (1, 1), (2, 1), (3, 1), (4, 1)], (some (.pair (.int .i64) (.pair (.int .i64) (.pair (.int .i64) (.pair (.slc (.int .u64)) .bool))))), false⟩
theorem te76 : TyOk Tryz.prog 76 ty76 := tyOk_of Tryz.underlying76 (ti_of (by kernel_rfl) rfl rfl) (fun fs h w => by cases h; kernel_rfl) (someTy rfl (by kernel_rfl) (by kernel_rfl))
def ty77 : TyE := ⟨.struct #[⟨"Scope", 3, 0, false, "", "", 0⟩, ⟨"At", 3, 1, false, "", "", 8⟩, ⟨"Tag", 3, 2, false, "", "", 16⟩, ⟨"Slots", 72, 3, false, "", "", 24⟩, ⟨"Done", 4, 4, false, "", "", 48⟩], 5, 56, .agg #[.int .i64 0, .int .i64 0, .int .i64 0, .slice none 0 0, .bool false], [(0, 1), (1, 1), (2, 1), (3, 1), (4, 1)], (some (.pair (.int .i64) (.pair (.int .i64) (.pair (.int .i64) (.pair (.rsl 18 1) .bool))))), false⟩
theorem te77 : TyOk Tryz.prog 77 ty77 := tyOk_of Tryz.underlying77 (ti_of (by kernel_rfl) rfl rfl) (fun fs h w => by cases h; kernel_rfl) (someTy rfl (by kernel_rfl) (by kernel_rfl))
def ty78 : TyE := ⟨.func #[3] #[72] false, 1, 8, .nilFunc, [], none, false⟩
theorem te78 : TyOk Tryz.prog 78 ty78 := tyOk_of Tryz.underlying78 (ti_of (by kernel_rfl) rfl rfl) (fun _ h => by cases h) (noTy rfl)
def ty79 : TyE := ⟨.array 2 72, 2, 48, .agg #[.slice none 0 0, .slice none 0 0], [], (some (.arr 2 (.slc (.int .u64)))), false⟩
theorem te79 : TyOk Tryz.prog 79 ty79 := tyOk_of Tryz.underlying79 (ti_of (by kernel_rfl) rfl rfl) (fun _ h => by cases h) (someTy rfl (by kernel_rfl) (by kernel_rfl))
def ty80 : TyE := ⟨.array 2 55, 2, 48, .agg #[.slice none 0 0, .slice none 0 0], [], (some (.arr 2 (.slc (.pair (.int .i64) .bool)))), false⟩
theorem te80 : TyOk Tryz.prog 80 ty80 := tyOk_of Tryz.underlying80 (ti_of (by kernel_rfl) rfl rfl) (fun _ h => by cases h) (someTy rfl (by kernel_rfl) (by kernel_rfl))
def ty81 : TyE := ⟨.array 4 42, 16, 128, .agg #[.int .i64 0, .int .i64 0, .int .i64 0, .int .i64 0, .int .i64 0, .int .i64 0, .int .i64 0, .int .i64 0, .int .i64 0, .int .i64 0, .int .i64 0, .int .i64 0, .int .i64 0, .int .i64 0, .int .i64 0, .int .i64 0], [], (some (.arr 4 (.pair (.int .i64) (.pair (.int .i64) (.pair (.int .i64) (.int .i64)))))), false⟩
theorem te81 : TyOk Tryz.prog 81 ty81 := tyOk_of Tryz.underlying81 (ti_of (by kernel_rfl) rfl rfl) (fun _ h => by cases h) (someTy rfl (by kernel_rfl) (by kernel_rfl))
def ty82 : TyE := ⟨.array 4 3, 4, 32, .agg #[.int .i64 0, .int .i64 0, .int .i64 0, .int .i64 0], [], (some (.arr 4 (.int .i64))), false⟩
theorem te82 : TyOk Tryz.prog 82 ty82 := tyOk_of Tryz.underlying82 (ti_of (by kernel_rfl) rfl rfl) (fun _ h => by cases h) (someTy rfl (by kernel_rfl) (by kernel_rfl))
def ty83 : TyE := ⟨.func #[55, 55] #[4] false, 1, 8, .nilFunc, [], none, false⟩
theorem te83 : TyOk Tryz.prog 83 ty83 := tyOk_of Tryz.underlying83 (ti_of (by kernel_rfl) rfl rfl) (fun _ h => by cases h) (noTy rfl)
def ty84 : TyE := ⟨.func #[26, 50] #[4] false, 1, 8, .nilFunc, [], none, false⟩
theorem te84 : TyOk Tryz.prog 84 ty84 := tyOk_of Tryz.underlying84 (ti_of (by kernel_rfl) rfl rfl) (fun _ h => by cases h) (noTy rfl)
def ty85 : TyE := ⟨.array 12 45, 12, 96, .agg #[.int .u64 0, .int .u64 0, .int .u64 0, .int .u64 0, .int .u64 0, .int .u64 0, .int .u64 0, .int .u64 0, .int .u64 0, .int .u64 0, .int .u64 0, .int .u64 0], [], (some (.arr 12 (.int .u64))), false⟩
theorem te85 : TyOk Tryz.prog 85 ty85 := tyOk_of Tryz.underlying85 (ti_of (by kernel_rfl) rfl rfl) (fun _ h => by cases h) (someTy rfl (by kernel_rfl) (by kernel_rfl))
def ty86 : TyE := ⟨.func #[5, 5, 4] #[4] false, 1, 8, .nilFunc, [], none, false⟩
theorem te86 : TyOk Tryz.prog 86 ty86 := tyOk_of Tryz.underlying86 (ti_of (by kernel_rfl) rfl rfl) (fun _ h => by cases h) (noTy rfl)
def ty87 : TyE := ⟨.func #[55] #[3] false, 1, 8, .nilFunc, [], none, false⟩
theorem te87 : TyOk Tryz.prog 87 ty87 := tyOk_of Tryz.underlying87 (ti_of (by kernel_rfl) rfl rfl) (fun _ h => by cases h) (noTy rfl)
def ty88 : TyE := ⟨.struct #[⟨"Scope", 3, 0, false, "", "", 0⟩, ⟨"Epoch", 3, 1, false, "", "", 8⟩, ⟨"At", 3, 2, false, "", "", 16⟩], 3, 24, .agg #[.int .i64 0, .int .i64 0, .int .i64 0], [(0, 1), (1, 1), (2, 1)], (some (.pair (.int .i64) (.pair (.int .i64) (.int .i64)))), false⟩
theorem te88 : TyOk Tryz.prog 88 ty88 := tyOk_of Tryz.underlying88 (ti_of (by kernel_rfl) rfl rfl) (fun fs h w => by cases h; kernel_rfl) (someTy rfl (by kernel_rfl) (by kernel_rfl))
def ty89 : TyE := ⟨.struct #[⟨"Scope", 3, 0, false, "", "", 0⟩, ⟨"Epoch", 3, 1, false, "", "", 8⟩, ⟨"At", 3, 2, false, "", "", 16⟩], 3, 24, .agg #[.int .i64 0, .int .i64 0, .int .i64 0], [(0, 1), (1, 1), (2, 1)], (some (.pair (.int .i64) (.pair (.int .i64) (.int .i64)))), false⟩
theorem te89 : TyOk Tryz.prog 89 ty89 := tyOk_of Tryz.underlying89 (ti_of (by kernel_rfl) rfl rfl) (fun fs h w => by cases h; kernel_rfl) (someTy rfl (by kernel_rfl) (by kernel_rfl))
def ty91 : TyE := ⟨.func #[45] #[89, 28] false, 1, 8, .nilFunc, [], none, false⟩
theorem te91 : TyOk Tryz.prog 91 ty91 := tyOk_of Tryz.underlying91 (ti_of (by kernel_rfl) rfl rfl) (fun _ h => by cases h) (noTy rfl)
def ty92 : TyE := ⟨.func #[3, 32] #[3] false, 1, 8, .nilFunc, [], none, false⟩
theorem te92 : TyOk Tryz.prog 92 ty92 := tyOk_of Tryz.underlying92 (ti_of (by kernel_rfl) rfl rfl) (fun _ h => by cases h) (noTy rfl)
def ty93 : TyE := ⟨.func #[36, 36] #[4] false, 1, 8, .nilFunc, [], none, false⟩
theorem te93 : TyOk Tryz.prog 93 ty93 := tyOk_of Tryz.underlying93 (ti_of (by kernel_rfl) rfl rfl) (fun _ h => by cases h) (noTy rfl)
def ty94 : TyE := ⟨.slice 42, 1, 24, .slice none 0 0, [], (some (.slc (.pair (.int .i64) (.pair (.int .i64) (.pair (.int .i64) (.int .i64)))))), false⟩
theorem te94 : TyOk Tryz.prog 94 ty94 := tyOk_of Tryz.underlying94 (ti_of (by kernel_rfl) rfl rfl) (fun _ h => by cases h) (someTy rfl (by kernel_rfl) (by kernel_rfl))
def ty95 : TyE := ⟨.slice 151, 1, 24, .slice none 0 0, [], (some (.slc (.pair (.int .i64) (.int .i64)))), false⟩
theorem te95 : TyOk Tryz.prog 95 ty95 := tyOk_of Tryz.underlying95 (ti_of (by kernel_rfl) rfl rfl) (fun _ h => by cases h) (someTy rfl (by kernel_rfl) (by kernel_rfl))
def ty96 : TyE := ⟨.pointer 217, 1, 8, .pointer none, [], (some (.ptr 13)), false⟩
theorem te96 : TyOk Tryz.prog 96 ty96 := tyOk_of Tryz.underlying96 (ti_of (by kernel_rfl) rfl rfl) (fun _ h => by cases h) (someTy rfl (by kernel_rfl) (by kernel_rfl))
def ty97 : TyE := ⟨.struct #[⟨"C", 94, 0, false, "", "", 0⟩, ⟨"X", 95, 1, false, "", "", 24⟩, ⟨"G", 96, 2, false, "", "", 48⟩], 3, 56, .agg #[.slice none 0 0, .slice none 0 0, .pointer none], [(0, 1), (1, 1), (2, 1)], (some (.pair (.slc (.pair (.int .i64) (.pair (.int .i64) (.pair (.int .i64) (.int .i64))))) (.pair (.slc (.pair (.int .i64) (.int .i64))) (.ptr 13)))), false⟩
theorem te97 : TyOk Tryz.prog 97 ty97 := tyOk_of Tryz.underlying97 (ti_of (by kernel_rfl) rfl rfl) (fun fs h w => by cases h; kernel_rfl) (someTy rfl (by kernel_rfl) (by kernel_rfl))
def ty98 : TyE := ⟨.struct #[⟨"C", 94, 0, false, "", "", 0⟩, ⟨"X", 95, 1, false, "", "", 24⟩, ⟨"G", 96, 2, false, "", "", 48⟩], 3, 56, .agg #[.slice none 0 0, .slice none 0 0, .pointer none], [(0, 1), (1, 1), (2, 1)], (some (.pair (.rsl 14 4) (.pair (.rsl 15 2) (.ptr 13)))), false⟩
theorem te98 : TyOk Tryz.prog 98 ty98 := tyOk_of Tryz.underlying98 (ti_of (by kernel_rfl) rfl rfl) (fun fs h w => by cases h; kernel_rfl) (someTy rfl (by kernel_rfl) (by kernel_rfl))
def ty99 : TyE := ⟨.func #[32] #[4] false, 1, 8, .nilFunc, [], none, false⟩
theorem te99 : TyOk Tryz.prog 99 ty99 := tyOk_of Tryz.underlying99 (ti_of (by kernel_rfl) rfl rfl) (fun _ h => by cases h) (noTy rfl)
def ty100 : TyE := ⟨.func #[26] #[4] false, 1, 8, .nilFunc, [], none, false⟩
theorem te100 : TyOk Tryz.prog 100 ty100 := tyOk_of Tryz.underlying100 (ti_of (by kernel_rfl) rfl rfl) (fun _ h => by cases h) (noTy rfl)
def ty101 : TyE := ⟨.pointer 149, 1, 8, .pointer none, [], (some (.ptr 1)), false⟩
theorem te101 : TyOk Tryz.prog 101 ty101 := tyOk_of Tryz.underlying101 (ti_of (by kernel_rfl) rfl rfl) (fun _ h => by cases h) (someTy rfl (by kernel_rfl) (by kernel_rfl))
def ty103 : TyE := ⟨.func #[32] #[101, 28] false, 1, 8, .nilFunc, [], none, false⟩
theorem te103 : TyOk Tryz.prog 103 ty103 := tyOk_of Tryz.underlying103 (ti_of (by kernel_rfl) rfl rfl) (fun _ h => by cases h) (noTy rfl)
def ty104 : TyE := ⟨.func #[25] #[25] false, 1, 8, .nilFunc, [], none, false⟩
theorem te104 : TyOk Tryz.prog 104 ty104 := tyOk_of Tryz.underlying104 (ti_of (by kernel_rfl) rfl rfl) (fun _ h => by cases h) (noTy rfl)
def ty105 : TyE := ⟨.slice 123, 1, 24, .slice none 0 0, [], none, false⟩
theorem te105 : TyOk Tryz.prog 105 ty105 := tyOk_of Tryz.underlying105 (ti_of (by kernel_rfl) rfl rfl) (fun _ h => by cases h) (noTy rfl)
def ty106 : TyE := ⟨.slice 113, 1, 24, .slice none 0 0, [], (some (.slc (.pair (.arr 4 (.int .u64)) (.slc (.pair (.int .i64) .bool))))), false⟩
theorem te106 : TyOk Tryz.prog 106 ty106 := tyOk_of Tryz.underlying106 (ti_of (by kernel_rfl) rfl rfl) (fun _ h => by cases h) (someTy rfl (by kernel_rfl) (by kernel_rfl))
def ty107 : TyE := ⟨.map 89 136, 1, 8, .map none, [], none, false⟩
theorem te107 : TyOk Tryz.prog 107 ty107 := tyOk_of Tryz.underlying107 (ti_of (by kernel_rfl) rfl rfl) (fun _ h => by cases h) (noTy rfl)
def ty108 : TyE := ⟨.struct #[⟨"plan", 32, 0, false, "", "penfold/model", 0⟩, ⟨"fins", 26, 4, false, "", "penfold/model", 32⟩, ⟨"scopes", 101, 5, false, "", "penfold/model", 56⟩, ⟨"areas", 105, 6, false, "", "penfold/model", 64⟩, ⟨"threads", 106, 7, false, "", "penfold/model", 88⟩, ⟨"objects", 107, 8, false, "", "penfold/model", 112⟩], 9, 120, .agg #[.int .i64 0, .int .i64 0, .int .i64 0, .int .i64 0, .slice none 0 0, .pointer none, .slice none 0 0, .slice none 0 0, .map none], [(0, 4), (4, 1), (5, 1), (6, 1), (7, 1), (8, 1)], none, false⟩
theorem te108 : TyOk Tryz.prog 108 ty108 := tyOk_of Tryz.underlying108 (ti_of (by kernel_rfl) rfl rfl) (fun fs h w => by cases h; kernel_rfl) (noTy rfl)
def ty109 : TyE := ⟨.struct #[⟨"plan", 32, 0, false, "", "penfold/model", 0⟩, ⟨"fins", 26, 4, false, "", "penfold/model", 32⟩, ⟨"scopes", 101, 5, false, "", "penfold/model", 56⟩, ⟨"areas", 105, 6, false, "", "penfold/model", 64⟩, ⟨"threads", 106, 7, false, "", "penfold/model", 88⟩, ⟨"objects", 107, 8, false, "", "penfold/model", 112⟩], 9, 120, .agg #[.int .i64 0, .int .i64 0, .int .i64 0, .int .i64 0, .slice none 0 0, .pointer none, .slice none 0 0, .slice none 0 0, .map none], [(0, 4), (4, 1), (5, 1), (6, 1), (7, 1), (8, 1)], (some (.pair (.pair (.int .i64) (.pair (.int .i64) (.pair (.int .i64) (.int .i64)))) (.pair (.slc (.slc (.pair (.int .u8) (.pair (.int .i64) (.int .i64))))) (.pair (.ptr 1) (.pair (.rsl 5 3) (.pair (.rsl 6 5) (.mp 7))))))), false⟩
theorem te109 : TyOk Tryz.prog 109 ty109 := tyOk_of Tryz.underlying109 (ti_of (by kernel_rfl) rfl rfl) (fun fs h w => by cases h; kernel_rfl) (someTy rfl (by kernel_rfl) (by kernel_rfl))
def ty110 : TyE := ⟨.func #[3, 3, 3] #[4] false, 1, 8, .nilFunc, [], none, false⟩
theorem te110 : TyOk Tryz.prog 110 ty110 := tyOk_of Tryz.underlying110 (ti_of (by kernel_rfl) rfl rfl) (fun _ h => by cases h) (noTy rfl)
def ty111 : TyE := ⟨.pointer 113, 1, 8, .pointer none, [], none, false⟩
theorem te111 : TyOk Tryz.prog 111 ty111 := tyOk_of Tryz.underlying111 (ti_of (by kernel_rfl) rfl rfl) (fun _ h => by cases h) (noTy rfl)
def ty112 : TyE := ⟨.struct #[⟨"regs", 67, 0, false, "", "penfold/model", 0⟩, ⟨"entries", 55, 4, false, "", "penfold/model", 32⟩], 5, 56, .agg #[.int .u64 0, .int .u64 0, .int .u64 0, .int .u64 0, .slice none 0 0], [(0, 4), (4, 1)], (some (.pair (.arr 4 (.int .u64)) (.slc (.pair (.int .i64) .bool)))), false⟩
theorem te112 : TyOk Tryz.prog 112 ty112 := tyOk_of Tryz.underlying112 (ti_of (by kernel_rfl) rfl rfl) (fun fs h w => by cases h; kernel_rfl) (someTy rfl (by kernel_rfl) (by kernel_rfl))
def ty113 : TyE := ⟨.struct #[⟨"regs", 67, 0, false, "", "penfold/model", 0⟩, ⟨"entries", 55, 4, false, "", "penfold/model", 32⟩], 5, 56, .agg #[.int .u64 0, .int .u64 0, .int .u64 0, .int .u64 0, .slice none 0 0], [(0, 4), (4, 1)], (some (.pair (.arr 4 (.int .u64)) (.slc (.pair (.int .i64) .bool)))), false⟩
theorem te113 : TyOk Tryz.prog 113 ty113 := tyOk_of Tryz.underlying113 (ti_of (by kernel_rfl) rfl rfl) (fun fs h w => by cases h; kernel_rfl) (someTy rfl (by kernel_rfl) (by kernel_rfl))
def ty114 : TyE := ⟨.struct #[⟨"Model", 27, 0, true, "", "", 0⟩, ⟨"thread", 111, 1, true, "", "penfold/model", 8⟩, ⟨"c", 40, 2, false, "", "penfold/model", 16⟩], 9, 48, .agg #[.pointer none, .pointer none, .int .u8 0, .int .u8 0, .int .u8 0, .int .u8 0, .int .i64 0, .int .i64 0, .int .i64 0], [(0, 1), (1, 1), (2, 7)], none, false⟩
theorem te114 : TyOk Tryz.prog 114 ty114 := tyOk_of Tryz.underlying114 (ti_of (by kernel_rfl) rfl rfl) (fun fs h w => by cases h; kernel_rfl) (noTy rfl)
def ty115 : TyE := ⟨.struct #[⟨"Model", 27, 0, true, "", "", 0⟩, ⟨"thread", 111, 1, true, "", "penfold/model", 8⟩, ⟨"c", 40, 2, false, "", "penfold/model", 16⟩], 9, 48, .agg #[.pointer none, .pointer none, .int .u8 0, .int .u8 0, .int .u8 0, .int .u8 0, .int .i64 0, .int .i64 0, .int .i64 0], [(0, 1), (1, 1), (2, 7)], none, false⟩
theorem te115 : TyOk Tryz.prog 115 ty115 := tyOk_of Tryz.underlying115 (ti_of (by kernel_rfl) rfl rfl) (fun fs h w => by cases h; kernel_rfl) (noTy rfl)
def ty116 : TyE := ⟨.func #[] #[36] false, 1, 8, .nilFunc, [], none, false⟩
theorem te116 : TyOk Tryz.prog 116 ty116 := tyOk_of Tryz.underlying116 (ti_of (by kernel_rfl) rfl rfl) (fun _ h => by cases h) (noTy rfl)
def ty117 : TyE := ⟨.map 5 116, 1, 8, .map none, [], none, false⟩
theorem te117 : TyOk Tryz.prog 117 ty117 := tyOk_of Tryz.underlying117 (ti_of (by kernel_rfl) rfl rfl) (fun _ h => by cases h) (noTy rfl)
def ty119 : TyE := ⟨.func #[40] #[4] false, 1, 8, .nilFunc, [], none, false⟩
theorem te119 : TyOk Tryz.prog 119 ty119 := tyOk_of Tryz.underlying119 (ti_of (by kernel_rfl) rfl rfl) (fun _ h => by cases h) (noTy rfl)
def ty120 : TyE := ⟨.func #[28] #[36] false, 1, 8, .nilFunc, [], none, false⟩
theorem te120 : TyOk Tryz.prog 120 ty120 := tyOk_of Tryz.underlying120 (ti_of (by kernel_rfl) rfl rfl) (fun _ h => by cases h) (noTy rfl)
def ty121 : TyE := ⟨.slice 136, 1, 24, .slice none 0 0, [], none, false⟩
theorem te121 : TyOk Tryz.prog 121 ty121 := tyOk_of Tryz.underlying121 (ti_of (by kernel_rfl) rfl rfl) (fun _ h => by cases h) (noTy rfl)
def ty122 : TyE := ⟨.struct #[⟨"used", 3, 0, false, "", "penfold/model", 0⟩, ⟨"portal", 45, 1, false, "", "penfold/model", 8⟩, ⟨"objects", 121, 2, false, "", "penfold/model", 16⟩], 3, 40, .agg #[.int .i64 0, .int .u64 0, .slice none 0 0], [(0, 1), (1, 1), (2, 1)], none, false⟩
theorem te122 : TyOk Tryz.prog 122 ty122 := tyOk_of Tryz.underlying122 (ti_of (by kernel_rfl) rfl rfl) (fun fs h w => by cases h; kernel_rfl) (noTy rfl)
def ty123 : TyE := ⟨.struct #[⟨"used", 3, 0, false, "", "penfold/model", 0⟩, ⟨"portal", 45, 1, false, "", "penfold/model", 8⟩, ⟨"objects", 121, 2, false, "", "penfold/model", 16⟩], 3, 40, .agg #[.int .i64 0, .int .u64 0, .slice none 0 0], [(0, 1), (1, 1), (2, 1)], (some (.pair (.int .i64) (.pair (.int .u64) (.rsl 9 1)))), false⟩
theorem te123 : TyOk Tryz.prog 123 ty123 := tyOk_of Tryz.underlying123 (ti_of (by kernel_rfl) rfl rfl) (fun fs h w => by cases h; kernel_rfl) (someTy rfl (by kernel_rfl) (by kernel_rfl))
def ty124 : TyE := ⟨.func #[3] #[123] false, 1, 8, .nilFunc, [], none, false⟩
theorem te124 : TyOk Tryz.prog 124 ty124 := tyOk_of Tryz.underlying124 (ti_of (by kernel_rfl) rfl rfl) (fun _ h => by cases h) (noTy rfl)
def ty125 : TyE := ⟨.func #[55] #[55] false, 1, 8, .nilFunc, [], none, false⟩
theorem te125 : TyOk Tryz.prog 125 ty125 := tyOk_of Tryz.underlying125 (ti_of (by kernel_rfl) rfl rfl) (fun _ h => by cases h) (noTy rfl)
def ty126 : TyE := ⟨.func #[32] #[63] false, 1, 8, .nilFunc, [], none, false⟩
theorem te126 : TyOk Tryz.prog 126 ty126 := tyOk_of Tryz.underlying126 (ti_of (by kernel_rfl) rfl rfl) (fun _ h => by cases h) (noTy rfl)
def ty128 : TyE := ⟨.func #[3] #[3, 28] false, 1, 8, .nilFunc, [], none, false⟩
theorem te128 : TyOk Tryz.prog 128 ty128 := tyOk_of Tryz.underlying128 (ti_of (by kernel_rfl) rfl rfl) (fun _ h => by cases h) (noTy rfl)
def ty129 : TyE := ⟨.func #[3] #[28] false, 1, 8, .nilFunc, [], none, false⟩
theorem te129 : TyOk Tryz.prog 129 ty129 := tyOk_of Tryz.underlying129 (ti_of (by kernel_rfl) rfl rfl) (fun _ h => by cases h) (noTy rfl)
def ty131 : TyE := ⟨.func #[55] #[55, 58, 28] false, 1, 8, .nilFunc, [], none, false⟩
theorem te131 : TyOk Tryz.prog 131 ty131 := tyOk_of Tryz.underlying131 (ti_of (by kernel_rfl) rfl rfl) (fun _ h => by cases h) (noTy rfl)
def ty132 : TyE := ⟨.func #[3] #[36] false, 1, 8, .nilFunc, [], none, false⟩
theorem te132 : TyOk Tryz.prog 132 ty132 := tyOk_of Tryz.underlying132 (ti_of (by kernel_rfl) rfl rfl) (fun _ h => by cases h) (noTy rfl)
def ty133 : TyE := ⟨.func #[45, 3] #[4] false, 1, 8, .nilFunc, [], none, false⟩
theorem te133 : TyOk Tryz.prog 133 ty133 := tyOk_of Tryz.underlying133 (ti_of (by kernel_rfl) rfl rfl) (fun _ h => by cases h) (noTy rfl)
def ty135 : TyE := ⟨.func #[89] #[45, 28] false, 1, 8, .nilFunc, [], none, false⟩
theorem te135 : TyOk Tryz.prog 135 ty135 := tyOk_of Tryz.underlying135 (ti_of (by kernel_rfl) rfl rfl) (fun _ h => by cases h) (noTy rfl)
def ty136 : TyE := ⟨.pointer 139, 1, 8, .pointer none, [], (some (.ptr 8)), false⟩
theorem te136 : TyOk Tryz.prog 136 ty136 := tyOk_of Tryz.underlying136 (ti_of (by kernel_rfl) rfl rfl) (fun _ h => by cases h) (someTy rfl (by kernel_rfl) (by kernel_rfl))
def ty137 : TyE := ⟨.func #[72] #[72] false, 1, 8, .nilFunc, [], none, false⟩
theorem te137 : TyOk Tryz.prog 137 ty137 := tyOk_of Tryz.underlying137 (ti_of (by kernel_rfl) rfl rfl) (fun _ h => by cases h) (noTy rfl)
def ty138 : TyE := ⟨.struct #[⟨"ref", 89, 0, false, "", "penfold/model", 0⟩, ⟨"tag", 3, 3, false, "", "penfold/model", 24⟩, ⟨"slots", 72, 4, false, "", "penfold/model", 32⟩, ⟨"done", 4, 5, false, "", "penfold/model", 56⟩], 6, 64, .agg #[.int .i64 0, .int .i64 0, .int .i64 0, .int .i64 0, .slice none 0 0, .bool false], [(0, 3), (3, 1), (4, 1), (5, 1)], (some (.pair (.pair (.int .i64) (.pair (.int .i64) (.int .i64))) (.pair (.int .i64) (.pair (.slc (.int .u64)) .bool)))), false⟩
theorem te138 : TyOk Tryz.prog 138 ty138 := tyOk_of Tryz.underlying138 (ti_of (by kernel_rfl) rfl rfl) (fun fs h w => by cases h; kernel_rfl) (someTy rfl (by kernel_rfl) (by kernel_rfl))
def ty139 : TyE := ⟨.struct #[⟨"ref", 89, 0, false, "", "penfold/model", 0⟩, ⟨"tag", 3, 3, false, "", "penfold/model", 24⟩, ⟨"slots", 72, 4, false, "", "penfold/model", 32⟩, ⟨"done", 4, 5, false, "", "penfold/model", 56⟩], 6, 64, .agg #[.int .i64 0, .int .i64 0, .int .i64 0, .int .i64 0, .slice none 0 0, .bool false], [(0, 3), (3, 1), (4, 1), (5, 1)], (some (.pair (.pair (.int .i64) (.pair (.int .i64) (.int .i64))) (.pair (.int .i64) (.pair (.rsl 10 1) .bool)))), false⟩
theorem te139 : TyOk Tryz.prog 139 ty139 := tyOk_of Tryz.underlying139 (ti_of (by kernel_rfl) rfl rfl) (fun fs h w => by cases h; kernel_rfl) (someTy rfl (by kernel_rfl) (by kernel_rfl))
def ty140 : TyE := ⟨.func #[89] #[3] false, 1, 8, .nilFunc, [], none, false⟩
theorem te140 : TyOk Tryz.prog 140 ty140 := tyOk_of Tryz.underlying140 (ti_of (by kernel_rfl) rfl rfl) (fun _ h => by cases h) (noTy rfl)
def ty141 : TyE := ⟨.func #[196, 24] #[] false, 1, 8, .nilFunc, [], none, false⟩
theorem te141 : TyOk Tryz.prog 141 ty141 := tyOk_of Tryz.underlying141 (ti_of (by kernel_rfl) rfl rfl) (fun _ h => by cases h) (noTy rfl)
def ty142 : TyE := ⟨.struct #[⟨"a", 3, 0, false, "", "penfold/fin", 0⟩, ⟨"b", 3, 1, false, "", "penfold/fin", 8⟩, ⟨"do", 141, 2, false, "", "penfold/fin", 16⟩], 3, 24, .agg #[.int .i64 0, .int .i64 0, .nilFunc], [(0, 1), (1, 1), (2, 1)], none, false⟩
theorem te142 : TyOk Tryz.prog 142 ty142 := tyOk_of Tryz.underlying142 (ti_of (by kernel_rfl) rfl rfl) (fun fs h w => by cases h; kernel_rfl) (noTy rfl)
def ty143 : TyE := ⟨.struct #[⟨"a", 3, 0, false, "", "penfold/fin", 0⟩, ⟨"b", 3, 1, false, "", "penfold/fin", 8⟩, ⟨"do", 141, 2, false, "", "penfold/fin", 16⟩], 3, 24, .agg #[.int .i64 0, .int .i64 0, .nilFunc], [(0, 1), (1, 1), (2, 1)], none, false⟩
theorem te143 : TyOk Tryz.prog 143 ty143 := tyOk_of Tryz.underlying143 (ti_of (by kernel_rfl) rfl rfl) (fun fs h w => by cases h; kernel_rfl) (noTy rfl)
def ty144 : TyE := ⟨.array 5 143, 15, 120, .agg #[.int .i64 0, .int .i64 0, .nilFunc, .int .i64 0, .int .i64 0, .nilFunc, .int .i64 0, .int .i64 0, .nilFunc, .int .i64 0, .int .i64 0, .nilFunc, .int .i64 0, .int .i64 0, .nilFunc], [], none, false⟩
theorem te144 : TyOk Tryz.prog 144 ty144 := tyOk_of Tryz.underlying144 (ti_of (by kernel_rfl) rfl rfl) (fun _ h => by cases h) (noTy rfl)
def ty145 : TyE := ⟨.func #[] #[144] false, 1, 8, .nilFunc, [], none, false⟩
theorem te145 : TyOk Tryz.prog 145 ty145 := tyOk_of Tryz.underlying145 (ti_of (by kernel_rfl) rfl rfl) (fun _ h => by cases h) (noTy rfl)
def ty146 : TyE := ⟨.slice 153, 1, 24, .slice none 0 0, [], (some (.slc (.pair (.pair (.int .i64) (.pair (.int .i64) (.pair (.int .i64) (.int .i64)))) (.pair (.int .i64) (.int .i64))))), false⟩
theorem te146 : TyOk Tryz.prog 146 ty146 := tyOk_of Tryz.underlying146 (ti_of (by kernel_rfl) rfl rfl) (fun _ h => by cases h) (someTy rfl (by kernel_rfl) (by kernel_rfl))
def ty147 : TyE := ⟨.pointer 201, 1, 8, .pointer none, [], (some (.ptr 2)), false⟩
theorem te147 : TyOk Tryz.prog 147 ty147 := tyOk_of Tryz.underlying147 (ti_of (by kernel_rfl) rfl rfl) (fun _ h => by cases h) (someTy rfl (by kernel_rfl) (by kernel_rfl))
def ty148 : TyE := ⟨.struct #[⟨"l", 146, 0, false, "", "penfold/scopes", 0⟩, ⟨"ground", 147, 1, false, "", "penfold/scopes", 24⟩], 2, 32, .agg #[.slice none 0 0, .pointer none], [(0, 1), (1, 1)], (some (.pair (.slc (.pair (.pair (.int .i64) (.pair (.int .i64) (.pair (.int .i64) (.int .i64)))) (.pair (.int .i64) (.int .i64)))) (.ptr 2))), false⟩
theorem te148 : TyOk Tryz.prog 148 ty148 := tyOk_of Tryz.underlying148 (ti_of (by kernel_rfl) rfl rfl) (fun fs h w => by cases h; kernel_rfl) (someTy rfl (by kernel_rfl) (by kernel_rfl))
def ty149 : TyE := ⟨.struct #[⟨"l", 146, 0, false, "", "penfold/scopes", 0⟩, ⟨"ground", 147, 1, false, "", "penfold/scopes", 24⟩], 2, 32, .agg #[.slice none 0 0, .pointer none], [(0, 1), (1, 1)], (some (.pair (.rsl 3 6) (.ptr 2))), false⟩
theorem te149 : TyOk Tryz.prog 149 ty149 := tyOk_of Tryz.underlying149 (ti_of (by kernel_rfl) rfl rfl) (fun fs h w => by cases h; kernel_rfl) (someTy rfl (by kernel_rfl) (by kernel_rfl))
def ty150 : TyE := ⟨.struct #[⟨"At", 3, 0, false, "", "", 0⟩, ⟨"Size", 3, 1, false, "", "", 8⟩], 2, 16, .agg #[.int .i64 0, .int .i64 0], [(0, 1), (1, 1)], (some (.pair (.int .i64) (.int .i64))), false⟩
theorem te150 : TyOk Tryz.prog 150 ty150 := tyOk_of Tryz.underlying150 (ti_of (by kernel_rfl) rfl rfl) (fun fs h w => by cases h; kernel_rfl) (someTy rfl (by kernel_rfl) (by kernel_rfl))
def ty151 : TyE := ⟨.struct #[⟨"At", 3, 0, false, "", "", 0⟩, ⟨"Size", 3, 1, false, "", "", 8⟩], 2, 16, .agg #[.int .i64 0, .int .i64 0], [(0, 1), (1, 1)], (some (.pair (.int .i64) (.int .i64))), false⟩
theorem te151 : TyOk Tryz.prog 151 ty151 := tyOk_of Tryz.underlying151 (ti_of (by kernel_rfl) rfl rfl) (fun fs h w => by cases h; kernel_rfl) (someTy rfl (by kernel_rfl) (by kernel_rfl))
def ty152 : TyE := ⟨.struct #[⟨"ctl", 42, 0, false, "", "penfold/scopes", 0⟩, ⟨"extent", 151, 4, false, "", "penfold/scopes", 32⟩], 6, 48, .agg #[.int .i64 0, .int .i64 0, .int .i64 0, .int .i64 0, .int .i64 0, .int .i64 0], [(0, 4), (4, 2)], (some (.pair (.pair (.int .i64) (.pair (.int .i64) (.pair (.int .i64) (.int .i64)))) (.pair (.int .i64) (.int .i64)))), false⟩
theorem te152 : TyOk Tryz.prog 152 ty152 := tyOk_of Tryz.underlying152 (ti_of (by kernel_rfl) rfl rfl) (fun fs h w => by cases h; kernel_rfl) (someTy rfl (by kernel_rfl) (by kernel_rfl))
def ty153 : TyE := ⟨.struct #[⟨"ctl", 42, 0, false, "", "penfold/scopes", 0⟩, ⟨"extent", 151, 4, false, "", "penfold/scopes", 32⟩], 6, 48, .agg #[.int .i64 0, .int .i64 0, .int .i64 0, .int .i64 0, .int .i64 0, .int .i64 0], [(0, 4), (4, 2)], (some (.pair (.pair (.int .i64) (.pair (.int .i64) (.pair (.int .i64) (.int .i64)))) (.pair (.int .i64) (.int .i64)))), false⟩
theorem te153 : TyOk Tryz.prog 153 ty153 := tyOk_of Tryz.underlying153 (ti_of (by kernel_rfl) rfl rfl) (fun fs h w => by cases h; kernel_rfl) (someTy rfl (by kernel_rfl) (by kernel_rfl))
def ty155 : TyE := ⟨.func #[32] #[151, 28] false, 1, 8, .nilFunc, [], none, false⟩
theorem te155 : TyOk Tryz.prog 155 ty155 := tyOk_of Tryz.underlying155 (ti_of (by kernel_rfl) rfl rfl) (fun _ h => by cases h) (noTy rfl)
def ty157 : TyE := ⟨.func #[3, 3] #[147, 28] false, 1, 8, .nilFunc, [], none, false⟩
theorem te157 : TyOk Tryz.prog 157 ty157 := tyOk_of Tryz.underlying157 (ti_of (by kernel_rfl) rfl rfl) (fun _ h => by cases h) (noTy rfl)
def ty158 : TyE := ⟨.func #[3] #[4] false, 1, 8, .nilFunc, [], none, false⟩
theorem te158 : TyOk Tryz.prog 158 ty158 := tyOk_of Tryz.underlying158 (ti_of (by kernel_rfl) rfl rfl) (fun _ h => by cases h) (noTy rfl)
def ty159 : TyE := ⟨.func #[4, 161] #[36] false, 1, 8, .nilFunc, [], none, false⟩
theorem te159 : TyOk Tryz.prog 159 ty159 := tyOk_of Tryz.underlying159 (ti_of (by kernel_rfl) rfl rfl) (fun _ h => by cases h) (noTy rfl)
def ty160 : TyE := ⟨.func #[3, 3] #[28] false, 1, 8, .nilFunc, [], none, false⟩
theorem te160 : TyOk Tryz.prog 160 ty160 := tyOk_of Tryz.underlying160 (ti_of (by kernel_rfl) rfl rfl) (fun _ h => by cases h) (noTy rfl)
def ty161 : TyE := ⟨.func #[] #[28] false, 1, 8, .nilFunc, [], none, false⟩
theorem te161 : TyOk Tryz.prog 161 ty161 := tyOk_of Tryz.underlying161 (ti_of (by kernel_rfl) rfl rfl) (fun _ h => by cases h) (noTy rfl)
def ty162 : TyE := ⟨.func #[163] #[36] false, 1, 8, .nilFunc, [], none, false⟩
theorem te162 : TyOk Tryz.prog 162 ty162 := tyOk_of Tryz.underlying162 (ti_of (by kernel_rfl) rfl rfl) (fun _ h => by cases h) (noTy rfl)
def ty163 : TyE := ⟨.pointer 123, 1, 8, .pointer none, [], none, false⟩
theorem te163 : TyOk Tryz.prog 163 ty163 := tyOk_of Tryz.underlying163 (ti_of (by kernel_rfl) rfl rfl) (fun _ h => by cases h) (noTy rfl)
def ty165 : TyE := ⟨.func #[3] #[4, 28] false, 1, 8, .nilFunc, [], none, false⟩
theorem te165 : TyOk Tryz.prog 165 ty165 := tyOk_of Tryz.underlying165 (ti_of (by kernel_rfl) rfl rfl) (fun _ h => by cases h) (noTy rfl)
def ty166 : TyE := ⟨.func #[55, 3] #[4] false, 1, 8, .nilFunc, [], none, false⟩
theorem te166 : TyOk Tryz.prog 166 ty166 := tyOk_of Tryz.underlying166 (ti_of (by kernel_rfl) rfl rfl) (fun _ h => by cases h) (noTy rfl)
def ty167 : TyE := ⟨.func #[3, 3] #[3, 28] false, 1, 8, .nilFunc, [], none, false⟩
theorem te167 : TyOk Tryz.prog 167 ty167 := tyOk_of Tryz.underlying167 (ti_of (by kernel_rfl) rfl rfl) (fun _ h => by cases h) (noTy rfl)
def ty168 : TyE := ⟨.func #[3] #[151, 28] false, 1, 8, .nilFunc, [], none, false⟩
theorem te168 : TyOk Tryz.prog 168 ty168 := tyOk_of Tryz.underlying168 (ti_of (by kernel_rfl) rfl rfl) (fun _ h => by cases h) (noTy rfl)
def ty169 : TyE := ⟨.func #[89] #[36] false, 1, 8, .nilFunc, [], none, false⟩
theorem te169 : TyOk Tryz.prog 169 ty169 := tyOk_of Tryz.underlying169 (ti_of (by kernel_rfl) rfl rfl) (fun _ h => by cases h) (noTy rfl)
def ty170 : TyE := ⟨.pointer 45, 1, 8, .pointer none, [], none, false⟩
theorem te170 : TyOk Tryz.prog 170 ty170 := tyOk_of Tryz.underlying170 (ti_of (by kernel_rfl) rfl rfl) (fun _ h => by cases h) (noTy rfl)
def ty172 : TyE := ⟨.func #[] #[170, 3, 28] false, 1, 8, .nilFunc, [], none, false⟩
theorem te172 : TyOk Tryz.prog 172 ty172 := tyOk_of Tryz.underlying172 (ti_of (by kernel_rfl) rfl rfl) (fun _ h => by cases h) (noTy rfl)
def ty173 : TyE := ⟨.func #[45] #[36] false, 1, 8, .nilFunc, [], none, false⟩
theorem te173 : TyOk Tryz.prog 173 ty173 := tyOk_of Tryz.underlying173 (ti_of (by kernel_rfl) rfl rfl) (fun _ h => by cases h) (noTy rfl)
def ty174 : TyE := ⟨.func #[170, 3] #[36] false, 1, 8, .nilFunc, [], none, false⟩
theorem te174 : TyOk Tryz.prog 174 ty174 := tyOk_of Tryz.underlying174 (ti_of (by kernel_rfl) rfl rfl) (fun _ h => by cases h) (noTy rfl)
def ty176 : TyE := ⟨.func #[] #[170, 28] false, 1, 8, .nilFunc, [], none, false⟩
theorem te176 : TyOk Tryz.prog 176 ty176 := tyOk_of Tryz.underlying176 (ti_of (by kernel_rfl) rfl rfl) (fun _ h => by cases h) (noTy rfl)
def ty177 : TyE := ⟨.slice 5, 1, 24, .slice none 0 0, [], (some (.slc (.int .u8))), false⟩
theorem te177 : TyOk Tryz.prog 177 ty177 := tyOk_of Tryz.underlying177 (ti_of (by kernel_rfl) rfl rfl) (fun _ h => by cases h) (someTy rfl (by kernel_rfl) (by kernel_rfl))
def ty178 : TyE := ⟨.map 5 177, 1, 8, .map none, [], none, false⟩
theorem te178 : TyOk Tryz.prog 178 ty178 := tyOk_of Tryz.underlying178 (ti_of (by kernel_rfl) rfl rfl) (fun _ h => by cases h) (noTy rfl)
def ty179 : TyE := ⟨.func #[177, 180] #[4] false, 1, 8, .nilFunc, [], none, false⟩
theorem te179 : TyOk Tryz.prog 179 ty179 := tyOk_of Tryz.underlying179 (ti_of (by kernel_rfl) rfl rfl) (fun _ h => by cases h) (noTy rfl)
def ty180 : TyE := ⟨.func #[5] #[4] false, 1, 8, .nilFunc, [], none, false⟩
theorem te180 : TyOk Tryz.prog 180 ty180 := tyOk_of Tryz.underlying180 (ti_of (by kernel_rfl) rfl rfl) (fun _ h => by cases h) (noTy rfl)
def ty181 : TyE := ⟨.pointer 153, 1, 8, .pointer none, [], none, false⟩
theorem te181 : TyOk Tryz.prog 181 ty181 := tyOk_of Tryz.underlying181 (ti_of (by kernel_rfl) rfl rfl) (fun _ h => by cases h) (noTy rfl)
def ty182 : TyE := ⟨.func #[3, 3] #[181] false, 1, 8, .nilFunc, [], none, false⟩
theorem te182 : TyOk Tryz.prog 182 ty182 := tyOk_of Tryz.underlying182 (ti_of (by kernel_rfl) rfl rfl) (fun _ h => by cases h) (noTy rfl)
def ty183 : TyE := ⟨.func #[32] #[151] false, 1, 8, .nilFunc, [], none, false⟩
theorem te183 : TyOk Tryz.prog 183 ty183 := tyOk_of Tryz.underlying183 (ti_of (by kernel_rfl) rfl rfl) (fun _ h => by cases h) (noTy rfl)
def ty184 : TyE := ⟨.func #[3, 3] #[96] false, 1, 8, .nilFunc, [], none, false⟩
theorem te184 : TyOk Tryz.prog 184 ty184 := tyOk_of Tryz.underlying184 (ti_of (by kernel_rfl) rfl rfl) (fun _ h => by cases h) (noTy rfl)
def ty186 : TyE := ⟨.func #[3] #[3, 4] false, 1, 8, .nilFunc, [], none, false⟩
theorem te186 : TyOk Tryz.prog 186 ty186 := tyOk_of Tryz.underlying186 (ti_of (by kernel_rfl) rfl rfl) (fun _ h => by cases h) (noTy rfl)
def ty188 : TyE := ⟨.func #[55, 58] #[55, 28] false, 1, 8, .nilFunc, [], none, false⟩
theorem te188 : TyOk Tryz.prog 188 ty188 := tyOk_of Tryz.underlying188 (ti_of (by kernel_rfl) rfl rfl) (fun _ h => by cases h) (noTy rfl)
def ty189 : TyE := ⟨.func #[26, 3] #[25] false, 1, 8, .nilFunc, [], none, false⟩
theorem te189 : TyOk Tryz.prog 189 ty189 := tyOk_of Tryz.underlying189 (ti_of (by kernel_rfl) rfl rfl) (fun _ h => by cases h) (noTy rfl)
def ty191 : TyE := ⟨.func #[25, 72] #[72, 34, 4, 3] false, 1, 8, .nilFunc, [], none, false⟩
theorem te191 : TyOk Tryz.prog 191 ty191 := tyOk_of Tryz.underlying191 (ti_of (by kernel_rfl) rfl rfl) (fun _ h => by cases h) (noTy rfl)
def ty193 : TyE := ⟨.func #[3, 45] #[3, 3, 28] false, 1, 8, .nilFunc, [], none, false⟩
theorem te193 : TyOk Tryz.prog 193 ty193 := tyOk_of Tryz.underlying193 (ti_of (by kernel_rfl) rfl rfl) (fun _ h => by cases h) (noTy rfl)
def ty194 : TyE := ⟨.func #[3, 45, 3] #[28] false, 1, 8, .nilFunc, [], none, false⟩
theorem te194 : TyOk Tryz.prog 194 ty194 := tyOk_of Tryz.underlying194 (ti_of (by kernel_rfl) rfl rfl) (fun _ h => by cases h) (noTy rfl)
def ty195 : TyE := ⟨.int .u64, 1, 8, .int .u64 0, [], (some (.int .u64)), false⟩
theorem te195 : TyOk Tryz.prog 195 ty195 := tyOk_of Tryz.underlying195 (ti_of (by kernel_rfl) rfl rfl) (fun _ h => by cases h) (someTy rfl (by kernel_rfl) (by kernel_rfl))
def ty196 : TyE := ⟨.pointer 198, 1, 8, .pointer none, [], none, false⟩
theorem te196 : TyOk Tryz.prog 196 ty196 := tyOk_of Tryz.underlying196 (ti_of (by kernel_rfl) rfl rfl) (fun _ h => by cases h) (noTy rfl)
def ty197 : TyE := ⟨.struct #[⟨"slots", 72, 0, false, "", "penfold/fin", 0⟩, ⟨"said", 34, 1, false, "", "penfold/fin", 24⟩, ⟨"held", 4, 2, false, "", "penfold/fin", 48⟩, ⟨"skip", 3, 3, false, "", "penfold/fin", 56⟩], 4, 64, .agg #[.slice none 0 0, .slice none 0 0, .bool false, .int .i64 0], [(0, 1), (1, 1), (2, 1), (3, 1)], (some (.pair (.slc (.int .u64)) (.pair (.slc (.int .i64)) (.pair .bool (.int .i64))))), false⟩
theorem te197 : TyOk Tryz.prog 197 ty197 := tyOk_of Tryz.underlying197 (ti_of (by kernel_rfl) rfl rfl) (fun fs h w => by cases h; kernel_rfl) (someTy rfl (by kernel_rfl) (by kernel_rfl))
def ty198 : TyE := ⟨.struct #[⟨"slots", 72, 0, false, "", "penfold/fin", 0⟩, ⟨"said", 34, 1, false, "", "penfold/fin", 24⟩, ⟨"held", 4, 2, false, "", "penfold/fin", 48⟩, ⟨"skip", 3, 3, false, "", "penfold/fin", 56⟩], 4, 64, .agg #[.slice none 0 0, .slice none 0 0, .bool false, .int .i64 0], [(0, 1), (1, 1), (2, 1), (3, 1)], none, false⟩
theorem te198 : TyOk Tryz.prog 198 ty198 := tyOk_of Tryz.underlying198 (ti_of (by kernel_rfl) rfl rfl) (fun fs h w => by cases h; kernel_rfl) (noTy rfl)
def ty199 : TyE := ⟨.func #[34] #[4] true, 1, 8, .nilFunc, [], none, false⟩
theorem te199 : TyOk Tryz.prog 199 ty199 := tyOk_of Tryz.underlying199 (ti_of (by kernel_rfl) rfl rfl) (fun _ h => by cases h) (noTy rfl)
def ty200 : TyE := ⟨.struct #[⟨"from", 3, 0, false, "", "penfold/ground", 0⟩, ⟨"end", 3, 1, false, "", "penfold/ground", 8⟩, ⟨"free", 95, 2, false, "", "penfold/ground", 16⟩], 3, 40, .agg #[.int .i64 0, .int .i64 0, .slice none 0 0], [(0, 1), (1, 1), (2, 1)], (some (.pair (.int .i64) (.pair (.int .i64) (.slc (.pair (.int .i64) (.int .i64)))))), false⟩
theorem te200 : TyOk Tryz.prog 200 ty200 := tyOk_of Tryz.underlying200 (ti_of (by kernel_rfl) rfl rfl) (fun fs h w => by cases h; kernel_rfl) (someTy rfl (by kernel_rfl) (by kernel_rfl))
def ty201 : TyE := ⟨.struct #[⟨"from", 3, 0, false, "", "penfold/ground", 0⟩, ⟨"end", 3, 1, false, "", "penfold/ground", 8⟩, ⟨"free", 95, 2, false, "", "penfold/ground", 16⟩], 3, 40, .agg #[.int .i64 0, .int .i64 0, .slice none 0 0], [(0, 1), (1, 1), (2, 1)], (some (.pair (.int .i64) (.pair (.int .i64) (.rsl 4 2)))), false⟩
theorem te201 : TyOk Tryz.prog 201 ty201 := tyOk_of Tryz.underlying201 (ti_of (by kernel_rfl) rfl rfl) (fun fs h w => by cases h; kernel_rfl) (someTy rfl (by kernel_rfl) (by kernel_rfl))
def ty202 : TyE := ⟨.func #[146, 203] #[3] false, 1, 8, .nilFunc, [], none, false⟩
theorem te202 : TyOk Tryz.prog 202 ty202 := tyOk_of Tryz.underlying202 (ti_of (by kernel_rfl) rfl rfl) (fun _ h => by cases h) (noTy rfl)
def ty203 : TyE := ⟨.func #[153] #[4] false, 1, 8, .nilFunc, [], none, false⟩
theorem te203 : TyOk Tryz.prog 203 ty203 := tyOk_of Tryz.underlying203 (ti_of (by kernel_rfl) rfl rfl) (fun _ h => by cases h) (noTy rfl)
def ty204 : TyE := ⟨.func #[3, 206] #[28] false, 1, 8, .nilFunc, [], none, false⟩
theorem te204 : TyOk Tryz.prog 204 ty204 := tyOk_of Tryz.underlying204 (ti_of (by kernel_rfl) rfl rfl) (fun _ h => by cases h) (noTy rfl)
def ty205 : TyE := ⟨.func #[42, 3] #[42, 28] false, 1, 8, .nilFunc, [], none, false⟩
theorem te205 : TyOk Tryz.prog 205 ty205 := tyOk_of Tryz.underlying205 (ti_of (by kernel_rfl) rfl rfl) (fun _ h => by cases h) (noTy rfl)
def ty206 : TyE := ⟨.func #[42] #[42, 28] false, 1, 8, .nilFunc, [], none, false⟩
theorem te206 : TyOk Tryz.prog 206 ty206 := tyOk_of Tryz.underlying206 (ti_of (by kernel_rfl) rfl rfl) (fun _ h => by cases h) (noTy rfl)
def ty207 : TyE := ⟨.func #[229] #[] false, 1, 8, .nilFunc, [], none, false⟩
theorem te207 : TyOk Tryz.prog 207 ty207 := tyOk_of Tryz.underlying207 (ti_of (by kernel_rfl) rfl rfl) (fun _ h => by cases h) (noTy rfl)
def ty208 : TyE := ⟨.func #[229] #[] false, 1, 8, .nilFunc, [], none, false⟩
theorem te208 : TyOk Tryz.prog 208 ty208 := tyOk_of Tryz.underlying208 (ti_of (by kernel_rfl) rfl rfl) (fun _ h => by cases h) (noTy rfl)
def ty209 : TyE := ⟨.func #[121] #[208] false, 1, 8, .nilFunc, [], none, false⟩
theorem te209 : TyOk Tryz.prog 209 ty209 := tyOk_of Tryz.underlying209 (ti_of (by kernel_rfl) rfl rfl) (fun _ h => by cases h) (noTy rfl)
def ty210 : TyE := ⟨.func #[55, 3] #[3] false, 1, 8, .nilFunc, [], none, false⟩
theorem te210 : TyOk Tryz.prog 210 ty210 := tyOk_of Tryz.underlying210 (ti_of (by kernel_rfl) rfl rfl) (fun _ h => by cases h) (noTy rfl)
def ty212 : TyE := ⟨.func #[45] #[136, 28] false, 1, 8, .nilFunc, [], none, false⟩
theorem te212 : TyOk Tryz.prog 212 ty212 := tyOk_of Tryz.underlying212 (ti_of (by kernel_rfl) rfl rfl) (fun _ h => by cases h) (noTy rfl)
def ty213 : TyE := ⟨.func #[55, 3, 3] #[4] false, 1, 8, .nilFunc, [], none, false⟩
theorem te213 : TyOk Tryz.prog 213 ty213 := tyOk_of Tryz.underlying213 (ti_of (by kernel_rfl) rfl rfl) (fun _ h => by cases h) (noTy rfl)
def ty214 : TyE := ⟨.func #[177, 180] #[3] false, 1, 8, .nilFunc, [], none, false⟩
theorem te214 : TyOk Tryz.prog 214 ty214 := tyOk_of Tryz.underlying214 (ti_of (by kernel_rfl) rfl rfl) (fun _ h => by cases h) (noTy rfl)
def ty215 : TyE := ⟨.slice 4, 1, 24, .slice none 0 0, [], (some (.slc .bool)), false⟩
theorem te215 : TyOk Tryz.prog 215 ty215 := tyOk_of Tryz.underlying215 (ti_of (by kernel_rfl) rfl rfl) (fun _ h => by cases h) (someTy rfl (by kernel_rfl) (by kernel_rfl))
def ty216 : TyE := ⟨.struct #[⟨"At", 3, 0, false, "", "", 0⟩, ⟨"Free", 215, 1, false, "", "", 8⟩], 2, 32, .agg #[.int .i64 0, .slice none 0 0], [(0, 1), (1, 1)], (some (.pair (.int .i64) (.slc .bool))), false⟩
theorem te216 : TyOk Tryz.prog 216 ty216 := tyOk_of Tryz.underlying216 (ti_of (by kernel_rfl) rfl rfl) (fun fs h w => by cases h; kernel_rfl) (someTy rfl (by kernel_rfl) (by kernel_rfl))
def ty217 : TyE := ⟨.struct #[⟨"At", 3, 0, false, "", "", 0⟩, ⟨"Free", 215, 1, false, "", "", 8⟩], 2, 32, .agg #[.int .i64 0, .slice none 0 0], [(0, 1), (1, 1)], (some (.pair (.int .i64) (.rsl 16 1))), false⟩
theorem te217 : TyOk Tryz.prog 217 ty217 := tyOk_of Tryz.underlying217 (ti_of (by kernel_rfl) rfl rfl) (fun fs h w => by cases h; kernel_rfl) (someTy rfl (by kernel_rfl) (by kernel_rfl))
def ty218 : TyE := ⟨.func #[] #[95] false, 1, 8, .nilFunc, [], none, false⟩
theorem te218 : TyOk Tryz.prog 218 ty218 := tyOk_of Tryz.underlying218 (ti_of (by kernel_rfl) rfl rfl) (fun _ h => by cases h) (noTy rfl)
def ty219 : TyE := ⟨.func #[3, 3, 4] #[] false, 1, 8, .nilFunc, [], none, false⟩
theorem te219 : TyOk Tryz.prog 219 ty219 := tyOk_of Tryz.underlying219 (ti_of (by kernel_rfl) rfl rfl) (fun _ h => by cases h) (noTy rfl)
def ty220 : TyE := ⟨.func #[3, 42, 28] #[28] false, 1, 8, .nilFunc, [], none, false⟩
theorem te220 : TyOk Tryz.prog 220 ty220 := tyOk_of Tryz.underlying220 (ti_of (by kernel_rfl) rfl rfl) (fun _ h => by cases h) (noTy rfl)
def ty222 : TyE := ⟨.func #[25, 3, 72] #[3, 72, 34, 4] false, 1, 8, .nilFunc, [], none, false⟩
theorem te222 : TyOk Tryz.prog 222 ty222 := tyOk_of Tryz.underlying222 (ti_of (by kernel_rfl) rfl rfl) (fun _ h => by cases h) (noTy rfl)
def ty223 : TyE := ⟨.func #[34, 158] #[4] false, 1, 8, .nilFunc, [], none, false⟩
theorem te223 : TyOk Tryz.prog 223 ty223 := tyOk_of Tryz.underlying223 (ti_of (by kernel_rfl) rfl rfl) (fun _ h => by cases h) (noTy rfl)
def ty224 : TyE := ⟨.func #[95, 225] #[3] false, 1, 8, .nilFunc, [], none, false⟩
theorem te224 : TyOk Tryz.prog 224 ty224 := tyOk_of Tryz.underlying224 (ti_of (by kernel_rfl) rfl rfl) (fun _ h => by cases h) (noTy rfl)
def ty225 : TyE := ⟨.func #[151] #[4] false, 1, 8, .nilFunc, [], none, false⟩
theorem te225 : TyOk Tryz.prog 225 ty225 := tyOk_of Tryz.underlying225 (ti_of (by kernel_rfl) rfl rfl) (fun _ h => by cases h) (noTy rfl)
def ty226 : TyE := ⟨.pointer 151, 1, 8, .pointer none, [], none, false⟩
theorem te226 : TyOk Tryz.prog 226 ty226 := tyOk_of Tryz.underlying226 (ti_of (by kernel_rfl) rfl rfl) (fun _ h => by cases h) (noTy rfl)
def ty227 : TyE := ⟨.func #[95, 3, 3] #[95] false, 1, 8, .nilFunc, [], none, false⟩
theorem te227 : TyOk Tryz.prog 227 ty227 := tyOk_of Tryz.underlying227 (ti_of (by kernel_rfl) rfl rfl) (fun _ h => by cases h) (noTy rfl)
def ty228 : TyE := ⟨.func #[42] #[4] false, 1, 8, .nilFunc, [], none, false⟩
theorem te228 : TyOk Tryz.prog 228 ty228 := tyOk_of Tryz.underlying228 (ti_of (by kernel_rfl) rfl rfl) (fun _ h => by cases h) (noTy rfl)
def ty229 : TyE := ⟨.func #[3, 136] #[4] false, 1, 8, .nilFunc, [], none, false⟩
theorem te229 : TyOk Tryz.prog 229 ty229 := tyOk_of Tryz.underlying229 (ti_of (by kernel_rfl) rfl rfl) (fun _ h => by cases h) (noTy rfl)
def ty230 : TyE := ⟨.func #[42, 3] #[28] false, 1, 8, .nilFunc, [], none, false⟩
theorem te230 : TyOk Tryz.prog 230 ty230 := tyOk_of Tryz.underlying230 (ti_of (by kernel_rfl) rfl rfl) (fun _ h => by cases h) (noTy rfl)
def ty231 : TyE := ⟨.func #[55, 58] #[3] false, 1, 8, .nilFunc, [], none, false⟩
theorem te231 : TyOk Tryz.prog 231 ty231 := tyOk_of Tryz.underlying231 (ti_of (by kernel_rfl) rfl rfl) (fun _ h => by cases h) (noTy rfl)
def ty232 : TyE := ⟨.func #[34, 158] #[3] false, 1, 8, .nilFunc, [], none, false⟩
theorem te232 : TyOk Tryz.prog 232 ty232 := tyOk_of Tryz.underlying232 (ti_of (by kernel_rfl) rfl rfl) (fun _ h => by cases h) (noTy rfl)
def ty233 : TyE := ⟨.func #[] #[9] false, 1, 8, .nilFunc, [], none, false⟩
theorem te233 : TyOk Tryz.prog 233 ty233 := tyOk_of Tryz.underlying233 (ti_of (by kernel_rfl) rfl rfl) (fun _ h => by cases h) (noTy rfl)
def ty234 : TyE := ⟨.struct #[⟨"_interface", 17, 0, false, "", "runtime", 0⟩, ⟨"concrete", 17, 1, false, "", "runtime", 8⟩, ⟨"asserted", 17, 2, false, "", "runtime", 16⟩, ⟨"missingMethod", 9, 3, false, "", "runtime", 24⟩], 4, 40, .agg #[.pointer none, .pointer none, .pointer none, .string ByteArray.empty], [(0, 1), (1, 1), (2, 1), (3, 1)], none, false⟩
theorem te234 : TyOk Tryz.prog 234 ty234 := tyOk_of Tryz.underlying234 (ti_of (by kernel_rfl) rfl rfl) (fun fs h w => by cases h; kernel_rfl) (noTy rfl)
def ty235 : TyE := ⟨.struct #[⟨"_interface", 17, 0, false, "", "runtime", 0⟩, ⟨"concrete", 17, 1, false, "", "runtime", 8⟩, ⟨"asserted", 17, 2, false, "", "runtime", 16⟩, ⟨"missingMethod", 9, 3, false, "", "runtime", 24⟩], 4, 40, .agg #[.pointer none, .pointer none, .pointer none, .string ByteArray.empty], [(0, 1), (1, 1), (2, 1), (3, 1)], none, false⟩
theorem te235 : TyOk Tryz.prog 235 ty235 := tyOk_of Tryz.underlying235 (ti_of (by kernel_rfl) rfl rfl) (fun fs h w => by cases h; kernel_rfl) (noTy rfl)
def ty236 : TyE := ⟨.array 0 16, 0, 0, .agg #[], [], none, false⟩
theorem te236 : TyOk Tryz.prog 236 ty236 := tyOk_of Tryz.underlying236 (ti_of (by kernel_rfl) rfl rfl) (fun _ h => by cases h) (noTy rfl)
def ty237 : TyE := ⟨.struct #[⟨"_", 236, 0, false, "", "runtime", 0⟩], 0, 0, .agg #[], [(0, 0)], none, false⟩
theorem te237 : TyOk Tryz.prog 237 ty237 := tyOk_of Tryz.underlying237 (ti_of (by kernel_rfl) rfl rfl) (fun fs h w => by cases h; kernel_rfl) (noTy rfl)
def ty238 : TyE := ⟨.struct #[⟨"_", 236, 0, false, "", "runtime", 0⟩], 0, 0, .agg #[], [(0, 0)], none, false⟩
theorem te238 : TyOk Tryz.prog 238 ty238 := tyOk_of Tryz.underlying238 (ti_of (by kernel_rfl) rfl rfl) (fun fs h w => by cases h; kernel_rfl) (noTy rfl)
def ty239 : TyE := ⟨.func #[] #[3] false, 1, 8, .nilFunc, [], none, false⟩
theorem te239 : TyOk Tryz.prog 239 ty239 := tyOk_of Tryz.underlying239 (ti_of (by kernel_rfl) rfl rfl) (fun _ h => by cases h) (noTy rfl)
def ty240 : TyE := ⟨.int .u32, 1, 4, .int .u32 0, [], (some (.int .u32)), false⟩
theorem te240 : TyOk Tryz.prog 240 ty240 := tyOk_of Tryz.underlying240 (ti_of (by kernel_rfl) rfl rfl) (fun _ h => by cases h) (someTy rfl (by kernel_rfl) (by kernel_rfl))
def ty241 : TyE := ⟨.int .u8, 1, 1, .int .u8 0, [], (some (.int .u8)), false⟩
theorem te241 : TyOk Tryz.prog 241 ty241 := tyOk_of Tryz.underlying241 (ti_of (by kernel_rfl) rfl rfl) (fun _ h => by cases h) (someTy rfl (by kernel_rfl) (by kernel_rfl))
def ty242 : TyE := ⟨.int .u8, 1, 1, .int .u8 0, [], (some (.int .u8)), false⟩
theorem te242 : TyOk Tryz.prog 242 ty242 := tyOk_of Tryz.underlying242 (ti_of (by kernel_rfl) rfl rfl) (fun _ h => by cases h) (someTy rfl (by kernel_rfl) (by kernel_rfl))
def ty243 : TyE := ⟨.func #[249, 249] #[4] false, 1, 8, .nilFunc, [], none, false⟩
theorem te243 : TyOk Tryz.prog 243 ty243 := tyOk_of Tryz.underlying243 (ti_of (by kernel_rfl) rfl rfl) (fun _ h => by cases h) (noTy rfl)
def ty244 : TyE := ⟨.pointer 5, 1, 8, .pointer none, [], none, false⟩
theorem te244 : TyOk Tryz.prog 244 ty244 := tyOk_of Tryz.underlying244 (ti_of (by kernel_rfl) rfl rfl) (fun _ h => by cases h) (noTy rfl)
def ty245 : TyE := ⟨.int .i32, 1, 4, .int .i32 0, [], (some (.int .i32)), false⟩
theorem te245 : TyOk Tryz.prog 245 ty245 := tyOk_of Tryz.underlying245 (ti_of (by kernel_rfl) rfl rfl) (fun _ h => by cases h) (someTy rfl (by kernel_rfl) (by kernel_rfl))
def ty246 : TyE := ⟨.int .i32, 1, 4, .int .i32 0, [], (some (.int .i32)), false⟩
theorem te246 : TyOk Tryz.prog 246 ty246 := tyOk_of Tryz.underlying246 (ti_of (by kernel_rfl) rfl rfl) (fun _ h => by cases h) (someTy rfl (by kernel_rfl) (by kernel_rfl))
def ty247 : TyE := ⟨.struct #[⟨"Size_", 12, 0, false, "", "", 0⟩, ⟨"PtrBytes", 12, 1, false, "", "", 8⟩, ⟨"Hash", 240, 2, false, "", "", 16⟩, ⟨"TFlag", 241, 3, false, "", "", 20⟩, ⟨"Align_", 5, 4, false, "", "", 21⟩, ⟨"FieldAlign_", 5, 5, false, "", "", 22⟩, ⟨"Kind_", 242, 6, false, "", "", 23⟩, ⟨"Equal", 243, 7, false, "", "", 24⟩, ⟨"GCData", 244, 8, false, "", "", 32⟩, ⟨"Str", 245, 9, false, "", "", 40⟩, ⟨"PtrToThis", 246, 10, false, "", "", 44⟩], 11, 48, .agg #[.int .u64 0, .int .u64 0, .int .u32 0, .int .u8 0, .int .u8 0, .int .u8 0, .int .u8 0, .nilFunc, .pointer none, .int .i32 0, .int .i32 0], [(0, 1), (1, 1), (2, 1), (3, 1), (4, 1), (5, 1), (6, 1), (7, 1), (8, 1), (9, 1), (10, 1)], none, false⟩
theorem te247 : TyOk Tryz.prog 247 ty247 := tyOk_of Tryz.underlying247 (ti_of (by kernel_rfl) rfl rfl) (fun fs h w => by cases h; kernel_rfl) (noTy rfl)
def ty248 : TyE := ⟨.struct #[⟨"Size_", 12, 0, false, "", "", 0⟩, ⟨"PtrBytes", 12, 1, false, "", "", 8⟩, ⟨"Hash", 240, 2, false, "", "", 16⟩, ⟨"TFlag", 241, 3, false, "", "", 20⟩, ⟨"Align_", 5, 4, false, "", "", 21⟩, ⟨"FieldAlign_", 5, 5, false, "", "", 22⟩, ⟨"Kind_", 242, 6, false, "", "", 23⟩, ⟨"Equal", 243, 7, false, "", "", 24⟩, ⟨"GCData", 244, 8, false, "", "", 32⟩, ⟨"Str", 245, 9, false, "", "", 40⟩, ⟨"PtrToThis", 246, 10, false, "", "", 44⟩], 11, 48, .agg #[.int .u64 0, .int .u64 0, .int .u32 0, .int .u8 0, .int .u8 0, .int .u8 0, .int .u8 0, .nilFunc, .pointer none, .int .i32 0, .int .i32 0], [(0, 1), (1, 1), (2, 1), (3, 1), (4, 1), (5, 1), (6, 1), (7, 1), (8, 1), (9, 1), (10, 1)], none, false⟩
theorem te248 : TyOk Tryz.prog 248 ty248 := tyOk_of Tryz.underlying248 (ti_of (by kernel_rfl) rfl rfl) (fun fs h w => by cases h; kernel_rfl) (noTy rfl)
theorem eq23 : EqTy Tryz.prog 23 := eqTy_of Tryz.stoodInHeld23 Tryz.eqGuardType23 Tryz.underlying23 (by decide)
theorem eq24 : EqTy Tryz.prog 24 := eqTy_of Tryz.stoodInHeld24 Tryz.eqGuardType24 Tryz.underlying24 (by decide)
theorem eq31 : EqTy Tryz.prog 31 := eqTy_of Tryz.stoodInHeld31 Tryz.eqGuardType31 Tryz.underlying31 (by decide)
theorem eq32 : EqTy Tryz.prog 32 := eqTy_of Tryz.stoodInHeld32 Tryz.eqGuardType32 Tryz.underlying32 (by decide)
theorem eq39 : EqTy Tryz.prog 39 := eqTy_of Tryz.stoodInHeld39 Tryz.eqGuardType39 Tryz.underlying39 (by decide)
theorem eq40 : EqTy Tryz.prog 40 := eqTy_of Tryz.stoodInHeld40 Tryz.eqGuardType40 Tryz.underlying40 (by decide)
theorem eq41 : EqTy Tryz.prog 41 := eqTy_of Tryz.stoodInHeld41 Tryz.eqGuardType41 Tryz.underlying41 (by decide)
theorem eq42 : EqTy Tryz.prog 42 := eqTy_of Tryz.stoodInHeld42 Tryz.eqGuardType42 Tryz.underlying42 (by decide)
theorem eq53 : EqTy Tryz.prog 53 := eqTy_of Tryz.stoodInHeld53 Tryz.eqGuardType53 Tryz.underlying53 (by decide)
theorem eq54 : EqTy Tryz.prog 54 := eqTy_of Tryz.stoodInHeld54 Tryz.eqGuardType54 Tryz.underlying54 (by decide)
theorem eq57 : EqTy Tryz.prog 57 := eqTy_of Tryz.stoodInHeld57 Tryz.eqGuardType57 Tryz.underlying57 (by decide)
theorem eq58 : EqTy Tryz.prog 58 := eqTy_of Tryz.stoodInHeld58 Tryz.eqGuardType58 Tryz.underlying58 (by decide)
theorem eq88 : EqTy Tryz.prog 88 := eqTy_of Tryz.stoodInHeld88 Tryz.eqGuardType88 Tryz.underlying88 (by decide)
theorem eq89 : EqTy Tryz.prog 89 := eqTy_of Tryz.stoodInHeld89 Tryz.eqGuardType89 Tryz.underlying89 (by decide)
theorem eq114 : EqTy Tryz.prog 114 := eqTy_of Tryz.stoodInHeld114 Tryz.eqGuardType114 Tryz.underlying114 (by decide)
theorem eq115 : EqTy Tryz.prog 115 := eqTy_of Tryz.stoodInHeld115 Tryz.eqGuardType115 Tryz.underlying115 (by decide)
theorem eq150 : EqTy Tryz.prog 150 := eqTy_of Tryz.stoodInHeld150 Tryz.eqGuardType150 Tryz.underlying150 (by decide)
theorem eq151 : EqTy Tryz.prog 151 := eqTy_of Tryz.stoodInHeld151 Tryz.eqGuardType151 Tryz.underlying151 (by decide)
theorem eq152 : EqTy Tryz.prog 152 := eqTy_of Tryz.stoodInHeld152 Tryz.eqGuardType152 Tryz.underlying152 (by decide)
theorem eq153 : EqTy Tryz.prog 153 := eqTy_of Tryz.stoodInHeld153 Tryz.eqGuardType153 Tryz.underlying153 (by decide)
def env : Env := ⟨(.node (.node (.node (.node (.node (.node (.node (.node .nil none .nil) (some ty63) (.node .nil (some ty191) .nil)) (some ty31) (.node (.node .nil (some ty159) .nil) (some ty95) (.node .nil (some ty223) .nil))) (some ty15) (.node (.node (.node .nil (some ty143) .nil) (some ty79) (.node .nil (some ty207) .nil)) (some ty47) (.node (.node .nil none .nil) (some ty111) (.node .nil (some ty239) .nil)))) (some ty7) (.node (.node (.node (.node .nil (some ty135) .nil) (some ty71) (.node .nil (some ty199) .nil)) (some ty39) (.node (.node .nil (some ty167) .nil) (some ty103) (.node .nil (some ty231) .nil))) (some ty23) (.node (.node (.node .nil (some ty151) .nil) (some ty87) (.node .nil (some ty215) .nil)) (some ty55) (.node (.node .nil (some ty183) .nil) (some ty119) (.node .nil (some ty247) .nil))))) (some ty3) (.node (.node (.node (.node (.node .nil (some ty131) .nil) (some ty67) (.node .nil (some ty195) .nil)) (some ty35) (.node (.node .nil (some ty163) .nil) (some ty99) (.node .nil (some ty227) .nil))) (some ty19) (.node (.node (.node .nil (some ty147) .nil) (some ty83) (.node .nil none .nil)) (some ty51) (.node (.node .nil (some ty179) .nil) (some ty115) (.node .nil (some ty243) .nil)))) (some ty11) (.node (.node (.node (.node .nil (some ty139) .nil) (some ty75) (.node .nil (some ty203) .nil)) none (.node (.node .nil none .nil) (some ty107) (.node .nil (some ty235) .nil))) (some ty27) (.node (.node (.node .nil (some ty155) .nil) (some ty91) (.node .nil (some ty219) .nil)) (some ty59) (.node (.node .nil none .nil) (some ty123) .nil))))) (some ty1) (.node (.node (.node (.node (.node (.node .nil (some ty129) .nil) (some ty65) (.node .nil (some ty193) .nil)) (some ty33) (.node (.node .nil (some ty161) .nil) (some ty97) (.node .nil (some ty225) .nil))) (some ty17) (.node (.node (.node .nil (some ty145) .nil) (some ty81) (.node .nil (some ty209) .nil)) (some ty49) (.node (.node .nil (some ty177) .nil) (some ty113) (.node .nil (some ty241) .nil)))) (some ty9) (.node (.node (.node (.node .nil (some ty137) .nil) none (.node .nil (some ty201) .nil)) (some ty41) (.node (.node .nil (some ty169) .nil) (some ty105) (.node .nil (some ty233) .nil))) (some ty25) (.node (.node (.node .nil (some ty153) .nil) (some ty89) (.node .nil (some ty217) .nil)) (some ty57) (.node (.node .nil none .nil) (some ty121) .nil)))) (some ty5) (.node (.node (.node (.node (.node .nil (some ty133) .nil) (some ty69) (.node .nil (some ty197) .nil)) none (.node (.node .nil (some ty165) .nil) (some ty101) (.node .nil (some ty229) .nil))) (some ty21) (.node (.node (.node .nil (some ty149) .nil) (some ty85) (.node .nil (some ty213) .nil)) (some ty53) (.node (.node .nil (some ty181) .nil) (some ty117) (.node .nil (some ty245) .nil)))) (some ty13) (.node (.node (.node (.node .nil (some ty141) .nil) (some ty77) (.node .nil (some ty205) .nil)) (some ty45) (.node (.node .nil (some ty173) .nil) (some ty109) (.node .nil (some ty237) .nil))) none (.node (.node (.node .nil (some ty157) .nil) (some ty93) (.node .nil none .nil)) (some ty61) (.node (.node .nil (some ty189) .nil) (some ty125) .nil)))))) none (.node (.node (.node (.node (.node (.node (.node .nil (some ty128) .nil) (some ty64) (.node .nil none .nil)) (some ty32) (.node (.node .nil (some ty160) .nil) (some ty96) (.node .nil (some ty224) .nil))) (some ty16) (.node (.node (.node .nil (some ty144) .nil) (some ty80) (.node .nil (some ty208) .nil)) (some ty48) (.node (.node .nil (some ty176) .nil) (some ty112) (.node .nil (some ty240) .nil)))) (some ty8) (.node (.node (.node (.node .nil (some ty136) .nil) (some ty72) (.node .nil (some ty200) .nil)) (some ty40) (.node (.node .nil (some ty168) .nil) (some ty104) (.node .nil (some ty232) .nil))) (some ty24) (.node (.node (.node .nil (some ty152) .nil) (some ty88) (.node .nil (some ty216) .nil)) (some ty56) (.node (.node .nil (some ty184) .nil) (some ty120) (.node .nil (some ty248) .nil))))) (some ty4) (.node (.node (.node (.node (.node .nil (some ty132) .nil) (some ty68) (.node .nil (some ty196) .nil)) (some ty36) (.node (.node .nil none .nil) (some ty100) (.node .nil (some ty228) .nil))) none (.node (.node (.node .nil (some ty148) .nil) (some ty84) (.node .nil (some ty212) .nil)) (some ty52) (.node (.node .nil (some ty180) .nil) (some ty116) (.node .nil (some ty244) .nil)))) (some ty12) (.node (.node (.node (.node .nil (some ty140) .nil) (some ty76) (.node .nil (some ty204) .nil)) (some ty44) (.node (.node .nil (some ty172) .nil) (some ty108) (.node .nil (some ty236) .nil))) (some ty28) (.node (.node (.node .nil none .nil) (some ty92) (.node .nil (some ty220) .nil)) (some ty60) (.node (.node .nil (some ty188) .nil) (some ty124) .nil))))) (some ty2) (.node (.node (.node (.node (.node (.node .nil none .nil) (some ty66) (.node .nil (some ty194) .nil)) (some ty34) (.node (.node .nil (some ty162) .nil) (some ty98) (.node .nil (some ty226) .nil))) (some ty18) (.node (.node (.node .nil (some ty146) .nil) (some ty82) (.node .nil (some ty210) .nil)) (some ty50) (.node (.node .nil (some ty178) .nil) (some ty114) (.node .nil (some ty242) .nil)))) (some ty10) (.node (.node (.node (.node .nil (some ty138) .nil) (some ty74) (.node .nil (some ty202) .nil)) (some ty42) (.node (.node .nil (some ty170) .nil) (some ty106) (.node .nil (some ty234) .nil))) (some ty26) (.node (.node (.node .nil none .nil) none (.node .nil (some ty218) .nil)) (some ty58) (.node (.node .nil (some ty186) .nil) (some ty122) .nil)))) (some ty6) (.node (.node (.node (.node (.node .nil none .nil) (some ty70) (.node .nil (some ty198) .nil)) (some ty38) (.node (.node .nil (some ty166) .nil) none (.node .nil (some ty230) .nil))) (some ty22) (.node (.node (.node .nil (some ty150) .nil) (some ty86) (.node .nil (some ty214) .nil)) (some ty54) (.node (.node .nil (some ty182) .nil) none (.node .nil (some ty246) .nil)))) (some ty14) (.node (.node (.node (.node .nil (some ty142) .nil) (some ty78) (.node .nil (some ty206) .nil)) (some ty46) (.node (.node .nil (some ty174) .nil) (some ty110) (.node .nil (some ty238) .nil))) (some ty30) (.node (.node (.node .nil (some ty158) .nil) (some ty94) (.node .nil (some ty222) .nil)) (some ty62) (.node (.node .nil none .nil) (some ty126) .nil))))))), [23, 24, 31, 32, 39, 40, 41, 42, 53, 54, 57, 58, 88, 89, 114, 115, 150, 151, 152, 153]⟩
theorem envok : EnvOk Tryz.prog env := ⟨tget_ok (.no (.yes te1 (.yes te3 (.yes te7 (.yes te15 (.yes te31 (.yes te63 (.no (.nil _ _) (.nil _ _)) (.yes te191 (.nil _ _) (.nil _ _))) (.yes te95 (.yes te159 (.nil _ _) (.nil _ _)) (.yes te223 (.nil _ _) (.nil _ _)))) (.yes te47 (.yes te79 (.yes te143 (.nil _ _) (.nil _ _)) (.yes te207 (.nil _ _) (.nil _ _))) (.yes te111 (.no (.nil _ _) (.nil _ _)) (.yes te239 (.nil _ _) (.nil _ _))))) (.yes te23 (.yes te39 (.yes te71 (.yes te135 (.nil _ _) (.nil _ _)) (.yes te199 (.nil _ _) (.nil _ _))) (.yes te103 (.yes te167 (.nil _ _) (.nil _ _)) (.yes te231 (.nil _ _) (.nil _ _)))) (.yes te55 (.yes te87 (.yes te151 (.nil _ _) (.nil _ _)) (.yes te215 (.nil _ _) (.nil _ _))) (.yes te119 (.yes te183 (.nil _ _) (.nil _ _)) (.yes te247 (.nil _ _) (.nil _ _)))))) (.yes te11 (.yes te19 (.yes te35 (.yes te67 (.yes te131 (.nil _ _) (.nil _ _)) (.yes te195 (.nil _ _) (.nil _ _))) (.yes te99 (.yes te163 (.nil _ _) (.nil _ _)) (.yes te227 (.nil _ _) (.nil _ _)))) (.yes te51 (.yes te83 (.yes te147 (.nil _ _) (.nil _ _)) (.no (.nil _ _) (.nil _ _))) (.yes te115 (.yes te179 (.nil _ _) (.nil _ _)) (.yes te243 (.nil _ _) (.nil _ _))))) (.yes te27 (.no (.yes te75 (.yes te139 (.nil _ _) (.nil _ _)) (.yes te203 (.nil _ _) (.nil _ _))) (.yes te107 (.no (.nil _ _) (.nil _ _)) (.yes te235 (.nil _ _) (.nil _ _)))) (.yes te59 (.yes te91 (.yes te155 (.nil _ _) (.nil _ _)) (.yes te219 (.nil _ _) (.nil _ _))) (.yes te123 (.no (.nil _ _) (.nil _ _)) (.nil _ _)))))) (.yes te5 (.yes te9 (.yes te17 (.yes te33 (.yes te65 (.yes te129 (.nil _ _) (.nil _ _)) (.yes te193 (.nil _ _) (.nil _ _))) (.yes te97 (.yes te161 (.nil _ _) (.nil _ _)) (.yes te225 (.nil _ _) (.nil _ _)))) (.yes te49 (.yes te81 (.yes te145 (.nil _ _) (.nil _ _)) (.yes te209 (.nil _ _) (.nil _ _))) (.yes te113 (.yes te177 (.nil _ _) (.nil _ _)) (.yes te241 (.nil _ _) (.nil _ _))))) (.yes te25 (.yes te41 (.no (.yes te137 (.nil _ _) (.nil _ _)) (.yes te201 (.nil _ _) (.nil _ _))) (.yes te105 (.yes te169 (.nil _ _) (.nil _ _)) (.yes te233 (.nil _ _) (.nil _ _)))) (.yes te57 (.yes te89 (.yes te153 (.nil _ _) (.nil _ _)) (.yes te217 (.nil _ _) (.nil _ _))) (.yes te121 (.no (.nil _ _) (.nil _ _)) (.nil _ _))))) (.yes te13 (.yes te21 (.no (.yes te69 (.yes te133 (.nil _ _) (.nil _ _)) (.yes te197 (.nil _ _) (.nil _ _))) (.yes te101 (.yes te165 (.nil _ _) (.nil _ _)) (.yes te229 (.nil _ _) (.nil _ _)))) (.yes te53 (.yes te85 (.yes te149 (.nil _ _) (.nil _ _)) (.yes te213 (.nil _ _) (.nil _ _))) (.yes te117 (.yes te181 (.nil _ _) (.nil _ _)) (.yes te245 (.nil _ _) (.nil _ _))))) (.no (.yes te45 (.yes te77 (.yes te141 (.nil _ _) (.nil _ _)) (.yes te205 (.nil _ _) (.nil _ _))) (.yes te109 (.yes te173 (.nil _ _) (.nil _ _)) (.yes te237 (.nil _ _) (.nil _ _)))) (.yes te61 (.yes te93 (.yes te157 (.nil _ _) (.nil _ _)) (.no (.nil _ _) (.nil _ _))) (.yes te125 (.yes te189 (.nil _ _) (.nil _ _)) (.nil _ _))))))) (.yes te2 (.yes te4 (.yes te8 (.yes te16 (.yes te32 (.yes te64 (.yes te128 (.nil _ _) (.nil _ _)) (.no (.nil _ _) (.nil _ _))) (.yes te96 (.yes te160 (.nil _ _) (.nil _ _)) (.yes te224 (.nil _ _) (.nil _ _)))) (.yes te48 (.yes te80 (.yes te144 (.nil _ _) (.nil _ _)) (.yes te208 (.nil _ _) (.nil _ _))) (.yes te112 (.yes te176 (.nil _ _) (.nil _ _)) (.yes te240 (.nil _ _) (.nil _ _))))) (.yes te24 (.yes te40 (.yes te72 (.yes te136 (.nil _ _) (.nil _ _)) (.yes te200 (.nil _ _) (.nil _ _))) (.yes te104 (.yes te168 (.nil _ _) (.nil _ _)) (.yes te232 (.nil _ _) (.nil _ _)))) (.yes te56 (.yes te88 (.yes te152 (.nil _ _) (.nil _ _)) (.yes te216 (.nil _ _) (.nil _ _))) (.yes te120 (.yes te184 (.nil _ _) (.nil _ _)) (.yes te248 (.nil _ _) (.nil _ _)))))) (.yes te12 (.no (.yes te36 (.yes te68 (.yes te132 (.nil _ _) (.nil _ _)) (.yes te196 (.nil _ _) (.nil _ _))) (.yes te100 (.no (.nil _ _) (.nil _ _)) (.yes te228 (.nil _ _) (.nil _ _)))) (.yes te52 (.yes te84 (.yes te148 (.nil _ _) (.nil _ _)) (.yes te212 (.nil _ _) (.nil _ _))) (.yes te116 (.yes te180 (.nil _ _) (.nil _ _)) (.yes te244 (.nil _ _) (.nil _ _))))) (.yes te28 (.yes te44 (.yes te76 (.yes te140 (.nil _ _) (.nil _ _)) (.yes te204 (.nil _ _) (.nil _ _))) (.yes te108 (.yes te172 (.nil _ _) (.nil _ _)) (.yes te236 (.nil _ _) (.nil _ _)))) (.yes te60 (.yes te92 (.no (.nil _ _) (.nil _ _)) (.yes te220 (.nil _ _) (.nil _ _))) (.yes te124 (.yes te188 (.nil _ _) (.nil _ _)) (.nil _ _)))))) (.yes te6 (.yes te10 (.yes te18 (.yes te34 (.yes te66 (.no (.nil _ _) (.nil _ _)) (.yes te194 (.nil _ _) (.nil _ _))) (.yes te98 (.yes te162 (.nil _ _) (.nil _ _)) (.yes te226 (.nil _ _) (.nil _ _)))) (.yes te50 (.yes te82 (.yes te146 (.nil _ _) (.nil _ _)) (.yes te210 (.nil _ _) (.nil _ _))) (.yes te114 (.yes te178 (.nil _ _) (.nil _ _)) (.yes te242 (.nil _ _) (.nil _ _))))) (.yes te26 (.yes te42 (.yes te74 (.yes te138 (.nil _ _) (.nil _ _)) (.yes te202 (.nil _ _) (.nil _ _))) (.yes te106 (.yes te170 (.nil _ _) (.nil _ _)) (.yes te234 (.nil _ _) (.nil _ _)))) (.yes te58 (.no (.no (.nil _ _) (.nil _ _)) (.yes te218 (.nil _ _) (.nil _ _))) (.yes te122 (.yes te186 (.nil _ _) (.nil _ _)) (.nil _ _))))) (.yes te14 (.yes te22 (.yes te38 (.yes te70 (.no (.nil _ _) (.nil _ _)) (.yes te198 (.nil _ _) (.nil _ _))) (.no (.yes te166 (.nil _ _) (.nil _ _)) (.yes te230 (.nil _ _) (.nil _ _)))) (.yes te54 (.yes te86 (.yes te150 (.nil _ _) (.nil _ _)) (.yes te214 (.nil _ _) (.nil _ _))) (.no (.yes te182 (.nil _ _) (.nil _ _)) (.yes te246 (.nil _ _) (.nil _ _))))) (.yes te30 (.yes te46 (.yes te78 (.yes te142 (.nil _ _) (.nil _ _)) (.yes te206 (.nil _ _) (.nil _ _))) (.yes te110 (.yes te174 (.nil _ _) (.nil _ _)) (.yes te238 (.nil _ _) (.nil _ _)))) (.yes te62 (.yes te94 (.yes te158 (.nil _ _) (.nil _ _)) (.yes te222 (.nil _ _) (.nil _ _))) (.yes te126 (.no (.nil _ _) (.nil _ _)) (.nil _ _)))))))), eqs_ok (.cons eq23 (.cons eq24 (.cons eq31 (.cons eq32 (.cons eq39 (.cons eq40 (.cons eq41 (.cons eq42 (.cons eq53 (.cons eq54 (.cons eq57 (.cons eq58 (.cons eq88 (.cons eq89 (.cons eq114 (.cons eq115 (.cons eq150 (.cons eq151 (.cons eq152 (.cons eq153 (.nil))))))))))))))))))))), by kernel_rfl⟩
def homes : List (Nat × Nat) := [(71, 11), (98, 12), (109, 0), (139, 8), (149, 1), (201, 2), (217, 13)]
end Go.Proofs.YtihiooaimdoapaaGreat
