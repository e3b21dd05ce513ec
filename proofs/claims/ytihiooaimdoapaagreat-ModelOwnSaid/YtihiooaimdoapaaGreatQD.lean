/- Texts of one proof, put together: see each part. -/
import Derived.Test.YtihiooaimdoapaaGreatRows
import Derived.Test.YtihiooaimdoapaaGreatQC
set_option linter.unusedVariables false
set_option linter.unusedSimpArgs false
namespace Go.Proofs.YtihiooaimdoapaaGreat
open Go.Bm
set_option maxRecDepth 20000
def R0 : RK := (.box (.pair (.pair (.int .i64) (.pair (.int .i64) (.pair (.int .i64) (.int .i64)))) (.pair (.slc (.slc (.pair (.int .u8) (.pair (.int .i64) (.int .i64))))) (.pair (.ptr 1) (.pair (.rsl 5 3) (.pair (.rsl 6 5) (.mp 7)))))))
def R1 : RK := (.box (.pair (.rsl 3 6) (.ptr 2)))
def R2 : RK := (.box (.pair (.int .i64) (.pair (.int .i64) (.rsl 4 2))))
def R3 : RK := (.row (.pair (.pair (.int .i64) (.pair (.int .i64) (.pair (.int .i64) (.int .i64)))) (.pair (.int .i64) (.int .i64))))
def R4 : RK := (.row (.pair (.int .i64) (.int .i64)))
def R5 : RK := (.row (.pair (.int .i64) (.pair (.int .u64) (.rsl 9 1))))
def R6 : RK := (.row (.pair (.arr 4 (.int .u64)) (.slc (.pair (.int .i64) .bool))))
def R7 : RK := (.map true (.pair (.int .i64) (.pair (.int .i64) (.int .i64))) false (.ptr 8))
def R8 : RK := (.box (.pair (.pair (.int .i64) (.pair (.int .i64) (.int .i64))) (.pair (.int .i64) (.pair (.rsl 10 1) .bool))))
def R9 : RK := (.row (.ptr 8))
def R10 : RK := (.row (.int .u64))
def R11 : RK := (.box (.pair (.pair (.int .i64) (.pair (.int .i64) (.pair (.int .i64) (.int .i64)))) (.pair (.slc (.slc (.pair (.int .u8) (.pair (.int .i64) (.int .i64))))) (.pair (.ptr 12) (.pair (.rsl 17 5) (.pair (.arr 8 (.int .u64)) (.pair (.arr 8 (.int .i64)) (.pair (.arr 4 (.arr 4 (.int .u64))) (.arr 4 (.slc (.pair (.int .i64) .bool)))))))))))
def R12 : RK := (.box (.pair (.rsl 14 4) (.pair (.rsl 15 2) (.ptr 13))))
def R14 : RK := (.row (.pair (.int .i64) (.pair (.int .i64) (.pair (.int .i64) (.int .i64)))))
def R15 : RK := (.row (.pair (.int .i64) (.int .i64)))
def R16 : RK := (.row .bool)
def R17 : RK := (.row (.pair (.int .i64) (.pair (.int .i64) (.pair (.int .i64) (.pair (.rsl 18 1) .bool)))))
def R18 : RK := (.row (.int .u64))
def ty2 : TyE := ⟨.int .i64, 1, 8, .int .i64 0, [], (some (.int .i64)), false⟩
theorem te2 : TyOk Tryz.prog 2 ty2 := tyOk_of Tryz.underlying2 (ti_of (by kernel_rfl) rfl rfl) (fun _ h => by cases h) (someTy rfl (by kernel_rfl) (by kernel_rfl))
def ty3 : TyE := ⟨.int .i64, 1, 8, .int .i64 0, [], (some (.int .i64)), false⟩
theorem te3 : TyOk Tryz.prog 3 ty3 := tyOk_of Tryz.underlying3 (ti_of (by kernel_rfl) rfl rfl) (fun _ h => by cases h) (someTy rfl (by kernel_rfl) (by kernel_rfl))
def ty4 : TyE := ⟨.bool, 1, 1, .bool false, [], (some .bool), false⟩
theorem te4 : TyOk Tryz.prog 4 ty4 := tyOk_of Tryz.underlying4 (ti_of (by kernel_rfl) rfl rfl) (fun _ h => by cases h) (someTy rfl (by kernel_rfl) (by kernel_rfl))
def ty5 : TyE := ⟨.int .u8, 1, 1, .int .u8 0, [], (some (.int .u8)), false⟩
theorem te5 : TyOk Tryz.prog 5 ty5 := tyOk_of Tryz.underlying5 (ti_of (by kernel_rfl) rfl rfl) (fun _ h => by cases h) (someTy rfl (by kernel_rfl) (by kernel_rfl))
def ty9 : TyE := ⟨.string, 1, 16, .string ByteArray.empty, [], none, false⟩
theorem te9 : TyOk Tryz.prog 9 ty9 := tyOk_of Tryz.underlying9 (ti_of (by kernel_rfl) rfl rfl) (fun _ h => by cases h) (noTy rfl)
def ty12 : TyE := ⟨.int .u64, 1, 8, .int .u64 0, [], (some (.int .u64)), false⟩
theorem te12 : TyOk Tryz.prog 12 ty12 := tyOk_of Tryz.underlying12 (ti_of (by kernel_rfl) rfl rfl) (fun _ h => by cases h) (someTy rfl (by kernel_rfl) (by kernel_rfl))
def ty13 : TyE := ⟨.struct #[⟨"msg", 9, 0, false, "", "runtime", 0⟩, ⟨"addr", 12, 1, false, "", "runtime", 16⟩], 2, 24, .agg #[.string ByteArray.empty, .int .u64 0], [(0, 1), (1, 1)], none, false⟩
theorem te13 : TyOk Tryz.prog 13 ty13 := tyOk_of Tryz.underlying13 (ti_of (by kernel_rfl) rfl rfl) (fun fs h w => by cases h; kernel_rfl) (noTy rfl)
def ty21 : TyE := ⟨.int .i32, 1, 4, .int .i32 0, [], (some (.int .i32)), false⟩
theorem te21 : TyOk Tryz.prog 21 ty21 := tyOk_of Tryz.underlying21 (ti_of (by kernel_rfl) rfl rfl) (fun _ h => by cases h) (someTy rfl (by kernel_rfl) (by kernel_rfl))
def ty23 : TyE := ⟨.struct #[⟨"Op", 5, 0, false, "", "", 0⟩, ⟨"A", 3, 1, false, "", "", 8⟩, ⟨"B", 3, 2, false, "", "", 16⟩], 3, 24, .agg #[.int .u8 0, .int .i64 0, .int .i64 0], [(0, 1), (1, 1), (2, 1)], (some (.pair (.int .u8) (.pair (.int .i64) (.int .i64)))), false⟩
theorem te23 : TyOk Tryz.prog 23 ty23 := tyOk_of Tryz.underlying23 (ti_of (by kernel_rfl) rfl rfl) (fun fs h w => by cases h; kernel_rfl) (someTy rfl (by kernel_rfl) (by kernel_rfl))
def ty24 : TyE := ⟨.struct #[⟨"Op", 5, 0, false, "", "", 0⟩, ⟨"A", 3, 1, false, "", "", 8⟩, ⟨"B", 3, 2, false, "", "", 16⟩], 3, 24, .agg #[.int .u8 0, .int .i64 0, .int .i64 0], [(0, 1), (1, 1), (2, 1)], (some (.pair (.int .u8) (.pair (.int .i64) (.int .i64)))), false⟩
theorem te24 : TyOk Tryz.prog 24 ty24 := tyOk_of Tryz.underlying24 (ti_of (by kernel_rfl) rfl rfl) (fun fs h w => by cases h; kernel_rfl) (someTy rfl (by kernel_rfl) (by kernel_rfl))
def ty25 : TyE := ⟨.slice 24, 1, 24, .slice none 0 0, [], (some (.slc (.pair (.int .u8) (.pair (.int .i64) (.int .i64))))), false⟩
theorem te25 : TyOk Tryz.prog 25 ty25 := tyOk_of Tryz.underlying25 (ti_of (by kernel_rfl) rfl rfl) (fun _ h => by cases h) (someTy rfl (by kernel_rfl) (by kernel_rfl))
def ty26 : TyE := ⟨.slice 25, 1, 24, .slice none 0 0, [], (some (.slc (.slc (.pair (.int .u8) (.pair (.int .i64) (.int .i64)))))), false⟩
theorem te26 : TyOk Tryz.prog 26 ty26 := tyOk_of Tryz.underlying26 (ti_of (by kernel_rfl) rfl rfl) (fun _ h => by cases h) (someTy rfl (by kernel_rfl) (by kernel_rfl))
def ty27 : TyE := ⟨.pointer 109, 1, 8, .pointer none, [], (some (.ptr 0)), false⟩
theorem te27 : TyOk Tryz.prog 27 ty27 := tyOk_of Tryz.underlying27 (ti_of (by kernel_rfl) rfl rfl) (fun _ h => by cases h) (someTy rfl (by kernel_rfl) (by kernel_rfl))
def ty28 : TyE := ⟨.int .i64, 1, 8, .int .i64 0, [], (some (.int .i64)), false⟩
theorem te28 : TyOk Tryz.prog 28 ty28 := tyOk_of Tryz.underlying28 (ti_of (by kernel_rfl) rfl rfl) (fun _ h => by cases h) (someTy rfl (by kernel_rfl) (by kernel_rfl))
def ty31 : TyE := ⟨.struct #[⟨"Scopes", 3, 0, false, "", "", 0⟩, ⟨"Threads", 3, 1, false, "", "", 8⟩, ⟨"Immortal", 3, 2, false, "", "", 16⟩, ⟨"Heap", 3, 3, false, "", "", 24⟩], 4, 32, .agg #[.int .i64 0, .int .i64 0, .int .i64 0, .int .i64 0], [(0, 1), (1, 1), (2, 1), (3, 1)], (some (.pair (.int .i64) (.pair (.int .i64) (.pair (.int .i64) (.int .i64))))), false⟩
theorem te31 : TyOk Tryz.prog 31 ty31 := tyOk_of Tryz.underlying31 (ti_of (by kernel_rfl) rfl rfl) (fun fs h w => by cases h; kernel_rfl) (someTy rfl (by kernel_rfl) (by kernel_rfl))
def ty32 : TyE := ⟨.struct #[⟨"Scopes", 3, 0, false, "", "", 0⟩, ⟨"Threads", 3, 1, false, "", "", 8⟩, ⟨"Immortal", 3, 2, false, "", "", 16⟩, ⟨"Heap", 3, 3, false, "", "", 24⟩], 4, 32, .agg #[.int .i64 0, .int .i64 0, .int .i64 0, .int .i64 0], [(0, 1), (1, 1), (2, 1), (3, 1)], (some (.pair (.int .i64) (.pair (.int .i64) (.pair (.int .i64) (.int .i64))))), false⟩
theorem te32 : TyOk Tryz.prog 32 ty32 := tyOk_of Tryz.underlying32 (ti_of (by kernel_rfl) rfl rfl) (fun fs h w => by cases h; kernel_rfl) (someTy rfl (by kernel_rfl) (by kernel_rfl))
def ty34 : TyE := ⟨.slice 3, 1, 24, .slice none 0 0, [], (some (.slc (.int .i64))), false⟩
theorem te34 : TyOk Tryz.prog 34 ty34 := tyOk_of Tryz.underlying34 (ti_of (by kernel_rfl) rfl rfl) (fun _ h => by cases h) (someTy rfl (by kernel_rfl) (by kernel_rfl))
def ty35 : TyE := ⟨.struct #[⟨"Code", 28, 0, false, "", "", 0⟩, ⟨"N", 3, 1, false, "", "", 8⟩, ⟨"Said", 34, 2, false, "", "", 16⟩], 3, 40, .agg #[.int .i64 0, .int .i64 0, .slice none 0 0], [(0, 1), (1, 1), (2, 1)], (some (.pair (.int .i64) (.pair (.int .i64) (.slc (.int .i64))))), false⟩
theorem te35 : TyOk Tryz.prog 35 ty35 := tyOk_of Tryz.underlying35 (ti_of (by kernel_rfl) rfl rfl) (fun fs h w => by cases h; kernel_rfl) (someTy rfl (by kernel_rfl) (by kernel_rfl))
def ty36 : TyE := ⟨.struct #[⟨"Code", 28, 0, false, "", "", 0⟩, ⟨"N", 3, 1, false, "", "", 8⟩, ⟨"Said", 34, 2, false, "", "", 16⟩], 3, 40, .agg #[.int .i64 0, .int .i64 0, .slice none 0 0], [(0, 1), (1, 1), (2, 1)], none, false⟩
theorem te36 : TyOk Tryz.prog 36 ty36 := tyOk_of Tryz.underlying36 (ti_of (by kernel_rfl) rfl rfl) (fun fs h w => by cases h; kernel_rfl) (noTy rfl)
def ty39 : TyE := ⟨.struct #[⟨"Op", 5, 0, false, "", "", 0⟩, ⟨"R", 5, 1, false, "", "", 1⟩, ⟨"H", 5, 2, false, "", "", 2⟩, ⟨"V", 5, 3, false, "", "", 3⟩, ⟨"A", 3, 4, false, "", "", 8⟩, ⟨"B", 3, 5, false, "", "", 16⟩, ⟨"C", 3, 6, false, "", "", 24⟩], 7, 32, .agg #[.int .u8 0, .int .u8 0, .int .u8 0, .int .u8 0, .int .i64 0, .int .i64 0, .int .i64 0], [(0, 1), (1, 1), (2, 1), (3, 1), (4, 1), (5, 1), (6, 1)], (some (.pair (.int .u8) (.pair (.int .u8) (.pair (.int .u8) (.pair (.int .u8) (.pair (.int .i64) (.pair (.int .i64) (.int .i64)))))))), false⟩
theorem te39 : TyOk Tryz.prog 39 ty39 := tyOk_of Tryz.underlying39 (ti_of (by kernel_rfl) rfl rfl) (fun fs h w => by cases h; kernel_rfl) (someTy rfl (by kernel_rfl) (by kernel_rfl))
def ty40 : TyE := ⟨.struct #[⟨"Op", 5, 0, false, "", "", 0⟩, ⟨"R", 5, 1, false, "", "", 1⟩, ⟨"H", 5, 2, false, "", "", 2⟩, ⟨"V", 5, 3, false, "", "", 3⟩, ⟨"A", 3, 4, false, "", "", 8⟩, ⟨"B", 3, 5, false, "", "", 16⟩, ⟨"C", 3, 6, false, "", "", 24⟩], 7, 32, .agg #[.int .u8 0, .int .u8 0, .int .u8 0, .int .u8 0, .int .i64 0, .int .i64 0, .int .i64 0], [(0, 1), (1, 1), (2, 1), (3, 1), (4, 1), (5, 1), (6, 1)], (some (.pair (.int .u8) (.pair (.int .u8) (.pair (.int .u8) (.pair (.int .u8) (.pair (.int .i64) (.pair (.int .i64) (.int .i64)))))))), false⟩
theorem te40 : TyOk Tryz.prog 40 ty40 := tyOk_of Tryz.underlying40 (ti_of (by kernel_rfl) rfl rfl) (fun fs h w => by cases h; kernel_rfl) (someTy rfl (by kernel_rfl) (by kernel_rfl))
def ty41 : TyE := ⟨.struct #[⟨"State", 3, 0, false, "", "", 0⟩, ⟨"Count", 3, 1, false, "", "", 8⟩, ⟨"Parent", 3, 2, false, "", "", 16⟩, ⟨"Epoch", 3, 3, false, "", "", 24⟩], 4, 32, .agg #[.int .i64 0, .int .i64 0, .int .i64 0, .int .i64 0], [(0, 1), (1, 1), (2, 1), (3, 1)], (some (.pair (.int .i64) (.pair (.int .i64) (.pair (.int .i64) (.int .i64))))), false⟩
theorem te41 : TyOk Tryz.prog 41 ty41 := tyOk_of Tryz.underlying41 (ti_of (by kernel_rfl) rfl rfl) (fun fs h w => by cases h; kernel_rfl) (someTy rfl (by kernel_rfl) (by kernel_rfl))
def ty42 : TyE := ⟨.struct #[⟨"State", 3, 0, false, "", "", 0⟩, ⟨"Count", 3, 1, false, "", "", 8⟩, ⟨"Parent", 3, 2, false, "", "", 16⟩, ⟨"Epoch", 3, 3, false, "", "", 24⟩], 4, 32, .agg #[.int .i64 0, .int .i64 0, .int .i64 0, .int .i64 0], [(0, 1), (1, 1), (2, 1), (3, 1)], (some (.pair (.int .i64) (.pair (.int .i64) (.pair (.int .i64) (.int .i64))))), false⟩
theorem te42 : TyOk Tryz.prog 42 ty42 := tyOk_of Tryz.underlying42 (ti_of (by kernel_rfl) rfl rfl) (fun fs h w => by cases h; kernel_rfl) (someTy rfl (by kernel_rfl) (by kernel_rfl))
def ty45 : TyE := ⟨.int .u64, 1, 8, .int .u64 0, [], (some (.int .u64)), false⟩
theorem te45 : TyOk Tryz.prog 45 ty45 := tyOk_of Tryz.underlying45 (ti_of (by kernel_rfl) rfl rfl) (fun _ h => by cases h) (someTy rfl (by kernel_rfl) (by kernel_rfl))
def ty50 : TyE := ⟨.slice 54, 1, 24, .slice none 0 0, [], (some (.slc (.pair (.int .i64) (.pair (.int .u8) (.pair (.int .u8) (.pair (.int .u8) (.pair (.int .u8) (.pair (.int .i64) (.pair (.int .i64) (.int .i64)))))))))), false⟩
theorem te50 : TyOk Tryz.prog 50 ty50 := tyOk_of Tryz.underlying50 (ti_of (by kernel_rfl) rfl rfl) (fun _ h => by cases h) (someTy rfl (by kernel_rfl) (by kernel_rfl))
def ty53 : TyE := ⟨.struct #[⟨"Thread", 3, 0, false, "", "", 0⟩, ⟨"Call", 40, 1, false, "", "", 8⟩], 8, 40, .agg #[.int .i64 0, .int .u8 0, .int .u8 0, .int .u8 0, .int .u8 0, .int .i64 0, .int .i64 0, .int .i64 0], [(0, 1), (1, 7)], (some (.pair (.int .i64) (.pair (.int .u8) (.pair (.int .u8) (.pair (.int .u8) (.pair (.int .u8) (.pair (.int .i64) (.pair (.int .i64) (.int .i64))))))))), false⟩
theorem te53 : TyOk Tryz.prog 53 ty53 := tyOk_of Tryz.underlying53 (ti_of (by kernel_rfl) rfl rfl) (fun fs h w => by cases h; kernel_rfl) (someTy rfl (by kernel_rfl) (by kernel_rfl))
def ty54 : TyE := ⟨.struct #[⟨"Thread", 3, 0, false, "", "", 0⟩, ⟨"Call", 40, 1, false, "", "", 8⟩], 8, 40, .agg #[.int .i64 0, .int .u8 0, .int .u8 0, .int .u8 0, .int .u8 0, .int .i64 0, .int .i64 0, .int .i64 0], [(0, 1), (1, 7)], (some (.pair (.int .i64) (.pair (.int .u8) (.pair (.int .u8) (.pair (.int .u8) (.pair (.int .u8) (.pair (.int .i64) (.pair (.int .i64) (.int .i64))))))))), false⟩
theorem te54 : TyOk Tryz.prog 54 ty54 := tyOk_of Tryz.underlying54 (ti_of (by kernel_rfl) rfl rfl) (fun fs h w => by cases h; kernel_rfl) (someTy rfl (by kernel_rfl) (by kernel_rfl))
def ty55 : TyE := ⟨.slice 58, 1, 24, .slice none 0 0, [], (some (.slc (.pair (.int .i64) .bool))), false⟩
theorem te55 : TyOk Tryz.prog 55 ty55 := tyOk_of Tryz.underlying55 (ti_of (by kernel_rfl) rfl rfl) (fun _ h => by cases h) (someTy rfl (by kernel_rfl) (by kernel_rfl))
def ty57 : TyE := ⟨.struct #[⟨"Scope", 3, 0, false, "", "", 0⟩, ⟨"Counted", 4, 1, false, "", "", 8⟩], 2, 16, .agg #[.int .i64 0, .bool false], [(0, 1), (1, 1)], (some (.pair (.int .i64) .bool)), false⟩
theorem te57 : TyOk Tryz.prog 57 ty57 := tyOk_of Tryz.underlying57 (ti_of (by kernel_rfl) rfl rfl) (fun fs h w => by cases h; kernel_rfl) (someTy rfl (by kernel_rfl) (by kernel_rfl))
def ty58 : TyE := ⟨.struct #[⟨"Scope", 3, 0, false, "", "", 0⟩, ⟨"Counted", 4, 1, false, "", "", 8⟩], 2, 16, .agg #[.int .i64 0, .bool false], [(0, 1), (1, 1)], (some (.pair (.int .i64) .bool)), false⟩
theorem te58 : TyOk Tryz.prog 58 ty58 := tyOk_of Tryz.underlying58 (ti_of (by kernel_rfl) rfl rfl) (fun fs h w => by cases h; kernel_rfl) (someTy rfl (by kernel_rfl) (by kernel_rfl))
def ty60 : TyE := ⟨.pointer 71, 1, 8, .pointer none, [], (some (.ptr 11)), false⟩
theorem te60 : TyOk Tryz.prog 60 ty60 := tyOk_of Tryz.underlying60 (ti_of (by kernel_rfl) rfl rfl) (fun _ h => by cases h) (someTy rfl (by kernel_rfl) (by kernel_rfl))
def ty63 : TyE := ⟨.pointer 98, 1, 8, .pointer none, [], (some (.ptr 12)), false⟩
theorem te63 : TyOk Tryz.prog 63 ty63 := tyOk_of Tryz.underlying63 (ti_of (by kernel_rfl) rfl rfl) (fun _ h => by cases h) (someTy rfl (by kernel_rfl) (by kernel_rfl))
def ty64 : TyE := ⟨.slice 77, 1, 24, .slice none 0 0, [], none, false⟩
theorem te64 : TyOk Tryz.prog 64 ty64 := tyOk_of Tryz.underlying64 (ti_of (by kernel_rfl) rfl rfl) (fun _ h => by cases h) (noTy rfl)
def ty65 : TyE := ⟨.array 8 45, 8, 64, .agg #[.int .u64 0, .int .u64 0, .int .u64 0, .int .u64 0, .int .u64 0, .int .u64 0, .int .u64 0, .int .u64 0], [], (some (.arr 8 (.int .u64))), false⟩
theorem te65 : TyOk Tryz.prog 65 ty65 := tyOk_of Tryz.underlying65 (ti_of (by kernel_rfl) rfl rfl) (fun _ h => by cases h) (someTy rfl (by kernel_rfl) (by kernel_rfl))
def ty66 : TyE := ⟨.array 8 3, 8, 64, .agg #[.int .i64 0, .int .i64 0, .int .i64 0, .int .i64 0, .int .i64 0, .int .i64 0, .int .i64 0, .int .i64 0], [], (some (.arr 8 (.int .i64))), false⟩
theorem te66 : TyOk Tryz.prog 66 ty66 := tyOk_of Tryz.underlying66 (ti_of (by kernel_rfl) rfl rfl) (fun _ h => by cases h) (someTy rfl (by kernel_rfl) (by kernel_rfl))
def ty67 : TyE := ⟨.array 4 45, 4, 32, .agg #[.int .u64 0, .int .u64 0, .int .u64 0, .int .u64 0], [], (some (.arr 4 (.int .u64))), false⟩
theorem te67 : TyOk Tryz.prog 67 ty67 := tyOk_of Tryz.underlying67 (ti_of (by kernel_rfl) rfl rfl) (fun _ h => by cases h) (someTy rfl (by kernel_rfl) (by kernel_rfl))
def ty68 : TyE := ⟨.array 4 67, 16, 128, .agg #[.int .u64 0, .int .u64 0, .int .u64 0, .int .u64 0, .int .u64 0, .int .u64 0, .int .u64 0, .int .u64 0, .int .u64 0, .int .u64 0, .int .u64 0, .int .u64 0, .int .u64 0, .int .u64 0, .int .u64 0, .int .u64 0], [], (some (.arr 4 (.arr 4 (.int .u64)))), false⟩
theorem te68 : TyOk Tryz.prog 68 ty68 := tyOk_of Tryz.underlying68 (ti_of (by kernel_rfl) rfl rfl) (fun _ h => by cases h) (someTy rfl (by kernel_rfl) (by kernel_rfl))
def ty69 : TyE := ⟨.array 4 55, 4, 96, .agg #[.slice none 0 0, .slice none 0 0, .slice none 0 0, .slice none 0 0], [], (some (.arr 4 (.slc (.pair (.int .i64) .bool)))), false⟩
theorem te69 : TyOk Tryz.prog 69 ty69 := tyOk_of Tryz.underlying69 (ti_of (by kernel_rfl) rfl rfl) (fun _ h => by cases h) (someTy rfl (by kernel_rfl) (by kernel_rfl))
def ty70 : TyE := ⟨.struct #[⟨"P", 32, 0, false, "", "", 0⟩, ⟨"F", 26, 4, false, "", "", 32⟩, ⟨"S", 63, 5, false, "", "", 56⟩, ⟨"O", 64, 6, false, "", "", 64⟩, ⟨"Gate", 65, 7, false, "", "", 88⟩, ⟨"Bytes", 66, 15, false, "", "", 152⟩, ⟨"R", 68, 23, false, "", "", 216⟩, ⟨"C", 69, 39, false, "", "", 344⟩], 43, 440, .agg #[.int .i64 0, .int .i64 0, .int .i64 0, .int .i64 0, .slice none 0 0, .pointer none, .slice none 0 0, .int .u64 0, .int .u64 0, .int .u64 0, .int .u64 0, .int .u64 0, .int .u64 0, .int .u64 0, .int .u64 0, .int .i64 0, .int .i64 0, .int .i64 0, .int .i64 0, .int .i64 0, .int .i64 0, .int .i64 0, .int .i64 0, .int .u64 0, .int .u64 0, .int .u64 0, .int .u64 0, .int .u64 0, .int .u64 0, .int .u64 0, .int .u64 0, .int .u64 0, .int .u64 0, .int .u64 0, .int .u64 0, .int .u64 0, .int .u64 0, .int .u64 0, .int .u64 0, .slice none 0 0, .slice none 0 0, .slice none 0 0, .slice none 0 0], [(0, 4), (4, 1), (5, 1), (6, 1), (7, 8), (15, 8), (23, 16), (39, 4)], none, false⟩
theorem te70 : TyOk Tryz.prog 70 ty70 := tyOk_of Tryz.underlying70 (ti_of (by kernel_rfl) rfl rfl) (fun fs h w => by cases h; kernel_rfl) (noTy rfl)
def ty71 : TyE := ⟨.struct #[⟨"P", 32, 0, false, "", "", 0⟩, ⟨"F", 26, 4, false, "", "", 32⟩, ⟨"S", 63, 5, false, "", "", 56⟩, ⟨"O", 64, 6, false, "", "", 64⟩, ⟨"Gate", 65, 7, false, "", "", 88⟩, ⟨"Bytes", 66, 15, false, "", "", 152⟩, ⟨"R", 68, 23, false, "", "", 216⟩, ⟨"C", 69, 39, false, "", "", 344⟩], 43, 440, .agg #[.int .i64 0, .int .i64 0, .int .i64 0, .int .i64 0, .slice none 0 0, .pointer none, .slice none 0 0, .int .u64 0, .int .u64 0, .int .u64 0, .int .u64 0, .int .u64 0, .int .u64 0, .int .u64 0, .int .u64 0, .int .i64 0, .int .i64 0, .int .i64 0, .int .i64 0, .int .i64 0, .int .i64 0, .int .i64 0, .int .i64 0, .int .u64 0, .int .u64 0, .int .u64 0, .int .u64 0, .int .u64 0, .int .u64 0, .int .u64 0, .int .u64 0, .int .u64 0, .int .u64 0, .int .u64 0, .int .u64 0, .int .u64 0, .int .u64 0, .int .u64 0, .int .u64 0, .slice none 0 0, .slice none 0 0, .slice none 0 0, .slice none 0 0], [(0, 4), (4, 1), (5, 1), (6, 1), (7, 8), (15, 8), (23, 16), (39, 4)], (some (.pair (.pair (.int .i64) (.pair (.int .i64) (.pair (.int .i64) (.int .i64)))) (.pair (.slc (.slc (.pair (.int .u8) (.pair (.int .i64) (.int .i64))))) (.pair (.ptr 12) (.pair (.rsl 17 5) (.pair (.arr 8 (.int .u64)) (.pair (.arr 8 (.int .i64)) (.pair (.arr 4 (.arr 4 (.int .u64))) (.arr 4 (.slc (.pair (.int .i64) .bool))))))))))), false⟩
theorem te71 : TyOk Tryz.prog 71 ty71 := tyOk_of Tryz.underlying71 (ti_of (by kernel_rfl) rfl rfl) (fun fs h w => by cases h; kernel_rfl) (someTy rfl (by kernel_rfl) (by kernel_rfl))
def ty72 : TyE := ⟨.slice 45, 1, 24, .slice none 0 0, [], (some (.slc (.int .u64))), false⟩
theorem te72 : TyOk Tryz.prog 72 ty72 := tyOk_of Tryz.underlying72 (ti_of (by kernel_rfl) rfl rfl) (fun _ h => by cases h) (someTy rfl (by kernel_rfl) (by kernel_rfl))
def ty76 : TyE := ⟨.struct #[⟨"Scope", 3, 0, false, "", "", 0⟩, ⟨"At", 3, 1, false, "", "", 8⟩, ⟨"Tag", 3, 2, false, "", "", 16⟩, ⟨"Slots", 72, 3, false, "", "", 24⟩, ⟨"Done", 4, 4, false, "", "", 48⟩], 5, 56, .agg #[.int .i64 0, .int .i64 0, .int .i64 0, .slice none 0 0, .bool false], [(0, 1), (1, 1), (2, 1), (3, 1), (4, 1)], (some (.pair (.int .i64) (.pair (.int .i64) (.pair (.int .i64) (.pair (.slc (.int .u64)) .bool))))), false⟩
theorem te76 : TyOk Tryz.prog 76 ty76 := tyOk_of Tryz.underlying76 (ti_of (by kernel_rfl) rfl rfl) (fun fs h w => by cases h; kernel_rfl) (someTy rfl (by kernel_rfl) (by kernel_rfl))
def ty77 : TyE := ⟨.struct #[⟨"Scope", 3, 0, false, "", "", 0⟩, ⟨"At", 3, 1, false, "", "", 8⟩, ⟨"Tag", 3, 2, false, "", "", 16⟩, ⟨"Slots", 72, 3, false, "", "", 24⟩, ⟨"Done", 4, 4, false, "", "", 48⟩], 5, 56, .agg #[.int .i64 0, .int .i64 0, .int .i64 0, .slice none 0 0, .bool false], [(0, 1), (1, 1), (2, 1), (3, 1), (4, 1)], (some (.pair (.int .i64) (.pair (.int .i64) (.pair (.int .i64) (.pair (.rsl 18 1) .bool))))), false⟩
theorem te77 : TyOk Tryz.prog 77 ty77 := tyOk_of Tryz.underlying77 (ti_of (by kernel_rfl) rfl rfl) (fun fs h w => by cases h; kernel_rfl) (someTy rfl (by kernel_rfl) (by kernel_rfl))
def ty79 : TyE := ⟨.array 2 72, 2, 48, .agg #[.slice none 0 0, .slice none 0 0], [], (some (.arr 2 (.slc (.int .u64)))), false⟩
theorem te79 : TyOk Tryz.prog 79 ty79 := tyOk_of Tryz.underlying79 (ti_of (by kernel_rfl) rfl rfl) (fun _ h => by cases h) (someTy rfl (by kernel_rfl) (by kernel_rfl))
def ty80 : TyE := ⟨.array 2 55, 2, 48, .agg #[.slice none 0 0, .slice none 0 0], [], (some (.arr 2 (.slc (.pair (.int .i64) .bool)))), false⟩
theorem te80 : TyOk Tryz.prog 80 ty80 := tyOk_of Tryz.underlying80 (ti_of (by kernel_rfl) rfl rfl) (fun _ h => by cases h) (someTy rfl (by kernel_rfl) (by kernel_rfl))
def ty81 : TyE := ⟨.array 4 42, 16, 128, .agg #[.int .i64 0, .int .i64 0, .int .i64 0, .int .i64 0, .int .i64 0, .int .i64 0, .int .i64 0, .int .i64 0, .int .i64 0, .int .i64 0, .int .i64 0, .int .i64 0, .int .i64 0, .int .i64 0, .int .i64 0, .int .i64 0], [], (some (.arr 4 (.pair (.int .i64) (.pair (.int .i64) (.pair (.int .i64) (.int .i64)))))), false⟩
theorem te81 : TyOk Tryz.prog 81 ty81 := tyOk_of Tryz.underlying81 (ti_of (by kernel_rfl) rfl rfl) (fun _ h => by cases h) (someTy rfl (by kernel_rfl) (by kernel_rfl))
def ty82 : TyE := ⟨.array 4 3, 4, 32, .agg #[.int .i64 0, .int .i64 0, .int .i64 0, .int .i64 0], [], (some (.arr 4 (.int .i64))), false⟩
theorem te82 : TyOk Tryz.prog 82 ty82 := tyOk_of Tryz.underlying82 (ti_of (by kernel_rfl) rfl rfl) (fun _ h => by cases h) (someTy rfl (by kernel_rfl) (by kernel_rfl))
def ty85 : TyE := ⟨.array 12 45, 12, 96, .agg #[.int .u64 0, .int .u64 0, .int .u64 0, .int .u64 0, .int .u64 0, .int .u64 0, .int .u64 0, .int .u64 0, .int .u64 0, .int .u64 0, .int .u64 0, .int .u64 0], [], (some (.arr 12 (.int .u64))), false⟩
theorem te85 : TyOk Tryz.prog 85 ty85 := tyOk_of Tryz.underlying85 (ti_of (by kernel_rfl) rfl rfl) (fun _ h => by cases h) (someTy rfl (by kernel_rfl) (by kernel_rfl))
def ty88 : TyE := ⟨.struct #[⟨"Scope", 3, 0, false, "", "", 0⟩, ⟨"Epoch", 3, 1, false, "", "", 8⟩, ⟨"At", 3, 2, false, "", "", 16⟩], 3, 24, .agg #[.int .i64 0, .int .i64 0, .int .i64 0], [(0, 1), (1, 1), (2, 1)], (some (.pair (.int .i64) (.pair (.int .i64) (.int .i64)))), false⟩
theorem te88 : TyOk Tryz.prog 88 ty88 := tyOk_of Tryz.underlying88 (ti_of (by kernel_rfl) rfl rfl) (fun fs h w => by cases h; kernel_rfl) (someTy rfl (by kernel_rfl) (by kernel_rfl))
def ty89 : TyE := ⟨.struct #[⟨"Scope", 3, 0, false, "", "", 0⟩, ⟨"Epoch", 3, 1, false, "", "", 8⟩, ⟨"At", 3, 2, false, "", "", 16⟩], 3, 24, .agg #[.int .i64 0, .int .i64 0, .int .i64 0], [(0, 1), (1, 1), (2, 1)], (some (.pair (.int .i64) (.pair (.int .i64) (.int .i64)))), false⟩
theorem te89 : TyOk Tryz.prog 89 ty89 := tyOk_of Tryz.underlying89 (ti_of (by kernel_rfl) rfl rfl) (fun fs h w => by cases h; kernel_rfl) (someTy rfl (by kernel_rfl) (by kernel_rfl))
def ty94 : TyE := ⟨.slice 42, 1, 24, .slice none 0 0, [], (some (.slc (.pair (.int .i64) (.pair (.int .i64) (.pair (.int .i64) (.int .i64)))))), false⟩
theorem te94 : TyOk Tryz.prog 94 ty94 := tyOk_of Tryz.underlying94 (ti_of (by kernel_rfl) rfl rfl) (fun _ h => by cases h) (someTy rfl (by kernel_rfl) (by kernel_rfl))
def ty95 : TyE := ⟨.slice 151, 1, 24, .slice none 0 0, [], (some (.slc (.pair (.int .i64) (.int .i64)))), false⟩
theorem te95 : TyOk Tryz.prog 95 ty95 := tyOk_of Tryz.underlying95 (ti_of (by kernel_rfl) rfl rfl) (fun _ h => by cases h) (someTy rfl (by kernel_rfl) (by kernel_rfl))
def ty96 : TyE := ⟨.pointer 217, 1, 8, .pointer none, [], (some (.ptr 13)), false⟩
theorem te96 : TyOk Tryz.prog 96 ty96 := tyOk_of Tryz.underlying96 (ti_of (by kernel_rfl) rfl rfl) (fun _ h => by cases h) (someTy rfl (by kernel_rfl) (by kernel_rfl))
def ty97 : TyE := ⟨.struct #[⟨"C", 94, 0, false, "", "", 0⟩, ⟨"X", 95, 1, false, "", "", 24⟩, ⟨"G", 96, 2, false, "", "", 48⟩], 3, 56, .agg #[.slice none 0 0, .slice none 0 0, .pointer none], [(0, 1), (1, 1), (2, 1)], (some (.pair (.slc (.pair (.int .i64) (.pair (.int .i64) (.pair (.int .i64) (.int .i64))))) (.pair (.slc (.pair (.int .i64) (.int .i64))) (.ptr 13)))), false⟩
theorem te97 : TyOk Tryz.prog 97 ty97 := tyOk_of Tryz.underlying97 (ti_of (by kernel_rfl) rfl rfl) (fun fs h w => by cases h; kernel_rfl) (someTy rfl (by kernel_rfl) (by kernel_rfl))
def ty98 : TyE := ⟨.struct #[⟨"C", 94, 0, false, "", "", 0⟩, ⟨"X", 95, 1, false, "", "", 24⟩, ⟨"G", 96, 2, false, "", "", 48⟩], 3, 56, .agg #[.slice none 0 0, .slice none 0 0, .pointer none], [(0, 1), (1, 1), (2, 1)], (some (.pair (.rsl 14 4) (.pair (.rsl 15 2) (.ptr 13)))), false⟩
theorem te98 : TyOk Tryz.prog 98 ty98 := tyOk_of Tryz.underlying98 (ti_of (by kernel_rfl) rfl rfl) (fun fs h w => by cases h; kernel_rfl) (someTy rfl (by kernel_rfl) (by kernel_rfl))
def ty101 : TyE := ⟨.pointer 149, 1, 8, .pointer none, [], (some (.ptr 1)), false⟩
theorem te101 : TyOk Tryz.prog 101 ty101 := tyOk_of Tryz.underlying101 (ti_of (by kernel_rfl) rfl rfl) (fun _ h => by cases h) (someTy rfl (by kernel_rfl) (by kernel_rfl))
def ty105 : TyE := ⟨.slice 123, 1, 24, .slice none 0 0, [], none, false⟩
theorem te105 : TyOk Tryz.prog 105 ty105 := tyOk_of Tryz.underlying105 (ti_of (by kernel_rfl) rfl rfl) (fun _ h => by cases h) (noTy rfl)
def ty106 : TyE := ⟨.slice 113, 1, 24, .slice none 0 0, [], (some (.slc (.pair (.arr 4 (.int .u64)) (.slc (.pair (.int .i64) .bool))))), false⟩
theorem te106 : TyOk Tryz.prog 106 ty106 := tyOk_of Tryz.underlying106 (ti_of (by kernel_rfl) rfl rfl) (fun _ h => by cases h) (someTy rfl (by kernel_rfl) (by kernel_rfl))
def ty107 : TyE := ⟨.map 89 136, 1, 8, .map none, [], none, false⟩
theorem te107 : TyOk Tryz.prog 107 ty107 := tyOk_of Tryz.underlying107 (ti_of (by kernel_rfl) rfl rfl) (fun _ h => by cases h) (noTy rfl)
def ty108 : TyE := ⟨.struct #[⟨"plan", 32, 0, false, "", "penfold/model", 0⟩, ⟨"fins", 26, 4, false, "", "penfold/model", 32⟩, ⟨"scopes", 101, 5, false, "", "penfold/model", 56⟩, ⟨"areas", 105, 6, false, "", "penfold/model", 64⟩, ⟨"threads", 106, 7, false, "", "penfold/model", 88⟩, ⟨"objects", 107, 8, false, "", "penfold/model", 112⟩], 9, 120, .agg #[.int .i64 0, .int .i64 0, .int .i64 0, .int .i64 0, .slice none 0 0, .pointer none, .slice none 0 0, .slice none 0 0, .map none], [(0, 4), (4, 1), (5, 1), (6, 1), (7, 1), (8, 1)], none, false⟩
theorem te108 : TyOk Tryz.prog 108 ty108 := tyOk_of Tryz.underlying108 (ti_of (by kernel_rfl) rfl rfl) (fun fs h w => by cases h; kernel_rfl) (noTy rfl)
def ty109 : TyE := ⟨.struct #[⟨"plan", 32, 0, false, "", "penfold/model", 0⟩, ⟨"fins", 26, 4, false, "", "penfold/model", 32⟩, ⟨"scopes", 101, 5, false, "", "penfold/model", 56⟩, ⟨"areas", 105, 6, false, "", "penfold/model", 64⟩, ⟨"threads", 106, 7, false, "", "penfold/model", 88⟩, ⟨"objects", 107, 8, false, "", "penfold/model", 112⟩], 9, 120, .agg #[.int .i64 0, .int .i64 0, .int .i64 0, .int .i64 0, .slice none 0 0, .pointer none, .slice none 0 0, .slice none 0 0, .map none], [(0, 4), (4, 1), (5, 1), (6, 1), (7, 1), (8, 1)], (some (.pair (.pair (.int .i64) (.pair (.int .i64) (.pair (.int .i64) (.int .i64)))) (.pair (.slc (.slc (.pair (.int .u8) (.pair (.int .i64) (.int .i64))))) (.pair (.ptr 1) (.pair (.rsl 5 3) (.pair (.rsl 6 5) (.mp 7))))))), false⟩
theorem te109 : TyOk Tryz.prog 109 ty109 := tyOk_of Tryz.underlying109 (ti_of (by kernel_rfl) rfl rfl) (fun fs h w => by cases h; kernel_rfl) (someTy rfl (by kernel_rfl) (by kernel_rfl))
def ty111 : TyE := ⟨.pointer 113, 1, 8, .pointer none, [], none, false⟩
theorem te111 : TyOk Tryz.prog 111 ty111 := tyOk_of Tryz.underlying111 (ti_of (by kernel_rfl) rfl rfl) (fun _ h => by cases h) (noTy rfl)
def ty112 : TyE := ⟨.struct #[⟨"regs", 67, 0, false, "", "penfold/model", 0⟩, ⟨"entries", 55, 4, false, "", "penfold/model", 32⟩], 5, 56, .agg #[.int .u64 0, .int .u64 0, .int .u64 0, .int .u64 0, .slice none 0 0], [(0, 4), (4, 1)], (some (.pair (.arr 4 (.int .u64)) (.slc (.pair (.int .i64) .bool)))), false⟩
theorem te112 : TyOk Tryz.prog 112 ty112 := tyOk_of Tryz.underlying112 (ti_of (by kernel_rfl) rfl rfl) (fun fs h w => by cases h; kernel_rfl) (someTy rfl (by kernel_rfl) (by kernel_rfl))
def ty113 : TyE := ⟨.struct #[⟨"regs", 67, 0, false, "", "penfold/model", 0⟩, ⟨"entries", 55, 4, false, "", "penfold/model", 32⟩], 5, 56, .agg #[.int .u64 0, .int .u64 0, .int .u64 0, .int .u64 0, .slice none 0 0], [(0, 4), (4, 1)], (some (.pair (.arr 4 (.int .u64)) (.slc (.pair (.int .i64) .bool)))), false⟩
theorem te113 : TyOk Tryz.prog 113 ty113 := tyOk_of Tryz.underlying113 (ti_of (by kernel_rfl) rfl rfl) (fun fs h w => by cases h; kernel_rfl) (someTy rfl (by kernel_rfl) (by kernel_rfl))
def ty114 : TyE := ⟨.struct #[⟨"Model", 27, 0, true, "", "", 0⟩, ⟨"thread", 111, 1, true, "", "penfold/model", 8⟩, ⟨"c", 40, 2, false, "", "penfold/model", 16⟩], 9, 48, .agg #[.pointer none, .pointer none, .int .u8 0, .int .u8 0, .int .u8 0, .int .u8 0, .int .i64 0, .int .i64 0, .int .i64 0], [(0, 1), (1, 1), (2, 7)], none, false⟩
theorem te114 : TyOk Tryz.prog 114 ty114 := tyOk_of Tryz.underlying114 (ti_of (by kernel_rfl) rfl rfl) (fun fs h w => by cases h; kernel_rfl) (noTy rfl)
def ty115 : TyE := ⟨.struct #[⟨"Model", 27, 0, true, "", "", 0⟩, ⟨"thread", 111, 1, true, "", "penfold/model", 8⟩, ⟨"c", 40, 2, false, "", "penfold/model", 16⟩], 9, 48, .agg #[.pointer none, .pointer none, .int .u8 0, .int .u8 0, .int .u8 0, .int .u8 0, .int .i64 0, .int .i64 0, .int .i64 0], [(0, 1), (1, 1), (2, 7)], none, false⟩
theorem te115 : TyOk Tryz.prog 115 ty115 := tyOk_of Tryz.underlying115 (ti_of (by kernel_rfl) rfl rfl) (fun fs h w => by cases h; kernel_rfl) (noTy rfl)
def ty116 : TyE := ⟨.func #[] #[36] false, 1, 8, .nilFunc, [], none, false⟩
theorem te116 : TyOk Tryz.prog 116 ty116 := tyOk_of Tryz.underlying116 (ti_of (by kernel_rfl) rfl rfl) (fun _ h => by cases h) (noTy rfl)
def ty117 : TyE := ⟨.map 5 116, 1, 8, .map none, [], none, false⟩
theorem te117 : TyOk Tryz.prog 117 ty117 := tyOk_of Tryz.underlying117 (ti_of (by kernel_rfl) rfl rfl) (fun _ h => by cases h) (noTy rfl)
def ty121 : TyE := ⟨.slice 136, 1, 24, .slice none 0 0, [], none, false⟩
theorem te121 : TyOk Tryz.prog 121 ty121 := tyOk_of Tryz.underlying121 (ti_of (by kernel_rfl) rfl rfl) (fun _ h => by cases h) (noTy rfl)
def ty122 : TyE := ⟨.struct #[⟨"used", 3, 0, false, "", "penfold/model", 0⟩, ⟨"portal", 45, 1, false, "", "penfold/model", 8⟩, ⟨"objects", 121, 2, false, "", "penfold/model", 16⟩], 3, 40, .agg #[.int .i64 0, .int .u64 0, .slice none 0 0], [(0, 1), (1, 1), (2, 1)], none, false⟩
theorem te122 : TyOk Tryz.prog 122 ty122 := tyOk_of Tryz.underlying122 (ti_of (by kernel_rfl) rfl rfl) (fun fs h w => by cases h; kernel_rfl) (noTy rfl)
def ty123 : TyE := ⟨.struct #[⟨"used", 3, 0, false, "", "penfold/model", 0⟩, ⟨"portal", 45, 1, false, "", "penfold/model", 8⟩, ⟨"objects", 121, 2, false, "", "penfold/model", 16⟩], 3, 40, .agg #[.int .i64 0, .int .u64 0, .slice none 0 0], [(0, 1), (1, 1), (2, 1)], (some (.pair (.int .i64) (.pair (.int .u64) (.rsl 9 1)))), false⟩
theorem te123 : TyOk Tryz.prog 123 ty123 := tyOk_of Tryz.underlying123 (ti_of (by kernel_rfl) rfl rfl) (fun fs h w => by cases h; kernel_rfl) (someTy rfl (by kernel_rfl) (by kernel_rfl))
def ty136 : TyE := ⟨.pointer 139, 1, 8, .pointer none, [], (some (.ptr 8)), false⟩
theorem te136 : TyOk Tryz.prog 136 ty136 := tyOk_of Tryz.underlying136 (ti_of (by kernel_rfl) rfl rfl) (fun _ h => by cases h) (someTy rfl (by kernel_rfl) (by kernel_rfl))
def ty138 : TyE := ⟨.struct #[⟨"ref", 89, 0, false, "", "penfold/model", 0⟩, ⟨"tag", 3, 3, false, "", "penfold/model", 24⟩, ⟨"slots", 72, 4, false, "", "penfold/model", 32⟩, ⟨"done", 4, 5, false, "", "penfold/model", 56⟩], 6, 64, .agg #[.int .i64 0, .int .i64 0, .int .i64 0, .int .i64 0, .slice none 0 0, .bool false], [(0, 3), (3, 1), (4, 1), (5, 1)], (some (.pair (.pair (.int .i64) (.pair (.int .i64) (.int .i64))) (.pair (.int .i64) (.pair (.slc (.int .u64)) .bool)))), false⟩
theorem te138 : TyOk Tryz.prog 138 ty138 := tyOk_of Tryz.underlying138 (ti_of (by kernel_rfl) rfl rfl) (fun fs h w => by cases h; kernel_rfl) (someTy rfl (by kernel_rfl) (by kernel_rfl))
def ty139 : TyE := ⟨.struct #[⟨"ref", 89, 0, false, "", "penfold/model", 0⟩, ⟨"tag", 3, 3, false, "", "penfold/model", 24⟩, ⟨"slots", 72, 4, false, "", "penfold/model", 32⟩, ⟨"done", 4, 5, false, "", "penfold/model", 56⟩], 6, 64, .agg #[.int .i64 0, .int .i64 0, .int .i64 0, .int .i64 0, .slice none 0 0, .bool false], [(0, 3), (3, 1), (4, 1), (5, 1)], (some (.pair (.pair (.int .i64) (.pair (.int .i64) (.int .i64))) (.pair (.int .i64) (.pair (.rsl 10 1) .bool)))), false⟩
theorem te139 : TyOk Tryz.prog 139 ty139 := tyOk_of Tryz.underlying139 (ti_of (by kernel_rfl) rfl rfl) (fun fs h w => by cases h; kernel_rfl) (someTy rfl (by kernel_rfl) (by kernel_rfl))
def ty141 : TyE := ⟨.func #[196, 24] #[] false, 1, 8, .nilFunc, [], none, false⟩
theorem te141 : TyOk Tryz.prog 141 ty141 := tyOk_of Tryz.underlying141 (ti_of (by kernel_rfl) rfl rfl) (fun _ h => by cases h) (noTy rfl)
def ty142 : TyE := ⟨.struct #[⟨"a", 3, 0, false, "", "penfold/fin", 0⟩, ⟨"b", 3, 1, false, "", "penfold/fin", 8⟩, ⟨"do", 141, 2, false, "", "penfold/fin", 16⟩], 3, 24, .agg #[.int .i64 0, .int .i64 0, .nilFunc], [(0, 1), (1, 1), (2, 1)], none, false⟩
theorem te142 : TyOk Tryz.prog 142 ty142 := tyOk_of Tryz.underlying142 (ti_of (by kernel_rfl) rfl rfl) (fun fs h w => by cases h; kernel_rfl) (noTy rfl)
def ty143 : TyE := ⟨.struct #[⟨"a", 3, 0, false, "", "penfold/fin", 0⟩, ⟨"b", 3, 1, false, "", "penfold/fin", 8⟩, ⟨"do", 141, 2, false, "", "penfold/fin", 16⟩], 3, 24, .agg #[.int .i64 0, .int .i64 0, .nilFunc], [(0, 1), (1, 1), (2, 1)], none, false⟩
theorem te143 : TyOk Tryz.prog 143 ty143 := tyOk_of Tryz.underlying143 (ti_of (by kernel_rfl) rfl rfl) (fun fs h w => by cases h; kernel_rfl) (noTy rfl)
def ty144 : TyE := ⟨.array 5 143, 15, 120, .agg #[.int .i64 0, .int .i64 0, .nilFunc, .int .i64 0, .int .i64 0, .nilFunc, .int .i64 0, .int .i64 0, .nilFunc, .int .i64 0, .int .i64 0, .nilFunc, .int .i64 0, .int .i64 0, .nilFunc], [], none, false⟩
theorem te144 : TyOk Tryz.prog 144 ty144 := tyOk_of Tryz.underlying144 (ti_of (by kernel_rfl) rfl rfl) (fun _ h => by cases h) (noTy rfl)
def ty146 : TyE := ⟨.slice 153, 1, 24, .slice none 0 0, [], (some (.slc (.pair (.pair (.int .i64) (.pair (.int .i64) (.pair (.int .i64) (.int .i64)))) (.pair (.int .i64) (.int .i64))))), false⟩
theorem te146 : TyOk Tryz.prog 146 ty146 := tyOk_of Tryz.underlying146 (ti_of (by kernel_rfl) rfl rfl) (fun _ h => by cases h) (someTy rfl (by kernel_rfl) (by kernel_rfl))
def ty147 : TyE := ⟨.pointer 201, 1, 8, .pointer none, [], (some (.ptr 2)), false⟩
theorem te147 : TyOk Tryz.prog 147 ty147 := tyOk_of Tryz.underlying147 (ti_of (by kernel_rfl) rfl rfl) (fun _ h => by cases h) (someTy rfl (by kernel_rfl) (by kernel_rfl))
def ty148 : TyE := ⟨.struct #[⟨"l", 146, 0, false, "", "penfold/scopes", 0⟩, ⟨"ground", 147, 1, false, "", "penfold/scopes", 24⟩], 2, 32, .agg #[.slice none 0 0, .pointer none], [(0, 1), (1, 1)], (some (.pair (.slc (.pair (.pair (.int .i64) (.pair (.int .i64) (.pair (.int .i64) (.int .i64)))) (.pair (.int .i64) (.int .i64)))) (.ptr 2))), false⟩
theorem te148 : TyOk Tryz.prog 148 ty148 := tyOk_of Tryz.underlying148 (ti_of (by kernel_rfl) rfl rfl) (fun fs h w => by cases h; kernel_rfl) (someTy rfl (by kernel_rfl) (by kernel_rfl))
def ty149 : TyE := ⟨.struct #[⟨"l", 146, 0, false, "", "penfold/scopes", 0⟩, ⟨"ground", 147, 1, false, "", "penfold/scopes", 24⟩], 2, 32, .agg #[.slice none 0 0, .pointer none], [(0, 1), (1, 1)], (some (.pair (.rsl 3 6) (.ptr 2))), false⟩
theorem te149 : TyOk Tryz.prog 149 ty149 := tyOk_of Tryz.underlying149 (ti_of (by kernel_rfl) rfl rfl) (fun fs h w => by cases h; kernel_rfl) (someTy rfl (by kernel_rfl) (by kernel_rfl))
def ty150 : TyE := ⟨.struct #[⟨"At", 3, 0, false, "", "", 0⟩, ⟨"Size", 3, 1, false, "", "", 8⟩], 2, 16, .agg #[.int .i64 0, .int .i64 0], [(0, 1), (1, 1)], (some (.pair (.int .i64) (.int .i64))), false⟩
theorem te150 : TyOk Tryz.prog 150 ty150 := tyOk_of Tryz.underlying150 (ti_of (by kernel_rfl) rfl rfl) (fun fs h w => by cases h; kernel_rfl) (someTy rfl (by kernel_rfl) (by kernel_rfl))
def ty151 : TyE := ⟨.struct #[⟨"At", 3, 0, false, "", "", 0⟩, ⟨"Size", 3, 1, false, "", "", 8⟩], 2, 16, .agg #[.int .i64 0, .int .i64 0], [(0, 1), (1, 1)], (some (.pair (.int .i64) (.int .i64))), false⟩
theorem te151 : TyOk Tryz.prog 151 ty151 := tyOk_of Tryz.underlying151 (ti_of (by kernel_rfl) rfl rfl) (fun fs h w => by cases h; kernel_rfl) (someTy rfl (by kernel_rfl) (by kernel_rfl))
def ty152 : TyE := ⟨.struct #[⟨"ctl", 42, 0, false, "", "penfold/scopes", 0⟩, ⟨"extent", 151, 4, false, "", "penfold/scopes", 32⟩], 6, 48, .agg #[.int .i64 0, .int .i64 0, .int .i64 0, .int .i64 0, .int .i64 0, .int .i64 0], [(0, 4), (4, 2)], (some (.pair (.pair (.int .i64) (.pair (.int .i64) (.pair (.int .i64) (.int .i64)))) (.pair (.int .i64) (.int .i64)))), false⟩
theorem te152 : TyOk Tryz.prog 152 ty152 := tyOk_of Tryz.underlying152 (ti_of (by kernel_rfl) rfl rfl) (fun fs h w => by cases h; kernel_rfl) (someTy rfl (by kernel_rfl) (by kernel_rfl))
def ty153 : TyE := ⟨.struct #[⟨"ctl", 42, 0, false, "", "penfold/scopes", 0⟩, ⟨"extent", 151, 4, false, "", "penfold/scopes", 32⟩], 6, 48, .agg #[.int .i64 0, .int .i64 0, .int .i64 0, .int .i64 0, .int .i64 0, .int .i64 0], [(0, 4), (4, 2)], (some (.pair (.pair (.int .i64) (.pair (.int .i64) (.pair (.int .i64) (.int .i64)))) (.pair (.int .i64) (.int .i64)))), false⟩
theorem te153 : TyOk Tryz.prog 153 ty153 := tyOk_of Tryz.underlying153 (ti_of (by kernel_rfl) rfl rfl) (fun fs h w => by cases h; kernel_rfl) (someTy rfl (by kernel_rfl) (by kernel_rfl))
def ty163 : TyE := ⟨.pointer 123, 1, 8, .pointer none, [], none, false⟩
theorem te163 : TyOk Tryz.prog 163 ty163 := tyOk_of Tryz.underlying163 (ti_of (by kernel_rfl) rfl rfl) (fun _ h => by cases h) (noTy rfl)
def ty170 : TyE := ⟨.pointer 45, 1, 8, .pointer none, [], none, false⟩
theorem te170 : TyOk Tryz.prog 170 ty170 := tyOk_of Tryz.underlying170 (ti_of (by kernel_rfl) rfl rfl) (fun _ h => by cases h) (noTy rfl)
def ty177 : TyE := ⟨.slice 5, 1, 24, .slice none 0 0, [], (some (.slc (.int .u8))), false⟩
theorem te177 : TyOk Tryz.prog 177 ty177 := tyOk_of Tryz.underlying177 (ti_of (by kernel_rfl) rfl rfl) (fun _ h => by cases h) (someTy rfl (by kernel_rfl) (by kernel_rfl))
def ty178 : TyE := ⟨.map 5 177, 1, 8, .map none, [], none, false⟩
theorem te178 : TyOk Tryz.prog 178 ty178 := tyOk_of Tryz.underlying178 (ti_of (by kernel_rfl) rfl rfl) (fun _ h => by cases h) (noTy rfl)
def ty181 : TyE := ⟨.pointer 153, 1, 8, .pointer none, [], none, false⟩
theorem te181 : TyOk Tryz.prog 181 ty181 := tyOk_of Tryz.underlying181 (ti_of (by kernel_rfl) rfl rfl) (fun _ h => by cases h) (noTy rfl)
def ty195 : TyE := ⟨.int .u64, 1, 8, .int .u64 0, [], (some (.int .u64)), false⟩
theorem te195 : TyOk Tryz.prog 195 ty195 := tyOk_of Tryz.underlying195 (ti_of (by kernel_rfl) rfl rfl) (fun _ h => by cases h) (someTy rfl (by kernel_rfl) (by kernel_rfl))
def ty196 : TyE := ⟨.pointer 198, 1, 8, .pointer none, [], none, false⟩
theorem te196 : TyOk Tryz.prog 196 ty196 := tyOk_of Tryz.underlying196 (ti_of (by kernel_rfl) rfl rfl) (fun _ h => by cases h) (noTy rfl)
def ty197 : TyE := ⟨.struct #[⟨"slots", 72, 0, false, "", "penfold/fin", 0⟩, ⟨"said", 34, 1, false, "", "penfold/fin", 24⟩, ⟨"held", 4, 2, false, "", "penfold/fin", 48⟩, ⟨"skip", 3, 3, false, "", "penfold/fin", 56⟩], 4, 64, .agg #[.slice none 0 0, .slice none 0 0, .bool false, .int .i64 0], [(0, 1), (1, 1), (2, 1), (3, 1)], (some (.pair (.slc (.int .u64)) (.pair (.slc (.int .i64)) (.pair .bool (.int .i64))))), false⟩
theorem te197 : TyOk Tryz.prog 197 ty197 := tyOk_of Tryz.underlying197 (ti_of (by kernel_rfl) rfl rfl) (fun fs h w => by cases h; kernel_rfl) (someTy rfl (by kernel_rfl) (by kernel_rfl))
def ty198 : TyE := ⟨.struct #[⟨"slots", 72, 0, false, "", "penfold/fin", 0⟩, ⟨"said", 34, 1, false, "", "penfold/fin", 24⟩, ⟨"held", 4, 2, false, "", "penfold/fin", 48⟩, ⟨"skip", 3, 3, false, "", "penfold/fin", 56⟩], 4, 64, .agg #[.slice none 0 0, .slice none 0 0, .bool false, .int .i64 0], [(0, 1), (1, 1), (2, 1), (3, 1)], none, false⟩
theorem te198 : TyOk Tryz.prog 198 ty198 := tyOk_of Tryz.underlying198 (ti_of (by kernel_rfl) rfl rfl) (fun fs h w => by cases h; kernel_rfl) (noTy rfl)
def ty200 : TyE := ⟨.struct #[⟨"from", 3, 0, false, "", "penfold/ground", 0⟩, ⟨"end", 3, 1, false, "", "penfold/ground", 8⟩, ⟨"free", 95, 2, false, "", "penfold/ground", 16⟩], 3, 40, .agg #[.int .i64 0, .int .i64 0, .slice none 0 0], [(0, 1), (1, 1), (2, 1)], (some (.pair (.int .i64) (.pair (.int .i64) (.slc (.pair (.int .i64) (.int .i64)))))), false⟩
theorem te200 : TyOk Tryz.prog 200 ty200 := tyOk_of Tryz.underlying200 (ti_of (by kernel_rfl) rfl rfl) (fun fs h w => by cases h; kernel_rfl) (someTy rfl (by kernel_rfl) (by kernel_rfl))
def ty201 : TyE := ⟨.struct #[⟨"from", 3, 0, false, "", "penfold/ground", 0⟩, ⟨"end", 3, 1, false, "", "penfold/ground", 8⟩, ⟨"free", 95, 2, false, "", "penfold/ground", 16⟩], 3, 40, .agg #[.int .i64 0, .int .i64 0, .slice none 0 0], [(0, 1), (1, 1), (2, 1)], (some (.pair (.int .i64) (.pair (.int .i64) (.rsl 4 2)))), false⟩
theorem te201 : TyOk Tryz.prog 201 ty201 := tyOk_of Tryz.underlying201 (ti_of (by kernel_rfl) rfl rfl) (fun fs h w => by cases h; kernel_rfl) (someTy rfl (by kernel_rfl) (by kernel_rfl))
def ty215 : TyE := ⟨.slice 4, 1, 24, .slice none 0 0, [], (some (.slc .bool)), false⟩
theorem te215 : TyOk Tryz.prog 215 ty215 := tyOk_of Tryz.underlying215 (ti_of (by kernel_rfl) rfl rfl) (fun _ h => by cases h) (someTy rfl (by kernel_rfl) (by kernel_rfl))
def ty216 : TyE := ⟨.struct #[⟨"At", 3, 0, false, "", "", 0⟩, ⟨"Free", 215, 1, false, "", "", 8⟩], 2, 32, .agg #[.int .i64 0, .slice none 0 0], [(0, 1), (1, 1)], (some (.pair (.int .i64) (.slc .bool))), false⟩
theorem te216 : TyOk Tryz.prog 216 ty216 := tyOk_of Tryz.underlying216 (ti_of (by kernel_rfl) rfl rfl) (fun fs h w => by cases h; kernel_rfl) (someTy rfl (by kernel_rfl) (by kernel_rfl))
def ty217 : TyE := ⟨.struct #[⟨"At", 3, 0, false, "", "", 0⟩, ⟨"Free", 215, 1, false, "", "", 8⟩], 2, 32, .agg #[.int .i64 0, .slice none 0 0], [(0, 1), (1, 1)], (some (.pair (.int .i64) (.rsl 16 1))), false⟩
theorem te217 : TyOk Tryz.prog 217 ty217 := tyOk_of Tryz.underlying217 (ti_of (by kernel_rfl) rfl rfl) (fun fs h w => by cases h; kernel_rfl) (someTy rfl (by kernel_rfl) (by kernel_rfl))
def ty226 : TyE := ⟨.pointer 151, 1, 8, .pointer none, [], none, false⟩
theorem te226 : TyOk Tryz.prog 226 ty226 := tyOk_of Tryz.underlying226 (ti_of (by kernel_rfl) rfl rfl) (fun _ h => by cases h) (noTy rfl)
def ty240 : TyE := ⟨.int .u32, 1, 4, .int .u32 0, [], (some (.int .u32)), false⟩
theorem te240 : TyOk Tryz.prog 240 ty240 := tyOk_of Tryz.underlying240 (ti_of (by kernel_rfl) rfl rfl) (fun _ h => by cases h) (someTy rfl (by kernel_rfl) (by kernel_rfl))
def ty244 : TyE := ⟨.pointer 5, 1, 8, .pointer none, [], none, false⟩
theorem te244 : TyOk Tryz.prog 244 ty244 := tyOk_of Tryz.underlying244 (ti_of (by kernel_rfl) rfl rfl) (fun _ h => by cases h) (noTy rfl)
theorem eq23 : EqTy Tryz.prog 23 := eqTy_of Tryz.stoodInHeld23 Tryz.eqGuardType23 Tryz.underlying23 (by decide)
theorem eq24 : EqTy Tryz.prog 24 := eqTy_of Tryz.stoodInHeld24 Tryz.eqGuardType24 Tryz.underlying24 (by decide)
theorem eq31 : EqTy Tryz.prog 31 := eqTy_of Tryz.stoodInHeld31 Tryz.eqGuardType31 Tryz.underlying31 (by decide)
theorem eq32 : EqTy Tryz.prog 32 := eqTy_of Tryz.stoodInHeld32 Tryz.eqGuardType32 Tryz.underlying32 (by decide)
theorem eq39 : EqTy Tryz.prog 39 := eqTy_of Tryz.stoodInHeld39 Tryz.eqGuardType39 Tryz.underlying39 (by decide)
theorem eq40 : EqTy Tryz.prog 40 := eqTy_of Tryz.stoodInHeld40 Tryz.eqGuardType40 Tryz.underlying40 (by decide)
theorem eq41 : EqTy Tryz.prog 41 := eqTy_of Tryz.stoodInHeld41 Tryz.eqGuardType41 Tryz.underlying41 (by decide)
theorem eq42 : EqTy Tryz.prog 42 := eqTy_of Tryz.stoodInHeld42 Tryz.eqGuardType42 Tryz.underlying42 (by decide)
theorem eq53 : EqTy Tryz.prog 53 := eqTy_of Tryz.stoodInHeld53 Tryz.eqGuardType53 Tryz.underlying53 (by decide)
theorem eq54 : EqTy Tryz.prog 54 := eqTy_of Tryz.stoodInHeld54 Tryz.eqGuardType54 Tryz.underlying54 (by decide)
theorem eq57 : EqTy Tryz.prog 57 := eqTy_of Tryz.stoodInHeld57 Tryz.eqGuardType57 Tryz.underlying57 (by decide)
theorem eq58 : EqTy Tryz.prog 58 := eqTy_of Tryz.stoodInHeld58 Tryz.eqGuardType58 Tryz.underlying58 (by decide)
theorem eq88 : EqTy Tryz.prog 88 := eqTy_of Tryz.stoodInHeld88 Tryz.eqGuardType88 Tryz.underlying88 (by decide)
theorem eq89 : EqTy Tryz.prog 89 := eqTy_of Tryz.stoodInHeld89 Tryz.eqGuardType89 Tryz.underlying89 (by decide)
theorem eq114 : EqTy Tryz.prog 114 := eqTy_of Tryz.stoodInHeld114 Tryz.eqGuardType114 Tryz.underlying114 (by decide)
theorem eq115 : EqTy Tryz.prog 115 := eqTy_of Tryz.stoodInHeld115 Tryz.eqGuardType115 Tryz.underlying115 (by decide)
theorem eq150 : EqTy Tryz.prog 150 := eqTy_of Tryz.stoodInHeld150 Tryz.eqGuardType150 Tryz.underlying150 (by decide)
theorem eq151 : EqTy Tryz.prog 151 := eqTy_of Tryz.stoodInHeld151 Tryz.eqGuardType151 Tryz.underlying151 (by decide)
theorem eq152 : EqTy Tryz.prog 152 := eqTy_of Tryz.stoodInHeld152 Tryz.eqGuardType152 Tryz.underlying152 (by decide)
theorem eq153 : EqTy Tryz.prog 153 := eqTy_of Tryz.stoodInHeld153 Tryz.eqGuardType153 Tryz.underlying153 (by decide)
def env : Env := ⟨(.node (.node (.node (.node (.node (.node (.node (.node .nil none .nil) (some ty63) (.node .nil none .nil)) (some ty31) (.node (.node .nil none .nil) (some ty95) (.node .nil none .nil))) none (.node (.node (.node .nil (some ty143) .nil) (some ty79) (.node .nil none .nil)) none (.node (.node .nil none .nil) (some ty111) (.node .nil none .nil)))) none (.node (.node (.node (.node .nil none .nil) (some ty71) (.node .nil none .nil)) (some ty39) (.node (.node .nil none .nil) none (.node .nil none .nil))) (some ty23) (.node (.node (.node .nil (some ty151) .nil) none (.node .nil (some ty215) .nil)) (some ty55) (.node (.node .nil none .nil) none .nil)))) (some ty3) (.node (.node (.node (.node (.node .nil none .nil) (some ty67) (.node .nil (some ty195) .nil)) (some ty35) (.node (.node .nil (some ty163) .nil) none (.node .nil none .nil))) none (.node (.node (.node .nil (some ty147) .nil) none (.node .nil none .nil)) none (.node (.node .nil none .nil) (some ty115) (.node .nil none .nil)))) none (.node (.node (.node (.node .nil (some ty139) .nil) none (.node .nil none .nil)) none (.node (.node .nil none .nil) (some ty107) (.node .nil none .nil))) (some ty27) (.node (.node (.node .nil none .nil) none (.node .nil none .nil)) none (.node (.node .nil none .nil) (some ty123) .nil))))) none (.node (.node (.node (.node (.node (.node .nil none .nil) (some ty65) (.node .nil none .nil)) none (.node (.node .nil none .nil) (some ty97) (.node .nil none .nil))) none (.node (.node (.node .nil none .nil) (some ty81) (.node .nil none .nil)) none (.node (.node .nil (some ty177) .nil) (some ty113) (.node .nil none .nil)))) (some ty9) (.node (.node (.node (.node .nil none .nil) none (.node .nil (some ty201) .nil)) (some ty41) (.node (.node .nil none .nil) (some ty105) (.node .nil none .nil))) (some ty25) (.node (.node (.node .nil (some ty153) .nil) (some ty89) (.node .nil (some ty217) .nil)) (some ty57) (.node (.node .nil none .nil) (some ty121) .nil)))) (some ty5) (.node (.node (.node (.node (.node .nil none .nil) (some ty69) (.node .nil (some ty197) .nil)) none (.node (.node .nil none .nil) (some ty101) (.node .nil none .nil))) (some ty21) (.node (.node (.node .nil (some ty149) .nil) (some ty85) (.node .nil none .nil)) (some ty53) (.node (.node .nil (some ty181) .nil) (some ty117) .nil))) (some ty13) (.node (.node (.node (.node .nil (some ty141) .nil) (some ty77) (.node .nil none .nil)) (some ty45) (.node (.node .nil none .nil) (some ty109) (.node .nil none .nil))) none (.node (.node (.node .nil none .nil) none (.node .nil none .nil)) none (.node (.node .nil none .nil) none .nil)))))) none (.node (.node (.node (.node (.node (.node (.node .nil none .nil) (some ty64) (.node .nil none .nil)) (some ty32) (.node (.node .nil none .nil) (some ty96) (.node .nil none .nil))) none (.node (.node (.node .nil (some ty144) .nil) (some ty80) (.node .nil none .nil)) none (.node (.node .nil none .nil) (some ty112) (.node .nil (some ty240) .nil)))) none (.node (.node (.node (.node .nil (some ty136) .nil) (some ty72) (.node .nil (some ty200) .nil)) (some ty40) (.node (.node .nil none .nil) none (.node .nil none .nil))) (some ty24) (.node (.node (.node .nil (some ty152) .nil) (some ty88) (.node .nil (some ty216) .nil)) none (.node (.node .nil none .nil) none .nil)))) (some ty4) (.node (.node (.node (.node (.node .nil none .nil) (some ty68) (.node .nil (some ty196) .nil)) (some ty36) (.node (.node .nil none .nil) none (.node .nil none .nil))) none (.node (.node (.node .nil (some ty148) .nil) none (.node .nil none .nil)) none (.node (.node .nil none .nil) (some ty116) (.node .nil (some ty244) .nil)))) (some ty12) (.node (.node (.node (.node .nil none .nil) (some ty76) (.node .nil none .nil)) none (.node (.node .nil none .nil) (some ty108) (.node .nil none .nil))) (some ty28) (.node (.node (.node .nil none .nil) none (.node .nil none .nil)) (some ty60) (.node (.node .nil none .nil) none .nil))))) (some ty2) (.node (.node (.node (.node (.node (.node .nil none .nil) (some ty66) (.node .nil none .nil)) (some ty34) (.node (.node .nil none .nil) (some ty98) (.node .nil (some ty226) .nil))) none (.node (.node (.node .nil (some ty146) .nil) (some ty82) (.node .nil none .nil)) (some ty50) (.node (.node .nil (some ty178) .nil) (some ty114) (.node .nil none .nil)))) none (.node (.node (.node (.node .nil (some ty138) .nil) none (.node .nil none .nil)) (some ty42) (.node (.node .nil (some ty170) .nil) (some ty106) (.node .nil none .nil))) (some ty26) (.node (.node (.node .nil none .nil) none (.node .nil none .nil)) (some ty58) (.node (.node .nil none .nil) (some ty122) .nil)))) none (.node (.node (.node (.node (.node .nil none .nil) (some ty70) (.node .nil (some ty198) .nil)) none (.node (.node .nil none .nil) none (.node .nil none .nil))) none (.node (.node (.node .nil (some ty150) .nil) none (.node .nil none .nil)) (some ty54) (.node (.node .nil none .nil) none .nil))) none (.node (.node (.node (.node .nil (some ty142) .nil) none (.node .nil none .nil)) none (.node (.node .nil none .nil) none (.node .nil none .nil))) none (.node (.node (.node .nil none .nil) (some ty94) (.node .nil none .nil)) none (.node (.node .nil none .nil) none .nil))))))), [23, 24, 31, 32, 39, 40, 41, 42, 53, 54, 57, 58, 88, 89, 114, 115, 150, 151, 152, 153]⟩
theorem envok : EnvOk Tryz.prog env := ⟨tget_ok (.no (.no (.yes te3 (.no (.no (.yes te31 (.yes te63 (.no (.nil _ _) (.nil _ _)) (.no (.nil _ _) (.nil _ _))) (.yes te95 (.no (.nil _ _) (.nil _ _)) (.no (.nil _ _) (.nil _ _)))) (.no (.yes te79 (.yes te143 (.nil _ _) (.nil _ _)) (.no (.nil _ _) (.nil _ _))) (.yes te111 (.no (.nil _ _) (.nil _ _)) (.no (.nil _ _) (.nil _ _))))) (.yes te23 (.yes te39 (.yes te71 (.no (.nil _ _) (.nil _ _)) (.no (.nil _ _) (.nil _ _))) (.no (.no (.nil _ _) (.nil _ _)) (.no (.nil _ _) (.nil _ _)))) (.yes te55 (.no (.yes te151 (.nil _ _) (.nil _ _)) (.yes te215 (.nil _ _) (.nil _ _))) (.no (.no (.nil _ _) (.nil _ _)) (.nil _ _))))) (.no (.no (.yes te35 (.yes te67 (.no (.nil _ _) (.nil _ _)) (.yes te195 (.nil _ _) (.nil _ _))) (.no (.yes te163 (.nil _ _) (.nil _ _)) (.no (.nil _ _) (.nil _ _)))) (.no (.no (.yes te147 (.nil _ _) (.nil _ _)) (.no (.nil _ _) (.nil _ _))) (.yes te115 (.no (.nil _ _) (.nil _ _)) (.no (.nil _ _) (.nil _ _))))) (.yes te27 (.no (.no (.yes te139 (.nil _ _) (.nil _ _)) (.no (.nil _ _) (.nil _ _))) (.yes te107 (.no (.nil _ _) (.nil _ _)) (.no (.nil _ _) (.nil _ _)))) (.no (.no (.no (.nil _ _) (.nil _ _)) (.no (.nil _ _) (.nil _ _))) (.yes te123 (.no (.nil _ _) (.nil _ _)) (.nil _ _)))))) (.yes te5 (.yes te9 (.no (.no (.yes te65 (.no (.nil _ _) (.nil _ _)) (.no (.nil _ _) (.nil _ _))) (.yes te97 (.no (.nil _ _) (.nil _ _)) (.no (.nil _ _) (.nil _ _)))) (.no (.yes te81 (.no (.nil _ _) (.nil _ _)) (.no (.nil _ _) (.nil _ _))) (.yes te113 (.yes te177 (.nil _ _) (.nil _ _)) (.no (.nil _ _) (.nil _ _))))) (.yes te25 (.yes te41 (.no (.no (.nil _ _) (.nil _ _)) (.yes te201 (.nil _ _) (.nil _ _))) (.yes te105 (.no (.nil _ _) (.nil _ _)) (.no (.nil _ _) (.nil _ _)))) (.yes te57 (.yes te89 (.yes te153 (.nil _ _) (.nil _ _)) (.yes te217 (.nil _ _) (.nil _ _))) (.yes te121 (.no (.nil _ _) (.nil _ _)) (.nil _ _))))) (.yes te13 (.yes te21 (.no (.yes te69 (.no (.nil _ _) (.nil _ _)) (.yes te197 (.nil _ _) (.nil _ _))) (.yes te101 (.no (.nil _ _) (.nil _ _)) (.no (.nil _ _) (.nil _ _)))) (.yes te53 (.yes te85 (.yes te149 (.nil _ _) (.nil _ _)) (.no (.nil _ _) (.nil _ _))) (.yes te117 (.yes te181 (.nil _ _) (.nil _ _)) (.nil _ _)))) (.no (.yes te45 (.yes te77 (.yes te141 (.nil _ _) (.nil _ _)) (.no (.nil _ _) (.nil _ _))) (.yes te109 (.no (.nil _ _) (.nil _ _)) (.no (.nil _ _) (.nil _ _)))) (.no (.no (.no (.nil _ _) (.nil _ _)) (.no (.nil _ _) (.nil _ _))) (.no (.no (.nil _ _) (.nil _ _)) (.nil _ _))))))) (.yes te2 (.yes te4 (.no (.no (.yes te32 (.yes te64 (.no (.nil _ _) (.nil _ _)) (.no (.nil _ _) (.nil _ _))) (.yes te96 (.no (.nil _ _) (.nil _ _)) (.no (.nil _ _) (.nil _ _)))) (.no (.yes te80 (.yes te144 (.nil _ _) (.nil _ _)) (.no (.nil _ _) (.nil _ _))) (.yes te112 (.no (.nil _ _) (.nil _ _)) (.yes te240 (.nil _ _) (.nil _ _))))) (.yes te24 (.yes te40 (.yes te72 (.yes te136 (.nil _ _) (.nil _ _)) (.yes te200 (.nil _ _) (.nil _ _))) (.no (.no (.nil _ _) (.nil _ _)) (.no (.nil _ _) (.nil _ _)))) (.no (.yes te88 (.yes te152 (.nil _ _) (.nil _ _)) (.yes te216 (.nil _ _) (.nil _ _))) (.no (.no (.nil _ _) (.nil _ _)) (.nil _ _))))) (.yes te12 (.no (.yes te36 (.yes te68 (.no (.nil _ _) (.nil _ _)) (.yes te196 (.nil _ _) (.nil _ _))) (.no (.no (.nil _ _) (.nil _ _)) (.no (.nil _ _) (.nil _ _)))) (.no (.no (.yes te148 (.nil _ _) (.nil _ _)) (.no (.nil _ _) (.nil _ _))) (.yes te116 (.no (.nil _ _) (.nil _ _)) (.yes te244 (.nil _ _) (.nil _ _))))) (.yes te28 (.no (.yes te76 (.no (.nil _ _) (.nil _ _)) (.no (.nil _ _) (.nil _ _))) (.yes te108 (.no (.nil _ _) (.nil _ _)) (.no (.nil _ _) (.nil _ _)))) (.yes te60 (.no (.no (.nil _ _) (.nil _ _)) (.no (.nil _ _) (.nil _ _))) (.no (.no (.nil _ _) (.nil _ _)) (.nil _ _)))))) (.no (.no (.no (.yes te34 (.yes te66 (.no (.nil _ _) (.nil _ _)) (.no (.nil _ _) (.nil _ _))) (.yes te98 (.no (.nil _ _) (.nil _ _)) (.yes te226 (.nil _ _) (.nil _ _)))) (.yes te50 (.yes te82 (.yes te146 (.nil _ _) (.nil _ _)) (.no (.nil _ _) (.nil _ _))) (.yes te114 (.yes te178 (.nil _ _) (.nil _ _)) (.no (.nil _ _) (.nil _ _))))) (.yes te26 (.yes te42 (.no (.yes te138 (.nil _ _) (.nil _ _)) (.no (.nil _ _) (.nil _ _))) (.yes te106 (.yes te170 (.nil _ _) (.nil _ _)) (.no (.nil _ _) (.nil _ _)))) (.yes te58 (.no (.no (.nil _ _) (.nil _ _)) (.no (.nil _ _) (.nil _ _))) (.yes te122 (.no (.nil _ _) (.nil _ _)) (.nil _ _))))) (.no (.no (.no (.yes te70 (.no (.nil _ _) (.nil _ _)) (.yes te198 (.nil _ _) (.nil _ _))) (.no (.no (.nil _ _) (.nil _ _)) (.no (.nil _ _) (.nil _ _)))) (.yes te54 (.no (.yes te150 (.nil _ _) (.nil _ _)) (.no (.nil _ _) (.nil _ _))) (.no (.no (.nil _ _) (.nil _ _)) (.nil _ _)))) (.no (.no (.no (.yes te142 (.nil _ _) (.nil _ _)) (.no (.nil _ _) (.nil _ _))) (.no (.no (.nil _ _) (.nil _ _)) (.no (.nil _ _) (.nil _ _)))) (.no (.yes te94 (.no (.nil _ _) (.nil _ _)) (.no (.nil _ _) (.nil _ _))) (.no (.no (.nil _ _) (.nil _ _)) (.nil _ _)))))))), eqs_ok (.cons eq23 (.cons eq24 (.cons eq31 (.cons eq32 (.cons eq39 (.cons eq40 (.cons eq41 (.cons eq42 (.cons eq53 (.cons eq54 (.cons eq57 (.cons eq58 (.cons eq88 (.cons eq89 (.cons eq114 (.cons eq115 (.cons eq150 (.cons eq151 (.cons eq152 (.cons eq153 (.nil))))))))))))))))))))), by kernel_rfl⟩
def homes : List (Nat × Nat) := [(71, 11), (98, 12), (109, 0), (139, 8), (149, 1), (201, 2), (217, 13)]
end Go.Proofs.YtihiooaimdoapaaGreat
set_option linter.unusedVariables false
set_option linter.unusedSimpArgs false
namespace Go.Proofs.YtihiooaimdoapaaGreat
open Go.Bm
set_option maxRecDepth 100000
noncomputable def x2 : XCode := comp (bodyOf Tryz.f2) .o
noncomputable def x3 : XCode := comp (bodyOf Tryz.f3) (.n none .o (.n none .o (.n none .o (.n none .o (.n (some ⟨[], [], [], [], [], []⟩) .o (.n none .o (.n none .o (.n none (.n none .o (.n none (.n (some ⟨[(12, false, (.int .i64))], [], [], [], [], [(2, R2), (3, R3), (4, R4), (5, R5), (6, R6), (7, R7), (8, R8), (9, R9), (10, R10)]⟩) .o .o) .o)) (.n (some ⟨[], [], [], [], [], [(2, R2), (3, R3), (4, R4), (5, R5), (6, R6), (7, R7), (8, R8), (9, R9), (10, R10)]⟩) .o (.n none .o (.n none .o (.n none (.n none .o (.n none (.n (some ⟨[(14, false, (.int .i64)), (15, false, (.int .i64))], [(13, (.int .i64))], [], [], [], [(2, R2), (3, R3), (4, R4), (5, R5), (6, R6), (7, R7), (8, R8), (9, R9), (10, R10)]⟩) .o .o) .o)) (.n none .o (.n none .o (.n none .o (.n none (.n none .o (.n none (.n (some ⟨[(20, false, (.int .i64)), (21, false, (.int .i64))], [(19, (.int .i64))], [], [], [], [(2, R2), (3, R3), (4, R4), (5, R5), (6, R6), (7, R7), (8, R8), (9, R9), (10, R10)]⟩) .o .o) .o)) (.n none .o (.n (some ⟨[], [], [], [], [], []⟩) .o (.n none (.n none .o (.n none (.n (some ⟨[(26, false, (.int .i64))], [], [], [], [], []⟩) .o .o) .o)) .o)))))))))))))))))))
noncomputable def x4 : XCode := comp (bodyOf Tryz.f4) (.n none .o (.n none .o (.n none .o (.n none .o (.n (some ⟨[], [], [], [], [], []⟩) .o (.n none (.n none .o (.n none (.n (some ⟨[(11, false, (.int .i64))], [], [], [], [], [(2, R2), (3, R3), (4, R4), (5, R5), (6, R6), (7, R7), (8, R8), (9, R9), (10, R10)]⟩) (.n (some ⟨[], [], [], [], [], []⟩) .o (.n none (.n none (.n none .o (.n none .o (.n none (.n (some ⟨[(12, false, (.int .i64))], [], [], [], [], []⟩) (.n none .o (.n none (.n none (.n none .o (.n none (.n none .o (.n none (.n (some ⟨[(13, false, (.int .i64)), (14, false, (.int .i64))], [], [], [], [], []⟩) (.n none .o (.n none (.n none (.n none .o (.n none .o (.n none (.n (some ⟨[(13, false, (.int .i64)), (16, false, (.int .i64))], [], [], [], [], []⟩) .o .o) .o))) .o) .o)) .o) .o)) (.n none .o (.n (some ⟨[], [], [], [], [], []⟩) .o .o)))) .o) .o)) .o) .o))) .o) .o)) .o) .o)) .o))))))
noncomputable def x5 : XCode := comp (bodyOf Tryz.f5) (.n none .o (.n none .o (.n none .o (.n none .o (.n none .o (.n none .o (.n (some ⟨[], [], [], [], [], []⟩) .o (.n none (.n none .o (.n none (.n (some ⟨[(13, false, (.int .i64))], [], [], [], [], [(2, R2), (3, R3), (4, R4), (5, R5), (6, R6), (7, R7), (8, R8), (9, R9), (10, R10), (11, R11), (14, R14), (15, R15), (16, R16), (17, R17), (18, R18)]⟩) (.n (some ⟨[], [], [], [], [], []⟩) .o (.n none (.n none (.n none .o (.n none .o (.n none .o (.n none .o (.n none .o (.n none (.n none .o (.n none (.n (some ⟨[(16, false, (.int .i64))], [], [], [], [], []⟩) .o .o) .o)) (.n none .o (.n none (.n (some ⟨[(21, false, (.int .i64))], [], [], [], [], []⟩) .o .o) .o)))))))) .o) .o)) .o) .o)) .o))))))))
noncomputable def x6 : XCode := comp (bodyOf Tryz.f6) (.n none .o (.n none .o (.n none .o (.n none .o (.n (some ⟨[], [], [], [], [], []⟩) .o (.n none (.n none .o (.n none (.n (some ⟨[(9, false, (.int .i64))], [], [], [], [], [(2, R2), (3, R3), (4, R4), (5, R5), (6, R6), (7, R7), (8, R8), (9, R9), (10, R10)]⟩) (.n (some ⟨[], [], [], [], [], []⟩) .o (.n none (.n none (.n none .o (.n none .o (.n none .o (.n none .o (.n none .o (.n none .o (.n none (.n none .o (.n none (.n (some ⟨[], [], [], [], [1000005], []⟩) .o .o) .o)) (.n none .o (.n none .o (.n none .o (.n (some ⟨[], [], [], [], [], []⟩) .o (.n none (.n none .o (.n none (.n (some ⟨[], [], [], [], [1000005], []⟩) .o .o) .o)) (.n none .o (.n none (.n (some ⟨[], [], [], [], [1000005], []⟩) .o .o) .o)))))))))))))) .o) .o)) .o) .o)) .o))))))
noncomputable def x7 : XCode := comp (bodyOf Tryz.f7) (.n none .o (.n none .o (.n none .o (.n none .o (.n (some ⟨[], [], [], [], [], []⟩) .o (.n none (.n none .o (.n none (.n (some ⟨[(9, false, (.int .i64))], [], [], [], [], [(2, R2), (3, R3), (4, R4), (5, R5), (6, R6), (7, R7), (8, R8), (9, R9), (10, R10)]⟩) (.n (some ⟨[], [], [], [], [], []⟩) .o (.n none (.n none (.n none .o (.n none .o (.n (some ⟨[(12, false, .bool)], [], [], [], [], []⟩) .o (.n none .o (.n none .o (.n none .o (.n none (.n none .o (.n none (.n (some ⟨[], [], [], [], [1000005], []⟩) .o .o) .o)) (.n none .o (.n none .o (.n none .o (.n (some ⟨[], [], [], [], [], []⟩) .o (.n none .o (.n none (.n (some ⟨[], [], [], [], [1000005], []⟩) (.n (some ⟨[], [], [], [], [], []⟩) .o .o) .o) .o))))))))))))) .o) .o)) .o) .o)) .o))))))
noncomputable def x8 : XCode := comp (bodyOf Tryz.f8) (.n none .o (.n none .o (.n none .o (.n none .o (.n (some ⟨[], [], [], [], [], []⟩) .o (.n none .o (.n none .o (.n none .o (.n none .o (.n none .o (.n none .o (.n none (.n none .o (.n none (.n (some ⟨[(14, false, (.int .i64))], [(12, (.int .u64)), (13, (.int .i64))], [], [], [], [(2, R2), (3, R3), (4, R4), (5, R5), (6, R6), (7, R7), (8, R8), (9, R9), (10, R10)]⟩) (.n none .o (.n none (.n none (.n none .o (.n (some ⟨[(15, false, (.int .i64))], [], [], [], [], []⟩) .o (.n none .o (.n (some ⟨[], [], [], [], [], [(2, R2), (3, R3), (4, R4), (5, R5), (6, R6), (7, R7), (8, R8), (9, R9), (10, R10)]⟩) .o .o)))) .o) .o)) .o) .o)) (.n none .o (.n none .o (.n none .o (.n (some ⟨[], [], [], [], [], []⟩) .o (.n none (.n none .o (.n none (.n (some ⟨[(23, false, (.int .i64))], [], [], [], [], []⟩) (.n none .o (.n none (.n none (.n none .o (.n none .o (.n (some ⟨[(26, false, (.int .u64))], [], [], [], [], []⟩) .o .o))) .o) .o)) .o) .o)) .o)))))))))))))))))
noncomputable def x9 : XCode := comp (bodyOf Tryz.f9) (.n none .o (.n none .o (.n none .o (.n (some ⟨[], [], [], [], [], []⟩) .o (.n none .o (.n none (.n none .o (.n none (.n (some ⟨[(9, false, (.int .i64))], [(8, (.int .i64))], [], [], [], [(2, R2), (3, R3), (4, R4), (5, R5), (6, R6), (7, R7), (8, R8), (9, R9), (10, R10)]⟩) (.n (some ⟨[], [], [], [], [], []⟩) .o (.n none (.n none (.n none .o (.n none .o (.n none .o (.n none .o (.n none .o (.n none .o (.n (some ⟨[], [], [], [], [], []⟩) .o (.n none .o (.n none .o (.n none .o (.n none .o (.n (some ⟨[], [], [], [], [], []⟩) .o (.n none (.n none .o (.n none (.n (some ⟨[(24, false, (.int .i64))], [], [], [], [], []⟩) .o .o) .o)) (.n none (.n none .o (.n none (.n (some ⟨[(25, false, (.int .i64))], [], [], [], [], []⟩) .o .o) .o)) .o)))))))))))))) .o) .o)) .o) .o)) .o))))))
noncomputable def x10 : XCode := comp (bodyOf Tryz.f10) (.n none .o (.n none .o (.n none .o (.n none .o (.n none .o (.n none .o (.n (some ⟨[], [], [], [], [], []⟩) .o (.n none (.n none .o (.n none (.n (some ⟨[(13, false, (.int .i64))], [], [], [], [], [(2, R2), (3, R3), (4, R4), (5, R5), (6, R6), (7, R7), (8, R8), (9, R9), (10, R10), (11, R11), (14, R14), (15, R15), (16, R16), (17, R17), (18, R18)]⟩) (.n (some ⟨[], [], [], [], [], []⟩) .o (.n none (.n none (.n none .o (.n none .o (.n (some ⟨[], [], [], [], [], []⟩) .o (.n none .o (.n none .o (.n none .o (.n none .o (.n (some ⟨[], [], [], [], [], []⟩) .o (.n none (.n none .o (.n none (.n (some ⟨[(21, false, (.int .i64))], [], [], [], [], []⟩) .o .o) .o)) (.n none .o (.n none (.n (some ⟨[(24, false, (.int .i64))], [], [], [], [], []⟩) .o .o) .o))))))))))) .o) .o)) .o) .o)) .o))))))))
noncomputable def x11 : XCode := comp (bodyOf Tryz.f11) (.n none .o (.n none .o (.n (some ⟨[], [], [], [], [], []⟩) .o .o)))
noncomputable def x12 : XCode := comp (bodyOf Tryz.f12) (.n none .o (.n (some ⟨[], [], [], [], [], []⟩) .o (.n none .o (.n none .o (.n none (.n none .o (.n none (.n (some ⟨[(29, false, (.int .i64))], [(8, (.slc (.pair (.int .u8) (.pair (.int .i64) (.int .i64)))))], [], [], [], []⟩) .o .o) .o)) .o)))))
noncomputable def x13 : XCode := comp (bodyOf Tryz.f13) .o
noncomputable def x14 : XCode := comp (bodyOf Tryz.f14) .o
noncomputable def x15 : XCode := comp (bodyOf Tryz.f15) .o
noncomputable def x16 : XCode := comp (bodyOf Tryz.f16) .o
noncomputable def x17 : XCode := comp (bodyOf Tryz.f17) .o
noncomputable def x18 : XCode := comp (bodyOf Tryz.f18) .o
noncomputable def x19 : XCode := comp (bodyOf Tryz.f19) .o
noncomputable def x20 : XCode := comp (bodyOf Tryz.f20) (.n none .o (.n none .o (.n none (.n none .o (.n none (.n (some ⟨[(4, false, (.int .i64))], [(3, (.slc (.pair (.int .u8) (.pair (.int .i64) (.int .i64)))))], [], [], [], []⟩) (.n (some ⟨[], [], [], [], [], []⟩) .o (.n none (.n none (.n none .o (.n none (.n none .o (.n none (.n (some ⟨[(6, false, (.int .i64))], [(5, (.pair (.int .u8) (.pair (.int .i64) (.int .i64))))], [], [], [], []⟩) (.n (some ⟨[], [], [], [], [], []⟩) .o .o) .o) .o)) .o)) .o) .o)) .o) .o)) .o)))
noncomputable def x21 : XCode := comp (bodyOf Tryz.f21) .o
noncomputable def x22 : XCode := comp (bodyOf Tryz.f22) .o
noncomputable def x23 : XCode := comp (bodyOf Tryz.f23) (.n none .o (.n none .o (.n none .o (.n none (.n none .o (.n none (.n none .o (.n none .o (.n none .o (.n none .o (.n none .o (.n none .o (.n none .o (.n none .o (.n (some ⟨[(62, false, .bool)], [], [], [], [], []⟩) .o (.n none .o (.n none .o (.n none (.n none .o (.n (some ⟨[], [], [], [((6, none), [(false, (.int .i64)), (false, (.int .i64)), (true, (.int .i64))])], [], [(11, R11), (14, R14), (17, R17)]⟩) .o .o)) (.n none .o (.n none .o (.n (some ⟨[(107, false, .bool)], [], [], [], [], []⟩) .o (.n none .o (.n (some ⟨[(114, false, .bool)], [], [], [], [], []⟩) .o .o))))))))))))))))) .o)) .o))))
noncomputable def x24 : XCode := comp (bodyOf Tryz.f24) (.n none .o (.n none (.n none .o (.n none (.n (some ⟨[(3, false, (.int .i64))], [], [], [], [], []⟩) (.n none .o (.n none (.n none (.n none .o (.n none (.n (some ⟨[(4, false, (.int .i64))], [], [], [], [], []⟩) .o .o) .o)) .o) .o)) .o) .o)) (.n none (.n none .o (.n none (.n (some ⟨[(6, false, (.int .i64))], [], [], [], [], []⟩) .o .o) .o)) .o)))
noncomputable def x25 : XCode := comp (bodyOf Tryz.f25) .o
noncomputable def x26 : XCode := comp (bodyOf Tryz.f26) .o
noncomputable def x27 : XCode := comp (bodyOf Tryz.f27) (.n none .o (.n none .o (.n none (.n none .o (.n none (.n (some ⟨[(5, false, (.int .i64))], [], [], [], [], []⟩) .o .o) .o)) .o)))
noncomputable def x28 : XCode := comp (bodyOf Tryz.f28) .o
noncomputable def x29 : XCode := comp (bodyOf Tryz.f29) (.n none .o (.n none .o (.n none (.n none .o (.n none (.n (some ⟨[(5, false, (.int .i64))], [], [], [], [], []⟩) .o .o) .o)) .o)))
noncomputable def x30 : XCode := comp (bodyOf Tryz.f30) .o
noncomputable def x31 : XCode := comp (bodyOf Tryz.f31) .o
noncomputable def x32 : XCode := comp (bodyOf Tryz.f32) .o
noncomputable def x33 : XCode := comp (bodyOf Tryz.f33) (.n none .o (.n (some ⟨[], [], [], [], [], []⟩) .o (.n none (.n none .o (.n none (.n (some ⟨[(5, false, (.int .i64))], [], [], [], [], []⟩) .o .o) .o)) .o)))
noncomputable def x34 : XCode := comp (bodyOf Tryz.f34) (.n none .o (.n none .o (.n (some ⟨[], [], [], [], [], []⟩) .o .o)))
noncomputable def x35 : XCode := comp (bodyOf Tryz.f35) .o
noncomputable def x36 : XCode := comp (bodyOf Tryz.f36) (.n none .o (.n none .o (.n none (.n none .o (.n none (.n (some ⟨[(11, false, (.int .i64))], [], [], [], [], []⟩) (.n none .o (.n none .o (.n none (.n none (.n none .o (.n none (.n none .o (.n none (.n (some ⟨[(17, false, (.int .i64))], [], [], [], [], []⟩) .o .o) .o)) .o)) .o) .o))) .o) .o)) .o)))
noncomputable def x37 : XCode := comp (bodyOf Tryz.f37) (.n none .o (.n none .o (.n none .o (.n none (.n none .o (.n none (.n (some ⟨[(21, false, (.int .i64))], [], [], [], [], [(3, R3)]⟩) .o .o) .o)) .o))))
noncomputable def x38 : XCode := comp (bodyOf Tryz.f38) .o
noncomputable def x39 : XCode := comp (bodyOf Tryz.f39) .o
noncomputable def x40 : XCode := comp (bodyOf Tryz.f40) .o
noncomputable def x41 : XCode := comp (bodyOf Tryz.f41) .o
noncomputable def x42 : XCode := comp (bodyOf Tryz.f42) .o
noncomputable def x43 : XCode := comp (bodyOf Tryz.f43) .o
noncomputable def x44 : XCode := comp (bodyOf Tryz.f44) .o
noncomputable def x45 : XCode := comp (bodyOf Tryz.f45) (.n none .o (.n none .o (.n none (.n (some ⟨[(29, false, .bool)], [], [], [], [], []⟩) .o .o) (.n none .o (.n (some ⟨[], [], [], [((2, none), [(false, (.int .i64)), (false, (.int .i64)), (true, (.int .i64))]), ((6, none), [(false, (.int .i64)), (false, (.int .i64)), (true, (.int .i64))])], [], [(8, R8), (10, R10)]⟩) .o (.n (some ⟨[], [], [], [], [], [(3, R3), (5, R5), (7, R7)]⟩) (.n none .o (.n none .o (.n none (.n none .o (.n none (.n none .o (.n none (.n (some ⟨[(97, false, (.int .i64))], [], [], [], [], [(7, R7)]⟩) .o .o) .o)) .o)) .o))) .o))))))
noncomputable def x46 : XCode := comp (bodyOf Tryz.f46) .o
noncomputable def x47 : XCode := comp (bodyOf Tryz.f47) (.n none .o (.n none .o (.n (some ⟨[], [], [], [((2, none), [(false, (.int .i64)), (false, (.int .i64)), (true, (.int .i64))])], [], []⟩) .o .o)))
noncomputable def x48 : XCode := comp (bodyOf Tryz.f48) .o
noncomputable def x49 : XCode := comp (bodyOf Tryz.f49) .o
noncomputable def x50 : XCode := comp (bodyOf Tryz.f50) .o
noncomputable def x51 : XCode := comp (bodyOf Tryz.f51) .o
noncomputable def x52 : XCode := comp (bodyOf Tryz.f52) .o
noncomputable def x53 : XCode := comp (bodyOf Tryz.f53) .o
noncomputable def x54 : XCode := comp (bodyOf Tryz.f54) .o
noncomputable def x55 : XCode := comp (bodyOf Tryz.f55) .o
noncomputable def x56 : XCode := comp (bodyOf Tryz.f56) .o
noncomputable def x57 : XCode := comp (bodyOf Tryz.f57) (.n none .o (.n none .o (.n none (.n none .o (.n none (.n (some ⟨[(4, false, (.int .i64))], [], [], [], [], [(12, R12), (14, R14), (15, R15)]⟩) .o .o) .o)) .o)))
noncomputable def x58 : XCode := comp (bodyOf Tryz.f58) (.n none .o (.n none .o (.n none .o (.n none .o (.n none (.n none .o (.n none (.n (some ⟨[(17, false, .bool)], [], [], [], [], []⟩) .o .o) .o)) .o)))))
noncomputable def x59 : XCode := comp (bodyOf Tryz.f59) .o
noncomputable def x60 : XCode := comp (bodyOf Tryz.f60) (.n none .o (.n (some ⟨[], [], [], [], [], []⟩) .o (.n none .o (.n none (.n none .o (.n none (.n (some ⟨[(6, false, (.int .i64))], [], [], [], [], [(14, R14), (15, R15), (16, R16)]⟩) .o .o) .o)) .o))))
noncomputable def x61 : XCode := comp (bodyOf Tryz.f61) (.n none .o (.n none .o (.n (some ⟨[], [], [], [], [], []⟩) .o .o)))
noncomputable def x62 : XCode := comp (bodyOf Tryz.f62) (.n none .o (.n none .o (.n (some ⟨[], [], [], [((6, none), [(false, (.int .i64)), (false, (.int .i64)), (true, (.int .i64))])], [], []⟩) .o (.n (some ⟨[], [], [], [((6, none), [(false, (.int .i64)), (false, (.int .i64)), (true, (.int .i64))])], [], []⟩) .o (.n none .o (.n (some ⟨[(9, false, (.int .i64))], [], [], [], [], [(14, R14)]⟩) (.n (some ⟨[(70, false, .bool)], [], [], [], [], []⟩) .o .o) .o))))))
noncomputable def x63 : XCode := comp (bodyOf Tryz.f63) .o
noncomputable def x64 : XCode := comp (bodyOf Tryz.f64) (.n none .o (.n none .o (.n none .o (.n none .o (.n none .o (.n none .o (.n none (.n none .o (.n none (.n (some ⟨[(10, false, .bool), (11, false, (.int .i64))], [], [], [((9, none), [(false, (.int .i64)), (false, (.int .i64)), (true, (.int .i64))])], [], [(17, R17)]⟩) (.n none .o (.n none (.n none (.n none .o (.n none .o (.n (some ⟨[], [], [], [], [], []⟩) .o .o))) .o) .o)) .o) .o)) (.n none .o (.n none .o (.n none (.n none .o (.n none (.n (some ⟨[(19, false, (.int .i64))], [(18, (.pair (.int .i64) (.pair (.int .i64) (.pair (.int .i64) (.pair (.rsl 18 1) .bool)))))], [], [], [], []⟩) .o .o) .o)) .o))))))))))
noncomputable def x65 : XCode := comp (bodyOf Tryz.f65) (.n none .o (.n none .o (.n (some ⟨[], [], [], [((6, none), [(false, (.int .i64)), (false, (.int .i64)), (true, (.int .i64))])], [], []⟩) .o .o)))
noncomputable def x66 : XCode := comp (bodyOf Tryz.f66) (.n none .o (.n none .o (.n none .o (.n (some ⟨[], [], [], [((6, none), [(false, (.int .i64)), (false, (.int .i64)), (true, (.int .i64))])], [], []⟩) .o .o))))
noncomputable def x67 : XCode := comp (bodyOf Tryz.f67) .o
noncomputable def x68 : XCode := comp (bodyOf Tryz.f68) (.n none .o (.n none .o (.n none .o (.n (some ⟨[], [], [], [], [], []⟩) .o (.n none .o (.n none .o (.n none (.n none .o (.n none (.n (some ⟨[(9, false, (.int .i64)), (10, false, (.int .i64))], [], [], [], [], []⟩) (.n (some ⟨[], [], [], [], [], []⟩) .o .o) .o) .o)) .o)))))))
noncomputable def x69 : XCode := comp (bodyOf Tryz.f69) (.n none .o (.n (some ⟨[], [], [], [], [], []⟩) .o .o))
noncomputable def x70 : XCode := comp (bodyOf Tryz.f70) .o
noncomputable def x71 : XCode := comp (bodyOf Tryz.f71) .o
noncomputable def x72 : XCode := comp (bodyOf Tryz.f72) (.n none .o (.n none (.n none .o (.n none (.n (some ⟨[(5, false, (.int .i64))], [], [], [], [], []⟩) .o .o) .o)) .o))
noncomputable def x73 : XCode := comp (bodyOf Tryz.f73) .o
noncomputable def x74 : XCode := comp (bodyOf Tryz.f74) .o
noncomputable def x75 : XCode := comp (bodyOf Tryz.f75) .o
noncomputable def x76 : XCode := comp (bodyOf Tryz.f76) (.n none .o (.n (some ⟨[], [], [], [], [], []⟩) .o .o))
noncomputable def x77 : XCode := comp (bodyOf Tryz.f77) (.n none .o (.n none .o (.n (some ⟨[(6, false, (.int .i64))], [], [], [], [], []⟩) .o .o)))
noncomputable def x78 : XCode := comp (bodyOf Tryz.f78) (.n none .o (.n none .o (.n none (.n none (.n (some ⟨[(9, false, .bool)], [], [], [], [], []⟩) .o .o) .o) .o)))
noncomputable def x79 : XCode := comp (bodyOf Tryz.f79) .o
noncomputable def x80 : XCode := comp (bodyOf Tryz.f80) (.n none .o (.n none .o (.n (some ⟨[(8, false, (.int .i64))], [], [], [], [], [(3, R3)]⟩) .o .o)))
noncomputable def x81 : XCode := comp (bodyOf Tryz.f81) .o
noncomputable def x82 : XCode := comp (bodyOf Tryz.f82) .o
noncomputable def x83 : XCode := comp (bodyOf Tryz.f83) .o
noncomputable def x84 : XCode := comp (bodyOf Tryz.f84) .o
noncomputable def x85 : XCode := comp (bodyOf Tryz.f85) (.n none .o (.n none .o (.n none (.n none .o (.n none (.n none .o (.n none (.n none .o (.n (some ⟨[], [], [], [], [], []⟩) .o .o)) .o)) .o)) .o)))
noncomputable def x86 : XCode := comp (bodyOf Tryz.f86) (.n none .o (.n none .o (.n (some ⟨[], [], [], [], [], [(3, R3)]⟩) .o .o)))
noncomputable def x87 : XCode := comp (bodyOf Tryz.f87) .o
noncomputable def x88 : XCode := comp (bodyOf Tryz.f88) .o
noncomputable def x89 : XCode := comp (bodyOf Tryz.f89) .o
noncomputable def x90 : XCode := comp (bodyOf Tryz.f90) (.n none .o (.n (some ⟨[], [], [], [], [], []⟩) .o .o))
noncomputable def x91 : XCode := comp (bodyOf Tryz.f91) .o
noncomputable def x92 : XCode := comp (bodyOf Tryz.f92) .o
noncomputable def x93 : XCode := comp (bodyOf Tryz.f93) (.n none .o (.n (some ⟨[(5, false, (.ptr 8)), (6, false, (.int .i64))], [], [], [], [], []⟩) .o .o))
noncomputable def x94 : XCode := comp (bodyOf Tryz.f94) .o
noncomputable def x95 : XCode := comp (bodyOf Tryz.f95) (.n none .o (.n none .o (.n none (.n none .o (.n none (.n (some ⟨[(8, false, (.ptr 8)), (9, false, (.int .i64))], [], [], [], [], []⟩) .o .o) .o)) .o)))
noncomputable def x96 : XCode := comp (bodyOf Tryz.f96) .o
noncomputable def x97 : XCode := comp (bodyOf Tryz.f97) .o
noncomputable def x98 : XCode := comp (bodyOf Tryz.f98) .o
noncomputable def x99 : XCode := comp (bodyOf Tryz.f99) .o
noncomputable def x100 : XCode := comp (bodyOf Tryz.f100) .o
noncomputable def x101 : XCode := comp (bodyOf Tryz.f101) .o
noncomputable def x102 : XCode := comp (bodyOf Tryz.f102) (.n none .o (.n none .o (.n none (.n none .o (.n none (.n (some ⟨[(6, false, (.int .i64))], [], [], [], [], [(16, R16)]⟩) .o .o) .o)) .o)))
noncomputable def x103 : XCode := comp (bodyOf Tryz.f103) (.n none .o (.n (some ⟨[], [], [], [], [], []⟩) .o (.n none .o (.n none (.n none .o (.n none (.n (some ⟨[(7, false, (.int .i64))], [], [], [], [], [(16, R16)]⟩) .o .o) .o)) .o))))
noncomputable def x104 : XCode := comp (bodyOf Tryz.f104) .o
noncomputable def x105 : XCode := comp (bodyOf Tryz.f105) (.n none .o (.n none .o (.n (some ⟨[], [], [], [], [], []⟩) .o (.n none (.n none .o (.n none (.n (some ⟨[(8, false, (.int .i64))], [], [], [], [], []⟩) .o .o) .o)) .o))))
noncomputable def x106 : XCode := comp (bodyOf Tryz.f106) (.n none .o (.n none (.n none .o (.n none (.n (some ⟨[(5, false, (.int .i64))], [], [], [], [], []⟩) .o .o) .o)) .o))
noncomputable def x107 : XCode := comp (bodyOf Tryz.f107) .o
noncomputable def x108 : XCode := comp (bodyOf Tryz.f108) .o
noncomputable def x109 : XCode := comp (bodyOf Tryz.f109) .o
noncomputable def x110 : XCode := comp (bodyOf Tryz.f110) .o
noncomputable def x111 : XCode := comp (bodyOf Tryz.f111) (.n none .o (.n none .o (.n none .o (.n none .o (.n none .o (.n none .o (.n none (.n none (.n (some ⟨[(10, false, .bool), (11, false, (.int .i64)), (12, false, (.int .i64))], [(8, (.int .u64)), (9, (.int .i64))], [], [], [], []⟩) .o .o) .o) .o)))))))
noncomputable def x112 : XCode := comp (bodyOf Tryz.f112) .o
noncomputable def x113 : XCode := comp (bodyOf Tryz.f113) (.n none .o (.n (some ⟨[], [], [], [], [], []⟩) .o .o))
noncomputable def x114 : XCode := comp (bodyOf Tryz.f114) (.n none .o (.n none .o (.n (some ⟨[], [], [], [], [], []⟩) .o .o)))
noncomputable def x115 : XCode := comp (bodyOf Tryz.f115) .o
noncomputable def x116 : XCode := comp (bodyOf Tryz.f116) (.n none .o (.n (some ⟨[], [], [], [], [], []⟩) .o .o))
noncomputable def x117 : XCode := comp (bodyOf Tryz.f117) .o
noncomputable def x118 : XCode := comp (bodyOf Tryz.f118) (.n none .o (.n (some ⟨[(8, false, .bool)], [], [], [], [], []⟩) .o .o))
noncomputable def x119 : XCode := comp (bodyOf Tryz.f119) .o
noncomputable def x120 : XCode := comp (bodyOf Tryz.f120) (.n none .o (.n (some ⟨[(10, false, .bool)], [], [], [], [], []⟩) .o .o))
noncomputable def x121 : XCode := comp (bodyOf Tryz.f121) (.n none .o (.n (some ⟨[(19, false, .bool)], [], [], [], [], []⟩) .o .o))
noncomputable def x122 : XCode := comp (bodyOf Tryz.f122) .o
noncomputable def x123 : XCode := comp (bodyOf Tryz.f123) (.n none .o (.n none (.n none .o (.n none (.n (some ⟨[(8, false, (.int .i64))], [], [], [], [], []⟩) .o .o) .o)) .o))
noncomputable def x124 : XCode := comp (bodyOf Tryz.f124) .o
noncomputable def x125 : XCode := comp (bodyOf Tryz.f125) .o
noncomputable def x126 : XCode := comp (bodyOf Tryz.f126) (.n none .o (.n (some ⟨[], [], [], [], [], []⟩) .o (.n (some ⟨[(6, false, (.int .i64))], [], [], [], [], []⟩) .o .o)))
noncomputable def x127 : XCode := comp (bodyOf Tryz.f127) (.n none .o (.n (some ⟨[], [], [], [], [], []⟩) .o (.n (some ⟨[(7, false, (.int .i64))], [], [], [], [], []⟩) .o (.n (some ⟨[(7, false, (.int .i64))], [], [], [], [], []⟩) .o (.n (some ⟨[], [], [], [], [], []⟩) .o (.n none .o (.n none .o (.n none .o (.n none (.n none .o (.n none (.n (some ⟨[(107, false, (.int .i64))], [], [], [], [], [(2, R2), (4, R4)]⟩) (.n none .o (.n none .o (.n none (.n none (.n none .o (.n none .o (.n none (.n (some ⟨[(140, false, .bool)], [], [], [], [], []⟩) .o .o) .o))) .o) .o))) .o) .o)) .o)))))))))
noncomputable def x128 : XCode := comp (bodyOf Tryz.f128) .o
noncomputable def x129 : XCode := comp (bodyOf Tryz.f129) .o
noncomputable def x130 : XCode := comp (bodyOf Tryz.f130) .o
noncomputable def x131 : XCode := comp (bodyOf Tryz.f131) (.n none .o (.n (some ⟨[], [], [], [((2, none), [(false, (.int .i64)), (false, (.int .i64)), (false, (.int .i64)), (false, (.int .i64))]), ((4, none), [(false, (.int .i64)), (false, (.int .i64)), (false, (.int .i64)), (false, (.int .i64))])], [], []⟩) (.n none (.n (some ⟨[(6, false, .bool)], [], [], [], [], []⟩) .o .o) .o) .o))
noncomputable def x132 : XCode := comp (bodyOf Tryz.f132) .o
noncomputable def x133 : XCode := comp (bodyOf Tryz.f133) .o
noncomputable def x134 : XCode := comp (bodyOf Tryz.f134) (.n none .o (.n none .o (.n none .o (.n none .o (.n none (.n none .o (.n none (.n (some ⟨[(10, false, .bool), (11, false, (.int .i64)), (12, false, (.int .i64))], [(8, (.int .u64)), (9, (.int .i64))], [], [], [], []⟩) (.n none .o (.n none (.n none (.n (some ⟨[(13, false, (.int .i64)), (16, false, .bool)], [(14, (.int .u64)), (15, (.int .i64))], [], [], [], []⟩) .o .o) .o) .o)) .o) .o)) .o)))))
noncomputable def x135 : XCode := comp (bodyOf Tryz.f135) .o
noncomputable def x136 : XCode := comp (bodyOf Tryz.f136) .o
noncomputable def x137 : XCode := comp (bodyOf Tryz.f137) .o
noncomputable def x138 : XCode := comp (bodyOf Tryz.f138) .o
noncomputable def x139 : XCode := comp (bodyOf Tryz.f139) (.n none .o (.n none .o (.n none (.n none (.n (some ⟨[(16, false, .bool)], [], [], [], [], []⟩) .o .o) .o) .o)))
noncomputable def x140 : XCode := comp (bodyOf Tryz.f140) (.n none .o (.n none .o (.n none (.n none .o (.n none (.n (some ⟨[(2, false, (.int .i64)), (9, false, (.int .i64))], [], [], [], [], []⟩) .o .o) .o)) .o)))
noncomputable def x141 : XCode := comp (bodyOf Tryz.f141) (.n none .o (.n none (.n none .o (.n none (.n (some ⟨[(8, false, (.int .i64))], [], [], [], [], []⟩) .o .o) .o)) .o))
noncomputable def x142 : XCode := comp (bodyOf Tryz.f142) (.n none .o (.n none .o (.n none (.n none .o (.n none (.n (some ⟨[(4, false, (.int .i64))], [(3, (.pair (.int .i64) (.int .i64)))], [], [], [], []⟩) (.n none .o (.n none (.n none (.n none .o (.n (some ⟨[], [(3, (.pair (.int .i64) (.int .i64)))], [], [], [], []⟩) (.n (some ⟨[(35, false, .bool)], [], [], [], [], []⟩) .o .o) .o)) .o) .o)) .o) .o)) .o)))
noncomputable def x143 : XCode := comp (bodyOf Tryz.f143) (.n none .o (.n none (.n (some ⟨[(8, false, (.int .i64))], [], [], [], [], [(16, R16)]⟩) .o .o) .o))
noncomputable def x144 : XCode := comp (bodyOf Tryz.f144) (.n none .o (.n none .o (.n (some ⟨[], [], [], [((4, none), [(false, (.int .i64)), (false, (.int .i64)), (false, (.int .i64)), (false, (.int .i64))])], [], []⟩) .o .o)))
noncomputable def x145 : XCode := comp (bodyOf Tryz.f145) .o
noncomputable def x146 : XCode := comp (bodyOf Tryz.f146) .o
noncomputable def x147 : XCode := comp (bodyOf Tryz.f147) (.n none .o (.n none .o (.n none (.n (some ⟨[(24, false, .bool)], [], [], [], [], []⟩) .o .o) (.n none .o (.n (some ⟨[(12, false, .bool)], [], [], [], [], []⟩) .o (.n (some ⟨[(13, false, .bool)], [], [], [], [], []⟩) .o (.n (some ⟨[], [(10, (.int .u64))], [], [], [], []⟩) (.n none .o (.n none (.n none .o (.n none .o (.n none .o (.n none .o (.n none .o (.n none (.n (some ⟨[(73, false, .bool)], [], [], [], [], []⟩) .o .o) (.n none .o (.n none (.n (some ⟨[(93, false, .bool)], [], [], [], [], []⟩) .o .o) .o)))))))) .o)) .o)))))))
noncomputable def x148 : XCode := comp (bodyOf Tryz.f148) .o
noncomputable def x149 : XCode := comp (bodyOf Tryz.f149) (.n none .o (.n (some ⟨[], [], [], [], [], []⟩) .o (.n none .o (.n none (.n none .o (.n none (.n (some ⟨[(7, false, (.int .i64)), (8, false, (.int .i64))], [], [], [], [], []⟩) .o .o) .o)) .o))))
noncomputable def x150 : XCode := comp (bodyOf Tryz.f150) .o
noncomputable def x151 : XCode := comp (bodyOf Tryz.f151) .o
noncomputable def x152 : XCode := comp (bodyOf Tryz.f152) .o
noncomputable def x153 : XCode := comp (bodyOf Tryz.f153) (.n none .o (.n none (.n none .o (.n none (.n (some ⟨[(8, false, (.int .i64))], [], [], [], [], []⟩) .o .o) .o)) .o))
noncomputable def x154 : XCode := comp (bodyOf Tryz.f154) .o
noncomputable def x155 : XCode := comp (bodyOf Tryz.f155) .o
noncomputable def x156 : XCode := comp (bodyOf Tryz.f156) .o
noncomputable def x157 : XCode := comp (bodyOf Tryz.f157) .o
noncomputable def x158 : XCode := comp (bodyOf Tryz.f158) (.n none .o (.n none (.n (some ⟨[(3, false, (.int .i64))], [], [], [((0, some 5), [(false, (.int .i64)), (false, (.int .i64)), (true, (.int .i64))])], [0], [(8, R8), (10, R10)]⟩) .o .o) .o))
noncomputable def x159 : XCode := comp (bodyOf Tryz.f159) (.n none .o (.n none .o (.n none .o (.n none .o (.n (some ⟨[], [], [], [((10, none), [(true, (.int .u64)), (true, (.int .i64)), (false, .bool), (false, (.int .i64))])], [], []⟩) .o .o)))))
noncomputable def x160 : XCode := comp (bodyOf Tryz.f160) .o
noncomputable def x161 : XCode := comp (bodyOf Tryz.f161) (.n none .o (.n none (.n none .o (.n none (.n (some ⟨[(8, false, (.int .i64))], [], [], [], [], []⟩) .o .o) .o)) .o))
noncomputable def x162 : XCode := comp (bodyOf Tryz.f162) .o
noncomputable def x163 : XCode := comp (bodyOf Tryz.f163) (.n none .o (.n (some ⟨[], [], [], [], [], []⟩) .o (.n (some ⟨[(3, false, .bool)], [], [], [], [], []⟩) .o (.n none (.n none .o (.n none (.n (some ⟨[(22, false, .bool)], [], [], [], [], []⟩) .o .o) .o)) .o))))
noncomputable def x164 : XCode := comp (bodyOf Tryz.f164) (.n none .o (.n none (.n none .o (.n none (.n (some ⟨[(5, false, (.int .i64))], [], [], [], [], []⟩) .o .o) .o)) .o))
noncomputable def x165 : XCode := comp (bodyOf Tryz.f165) (.n none .o (.n none (.n none .o (.n none (.n (some ⟨[(8, false, (.int .i64))], [], [], [], [], []⟩) .o .o) .o)) .o))
noncomputable def x166 : XCode := comp (bodyOf Tryz.f166) (.n none .o (.n none (.n none .o (.n none (.n (some ⟨[(4, false, .bool)], [], [], [], [], []⟩) .o .o) .o)) .o))
noncomputable def fnT : Tr (Func × XCode) := (.node (.node (.node (.node (.node (.node (.node (.node .nil (some (Tryz.f127, x127)) .nil) (some (Tryz.f63, x63)) .nil) (some (Tryz.f31, x31)) (.node (.node .nil (some (Tryz.f159, x159)) .nil) (some (Tryz.f95, x95)) .nil)) (some (Tryz.f15, x15)) (.node (.node (.node .nil (some (Tryz.f143, x143)) .nil) (some (Tryz.f79, x79)) .nil) (some (Tryz.f47, x47)) (.node .nil (some (Tryz.f111, x111)) .nil))) (some (Tryz.f7, x7)) (.node (.node (.node (.node .nil (some (Tryz.f135, x135)) .nil) (some (Tryz.f71, x71)) .nil) (some (Tryz.f39, x39)) (.node .nil (some (Tryz.f103, x103)) .nil)) (some (Tryz.f23, x23)) (.node (.node (.node .nil (some (Tryz.f151, x151)) .nil) (some (Tryz.f87, x87)) .nil) (some (Tryz.f55, x55)) (.node .nil (some (Tryz.f119, x119)) .nil)))) (some (Tryz.f3, x3)) (.node (.node (.node (.node (.node .nil (some (Tryz.f131, x131)) .nil) (some (Tryz.f67, x67)) .nil) (some (Tryz.f35, x35)) (.node (.node .nil (some (Tryz.f163, x163)) .nil) (some (Tryz.f99, x99)) .nil)) (some (Tryz.f19, x19)) (.node (.node (.node .nil (some (Tryz.f147, x147)) .nil) (some (Tryz.f83, x83)) .nil) (some (Tryz.f51, x51)) (.node .nil (some (Tryz.f115, x115)) .nil))) (some (Tryz.f11, x11)) (.node (.node (.node (.node .nil (some (Tryz.f139, x139)) .nil) (some (Tryz.f75, x75)) .nil) (some (Tryz.f43, x43)) (.node .nil (some (Tryz.f107, x107)) .nil)) (some (Tryz.f27, x27)) (.node (.node (.node .nil (some (Tryz.f155, x155)) .nil) (some (Tryz.f91, x91)) .nil) (some (Tryz.f59, x59)) (.node .nil (some (Tryz.f123, x123)) .nil))))) none (.node (.node (.node (.node (.node (.node .nil (some (Tryz.f129, x129)) .nil) (some (Tryz.f65, x65)) .nil) (some (Tryz.f33, x33)) (.node (.node .nil (some (Tryz.f161, x161)) .nil) (some (Tryz.f97, x97)) .nil)) (some (Tryz.f17, x17)) (.node (.node (.node .nil (some (Tryz.f145, x145)) .nil) (some (Tryz.f81, x81)) .nil) (some (Tryz.f49, x49)) (.node .nil (some (Tryz.f113, x113)) .nil))) (some (Tryz.f9, x9)) (.node (.node (.node (.node .nil (some (Tryz.f137, x137)) .nil) (some (Tryz.f73, x73)) .nil) (some (Tryz.f41, x41)) (.node .nil (some (Tryz.f105, x105)) .nil)) (some (Tryz.f25, x25)) (.node (.node (.node .nil (some (Tryz.f153, x153)) .nil) (some (Tryz.f89, x89)) .nil) (some (Tryz.f57, x57)) (.node .nil (some (Tryz.f121, x121)) .nil)))) (some (Tryz.f5, x5)) (.node (.node (.node (.node (.node .nil (some (Tryz.f133, x133)) .nil) (some (Tryz.f69, x69)) .nil) (some (Tryz.f37, x37)) (.node (.node .nil (some (Tryz.f165, x165)) .nil) (some (Tryz.f101, x101)) .nil)) (some (Tryz.f21, x21)) (.node (.node (.node .nil (some (Tryz.f149, x149)) .nil) (some (Tryz.f85, x85)) .nil) (some (Tryz.f53, x53)) (.node .nil (some (Tryz.f117, x117)) .nil))) (some (Tryz.f13, x13)) (.node (.node (.node (.node .nil (some (Tryz.f141, x141)) .nil) (some (Tryz.f77, x77)) .nil) (some (Tryz.f45, x45)) (.node .nil (some (Tryz.f109, x109)) .nil)) (some (Tryz.f29, x29)) (.node (.node (.node .nil (some (Tryz.f157, x157)) .nil) (some (Tryz.f93, x93)) .nil) (some (Tryz.f61, x61)) (.node .nil (some (Tryz.f125, x125)) .nil)))))) none (.node (.node (.node (.node (.node (.node (.node .nil (some (Tryz.f128, x128)) .nil) (some (Tryz.f64, x64)) .nil) (some (Tryz.f32, x32)) (.node (.node .nil (some (Tryz.f160, x160)) .nil) (some (Tryz.f96, x96)) .nil)) (some (Tryz.f16, x16)) (.node (.node (.node .nil (some (Tryz.f144, x144)) .nil) (some (Tryz.f80, x80)) .nil) (some (Tryz.f48, x48)) (.node .nil (some (Tryz.f112, x112)) .nil))) (some (Tryz.f8, x8)) (.node (.node (.node (.node .nil (some (Tryz.f136, x136)) .nil) (some (Tryz.f72, x72)) .nil) (some (Tryz.f40, x40)) (.node .nil (some (Tryz.f104, x104)) .nil)) (some (Tryz.f24, x24)) (.node (.node (.node .nil (some (Tryz.f152, x152)) .nil) (some (Tryz.f88, x88)) .nil) (some (Tryz.f56, x56)) (.node .nil (some (Tryz.f120, x120)) .nil)))) (some (Tryz.f4, x4)) (.node (.node (.node (.node (.node .nil (some (Tryz.f132, x132)) .nil) (some (Tryz.f68, x68)) .nil) (some (Tryz.f36, x36)) (.node (.node .nil (some (Tryz.f164, x164)) .nil) (some (Tryz.f100, x100)) .nil)) (some (Tryz.f20, x20)) (.node (.node (.node .nil (some (Tryz.f148, x148)) .nil) (some (Tryz.f84, x84)) .nil) (some (Tryz.f52, x52)) (.node .nil (some (Tryz.f116, x116)) .nil))) (some (Tryz.f12, x12)) (.node (.node (.node (.node .nil (some (Tryz.f140, x140)) .nil) (some (Tryz.f76, x76)) .nil) (some (Tryz.f44, x44)) (.node .nil (some (Tryz.f108, x108)) .nil)) (some (Tryz.f28, x28)) (.node (.node (.node .nil (some (Tryz.f156, x156)) .nil) (some (Tryz.f92, x92)) .nil) (some (Tryz.f60, x60)) (.node .nil (some (Tryz.f124, x124)) .nil))))) (some (Tryz.f2, x2)) (.node (.node (.node (.node (.node (.node .nil (some (Tryz.f130, x130)) .nil) (some (Tryz.f66, x66)) .nil) (some (Tryz.f34, x34)) (.node (.node .nil (some (Tryz.f162, x162)) .nil) (some (Tryz.f98, x98)) .nil)) (some (Tryz.f18, x18)) (.node (.node (.node .nil (some (Tryz.f146, x146)) .nil) (some (Tryz.f82, x82)) .nil) (some (Tryz.f50, x50)) (.node .nil (some (Tryz.f114, x114)) .nil))) (some (Tryz.f10, x10)) (.node (.node (.node (.node .nil (some (Tryz.f138, x138)) .nil) (some (Tryz.f74, x74)) .nil) (some (Tryz.f42, x42)) (.node .nil (some (Tryz.f106, x106)) .nil)) (some (Tryz.f26, x26)) (.node (.node (.node .nil (some (Tryz.f154, x154)) .nil) (some (Tryz.f90, x90)) .nil) (some (Tryz.f58, x58)) (.node .nil (some (Tryz.f122, x122)) .nil)))) (some (Tryz.f6, x6)) (.node (.node (.node (.node (.node .nil (some (Tryz.f134, x134)) .nil) (some (Tryz.f70, x70)) .nil) (some (Tryz.f38, x38)) (.node (.node .nil (some (Tryz.f166, x166)) .nil) (some (Tryz.f102, x102)) .nil)) (some (Tryz.f22, x22)) (.node (.node (.node .nil (some (Tryz.f150, x150)) .nil) (some (Tryz.f86, x86)) .nil) (some (Tryz.f54, x54)) (.node .nil (some (Tryz.f118, x118)) .nil))) (some (Tryz.f14, x14)) (.node (.node (.node (.node .nil (some (Tryz.f142, x142)) .nil) (some (Tryz.f78, x78)) .nil) (some (Tryz.f46, x46)) (.node .nil (some (Tryz.f110, x110)) .nil)) (some (Tryz.f30, x30)) (.node (.node (.node .nil (some (Tryz.f158, x158)) .nil) (some (Tryz.f94, x94)) .nil) (some (Tryz.f62, x62)) (.node .nil (some (Tryz.f126, x126)) .nil)))))))
noncomputable def fns : FT := fun f => fnT.get f
theorem fk2 : FxOk Tryz.prog 2 Tryz.f2 x2 := fxOk_of Tryz.func2 rfl rfl
theorem fk3 : FxOk Tryz.prog 3 Tryz.f3 x3 := fxOk_of Tryz.func3 rfl rfl
theorem fk4 : FxOk Tryz.prog 4 Tryz.f4 x4 := fxOk_of Tryz.func4 rfl rfl
theorem fk5 : FxOk Tryz.prog 5 Tryz.f5 x5 := fxOk_of Tryz.func5 rfl rfl
theorem fk6 : FxOk Tryz.prog 6 Tryz.f6 x6 := fxOk_of Tryz.func6 rfl rfl
theorem fk7 : FxOk Tryz.prog 7 Tryz.f7 x7 := fxOk_of Tryz.func7 rfl rfl
theorem fk8 : FxOk Tryz.prog 8 Tryz.f8 x8 := fxOk_of Tryz.func8 rfl rfl
theorem fk9 : FxOk Tryz.prog 9 Tryz.f9 x9 := fxOk_of Tryz.func9 rfl rfl
theorem fk10 : FxOk Tryz.prog 10 Tryz.f10 x10 := fxOk_of Tryz.func10 rfl rfl
theorem fk11 : FxOk Tryz.prog 11 Tryz.f11 x11 := fxOk_of Tryz.func11 rfl rfl
theorem fk12 : FxOk Tryz.prog 12 Tryz.f12 x12 := fxOk_of Tryz.func12 rfl rfl
theorem fk13 : FxOk Tryz.prog 13 Tryz.f13 x13 := fxOk_of Tryz.func13 rfl rfl
theorem fk14 : FxOk Tryz.prog 14 Tryz.f14 x14 := fxOk_of Tryz.func14 rfl rfl
theorem fk15 : FxOk Tryz.prog 15 Tryz.f15 x15 := fxOk_of Tryz.func15 rfl rfl
theorem fk16 : FxOk Tryz.prog 16 Tryz.f16 x16 := fxOk_of Tryz.func16 rfl rfl
theorem fk17 : FxOk Tryz.prog 17 Tryz.f17 x17 := fxOk_of Tryz.func17 rfl rfl
theorem fk18 : FxOk Tryz.prog 18 Tryz.f18 x18 := fxOk_of Tryz.func18 rfl rfl
theorem fk19 : FxOk Tryz.prog 19 Tryz.f19 x19 := fxOk_of Tryz.func19 rfl rfl
theorem fk20 : FxOk Tryz.prog 20 Tryz.f20 x20 := fxOk_of Tryz.func20 rfl rfl
theorem fk21 : FxOk Tryz.prog 21 Tryz.f21 x21 := fxOk_of Tryz.func21 rfl rfl
theorem fk22 : FxOk Tryz.prog 22 Tryz.f22 x22 := fxOk_of Tryz.func22 rfl rfl
theorem fk23 : FxOk Tryz.prog 23 Tryz.f23 x23 := fxOk_of Tryz.func23 rfl rfl
theorem fk24 : FxOk Tryz.prog 24 Tryz.f24 x24 := fxOk_of Tryz.func24 rfl rfl
theorem fk25 : FxOk Tryz.prog 25 Tryz.f25 x25 := fxOk_of Tryz.func25 rfl rfl
theorem fk26 : FxOk Tryz.prog 26 Tryz.f26 x26 := fxOk_of Tryz.func26 rfl rfl
theorem fk27 : FxOk Tryz.prog 27 Tryz.f27 x27 := fxOk_of Tryz.func27 rfl rfl
theorem fk28 : FxOk Tryz.prog 28 Tryz.f28 x28 := fxOk_of Tryz.func28 rfl rfl
theorem fk29 : FxOk Tryz.prog 29 Tryz.f29 x29 := fxOk_of Tryz.func29 rfl rfl
theorem fk30 : FxOk Tryz.prog 30 Tryz.f30 x30 := fxOk_of Tryz.func30 rfl rfl
theorem fk31 : FxOk Tryz.prog 31 Tryz.f31 x31 := fxOk_of Tryz.func31 rfl rfl
theorem fk32 : FxOk Tryz.prog 32 Tryz.f32 x32 := fxOk_of Tryz.func32 rfl rfl
theorem fk33 : FxOk Tryz.prog 33 Tryz.f33 x33 := fxOk_of Tryz.func33 rfl rfl
theorem fk34 : FxOk Tryz.prog 34 Tryz.f34 x34 := fxOk_of Tryz.func34 rfl rfl
theorem fk35 : FxOk Tryz.prog 35 Tryz.f35 x35 := fxOk_of Tryz.func35 rfl rfl
theorem fk36 : FxOk Tryz.prog 36 Tryz.f36 x36 := fxOk_of Tryz.func36 rfl rfl
theorem fk37 : FxOk Tryz.prog 37 Tryz.f37 x37 := fxOk_of Tryz.func37 rfl rfl
theorem fk38 : FxOk Tryz.prog 38 Tryz.f38 x38 := fxOk_of Tryz.func38 rfl rfl
theorem fk39 : FxOk Tryz.prog 39 Tryz.f39 x39 := fxOk_of Tryz.func39 rfl rfl
theorem fk40 : FxOk Tryz.prog 40 Tryz.f40 x40 := fxOk_of Tryz.func40 rfl rfl
theorem fk41 : FxOk Tryz.prog 41 Tryz.f41 x41 := fxOk_of Tryz.func41 rfl rfl
theorem fk42 : FxOk Tryz.prog 42 Tryz.f42 x42 := fxOk_of Tryz.func42 rfl rfl
theorem fk43 : FxOk Tryz.prog 43 Tryz.f43 x43 := fxOk_of Tryz.func43 rfl rfl
theorem fk44 : FxOk Tryz.prog 44 Tryz.f44 x44 := fxOk_of Tryz.func44 rfl rfl
theorem fk45 : FxOk Tryz.prog 45 Tryz.f45 x45 := fxOk_of Tryz.func45 rfl rfl
theorem fk46 : FxOk Tryz.prog 46 Tryz.f46 x46 := fxOk_of Tryz.func46 rfl rfl
theorem fk47 : FxOk Tryz.prog 47 Tryz.f47 x47 := fxOk_of Tryz.func47 rfl rfl
theorem fk48 : FxOk Tryz.prog 48 Tryz.f48 x48 := fxOk_of Tryz.func48 rfl rfl
theorem fk49 : FxOk Tryz.prog 49 Tryz.f49 x49 := fxOk_of Tryz.func49 rfl rfl
theorem fk50 : FxOk Tryz.prog 50 Tryz.f50 x50 := fxOk_of Tryz.func50 rfl rfl
theorem fk51 : FxOk Tryz.prog 51 Tryz.f51 x51 := fxOk_of Tryz.func51 rfl rfl
theorem fk52 : FxOk Tryz.prog 52 Tryz.f52 x52 := fxOk_of Tryz.func52 rfl rfl
theorem fk53 : FxOk Tryz.prog 53 Tryz.f53 x53 := fxOk_of Tryz.func53 rfl rfl
theorem fk54 : FxOk Tryz.prog 54 Tryz.f54 x54 := fxOk_of Tryz.func54 rfl rfl
theorem fk55 : FxOk Tryz.prog 55 Tryz.f55 x55 := fxOk_of Tryz.func55 rfl rfl
theorem fk56 : FxOk Tryz.prog 56 Tryz.f56 x56 := fxOk_of Tryz.func56 rfl rfl
theorem fk57 : FxOk Tryz.prog 57 Tryz.f57 x57 := fxOk_of Tryz.func57 rfl rfl
theorem fk58 : FxOk Tryz.prog 58 Tryz.f58 x58 := fxOk_of Tryz.func58 rfl rfl
theorem fk59 : FxOk Tryz.prog 59 Tryz.f59 x59 := fxOk_of Tryz.func59 rfl rfl
theorem fk60 : FxOk Tryz.prog 60 Tryz.f60 x60 := fxOk_of Tryz.func60 rfl rfl
theorem fk61 : FxOk Tryz.prog 61 Tryz.f61 x61 := fxOk_of Tryz.func61 rfl rfl
theorem fk62 : FxOk Tryz.prog 62 Tryz.f62 x62 := fxOk_of Tryz.func62 rfl rfl
theorem fk63 : FxOk Tryz.prog 63 Tryz.f63 x63 := fxOk_of Tryz.func63 rfl rfl
theorem fk64 : FxOk Tryz.prog 64 Tryz.f64 x64 := fxOk_of Tryz.func64 rfl rfl
theorem fk65 : FxOk Tryz.prog 65 Tryz.f65 x65 := fxOk_of Tryz.func65 rfl rfl
theorem fk66 : FxOk Tryz.prog 66 Tryz.f66 x66 := fxOk_of Tryz.func66 rfl rfl
theorem fk67 : FxOk Tryz.prog 67 Tryz.f67 x67 := fxOk_of Tryz.func67 rfl rfl
theorem fk68 : FxOk Tryz.prog 68 Tryz.f68 x68 := fxOk_of Tryz.func68 rfl rfl
theorem fk69 : FxOk Tryz.prog 69 Tryz.f69 x69 := fxOk_of Tryz.func69 rfl rfl
theorem fk70 : FxOk Tryz.prog 70 Tryz.f70 x70 := fxOk_of Tryz.func70 rfl rfl
theorem fk71 : FxOk Tryz.prog 71 Tryz.f71 x71 := fxOk_of Tryz.func71 rfl rfl
theorem fk72 : FxOk Tryz.prog 72 Tryz.f72 x72 := fxOk_of Tryz.func72 rfl rfl
theorem fk73 : FxOk Tryz.prog 73 Tryz.f73 x73 := fxOk_of Tryz.func73 rfl rfl
theorem fk74 : FxOk Tryz.prog 74 Tryz.f74 x74 := fxOk_of Tryz.func74 rfl rfl
theorem fk75 : FxOk Tryz.prog 75 Tryz.f75 x75 := fxOk_of Tryz.func75 rfl rfl
theorem fk76 : FxOk Tryz.prog 76 Tryz.f76 x76 := fxOk_of Tryz.func76 rfl rfl
theorem fk77 : FxOk Tryz.prog 77 Tryz.f77 x77 := fxOk_of Tryz.func77 rfl rfl
theorem fk78 : FxOk Tryz.prog 78 Tryz.f78 x78 := fxOk_of Tryz.func78 rfl rfl
theorem fk79 : FxOk Tryz.prog 79 Tryz.f79 x79 := fxOk_of Tryz.func79 rfl rfl
theorem fk80 : FxOk Tryz.prog 80 Tryz.f80 x80 := fxOk_of Tryz.func80 rfl rfl
theorem fk81 : FxOk Tryz.prog 81 Tryz.f81 x81 := fxOk_of Tryz.func81 rfl rfl
theorem fk82 : FxOk Tryz.prog 82 Tryz.f82 x82 := fxOk_of Tryz.func82 rfl rfl
theorem fk83 : FxOk Tryz.prog 83 Tryz.f83 x83 := fxOk_of Tryz.func83 rfl rfl
theorem fk84 : FxOk Tryz.prog 84 Tryz.f84 x84 := fxOk_of Tryz.func84 rfl rfl
theorem fk85 : FxOk Tryz.prog 85 Tryz.f85 x85 := fxOk_of Tryz.func85 rfl rfl
theorem fk86 : FxOk Tryz.prog 86 Tryz.f86 x86 := fxOk_of Tryz.func86 rfl rfl
theorem fk87 : FxOk Tryz.prog 87 Tryz.f87 x87 := fxOk_of Tryz.func87 rfl rfl
theorem fk88 : FxOk Tryz.prog 88 Tryz.f88 x88 := fxOk_of Tryz.func88 rfl rfl
theorem fk89 : FxOk Tryz.prog 89 Tryz.f89 x89 := fxOk_of Tryz.func89 rfl rfl
theorem fk90 : FxOk Tryz.prog 90 Tryz.f90 x90 := fxOk_of Tryz.func90 rfl rfl
theorem fk91 : FxOk Tryz.prog 91 Tryz.f91 x91 := fxOk_of Tryz.func91 rfl rfl
theorem fk92 : FxOk Tryz.prog 92 Tryz.f92 x92 := fxOk_of Tryz.func92 rfl rfl
theorem fk93 : FxOk Tryz.prog 93 Tryz.f93 x93 := fxOk_of Tryz.func93 rfl rfl
theorem fk94 : FxOk Tryz.prog 94 Tryz.f94 x94 := fxOk_of Tryz.func94 rfl rfl
theorem fk95 : FxOk Tryz.prog 95 Tryz.f95 x95 := fxOk_of Tryz.func95 rfl rfl
theorem fk96 : FxOk Tryz.prog 96 Tryz.f96 x96 := fxOk_of Tryz.func96 rfl rfl
theorem fk97 : FxOk Tryz.prog 97 Tryz.f97 x97 := fxOk_of Tryz.func97 rfl rfl
theorem fk98 : FxOk Tryz.prog 98 Tryz.f98 x98 := fxOk_of Tryz.func98 rfl rfl
theorem fk99 : FxOk Tryz.prog 99 Tryz.f99 x99 := fxOk_of Tryz.func99 rfl rfl
theorem fk100 : FxOk Tryz.prog 100 Tryz.f100 x100 := fxOk_of Tryz.func100 rfl rfl
theorem fk101 : FxOk Tryz.prog 101 Tryz.f101 x101 := fxOk_of Tryz.func101 rfl rfl
theorem fk102 : FxOk Tryz.prog 102 Tryz.f102 x102 := fxOk_of Tryz.func102 rfl rfl
theorem fk103 : FxOk Tryz.prog 103 Tryz.f103 x103 := fxOk_of Tryz.func103 rfl rfl
theorem fk104 : FxOk Tryz.prog 104 Tryz.f104 x104 := fxOk_of Tryz.func104 rfl rfl
theorem fk105 : FxOk Tryz.prog 105 Tryz.f105 x105 := fxOk_of Tryz.func105 rfl rfl
theorem fk106 : FxOk Tryz.prog 106 Tryz.f106 x106 := fxOk_of Tryz.func106 rfl rfl
theorem fk107 : FxOk Tryz.prog 107 Tryz.f107 x107 := fxOk_of Tryz.func107 rfl rfl
theorem fk108 : FxOk Tryz.prog 108 Tryz.f108 x108 := fxOk_of Tryz.func108 rfl rfl
theorem fk109 : FxOk Tryz.prog 109 Tryz.f109 x109 := fxOk_of Tryz.func109 rfl rfl
theorem fk110 : FxOk Tryz.prog 110 Tryz.f110 x110 := fxOk_of Tryz.func110 rfl rfl
theorem fk111 : FxOk Tryz.prog 111 Tryz.f111 x111 := fxOk_of Tryz.func111 rfl rfl
theorem fk112 : FxOk Tryz.prog 112 Tryz.f112 x112 := fxOk_of Tryz.func112 rfl rfl
theorem fk113 : FxOk Tryz.prog 113 Tryz.f113 x113 := fxOk_of Tryz.func113 rfl rfl
theorem fk114 : FxOk Tryz.prog 114 Tryz.f114 x114 := fxOk_of Tryz.func114 rfl rfl
theorem fk115 : FxOk Tryz.prog 115 Tryz.f115 x115 := fxOk_of Tryz.func115 rfl rfl
theorem fk116 : FxOk Tryz.prog 116 Tryz.f116 x116 := fxOk_of Tryz.func116 rfl rfl
theorem fk117 : FxOk Tryz.prog 117 Tryz.f117 x117 := fxOk_of Tryz.func117 rfl rfl
theorem fk118 : FxOk Tryz.prog 118 Tryz.f118 x118 := fxOk_of Tryz.func118 rfl rfl
theorem fk119 : FxOk Tryz.prog 119 Tryz.f119 x119 := fxOk_of Tryz.func119 rfl rfl
theorem fk120 : FxOk Tryz.prog 120 Tryz.f120 x120 := fxOk_of Tryz.func120 rfl rfl
theorem fk121 : FxOk Tryz.prog 121 Tryz.f121 x121 := fxOk_of Tryz.func121 rfl rfl
theorem fk122 : FxOk Tryz.prog 122 Tryz.f122 x122 := fxOk_of Tryz.func122 rfl rfl
theorem fk123 : FxOk Tryz.prog 123 Tryz.f123 x123 := fxOk_of Tryz.func123 rfl rfl
theorem fk124 : FxOk Tryz.prog 124 Tryz.f124 x124 := fxOk_of Tryz.func124 rfl rfl
theorem fk125 : FxOk Tryz.prog 125 Tryz.f125 x125 := fxOk_of Tryz.func125 rfl rfl
theorem fk126 : FxOk Tryz.prog 126 Tryz.f126 x126 := fxOk_of Tryz.func126 rfl rfl
theorem fk127 : FxOk Tryz.prog 127 Tryz.f127 x127 := fxOk_of Tryz.func127 rfl rfl
theorem fk128 : FxOk Tryz.prog 128 Tryz.f128 x128 := fxOk_of Tryz.func128 rfl rfl
theorem fk129 : FxOk Tryz.prog 129 Tryz.f129 x129 := fxOk_of Tryz.func129 rfl rfl
theorem fk130 : FxOk Tryz.prog 130 Tryz.f130 x130 := fxOk_of Tryz.func130 rfl rfl
theorem fk131 : FxOk Tryz.prog 131 Tryz.f131 x131 := fxOk_of Tryz.func131 rfl rfl
theorem fk132 : FxOk Tryz.prog 132 Tryz.f132 x132 := fxOk_of Tryz.func132 rfl rfl
theorem fk133 : FxOk Tryz.prog 133 Tryz.f133 x133 := fxOk_of Tryz.func133 rfl rfl
theorem fk134 : FxOk Tryz.prog 134 Tryz.f134 x134 := fxOk_of Tryz.func134 rfl rfl
theorem fk135 : FxOk Tryz.prog 135 Tryz.f135 x135 := fxOk_of Tryz.func135 rfl rfl
theorem fk136 : FxOk Tryz.prog 136 Tryz.f136 x136 := fxOk_of Tryz.func136 rfl rfl
theorem fk137 : FxOk Tryz.prog 137 Tryz.f137 x137 := fxOk_of Tryz.func137 rfl rfl
theorem fk138 : FxOk Tryz.prog 138 Tryz.f138 x138 := fxOk_of Tryz.func138 rfl rfl
theorem fk139 : FxOk Tryz.prog 139 Tryz.f139 x139 := fxOk_of Tryz.func139 rfl rfl
theorem fk140 : FxOk Tryz.prog 140 Tryz.f140 x140 := fxOk_of Tryz.func140 rfl rfl
theorem fk141 : FxOk Tryz.prog 141 Tryz.f141 x141 := fxOk_of Tryz.func141 rfl rfl
theorem fk142 : FxOk Tryz.prog 142 Tryz.f142 x142 := fxOk_of Tryz.func142 rfl rfl
theorem fk143 : FxOk Tryz.prog 143 Tryz.f143 x143 := fxOk_of Tryz.func143 rfl rfl
theorem fk144 : FxOk Tryz.prog 144 Tryz.f144 x144 := fxOk_of Tryz.func144 rfl rfl
theorem fk145 : FxOk Tryz.prog 145 Tryz.f145 x145 := fxOk_of Tryz.func145 rfl rfl
theorem fk146 : FxOk Tryz.prog 146 Tryz.f146 x146 := fxOk_of Tryz.func146 rfl rfl
theorem fk147 : FxOk Tryz.prog 147 Tryz.f147 x147 := fxOk_of Tryz.func147 rfl rfl
theorem fk148 : FxOk Tryz.prog 148 Tryz.f148 x148 := fxOk_of Tryz.func148 rfl rfl
theorem fk149 : FxOk Tryz.prog 149 Tryz.f149 x149 := fxOk_of Tryz.func149 rfl rfl
theorem fk150 : FxOk Tryz.prog 150 Tryz.f150 x150 := fxOk_of Tryz.func150 rfl rfl
theorem fk151 : FxOk Tryz.prog 151 Tryz.f151 x151 := fxOk_of Tryz.func151 rfl rfl
theorem fk152 : FxOk Tryz.prog 152 Tryz.f152 x152 := fxOk_of Tryz.func152 rfl rfl
theorem fk153 : FxOk Tryz.prog 153 Tryz.f153 x153 := fxOk_of Tryz.func153 rfl rfl
theorem fk154 : FxOk Tryz.prog 154 Tryz.f154 x154 := fxOk_of Tryz.func154 rfl rfl
theorem fk155 : FxOk Tryz.prog 155 Tryz.f155 x155 := fxOk_of Tryz.func155 rfl rfl
theorem fk156 : FxOk Tryz.prog 156 Tryz.f156 x156 := fxOk_of Tryz.func156 rfl rfl
theorem fk157 : FxOk Tryz.prog 157 Tryz.f157 x157 := fxOk_of Tryz.func157 rfl rfl
theorem fk158 : FxOk Tryz.prog 158 Tryz.f158 x158 := fxOk_of Tryz.func158 rfl rfl
theorem fk159 : FxOk Tryz.prog 159 Tryz.f159 x159 := fxOk_of Tryz.func159 rfl rfl
theorem fk160 : FxOk Tryz.prog 160 Tryz.f160 x160 := fxOk_of Tryz.func160 rfl rfl
theorem fk161 : FxOk Tryz.prog 161 Tryz.f161 x161 := fxOk_of Tryz.func161 rfl rfl
theorem fk162 : FxOk Tryz.prog 162 Tryz.f162 x162 := fxOk_of Tryz.func162 rfl rfl
theorem fk163 : FxOk Tryz.prog 163 Tryz.f163 x163 := fxOk_of Tryz.func163 rfl rfl
theorem fk164 : FxOk Tryz.prog 164 Tryz.f164 x164 := fxOk_of Tryz.func164 rfl rfl
theorem fk165 : FxOk Tryz.prog 165 Tryz.f165 x165 := fxOk_of Tryz.func165 rfl rfl
theorem fk166 : FxOk Tryz.prog 166 Tryz.f166 x166 := fxOk_of Tryz.func166 rfl rfl
theorem fnok : FTOk Tryz.prog fns := ftl_ok (.no (.no (.yes fk3 (.yes fk7 (.yes fk15 (.yes fk31 (.yes fk63 (.yes fk127 (.nil _ _) (.nil _ _)) (.nil _ _)) (.yes fk95 (.yes fk159 (.nil _ _) (.nil _ _)) (.nil _ _))) (.yes fk47 (.yes fk79 (.yes fk143 (.nil _ _) (.nil _ _)) (.nil _ _)) (.yes fk111 (.nil _ _) (.nil _ _)))) (.yes fk23 (.yes fk39 (.yes fk71 (.yes fk135 (.nil _ _) (.nil _ _)) (.nil _ _)) (.yes fk103 (.nil _ _) (.nil _ _))) (.yes fk55 (.yes fk87 (.yes fk151 (.nil _ _) (.nil _ _)) (.nil _ _)) (.yes fk119 (.nil _ _) (.nil _ _))))) (.yes fk11 (.yes fk19 (.yes fk35 (.yes fk67 (.yes fk131 (.nil _ _) (.nil _ _)) (.nil _ _)) (.yes fk99 (.yes fk163 (.nil _ _) (.nil _ _)) (.nil _ _))) (.yes fk51 (.yes fk83 (.yes fk147 (.nil _ _) (.nil _ _)) (.nil _ _)) (.yes fk115 (.nil _ _) (.nil _ _)))) (.yes fk27 (.yes fk43 (.yes fk75 (.yes fk139 (.nil _ _) (.nil _ _)) (.nil _ _)) (.yes fk107 (.nil _ _) (.nil _ _))) (.yes fk59 (.yes fk91 (.yes fk155 (.nil _ _) (.nil _ _)) (.nil _ _)) (.yes fk123 (.nil _ _) (.nil _ _)))))) (.yes fk5 (.yes fk9 (.yes fk17 (.yes fk33 (.yes fk65 (.yes fk129 (.nil _ _) (.nil _ _)) (.nil _ _)) (.yes fk97 (.yes fk161 (.nil _ _) (.nil _ _)) (.nil _ _))) (.yes fk49 (.yes fk81 (.yes fk145 (.nil _ _) (.nil _ _)) (.nil _ _)) (.yes fk113 (.nil _ _) (.nil _ _)))) (.yes fk25 (.yes fk41 (.yes fk73 (.yes fk137 (.nil _ _) (.nil _ _)) (.nil _ _)) (.yes fk105 (.nil _ _) (.nil _ _))) (.yes fk57 (.yes fk89 (.yes fk153 (.nil _ _) (.nil _ _)) (.nil _ _)) (.yes fk121 (.nil _ _) (.nil _ _))))) (.yes fk13 (.yes fk21 (.yes fk37 (.yes fk69 (.yes fk133 (.nil _ _) (.nil _ _)) (.nil _ _)) (.yes fk101 (.yes fk165 (.nil _ _) (.nil _ _)) (.nil _ _))) (.yes fk53 (.yes fk85 (.yes fk149 (.nil _ _) (.nil _ _)) (.nil _ _)) (.yes fk117 (.nil _ _) (.nil _ _)))) (.yes fk29 (.yes fk45 (.yes fk77 (.yes fk141 (.nil _ _) (.nil _ _)) (.nil _ _)) (.yes fk109 (.nil _ _) (.nil _ _))) (.yes fk61 (.yes fk93 (.yes fk157 (.nil _ _) (.nil _ _)) (.nil _ _)) (.yes fk125 (.nil _ _) (.nil _ _))))))) (.yes fk2 (.yes fk4 (.yes fk8 (.yes fk16 (.yes fk32 (.yes fk64 (.yes fk128 (.nil _ _) (.nil _ _)) (.nil _ _)) (.yes fk96 (.yes fk160 (.nil _ _) (.nil _ _)) (.nil _ _))) (.yes fk48 (.yes fk80 (.yes fk144 (.nil _ _) (.nil _ _)) (.nil _ _)) (.yes fk112 (.nil _ _) (.nil _ _)))) (.yes fk24 (.yes fk40 (.yes fk72 (.yes fk136 (.nil _ _) (.nil _ _)) (.nil _ _)) (.yes fk104 (.nil _ _) (.nil _ _))) (.yes fk56 (.yes fk88 (.yes fk152 (.nil _ _) (.nil _ _)) (.nil _ _)) (.yes fk120 (.nil _ _) (.nil _ _))))) (.yes fk12 (.yes fk20 (.yes fk36 (.yes fk68 (.yes fk132 (.nil _ _) (.nil _ _)) (.nil _ _)) (.yes fk100 (.yes fk164 (.nil _ _) (.nil _ _)) (.nil _ _))) (.yes fk52 (.yes fk84 (.yes fk148 (.nil _ _) (.nil _ _)) (.nil _ _)) (.yes fk116 (.nil _ _) (.nil _ _)))) (.yes fk28 (.yes fk44 (.yes fk76 (.yes fk140 (.nil _ _) (.nil _ _)) (.nil _ _)) (.yes fk108 (.nil _ _) (.nil _ _))) (.yes fk60 (.yes fk92 (.yes fk156 (.nil _ _) (.nil _ _)) (.nil _ _)) (.yes fk124 (.nil _ _) (.nil _ _)))))) (.yes fk6 (.yes fk10 (.yes fk18 (.yes fk34 (.yes fk66 (.yes fk130 (.nil _ _) (.nil _ _)) (.nil _ _)) (.yes fk98 (.yes fk162 (.nil _ _) (.nil _ _)) (.nil _ _))) (.yes fk50 (.yes fk82 (.yes fk146 (.nil _ _) (.nil _ _)) (.nil _ _)) (.yes fk114 (.nil _ _) (.nil _ _)))) (.yes fk26 (.yes fk42 (.yes fk74 (.yes fk138 (.nil _ _) (.nil _ _)) (.nil _ _)) (.yes fk106 (.nil _ _) (.nil _ _))) (.yes fk58 (.yes fk90 (.yes fk154 (.nil _ _) (.nil _ _)) (.nil _ _)) (.yes fk122 (.nil _ _) (.nil _ _))))) (.yes fk14 (.yes fk22 (.yes fk38 (.yes fk70 (.yes fk134 (.nil _ _) (.nil _ _)) (.nil _ _)) (.yes fk102 (.yes fk166 (.nil _ _) (.nil _ _)) (.nil _ _))) (.yes fk54 (.yes fk86 (.yes fk150 (.nil _ _) (.nil _ _)) (.nil _ _)) (.yes fk118 (.nil _ _) (.nil _ _)))) (.yes fk30 (.yes fk46 (.yes fk78 (.yes fk142 (.nil _ _) (.nil _ _)) (.nil _ _)) (.yes fk110 (.nil _ _) (.nil _ _))) (.yes fk62 (.yes fk94 (.yes fk158 (.nil _ _) (.nil _ _)) (.nil _ _)) (.yes fk126 (.nil _ _) (.nil _ _))))))))
end Go.Proofs.YtihiooaimdoapaaGreat
set_option linter.unusedVariables false
set_option linter.unusedSimpArgs false
namespace Go.Bm
noncomputable section
end
end Go.Bm
