/- What is known of the program's types. -/
import Derived.Test.YtihiooaimdoapaaBnR
import Derived.Test.YtihiooaimdoapaaRows
set_option linter.unusedVariables false
set_option linter.unusedSimpArgs false
namespace Go.Proofs.Ytihiooaimdoapaa
open Go.Bm
set_option maxRecDepth 20000
def R0 : RK := (.box (.pair (.pair (.int .i64) (.pair (.int .i64) (.pair (.int .i64) (.int .i64)))) (.pair (.slc (.slc (.pair (.int .u8) (.pair (.int .i64) (.int .i64))))) (.pair (.ptr 1) (.pair (.rsl 5 3) (.pair (.rsl 6 5) (.mp 7)))))))
def R1 : RK := (.box (.pair (.rsl 3 6) (.ptr 2)))
def R2 : RK := (.box (.pair (.int .i64) (.pair (.int .i64) (.rsl 4 2))))
def R3 : RK := (.row (.pair (.pair (.int .i64) (.pair (.int .i64) (.pair (.int .i64) (.int .i64)))) (.pair (.int .i64) (.int .i64))))
def R4 : RK := (.row (.pair (.int .i64) (.int .i64)))
def R5 : RK := (.row (.pair (.int .i64) (.pair (.int .u64) (.rsl 9 1))))
def R6 : RK := (.row (.pair (.arr 4 (.int .u64)) (.slc (.pair (.int .i64) .bool))))
def R7 : RK := (.map true (.pair (.int .i64) (.pair (.int .i64) (.int .i64))) false (.ptr 8))
def R8 : RK := (.box (.pair (.pair (.int .i64) (.pair (.int .i64) (.int .i64))) (.pair (.int .i64) (.pair (.rsl 10 1) .bool))))
def R9 : RK := (.row (.ptr 8))
def R10 : RK := (.row (.int .u64))
def R14 : RK := (.row (.pair (.int .i64) (.pair (.int .i64) (.pair (.int .i64) (.int .i64)))))
def R15 : RK := (.row (.pair (.int .i64) (.int .i64)))
def R16 : RK := (.row .bool)
def R18 : RK := (.row (.int .u64))
def ty1 : TyE := ⟨.func #[] #[] false, 1, 8, .nilFunc, [], none, false⟩
theorem te1 : TyOk Try.prog 1 ty1 := tyOk_of Try.underlying1 (ti_of (by kernel_rfl) rfl rfl) (fun _ h => by cases h) (noTy rfl)
def ty2 : TyE := ⟨.int .i64, 1, 8, .int .i64 0, [], (some (.int .i64)), false⟩
theorem te2 : TyOk Try.prog 2 ty2 := tyOk_of Try.underlying2 (ti_of (by kernel_rfl) rfl rfl) (fun _ h => by cases h) (someTy rfl (by kernel_rfl) (by kernel_rfl))
def ty3 : TyE := ⟨.int .i64, 1, 8, .int .i64 0, [], (some (.int .i64)), false⟩
theorem te3 : TyOk Try.prog 3 ty3 := tyOk_of Try.underlying3 (ti_of (by kernel_rfl) rfl rfl) (fun _ h => by cases h) (someTy rfl (by kernel_rfl) (by kernel_rfl))
def ty4 : TyE := ⟨.bool, 1, 1, .bool false, [], (some .bool), false⟩
theorem te4 : TyOk Try.prog 4 ty4 := tyOk_of Try.underlying4 (ti_of (by kernel_rfl) rfl rfl) (fun _ h => by cases h) (someTy rfl (by kernel_rfl) (by kernel_rfl))
def ty5 : TyE := ⟨.int .u8, 1, 1, .int .u8 0, [], (some (.int .u8)), false⟩
theorem te5 : TyOk Try.prog 5 ty5 := tyOk_of Try.underlying5 (ti_of (by kernel_rfl) rfl rfl) (fun _ h => by cases h) (someTy rfl (by kernel_rfl) (by kernel_rfl))
def ty6 : TyE := ⟨.int .u8, 1, 1, .int .u8 0, [], (some (.int .u8)), false⟩
theorem te6 : TyOk Try.prog 6 ty6 := tyOk_of Try.underlying6 (ti_of (by kernel_rfl) rfl rfl) (fun _ h => by cases h) (someTy rfl (by kernel_rfl) (by kernel_rfl))
def ty7 : TyE := ⟨.struct #[⟨"x", 2, 0, false, "", "runtime", 0⟩, ⟨"y", 3, 1, false, "", "runtime", 8⟩, ⟨"signed", 4, 2, false, "", "runtime", 16⟩, ⟨"code", 6, 3, false, "", "runtime", 17⟩], 4, 24, .agg #[.int .i64 0, .int .i64 0, .bool false, .int .u8 0], [(0, 1), (1, 1), (2, 1), (3, 1)], (some (.pair (.int .i64) (.pair (.int .i64) (.pair .bool (.int .u8))))), false⟩
theorem te7 : TyOk Try.prog 7 ty7 := tyOk_of Try.underlying7 (ti_of (by kernel_rfl) rfl rfl) (fun fs h w => by cases h; kernel_rfl) (someTy rfl (by kernel_rfl) (by kernel_rfl))
def ty8 : TyE := ⟨.struct #[⟨"x", 2, 0, false, "", "runtime", 0⟩, ⟨"y", 3, 1, false, "", "runtime", 8⟩, ⟨"signed", 4, 2, false, "", "runtime", 16⟩, ⟨"code", 6, 3, false, "", "runtime", 17⟩], 4, 24, .agg #[.int .i64 0, .int .i64 0, .bool false, .int .u8 0], [(0, 1), (1, 1), (2, 1), (3, 1)], (some (.pair (.int .i64) (.pair (.int .i64) (.pair .bool (.int .u8))))), false⟩
theorem te8 : TyOk Try.prog 8 ty8 := tyOk_of Try.underlying8 (ti_of (by kernel_rfl) rfl rfl) (fun fs h w => by cases h; kernel_rfl) (someTy rfl (by kernel_rfl) (by kernel_rfl))
def ty9 : TyE := ⟨.string, 1, 16, .string ByteArray.empty, [], none, false⟩
theorem te9 : TyOk Try.prog 9 ty9 := tyOk_of Try.underlying9 (ti_of (by kernel_rfl) rfl rfl) (fun _ h => by cases h) (noTy rfl)
def ty10 : TyE := ⟨.string, 1, 16, .string ByteArray.empty, [], none, false⟩
theorem te10 : TyOk Try.prog 10 ty10 := tyOk_of Try.underlying10 (ti_of (by kernel_rfl) rfl rfl) (fun _ h => by cases h) (noTy rfl)
def ty11 : TyE := ⟨.string, 1, 16, .string ByteArray.empty, [], none, false⟩
theorem te11 : TyOk Try.prog 11 ty11 := tyOk_of Try.underlying11 (ti_of (by kernel_rfl) rfl rfl) (fun _ h => by cases h) (noTy rfl)
def ty12 : TyE := ⟨.int .u64, 1, 8, .int .u64 0, [], (some (.int .u64)), false⟩
theorem te12 : TyOk Try.prog 12 ty12 := tyOk_of Try.underlying12 (ti_of (by kernel_rfl) rfl rfl) (fun _ h => by cases h) (someTy rfl (by kernel_rfl) (by kernel_rfl))
def ty13 : TyE := ⟨.struct #[⟨"msg", 9, 0, false, "", "runtime", 0⟩, ⟨"addr", 12, 1, false, "", "runtime", 16⟩], 2, 24, .agg #[.string ByteArray.empty, .int .u64 0], [(0, 1), (1, 1)], none, false⟩
theorem te13 : TyOk Try.prog 13 ty13 := tyOk_of Try.underlying13 (ti_of (by kernel_rfl) rfl rfl) (fun fs h w => by cases h; kernel_rfl) (noTy rfl)
def ty14 : TyE := ⟨.struct #[⟨"msg", 9, 0, false, "", "runtime", 0⟩, ⟨"addr", 12, 1, false, "", "runtime", 16⟩], 2, 24, .agg #[.string ByteArray.empty, .int .u64 0], [(0, 1), (1, 1)], none, false⟩
theorem te14 : TyOk Try.prog 14 ty14 := tyOk_of Try.underlying14 (ti_of (by kernel_rfl) rfl rfl) (fun fs h w => by cases h; kernel_rfl) (noTy rfl)
def ty15 : TyE := ⟨.pointer 183, 1, 8, .pointer none, [], none, false⟩
theorem te15 : TyOk Try.prog 15 ty15 := tyOk_of Try.underlying15 (ti_of (by kernel_rfl) rfl rfl) (fun _ h => by cases h) (noTy rfl)
def ty16 : TyE := ⟨.pointer 186, 1, 8, .pointer none, [], none, false⟩
theorem te16 : TyOk Try.prog 16 ty16 := tyOk_of Try.underlying16 (ti_of (by kernel_rfl) rfl rfl) (fun _ h => by cases h) (noTy rfl)
def ty17 : TyE := ⟨.pointer 196, 1, 8, .pointer none, [], none, false⟩
theorem te17 : TyOk Try.prog 17 ty17 := tyOk_of Try.underlying17 (ti_of (by kernel_rfl) rfl rfl) (fun _ h => by cases h) (noTy rfl)
def ty18 : TyE := ⟨.struct #[⟨"typ", 17, 0, false, "", "internal/runtime/maps", 0⟩], 1, 8, .agg #[.pointer none], [(0, 1)], none, false⟩
theorem te18 : TyOk Try.prog 18 ty18 := tyOk_of Try.underlying18 (ti_of (by kernel_rfl) rfl rfl) (fun fs h w => by cases h; kernel_rfl) (noTy rfl)
def ty19 : TyE := ⟨.struct #[⟨"typ", 17, 0, false, "", "internal/runtime/maps", 0⟩], 1, 8, .agg #[.pointer none], [(0, 1)], none, false⟩
theorem te19 : TyOk Try.prog 19 ty19 := tyOk_of Try.underlying19 (ti_of (by kernel_rfl) rfl rfl) (fun fs h w => by cases h; kernel_rfl) (noTy rfl)
def ty21 : TyE := ⟨.int .i32, 1, 4, .int .i32 0, [], (some (.int .i32)), false⟩
theorem te21 : TyOk Try.prog 21 ty21 := tyOk_of Try.underlying21 (ti_of (by kernel_rfl) rfl rfl) (fun _ h => by cases h) (someTy rfl (by kernel_rfl) (by kernel_rfl))
def ty22 : TyE := ⟨.slice 38, 1, 24, .slice none 0 0, [], (some (.slc (.arr 2 (.int .u8)))), false⟩
theorem te22 : TyOk Try.prog 22 ty22 := tyOk_of Try.underlying22 (ti_of (by kernel_rfl) rfl rfl) (fun _ h => by cases h) (someTy rfl (by kernel_rfl) (by kernel_rfl))
def ty23 : TyE := ⟨.func #[] #[4] false, 1, 8, .nilFunc, [], none, false⟩
theorem te23 : TyOk Try.prog 23 ty23 := tyOk_of Try.underlying23 (ti_of (by kernel_rfl) rfl rfl) (fun _ h => by cases h) (noTy rfl)
def ty24 : TyE := ⟨.pointer 58, 1, 8, .pointer none, [], (some (.ptr 0)), false⟩
theorem te24 : TyOk Try.prog 24 ty24 := tyOk_of Try.underlying24 (ti_of (by kernel_rfl) rfl rfl) (fun _ h => by cases h) (someTy rfl (by kernel_rfl) (by kernel_rfl))
def ty25 : TyE := ⟨.int .i64, 1, 8, .int .i64 0, [], (some (.int .i64)), false⟩
theorem te25 : TyOk Try.prog 25 ty25 := tyOk_of Try.underlying25 (ti_of (by kernel_rfl) rfl rfl) (fun _ h => by cases h) (someTy rfl (by kernel_rfl) (by kernel_rfl))
def ty27 : TyE := ⟨.func #[29, 44] #[24, 25] false, 1, 8, .nilFunc, [], none, false⟩
theorem te27 : TyOk Try.prog 27 ty27 := tyOk_of Try.underlying27 (ti_of (by kernel_rfl) rfl rfl) (fun _ h => by cases h) (noTy rfl)
def ty28 : TyE := ⟨.struct #[⟨"Scopes", 3, 0, false, "", "", 0⟩, ⟨"Threads", 3, 1, false, "", "", 8⟩, ⟨"Immortal", 3, 2, false, "", "", 16⟩, ⟨"Heap", 3, 3, false, "", "", 24⟩], 4, 32, .agg #[.int .i64 0, .int .i64 0, .int .i64 0, .int .i64 0], [(0, 1), (1, 1), (2, 1), (3, 1)], (some (.pair (.int .i64) (.pair (.int .i64) (.pair (.int .i64) (.int .i64))))), false⟩
theorem te28 : TyOk Try.prog 28 ty28 := tyOk_of Try.underlying28 (ti_of (by kernel_rfl) rfl rfl) (fun fs h w => by cases h; kernel_rfl) (someTy rfl (by kernel_rfl) (by kernel_rfl))
def ty29 : TyE := ⟨.struct #[⟨"Scopes", 3, 0, false, "", "", 0⟩, ⟨"Threads", 3, 1, false, "", "", 8⟩, ⟨"Immortal", 3, 2, false, "", "", 16⟩, ⟨"Heap", 3, 3, false, "", "", 24⟩], 4, 32, .agg #[.int .i64 0, .int .i64 0, .int .i64 0, .int .i64 0], [(0, 1), (1, 1), (2, 1), (3, 1)], (some (.pair (.int .i64) (.pair (.int .i64) (.pair (.int .i64) (.int .i64))))), false⟩
theorem te29 : TyOk Try.prog 29 ty29 := tyOk_of Try.underlying29 (ti_of (by kernel_rfl) rfl rfl) (fun fs h w => by cases h; kernel_rfl) (someTy rfl (by kernel_rfl) (by kernel_rfl))
def ty30 : TyE := ⟨.func #[] #[29] false, 1, 8, .nilFunc, [], none, false⟩
theorem te30 : TyOk Try.prog 30 ty30 := tyOk_of Try.underlying30 (ti_of (by kernel_rfl) rfl rfl) (fun _ h => by cases h) (noTy rfl)
def ty31 : TyE := ⟨.slice 3, 1, 24, .slice none 0 0, [], (some (.slc (.int .i64))), false⟩
theorem te31 : TyOk Try.prog 31 ty31 := tyOk_of Try.underlying31 (ti_of (by kernel_rfl) rfl rfl) (fun _ h => by cases h) (someTy rfl (by kernel_rfl) (by kernel_rfl))
def ty32 : TyE := ⟨.struct #[⟨"Code", 25, 0, false, "", "", 0⟩, ⟨"N", 3, 1, false, "", "", 8⟩, ⟨"Said", 31, 2, false, "", "", 16⟩], 3, 40, .agg #[.int .i64 0, .int .i64 0, .slice none 0 0], [(0, 1), (1, 1), (2, 1)], (some (.pair (.int .i64) (.pair (.int .i64) (.slc (.int .i64))))), false⟩
theorem te32 : TyOk Try.prog 32 ty32 := tyOk_of Try.underlying32 (ti_of (by kernel_rfl) rfl rfl) (fun fs h w => by cases h; kernel_rfl) (someTy rfl (by kernel_rfl) (by kernel_rfl))
def ty33 : TyE := ⟨.struct #[⟨"Code", 25, 0, false, "", "", 0⟩, ⟨"N", 3, 1, false, "", "", 8⟩, ⟨"Said", 31, 2, false, "", "", 16⟩], 3, 40, .agg #[.int .i64 0, .int .i64 0, .slice none 0 0], [(0, 1), (1, 1), (2, 1)], none, false⟩
theorem te33 : TyOk Try.prog 33 ty33 := tyOk_of Try.underlying33 (ti_of (by kernel_rfl) rfl rfl) (fun fs h w => by cases h; kernel_rfl) (noTy rfl)
def ty35 : TyE := ⟨.func #[3, 37] #[33, 25] false, 1, 8, .nilFunc, [], none, false⟩
theorem te35 : TyOk Try.prog 35 ty35 := tyOk_of Try.underlying35 (ti_of (by kernel_rfl) rfl rfl) (fun _ h => by cases h) (noTy rfl)
def ty36 : TyE := ⟨.struct #[⟨"Op", 5, 0, false, "", "", 0⟩, ⟨"R", 5, 1, false, "", "", 1⟩, ⟨"H", 5, 2, false, "", "", 2⟩, ⟨"V", 5, 3, false, "", "", 3⟩, ⟨"A", 3, 4, false, "", "", 8⟩, ⟨"B", 3, 5, false, "", "", 16⟩, ⟨"C", 3, 6, false, "", "", 24⟩], 7, 32, .agg #[.int .u8 0, .int .u8 0, .int .u8 0, .int .u8 0, .int .i64 0, .int .i64 0, .int .i64 0], [(0, 1), (1, 1), (2, 1), (3, 1), (4, 1), (5, 1), (6, 1)], (some (.pair (.int .u8) (.pair (.int .u8) (.pair (.int .u8) (.pair (.int .u8) (.pair (.int .i64) (.pair (.int .i64) (.int .i64)))))))), false⟩
theorem te36 : TyOk Try.prog 36 ty36 := tyOk_of Try.underlying36 (ti_of (by kernel_rfl) rfl rfl) (fun fs h w => by cases h; kernel_rfl) (someTy rfl (by kernel_rfl) (by kernel_rfl))
def ty37 : TyE := ⟨.struct #[⟨"Op", 5, 0, false, "", "", 0⟩, ⟨"R", 5, 1, false, "", "", 1⟩, ⟨"H", 5, 2, false, "", "", 2⟩, ⟨"V", 5, 3, false, "", "", 3⟩, ⟨"A", 3, 4, false, "", "", 8⟩, ⟨"B", 3, 5, false, "", "", 16⟩, ⟨"C", 3, 6, false, "", "", 24⟩], 7, 32, .agg #[.int .u8 0, .int .u8 0, .int .u8 0, .int .u8 0, .int .i64 0, .int .i64 0, .int .i64 0], [(0, 1), (1, 1), (2, 1), (3, 1), (4, 1), (5, 1), (6, 1)], (some (.pair (.int .u8) (.pair (.int .u8) (.pair (.int .u8) (.pair (.int .u8) (.pair (.int .i64) (.pair (.int .i64) (.int .i64)))))))), false⟩
theorem te37 : TyOk Try.prog 37 ty37 := tyOk_of Try.underlying37 (ti_of (by kernel_rfl) rfl rfl) (fun fs h w => by cases h; kernel_rfl) (someTy rfl (by kernel_rfl) (by kernel_rfl))
def ty38 : TyE := ⟨.array 2 5, 2, 2, .agg #[.int .u8 0, .int .u8 0], [], (some (.arr 2 (.int .u8))), false⟩
theorem te38 : TyOk Try.prog 38 ty38 := tyOk_of Try.underlying38 (ti_of (by kernel_rfl) rfl rfl) (fun _ h => by cases h) (someTy rfl (by kernel_rfl) (by kernel_rfl))
def ty39 : TyE := ⟨.func #[5, 4, 22] #[4] false, 1, 8, .nilFunc, [], none, false⟩
theorem te39 : TyOk Try.prog 39 ty39 := tyOk_of Try.underlying39 (ti_of (by kernel_rfl) rfl rfl) (fun _ h => by cases h) (noTy rfl)
def ty40 : TyE := ⟨.slice 42, 1, 24, .slice none 0 0, [], (some (.slc (.int .u64))), false⟩
theorem te40 : TyOk Try.prog 40 ty40 := tyOk_of Try.underlying40 (ti_of (by kernel_rfl) rfl rfl) (fun _ h => by cases h) (someTy rfl (by kernel_rfl) (by kernel_rfl))
def ty41 : TyE := ⟨.func #[3] #[40] false, 1, 8, .nilFunc, [], none, false⟩
theorem te41 : TyOk Try.prog 41 ty41 := tyOk_of Try.underlying41 (ti_of (by kernel_rfl) rfl rfl) (fun _ h => by cases h) (noTy rfl)
def ty42 : TyE := ⟨.int .u64, 1, 8, .int .u64 0, [], (some (.int .u64)), false⟩
theorem te42 : TyOk Try.prog 42 ty42 := tyOk_of Try.underlying42 (ti_of (by kernel_rfl) rfl rfl) (fun _ h => by cases h) (someTy rfl (by kernel_rfl) (by kernel_rfl))
def ty43 : TyE := ⟨.func #[5, 5, 4] #[4] false, 1, 8, .nilFunc, [], none, false⟩
theorem te43 : TyOk Try.prog 43 ty43 := tyOk_of Try.underlying43 (ti_of (by kernel_rfl) rfl rfl) (fun _ h => by cases h) (noTy rfl)
def ty44 : TyE := ⟨.slice 50, 1, 24, .slice none 0 0, [], (some (.slc (.slc (.pair (.int .u8) (.pair (.int .i64) (.int .i64)))))), false⟩
theorem te44 : TyOk Try.prog 44 ty44 := tyOk_of Try.underlying44 (ti_of (by kernel_rfl) rfl rfl) (fun _ h => by cases h) (someTy rfl (by kernel_rfl) (by kernel_rfl))
def ty45 : TyE := ⟨.func #[29] #[4] false, 1, 8, .nilFunc, [], none, false⟩
theorem te45 : TyOk Try.prog 45 ty45 := tyOk_of Try.underlying45 (ti_of (by kernel_rfl) rfl rfl) (fun _ h => by cases h) (noTy rfl)
def ty46 : TyE := ⟨.func #[44] #[4] false, 1, 8, .nilFunc, [], none, false⟩
theorem te46 : TyOk Try.prog 46 ty46 := tyOk_of Try.underlying46 (ti_of (by kernel_rfl) rfl rfl) (fun _ h => by cases h) (noTy rfl)
def ty47 : TyE := ⟨.pointer 81, 1, 8, .pointer none, [], (some (.ptr 1)), false⟩
theorem te47 : TyOk Try.prog 47 ty47 := tyOk_of Try.underlying47 (ti_of (by kernel_rfl) rfl rfl) (fun _ h => by cases h) (someTy rfl (by kernel_rfl) (by kernel_rfl))
def ty49 : TyE := ⟨.func #[29] #[47, 25] false, 1, 8, .nilFunc, [], none, false⟩
theorem te49 : TyOk Try.prog 49 ty49 := tyOk_of Try.underlying49 (ti_of (by kernel_rfl) rfl rfl) (fun _ h => by cases h) (noTy rfl)
def ty50 : TyE := ⟨.slice 53, 1, 24, .slice none 0 0, [], (some (.slc (.pair (.int .u8) (.pair (.int .i64) (.int .i64))))), false⟩
theorem te50 : TyOk Try.prog 50 ty50 := tyOk_of Try.underlying50 (ti_of (by kernel_rfl) rfl rfl) (fun _ h => by cases h) (someTy rfl (by kernel_rfl) (by kernel_rfl))
def ty51 : TyE := ⟨.func #[50] #[50] false, 1, 8, .nilFunc, [], none, false⟩
theorem te51 : TyOk Try.prog 51 ty51 := tyOk_of Try.underlying51 (ti_of (by kernel_rfl) rfl rfl) (fun _ h => by cases h) (noTy rfl)
def ty52 : TyE := ⟨.struct #[⟨"Op", 5, 0, false, "", "", 0⟩, ⟨"A", 3, 1, false, "", "", 8⟩, ⟨"B", 3, 2, false, "", "", 16⟩], 3, 24, .agg #[.int .u8 0, .int .i64 0, .int .i64 0], [(0, 1), (1, 1), (2, 1)], (some (.pair (.int .u8) (.pair (.int .i64) (.int .i64)))), false⟩
theorem te52 : TyOk Try.prog 52 ty52 := tyOk_of Try.underlying52 (ti_of (by kernel_rfl) rfl rfl) (fun fs h w => by cases h; kernel_rfl) (someTy rfl (by kernel_rfl) (by kernel_rfl))
def ty53 : TyE := ⟨.struct #[⟨"Op", 5, 0, false, "", "", 0⟩, ⟨"A", 3, 1, false, "", "", 8⟩, ⟨"B", 3, 2, false, "", "", 16⟩], 3, 24, .agg #[.int .u8 0, .int .i64 0, .int .i64 0], [(0, 1), (1, 1), (2, 1)], (some (.pair (.int .u8) (.pair (.int .i64) (.int .i64)))), false⟩
theorem te53 : TyOk Try.prog 53 ty53 := tyOk_of Try.underlying53 (ti_of (by kernel_rfl) rfl rfl) (fun fs h w => by cases h; kernel_rfl) (someTy rfl (by kernel_rfl) (by kernel_rfl))
def ty54 : TyE := ⟨.slice 110, 1, 24, .slice none 0 0, [], none, false⟩
theorem te54 : TyOk Try.prog 54 ty54 := tyOk_of Try.underlying54 (ti_of (by kernel_rfl) rfl rfl) (fun _ h => by cases h) (noTy rfl)
def ty55 : TyE := ⟨.slice 64, 1, 24, .slice none 0 0, [], (some (.slc (.pair (.arr 4 (.int .u64)) (.slc (.pair (.int .i64) .bool))))), false⟩
theorem te55 : TyOk Try.prog 55 ty55 := tyOk_of Try.underlying55 (ti_of (by kernel_rfl) rfl rfl) (fun _ h => by cases h) (someTy rfl (by kernel_rfl) (by kernel_rfl))
def ty56 : TyE := ⟨.map 115 113, 1, 8, .map none, [], none, false⟩
theorem te56 : TyOk Try.prog 56 ty56 := tyOk_of Try.underlying56 (ti_of (by kernel_rfl) rfl rfl) (fun _ h => by cases h) (noTy rfl)
def ty57 : TyE := ⟨.struct #[⟨"plan", 29, 0, false, "", "penfold/model", 0⟩, ⟨"fins", 44, 4, false, "", "penfold/model", 32⟩, ⟨"scopes", 47, 5, false, "", "penfold/model", 56⟩, ⟨"areas", 54, 6, false, "", "penfold/model", 64⟩, ⟨"threads", 55, 7, false, "", "penfold/model", 88⟩, ⟨"objects", 56, 8, false, "", "penfold/model", 112⟩], 9, 120, .agg #[.int .i64 0, .int .i64 0, .int .i64 0, .int .i64 0, .slice none 0 0, .pointer none, .slice none 0 0, .slice none 0 0, .map none], [(0, 4), (4, 1), (5, 1), (6, 1), (7, 1), (8, 1)], none, false⟩
theorem te57 : TyOk Try.prog 57 ty57 := tyOk_of Try.underlying57 (ti_of (by kernel_rfl) rfl rfl) (fun fs h w => by cases h; kernel_rfl) (noTy rfl)
def ty58 : TyE := ⟨.struct #[⟨"plan", 29, 0, false, "", "penfold/model", 0⟩, ⟨"fins", 44, 4, false, "", "penfold/model", 32⟩, ⟨"scopes", 47, 5, false, "", "penfold/model", 56⟩, ⟨"areas", 54, 6, false, "", "penfold/model", 64⟩, ⟨"threads", 55, 7, false, "", "penfold/model", 88⟩, ⟨"objects", 56, 8, false, "", "penfold/model", 112⟩], 9, 120, .agg #[.int .i64 0, .int .i64 0, .int .i64 0, .int .i64 0, .slice none 0 0, .pointer none, .slice none 0 0, .slice none 0 0, .map none], [(0, 4), (4, 1), (5, 1), (6, 1), (7, 1), (8, 1)], (some (.pair (.pair (.int .i64) (.pair (.int .i64) (.pair (.int .i64) (.int .i64)))) (.pair (.slc (.slc (.pair (.int .u8) (.pair (.int .i64) (.int .i64))))) (.pair (.ptr 1) (.pair (.rsl 5 3) (.pair (.rsl 6 5) (.mp 7))))))), false⟩
theorem te58 : TyOk Try.prog 58 ty58 := tyOk_of Try.underlying58 (ti_of (by kernel_rfl) rfl rfl) (fun fs h w => by cases h; kernel_rfl) (someTy rfl (by kernel_rfl) (by kernel_rfl))
def ty59 : TyE := ⟨.func #[3, 3, 3] #[4] false, 1, 8, .nilFunc, [], none, false⟩
theorem te59 : TyOk Try.prog 59 ty59 := tyOk_of Try.underlying59 (ti_of (by kernel_rfl) rfl rfl) (fun _ h => by cases h) (noTy rfl)
def ty60 : TyE := ⟨.pointer 64, 1, 8, .pointer none, [], none, false⟩
theorem te60 : TyOk Try.prog 60 ty60 := tyOk_of Try.underlying60 (ti_of (by kernel_rfl) rfl rfl) (fun _ h => by cases h) (noTy rfl)
def ty61 : TyE := ⟨.array 4 42, 4, 32, .agg #[.int .u64 0, .int .u64 0, .int .u64 0, .int .u64 0], [], (some (.arr 4 (.int .u64))), false⟩
theorem te61 : TyOk Try.prog 61 ty61 := tyOk_of Try.underlying61 (ti_of (by kernel_rfl) rfl rfl) (fun _ h => by cases h) (someTy rfl (by kernel_rfl) (by kernel_rfl))
def ty62 : TyE := ⟨.slice 101, 1, 24, .slice none 0 0, [], (some (.slc (.pair (.int .i64) .bool))), false⟩
theorem te62 : TyOk Try.prog 62 ty62 := tyOk_of Try.underlying62 (ti_of (by kernel_rfl) rfl rfl) (fun _ h => by cases h) (someTy rfl (by kernel_rfl) (by kernel_rfl))
def ty63 : TyE := ⟨.struct #[⟨"regs", 61, 0, false, "", "penfold/model", 0⟩, ⟨"entries", 62, 4, false, "", "penfold/model", 32⟩], 5, 56, .agg #[.int .u64 0, .int .u64 0, .int .u64 0, .int .u64 0, .slice none 0 0], [(0, 4), (4, 1)], (some (.pair (.arr 4 (.int .u64)) (.slc (.pair (.int .i64) .bool)))), false⟩
theorem te63 : TyOk Try.prog 63 ty63 := tyOk_of Try.underlying63 (ti_of (by kernel_rfl) rfl rfl) (fun fs h w => by cases h; kernel_rfl) (someTy rfl (by kernel_rfl) (by kernel_rfl))
def ty64 : TyE := ⟨.struct #[⟨"regs", 61, 0, false, "", "penfold/model", 0⟩, ⟨"entries", 62, 4, false, "", "penfold/model", 32⟩], 5, 56, .agg #[.int .u64 0, .int .u64 0, .int .u64 0, .int .u64 0, .slice none 0 0], [(0, 4), (4, 1)], (some (.pair (.arr 4 (.int .u64)) (.slc (.pair (.int .i64) .bool)))), false⟩
theorem te64 : TyOk Try.prog 64 ty64 := tyOk_of Try.underlying64 (ti_of (by kernel_rfl) rfl rfl) (fun fs h w => by cases h; kernel_rfl) (someTy rfl (by kernel_rfl) (by kernel_rfl))
def ty65 : TyE := ⟨.struct #[⟨"Model", 24, 0, true, "", "", 0⟩, ⟨"thread", 60, 1, true, "", "penfold/model", 8⟩, ⟨"c", 37, 2, false, "", "penfold/model", 16⟩], 9, 48, .agg #[.pointer none, .pointer none, .int .u8 0, .int .u8 0, .int .u8 0, .int .u8 0, .int .i64 0, .int .i64 0, .int .i64 0], [(0, 1), (1, 1), (2, 7)], none, false⟩
theorem te65 : TyOk Try.prog 65 ty65 := tyOk_of Try.underlying65 (ti_of (by kernel_rfl) rfl rfl) (fun fs h w => by cases h; kernel_rfl) (noTy rfl)
def ty66 : TyE := ⟨.struct #[⟨"Model", 24, 0, true, "", "", 0⟩, ⟨"thread", 60, 1, true, "", "penfold/model", 8⟩, ⟨"c", 37, 2, false, "", "penfold/model", 16⟩], 9, 48, .agg #[.pointer none, .pointer none, .int .u8 0, .int .u8 0, .int .u8 0, .int .u8 0, .int .i64 0, .int .i64 0, .int .i64 0], [(0, 1), (1, 1), (2, 7)], none, false⟩
theorem te66 : TyOk Try.prog 66 ty66 := tyOk_of Try.underlying66 (ti_of (by kernel_rfl) rfl rfl) (fun fs h w => by cases h; kernel_rfl) (noTy rfl)
def ty67 : TyE := ⟨.func #[] #[33] false, 1, 8, .nilFunc, [], none, false⟩
theorem te67 : TyOk Try.prog 67 ty67 := tyOk_of Try.underlying67 (ti_of (by kernel_rfl) rfl rfl) (fun _ h => by cases h) (noTy rfl)
def ty68 : TyE := ⟨.map 5 67, 1, 8, .map none, [], none, false⟩
theorem te68 : TyOk Try.prog 68 ty68 := tyOk_of Try.underlying68 (ti_of (by kernel_rfl) rfl rfl) (fun _ h => by cases h) (noTy rfl)
def ty70 : TyE := ⟨.func #[37] #[4] false, 1, 8, .nilFunc, [], none, false⟩
theorem te70 : TyOk Try.prog 70 ty70 := tyOk_of Try.underlying70 (ti_of (by kernel_rfl) rfl rfl) (fun _ h => by cases h) (noTy rfl)
def ty71 : TyE := ⟨.func #[25] #[33] false, 1, 8, .nilFunc, [], none, false⟩
theorem te71 : TyOk Try.prog 71 ty71 := tyOk_of Try.underlying71 (ti_of (by kernel_rfl) rfl rfl) (fun _ h => by cases h) (noTy rfl)
def ty72 : TyE := ⟨.func #[40] #[40] false, 1, 8, .nilFunc, [], none, false⟩
theorem te72 : TyOk Try.prog 72 ty72 := tyOk_of Try.underlying72 (ti_of (by kernel_rfl) rfl rfl) (fun _ h => by cases h) (noTy rfl)
def ty73 : TyE := ⟨.func #[133, 53] #[] false, 1, 8, .nilFunc, [], none, false⟩
theorem te73 : TyOk Try.prog 73 ty73 := tyOk_of Try.underlying73 (ti_of (by kernel_rfl) rfl rfl) (fun _ h => by cases h) (noTy rfl)
def ty74 : TyE := ⟨.struct #[⟨"a", 3, 0, false, "", "penfold/fin", 0⟩, ⟨"b", 3, 1, false, "", "penfold/fin", 8⟩, ⟨"do", 73, 2, false, "", "penfold/fin", 16⟩], 3, 24, .agg #[.int .i64 0, .int .i64 0, .nilFunc], [(0, 1), (1, 1), (2, 1)], none, false⟩
theorem te74 : TyOk Try.prog 74 ty74 := tyOk_of Try.underlying74 (ti_of (by kernel_rfl) rfl rfl) (fun fs h w => by cases h; kernel_rfl) (noTy rfl)
def ty75 : TyE := ⟨.struct #[⟨"a", 3, 0, false, "", "penfold/fin", 0⟩, ⟨"b", 3, 1, false, "", "penfold/fin", 8⟩, ⟨"do", 73, 2, false, "", "penfold/fin", 16⟩], 3, 24, .agg #[.int .i64 0, .int .i64 0, .nilFunc], [(0, 1), (1, 1), (2, 1)], none, false⟩
theorem te75 : TyOk Try.prog 75 ty75 := tyOk_of Try.underlying75 (ti_of (by kernel_rfl) rfl rfl) (fun fs h w => by cases h; kernel_rfl) (noTy rfl)
def ty76 : TyE := ⟨.array 5 75, 15, 120, .agg #[.int .i64 0, .int .i64 0, .nilFunc, .int .i64 0, .int .i64 0, .nilFunc, .int .i64 0, .int .i64 0, .nilFunc, .int .i64 0, .int .i64 0, .nilFunc, .int .i64 0, .int .i64 0, .nilFunc], [], none, false⟩
theorem te76 : TyOk Try.prog 76 ty76 := tyOk_of Try.underlying76 (ti_of (by kernel_rfl) rfl rfl) (fun _ h => by cases h) (noTy rfl)
def ty77 : TyE := ⟨.func #[] #[76] false, 1, 8, .nilFunc, [], none, false⟩
theorem te77 : TyOk Try.prog 77 ty77 := tyOk_of Try.underlying77 (ti_of (by kernel_rfl) rfl rfl) (fun _ h => by cases h) (noTy rfl)
def ty78 : TyE := ⟨.slice 87, 1, 24, .slice none 0 0, [], (some (.slc (.pair (.pair (.int .i64) (.pair (.int .i64) (.pair (.int .i64) (.int .i64)))) (.pair (.int .i64) (.int .i64))))), false⟩
theorem te78 : TyOk Try.prog 78 ty78 := tyOk_of Try.underlying78 (ti_of (by kernel_rfl) rfl rfl) (fun _ h => by cases h) (someTy rfl (by kernel_rfl) (by kernel_rfl))
def ty79 : TyE := ⟨.pointer 139, 1, 8, .pointer none, [], (some (.ptr 2)), false⟩
theorem te79 : TyOk Try.prog 79 ty79 := tyOk_of Try.underlying79 (ti_of (by kernel_rfl) rfl rfl) (fun _ h => by cases h) (someTy rfl (by kernel_rfl) (by kernel_rfl))
def ty80 : TyE := ⟨.struct #[⟨"l", 78, 0, false, "", "penfold/scopes", 0⟩, ⟨"ground", 79, 1, false, "", "penfold/scopes", 24⟩], 2, 32, .agg #[.slice none 0 0, .pointer none], [(0, 1), (1, 1)], (some (.pair (.slc (.pair (.pair (.int .i64) (.pair (.int .i64) (.pair (.int .i64) (.int .i64)))) (.pair (.int .i64) (.int .i64)))) (.ptr 2))), false⟩
theorem te80 : TyOk Try.prog 80 ty80 := tyOk_of Try.underlying80 (ti_of (by kernel_rfl) rfl rfl) (fun fs h w => by cases h; kernel_rfl) (someTy rfl (by kernel_rfl) (by kernel_rfl))
def ty81 : TyE := ⟨.struct #[⟨"l", 78, 0, false, "", "penfold/scopes", 0⟩, ⟨"ground", 79, 1, false, "", "penfold/scopes", 24⟩], 2, 32, .agg #[.slice none 0 0, .pointer none], [(0, 1), (1, 1)], (some (.pair (.rsl 3 6) (.ptr 2))), false⟩
theorem te81 : TyOk Try.prog 81 ty81 := tyOk_of Try.underlying81 (ti_of (by kernel_rfl) rfl rfl) (fun fs h w => by cases h; kernel_rfl) (someTy rfl (by kernel_rfl) (by kernel_rfl))
def ty82 : TyE := ⟨.struct #[⟨"State", 3, 0, false, "", "", 0⟩, ⟨"Count", 3, 1, false, "", "", 8⟩, ⟨"Parent", 3, 2, false, "", "", 16⟩, ⟨"Epoch", 3, 3, false, "", "", 24⟩], 4, 32, .agg #[.int .i64 0, .int .i64 0, .int .i64 0, .int .i64 0], [(0, 1), (1, 1), (2, 1), (3, 1)], (some (.pair (.int .i64) (.pair (.int .i64) (.pair (.int .i64) (.int .i64))))), false⟩
theorem te82 : TyOk Try.prog 82 ty82 := tyOk_of Try.underlying82 (ti_of (by kernel_rfl) rfl rfl) (fun fs h w => by cases h; kernel_rfl) (someTy rfl (by kernel_rfl) (by kernel_rfl))
def ty83 : TyE := ⟨.struct #[⟨"State", 3, 0, false, "", "", 0⟩, ⟨"Count", 3, 1, false, "", "", 8⟩, ⟨"Parent", 3, 2, false, "", "", 16⟩, ⟨"Epoch", 3, 3, false, "", "", 24⟩], 4, 32, .agg #[.int .i64 0, .int .i64 0, .int .i64 0, .int .i64 0], [(0, 1), (1, 1), (2, 1), (3, 1)], (some (.pair (.int .i64) (.pair (.int .i64) (.pair (.int .i64) (.int .i64))))), false⟩
theorem te83 : TyOk Try.prog 83 ty83 := tyOk_of Try.underlying83 (ti_of (by kernel_rfl) rfl rfl) (fun fs h w => by cases h; kernel_rfl) (someTy rfl (by kernel_rfl) (by kernel_rfl))
def ty84 : TyE := ⟨.struct #[⟨"At", 3, 0, false, "", "", 0⟩, ⟨"Size", 3, 1, false, "", "", 8⟩], 2, 16, .agg #[.int .i64 0, .int .i64 0], [(0, 1), (1, 1)], (some (.pair (.int .i64) (.int .i64))), false⟩
theorem te84 : TyOk Try.prog 84 ty84 := tyOk_of Try.underlying84 (ti_of (by kernel_rfl) rfl rfl) (fun fs h w => by cases h; kernel_rfl) (someTy rfl (by kernel_rfl) (by kernel_rfl))
def ty85 : TyE := ⟨.struct #[⟨"At", 3, 0, false, "", "", 0⟩, ⟨"Size", 3, 1, false, "", "", 8⟩], 2, 16, .agg #[.int .i64 0, .int .i64 0], [(0, 1), (1, 1)], (some (.pair (.int .i64) (.int .i64))), false⟩
theorem te85 : TyOk Try.prog 85 ty85 := tyOk_of Try.underlying85 (ti_of (by kernel_rfl) rfl rfl) (fun fs h w => by cases h; kernel_rfl) (someTy rfl (by kernel_rfl) (by kernel_rfl))
def ty86 : TyE := ⟨.struct #[⟨"ctl", 83, 0, false, "", "penfold/scopes", 0⟩, ⟨"extent", 85, 4, false, "", "penfold/scopes", 32⟩], 6, 48, .agg #[.int .i64 0, .int .i64 0, .int .i64 0, .int .i64 0, .int .i64 0, .int .i64 0], [(0, 4), (4, 2)], (some (.pair (.pair (.int .i64) (.pair (.int .i64) (.pair (.int .i64) (.int .i64)))) (.pair (.int .i64) (.int .i64)))), false⟩
theorem te86 : TyOk Try.prog 86 ty86 := tyOk_of Try.underlying86 (ti_of (by kernel_rfl) rfl rfl) (fun fs h w => by cases h; kernel_rfl) (someTy rfl (by kernel_rfl) (by kernel_rfl))
def ty87 : TyE := ⟨.struct #[⟨"ctl", 83, 0, false, "", "penfold/scopes", 0⟩, ⟨"extent", 85, 4, false, "", "penfold/scopes", 32⟩], 6, 48, .agg #[.int .i64 0, .int .i64 0, .int .i64 0, .int .i64 0, .int .i64 0, .int .i64 0], [(0, 4), (4, 2)], (some (.pair (.pair (.int .i64) (.pair (.int .i64) (.pair (.int .i64) (.int .i64)))) (.pair (.int .i64) (.int .i64)))), false⟩
theorem te87 : TyOk Try.prog 87 ty87 := tyOk_of Try.underlying87 (ti_of (by kernel_rfl) rfl rfl) (fun fs h w => by cases h; kernel_rfl) (someTy rfl (by kernel_rfl) (by kernel_rfl))
def ty89 : TyE := ⟨.func #[29] #[85, 25] false, 1, 8, .nilFunc, [], none, false⟩
theorem te89 : TyOk Try.prog 89 ty89 := tyOk_of Try.underlying89 (ti_of (by kernel_rfl) rfl rfl) (fun _ h => by cases h) (noTy rfl)
def ty91 : TyE := ⟨.func #[3, 3] #[79, 25] false, 1, 8, .nilFunc, [], none, false⟩
theorem te91 : TyOk Try.prog 91 ty91 := tyOk_of Try.underlying91 (ti_of (by kernel_rfl) rfl rfl) (fun _ h => by cases h) (noTy rfl)
def ty93 : TyE := ⟨.func #[3] #[3, 25] false, 1, 8, .nilFunc, [], none, false⟩
theorem te93 : TyOk Try.prog 93 ty93 := tyOk_of Try.underlying93 (ti_of (by kernel_rfl) rfl rfl) (fun _ h => by cases h) (noTy rfl)
def ty94 : TyE := ⟨.func #[3] #[25] false, 1, 8, .nilFunc, [], none, false⟩
theorem te94 : TyOk Try.prog 94 ty94 := tyOk_of Try.underlying94 (ti_of (by kernel_rfl) rfl rfl) (fun _ h => by cases h) (noTy rfl)
def ty95 : TyE := ⟨.func #[3] #[4] false, 1, 8, .nilFunc, [], none, false⟩
theorem te95 : TyOk Try.prog 95 ty95 := tyOk_of Try.underlying95 (ti_of (by kernel_rfl) rfl rfl) (fun _ h => by cases h) (noTy rfl)
def ty96 : TyE := ⟨.func #[4, 99] #[33] false, 1, 8, .nilFunc, [], none, false⟩
theorem te96 : TyOk Try.prog 96 ty96 := tyOk_of Try.underlying96 (ti_of (by kernel_rfl) rfl rfl) (fun _ h => by cases h) (noTy rfl)
def ty97 : TyE := ⟨.func #[3, 3] #[25] false, 1, 8, .nilFunc, [], none, false⟩
theorem te97 : TyOk Try.prog 97 ty97 := tyOk_of Try.underlying97 (ti_of (by kernel_rfl) rfl rfl) (fun _ h => by cases h) (noTy rfl)
def ty98 : TyE := ⟨.func #[62] #[3] false, 1, 8, .nilFunc, [], none, false⟩
theorem te98 : TyOk Try.prog 98 ty98 := tyOk_of Try.underlying98 (ti_of (by kernel_rfl) rfl rfl) (fun _ h => by cases h) (noTy rfl)
def ty99 : TyE := ⟨.func #[] #[25] false, 1, 8, .nilFunc, [], none, false⟩
theorem te99 : TyOk Try.prog 99 ty99 := tyOk_of Try.underlying99 (ti_of (by kernel_rfl) rfl rfl) (fun _ h => by cases h) (noTy rfl)
def ty100 : TyE := ⟨.struct #[⟨"Scope", 3, 0, false, "", "", 0⟩, ⟨"Counted", 4, 1, false, "", "", 8⟩], 2, 16, .agg #[.int .i64 0, .bool false], [(0, 1), (1, 1)], (some (.pair (.int .i64) .bool)), false⟩
theorem te100 : TyOk Try.prog 100 ty100 := tyOk_of Try.underlying100 (ti_of (by kernel_rfl) rfl rfl) (fun fs h w => by cases h; kernel_rfl) (someTy rfl (by kernel_rfl) (by kernel_rfl))
def ty101 : TyE := ⟨.struct #[⟨"Scope", 3, 0, false, "", "", 0⟩, ⟨"Counted", 4, 1, false, "", "", 8⟩], 2, 16, .agg #[.int .i64 0, .bool false], [(0, 1), (1, 1)], (some (.pair (.int .i64) .bool)), false⟩
theorem te101 : TyOk Try.prog 101 ty101 := tyOk_of Try.underlying101 (ti_of (by kernel_rfl) rfl rfl) (fun fs h w => by cases h; kernel_rfl) (someTy rfl (by kernel_rfl) (by kernel_rfl))
def ty103 : TyE := ⟨.func #[62] #[62, 101, 25] false, 1, 8, .nilFunc, [], none, false⟩
theorem te103 : TyOk Try.prog 103 ty103 := tyOk_of Try.underlying103 (ti_of (by kernel_rfl) rfl rfl) (fun _ h => by cases h) (noTy rfl)
def ty105 : TyE := ⟨.func #[3] #[83, 25] false, 1, 8, .nilFunc, [], none, false⟩
theorem te105 : TyOk Try.prog 105 ty105 := tyOk_of Try.underlying105 (ti_of (by kernel_rfl) rfl rfl) (fun _ h => by cases h) (noTy rfl)
def ty106 : TyE := ⟨.func #[107] #[33] false, 1, 8, .nilFunc, [], none, false⟩
theorem te106 : TyOk Try.prog 106 ty106 := tyOk_of Try.underlying106 (ti_of (by kernel_rfl) rfl rfl) (fun _ h => by cases h) (noTy rfl)
def ty107 : TyE := ⟨.pointer 110, 1, 8, .pointer none, [], none, false⟩
theorem te107 : TyOk Try.prog 107 ty107 := tyOk_of Try.underlying107 (ti_of (by kernel_rfl) rfl rfl) (fun _ h => by cases h) (noTy rfl)
def ty108 : TyE := ⟨.slice 113, 1, 24, .slice none 0 0, [], none, false⟩
theorem te108 : TyOk Try.prog 108 ty108 := tyOk_of Try.underlying108 (ti_of (by kernel_rfl) rfl rfl) (fun _ h => by cases h) (noTy rfl)
def ty109 : TyE := ⟨.struct #[⟨"used", 3, 0, false, "", "penfold/model", 0⟩, ⟨"portal", 42, 1, false, "", "penfold/model", 8⟩, ⟨"objects", 108, 2, false, "", "penfold/model", 16⟩], 3, 40, .agg #[.int .i64 0, .int .u64 0, .slice none 0 0], [(0, 1), (1, 1), (2, 1)], none, false⟩
theorem te109 : TyOk Try.prog 109 ty109 := tyOk_of Try.underlying109 (ti_of (by kernel_rfl) rfl rfl) (fun fs h w => by cases h; kernel_rfl) (noTy rfl)
def ty110 : TyE := ⟨.struct #[⟨"used", 3, 0, false, "", "penfold/model", 0⟩, ⟨"portal", 42, 1, false, "", "penfold/model", 8⟩, ⟨"objects", 108, 2, false, "", "penfold/model", 16⟩], 3, 40, .agg #[.int .i64 0, .int .u64 0, .slice none 0 0], [(0, 1), (1, 1), (2, 1)], (some (.pair (.int .i64) (.pair (.int .u64) (.rsl 9 1)))), false⟩
theorem te110 : TyOk Try.prog 110 ty110 := tyOk_of Try.underlying110 (ti_of (by kernel_rfl) rfl rfl) (fun fs h w => by cases h; kernel_rfl) (someTy rfl (by kernel_rfl) (by kernel_rfl))
def ty112 : TyE := ⟨.func #[3] #[4, 25] false, 1, 8, .nilFunc, [], none, false⟩
theorem te112 : TyOk Try.prog 112 ty112 := tyOk_of Try.underlying112 (ti_of (by kernel_rfl) rfl rfl) (fun _ h => by cases h) (noTy rfl)
def ty113 : TyE := ⟨.pointer 117, 1, 8, .pointer none, [], (some (.ptr 8)), false⟩
theorem te113 : TyOk Try.prog 113 ty113 := tyOk_of Try.underlying113 (ti_of (by kernel_rfl) rfl rfl) (fun _ h => by cases h) (someTy rfl (by kernel_rfl) (by kernel_rfl))
def ty114 : TyE := ⟨.struct #[⟨"Scope", 3, 0, false, "", "", 0⟩, ⟨"Epoch", 3, 1, false, "", "", 8⟩, ⟨"At", 3, 2, false, "", "", 16⟩], 3, 24, .agg #[.int .i64 0, .int .i64 0, .int .i64 0], [(0, 1), (1, 1), (2, 1)], (some (.pair (.int .i64) (.pair (.int .i64) (.int .i64)))), false⟩
theorem te114 : TyOk Try.prog 114 ty114 := tyOk_of Try.underlying114 (ti_of (by kernel_rfl) rfl rfl) (fun fs h w => by cases h; kernel_rfl) (someTy rfl (by kernel_rfl) (by kernel_rfl))
def ty115 : TyE := ⟨.struct #[⟨"Scope", 3, 0, false, "", "", 0⟩, ⟨"Epoch", 3, 1, false, "", "", 8⟩, ⟨"At", 3, 2, false, "", "", 16⟩], 3, 24, .agg #[.int .i64 0, .int .i64 0, .int .i64 0], [(0, 1), (1, 1), (2, 1)], (some (.pair (.int .i64) (.pair (.int .i64) (.int .i64)))), false⟩
theorem te115 : TyOk Try.prog 115 ty115 := tyOk_of Try.underlying115 (ti_of (by kernel_rfl) rfl rfl) (fun fs h w => by cases h; kernel_rfl) (someTy rfl (by kernel_rfl) (by kernel_rfl))
def ty116 : TyE := ⟨.struct #[⟨"ref", 115, 0, false, "", "penfold/model", 0⟩, ⟨"tag", 3, 3, false, "", "penfold/model", 24⟩, ⟨"slots", 40, 4, false, "", "penfold/model", 32⟩, ⟨"done", 4, 5, false, "", "penfold/model", 56⟩], 6, 64, .agg #[.int .i64 0, .int .i64 0, .int .i64 0, .int .i64 0, .slice none 0 0, .bool false], [(0, 3), (3, 1), (4, 1), (5, 1)], (some (.pair (.pair (.int .i64) (.pair (.int .i64) (.int .i64))) (.pair (.int .i64) (.pair (.slc (.int .u64)) .bool)))), false⟩
theorem te116 : TyOk Try.prog 116 ty116 := tyOk_of Try.underlying116 (ti_of (by kernel_rfl) rfl rfl) (fun fs h w => by cases h; kernel_rfl) (someTy rfl (by kernel_rfl) (by kernel_rfl))
def ty117 : TyE := ⟨.struct #[⟨"ref", 115, 0, false, "", "penfold/model", 0⟩, ⟨"tag", 3, 3, false, "", "penfold/model", 24⟩, ⟨"slots", 40, 4, false, "", "penfold/model", 32⟩, ⟨"done", 4, 5, false, "", "penfold/model", 56⟩], 6, 64, .agg #[.int .i64 0, .int .i64 0, .int .i64 0, .int .i64 0, .slice none 0 0, .bool false], [(0, 3), (3, 1), (4, 1), (5, 1)], (some (.pair (.pair (.int .i64) (.pair (.int .i64) (.int .i64))) (.pair (.int .i64) (.pair (.rsl 10 1) .bool)))), false⟩
theorem te117 : TyOk Try.prog 117 ty117 := tyOk_of Try.underlying117 (ti_of (by kernel_rfl) rfl rfl) (fun fs h w => by cases h; kernel_rfl) (someTy rfl (by kernel_rfl) (by kernel_rfl))
def ty118 : TyE := ⟨.func #[62, 3] #[4] false, 1, 8, .nilFunc, [], none, false⟩
theorem te118 : TyOk Try.prog 118 ty118 := tyOk_of Try.underlying118 (ti_of (by kernel_rfl) rfl rfl) (fun _ h => by cases h) (noTy rfl)
def ty119 : TyE := ⟨.func #[3, 3] #[3, 25] false, 1, 8, .nilFunc, [], none, false⟩
theorem te119 : TyOk Try.prog 119 ty119 := tyOk_of Try.underlying119 (ti_of (by kernel_rfl) rfl rfl) (fun _ h => by cases h) (noTy rfl)
def ty120 : TyE := ⟨.func #[3] #[85, 25] false, 1, 8, .nilFunc, [], none, false⟩
theorem te120 : TyOk Try.prog 120 ty120 := tyOk_of Try.underlying120 (ti_of (by kernel_rfl) rfl rfl) (fun _ h => by cases h) (noTy rfl)
def ty121 : TyE := ⟨.func #[115] #[33] false, 1, 8, .nilFunc, [], none, false⟩
theorem te121 : TyOk Try.prog 121 ty121 := tyOk_of Try.underlying121 (ti_of (by kernel_rfl) rfl rfl) (fun _ h => by cases h) (noTy rfl)
def ty122 : TyE := ⟨.pointer 42, 1, 8, .pointer none, [], none, false⟩
theorem te122 : TyOk Try.prog 122 ty122 := tyOk_of Try.underlying122 (ti_of (by kernel_rfl) rfl rfl) (fun _ h => by cases h) (noTy rfl)
def ty124 : TyE := ⟨.func #[] #[122, 3, 25] false, 1, 8, .nilFunc, [], none, false⟩
theorem te124 : TyOk Try.prog 124 ty124 := tyOk_of Try.underlying124 (ti_of (by kernel_rfl) rfl rfl) (fun _ h => by cases h) (noTy rfl)
def ty125 : TyE := ⟨.func #[42] #[33] false, 1, 8, .nilFunc, [], none, false⟩
theorem te125 : TyOk Try.prog 125 ty125 := tyOk_of Try.underlying125 (ti_of (by kernel_rfl) rfl rfl) (fun _ h => by cases h) (noTy rfl)
def ty126 : TyE := ⟨.func #[122, 3] #[33] false, 1, 8, .nilFunc, [], none, false⟩
theorem te126 : TyOk Try.prog 126 ty126 := tyOk_of Try.underlying126 (ti_of (by kernel_rfl) rfl rfl) (fun _ h => by cases h) (noTy rfl)
def ty128 : TyE := ⟨.func #[] #[122, 25] false, 1, 8, .nilFunc, [], none, false⟩
theorem te128 : TyOk Try.prog 128 ty128 := tyOk_of Try.underlying128 (ti_of (by kernel_rfl) rfl rfl) (fun _ h => by cases h) (noTy rfl)
def ty129 : TyE := ⟨.slice 5, 1, 24, .slice none 0 0, [], (some (.slc (.int .u8))), false⟩
theorem te129 : TyOk Try.prog 129 ty129 := tyOk_of Try.underlying129 (ti_of (by kernel_rfl) rfl rfl) (fun _ h => by cases h) (someTy rfl (by kernel_rfl) (by kernel_rfl))
def ty130 : TyE := ⟨.map 5 129, 1, 8, .map none, [], none, false⟩
theorem te130 : TyOk Try.prog 130 ty130 := tyOk_of Try.underlying130 (ti_of (by kernel_rfl) rfl rfl) (fun _ h => by cases h) (noTy rfl)
def ty131 : TyE := ⟨.func #[129, 132] #[4] false, 1, 8, .nilFunc, [], none, false⟩
theorem te131 : TyOk Try.prog 131 ty131 := tyOk_of Try.underlying131 (ti_of (by kernel_rfl) rfl rfl) (fun _ h => by cases h) (noTy rfl)
def ty132 : TyE := ⟨.func #[5] #[4] false, 1, 8, .nilFunc, [], none, false⟩
theorem te132 : TyOk Try.prog 132 ty132 := tyOk_of Try.underlying132 (ti_of (by kernel_rfl) rfl rfl) (fun _ h => by cases h) (noTy rfl)
def ty133 : TyE := ⟨.pointer 135, 1, 8, .pointer none, [], none, false⟩
theorem te133 : TyOk Try.prog 133 ty133 := tyOk_of Try.underlying133 (ti_of (by kernel_rfl) rfl rfl) (fun _ h => by cases h) (noTy rfl)
def ty134 : TyE := ⟨.struct #[⟨"slots", 40, 0, false, "", "penfold/fin", 0⟩, ⟨"said", 31, 1, false, "", "penfold/fin", 24⟩, ⟨"held", 4, 2, false, "", "penfold/fin", 48⟩, ⟨"skip", 3, 3, false, "", "penfold/fin", 56⟩], 4, 64, .agg #[.slice none 0 0, .slice none 0 0, .bool false, .int .i64 0], [(0, 1), (1, 1), (2, 1), (3, 1)], (some (.pair (.slc (.int .u64)) (.pair (.slc (.int .i64)) (.pair .bool (.int .i64))))), false⟩
theorem te134 : TyOk Try.prog 134 ty134 := tyOk_of Try.underlying134 (ti_of (by kernel_rfl) rfl rfl) (fun fs h w => by cases h; kernel_rfl) (someTy rfl (by kernel_rfl) (by kernel_rfl))
def ty135 : TyE := ⟨.struct #[⟨"slots", 40, 0, false, "", "penfold/fin", 0⟩, ⟨"said", 31, 1, false, "", "penfold/fin", 24⟩, ⟨"held", 4, 2, false, "", "penfold/fin", 48⟩, ⟨"skip", 3, 3, false, "", "penfold/fin", 56⟩], 4, 64, .agg #[.slice none 0 0, .slice none 0 0, .bool false, .int .i64 0], [(0, 1), (1, 1), (2, 1), (3, 1)], none, false⟩
theorem te135 : TyOk Try.prog 135 ty135 := tyOk_of Try.underlying135 (ti_of (by kernel_rfl) rfl rfl) (fun fs h w => by cases h; kernel_rfl) (noTy rfl)
def ty136 : TyE := ⟨.func #[31] #[4] true, 1, 8, .nilFunc, [], none, false⟩
theorem te136 : TyOk Try.prog 136 ty136 := tyOk_of Try.underlying136 (ti_of (by kernel_rfl) rfl rfl) (fun _ h => by cases h) (noTy rfl)
def ty137 : TyE := ⟨.slice 85, 1, 24, .slice none 0 0, [], (some (.slc (.pair (.int .i64) (.int .i64)))), false⟩
theorem te137 : TyOk Try.prog 137 ty137 := tyOk_of Try.underlying137 (ti_of (by kernel_rfl) rfl rfl) (fun _ h => by cases h) (someTy rfl (by kernel_rfl) (by kernel_rfl))
def ty138 : TyE := ⟨.struct #[⟨"from", 3, 0, false, "", "penfold/ground", 0⟩, ⟨"end", 3, 1, false, "", "penfold/ground", 8⟩, ⟨"free", 137, 2, false, "", "penfold/ground", 16⟩], 3, 40, .agg #[.int .i64 0, .int .i64 0, .slice none 0 0], [(0, 1), (1, 1), (2, 1)], (some (.pair (.int .i64) (.pair (.int .i64) (.slc (.pair (.int .i64) (.int .i64)))))), false⟩
theorem te138 : TyOk Try.prog 138 ty138 := tyOk_of Try.underlying138 (ti_of (by kernel_rfl) rfl rfl) (fun fs h w => by cases h; kernel_rfl) (someTy rfl (by kernel_rfl) (by kernel_rfl))
def ty139 : TyE := ⟨.struct #[⟨"from", 3, 0, false, "", "penfold/ground", 0⟩, ⟨"end", 3, 1, false, "", "penfold/ground", 8⟩, ⟨"free", 137, 2, false, "", "penfold/ground", 16⟩], 3, 40, .agg #[.int .i64 0, .int .i64 0, .slice none 0 0], [(0, 1), (1, 1), (2, 1)], (some (.pair (.int .i64) (.pair (.int .i64) (.rsl 4 2)))), false⟩
theorem te139 : TyOk Try.prog 139 ty139 := tyOk_of Try.underlying139 (ti_of (by kernel_rfl) rfl rfl) (fun fs h w => by cases h; kernel_rfl) (someTy rfl (by kernel_rfl) (by kernel_rfl))
def ty140 : TyE := ⟨.func #[78, 141] #[3] false, 1, 8, .nilFunc, [], none, false⟩
theorem te140 : TyOk Try.prog 140 ty140 := tyOk_of Try.underlying140 (ti_of (by kernel_rfl) rfl rfl) (fun _ h => by cases h) (noTy rfl)
def ty141 : TyE := ⟨.func #[87] #[4] false, 1, 8, .nilFunc, [], none, false⟩
theorem te141 : TyOk Try.prog 141 ty141 := tyOk_of Try.underlying141 (ti_of (by kernel_rfl) rfl rfl) (fun _ h => by cases h) (noTy rfl)
def ty143 : TyE := ⟨.func #[3] #[3, 4] false, 1, 8, .nilFunc, [], none, false⟩
theorem te143 : TyOk Try.prog 143 ty143 := tyOk_of Try.underlying143 (ti_of (by kernel_rfl) rfl rfl) (fun _ h => by cases h) (noTy rfl)
def ty144 : TyE := ⟨.pointer 87, 1, 8, .pointer none, [], none, false⟩
theorem te144 : TyOk Try.prog 144 ty144 := tyOk_of Try.underlying144 (ti_of (by kernel_rfl) rfl rfl) (fun _ h => by cases h) (noTy rfl)
def ty145 : TyE := ⟨.func #[3, 3] #[144] false, 1, 8, .nilFunc, [], none, false⟩
theorem te145 : TyOk Try.prog 145 ty145 := tyOk_of Try.underlying145 (ti_of (by kernel_rfl) rfl rfl) (fun _ h => by cases h) (noTy rfl)
def ty147 : TyE := ⟨.func #[62, 101] #[62, 25] false, 1, 8, .nilFunc, [], none, false⟩
theorem te147 : TyOk Try.prog 147 ty147 := tyOk_of Try.underlying147 (ti_of (by kernel_rfl) rfl rfl) (fun _ h => by cases h) (noTy rfl)
def ty148 : TyE := ⟨.func #[3, 150] #[25] false, 1, 8, .nilFunc, [], none, false⟩
theorem te148 : TyOk Try.prog 148 ty148 := tyOk_of Try.underlying148 (ti_of (by kernel_rfl) rfl rfl) (fun _ h => by cases h) (noTy rfl)
def ty149 : TyE := ⟨.func #[83, 3] #[83, 25] false, 1, 8, .nilFunc, [], none, false⟩
theorem te149 : TyOk Try.prog 149 ty149 := tyOk_of Try.underlying149 (ti_of (by kernel_rfl) rfl rfl) (fun _ h => by cases h) (noTy rfl)
def ty150 : TyE := ⟨.func #[83] #[83, 25] false, 1, 8, .nilFunc, [], none, false⟩
theorem te150 : TyOk Try.prog 150 ty150 := tyOk_of Try.underlying150 (ti_of (by kernel_rfl) rfl rfl) (fun _ h => by cases h) (noTy rfl)
def ty151 : TyE := ⟨.func #[62] #[62] false, 1, 8, .nilFunc, [], none, false⟩
theorem te151 : TyOk Try.prog 151 ty151 := tyOk_of Try.underlying151 (ti_of (by kernel_rfl) rfl rfl) (fun _ h => by cases h) (noTy rfl)
def ty152 : TyE := ⟨.func #[171] #[] false, 1, 8, .nilFunc, [], none, false⟩
theorem te152 : TyOk Try.prog 152 ty152 := tyOk_of Try.underlying152 (ti_of (by kernel_rfl) rfl rfl) (fun _ h => by cases h) (noTy rfl)
def ty153 : TyE := ⟨.func #[171] #[] false, 1, 8, .nilFunc, [], none, false⟩
theorem te153 : TyOk Try.prog 153 ty153 := tyOk_of Try.underlying153 (ti_of (by kernel_rfl) rfl rfl) (fun _ h => by cases h) (noTy rfl)
def ty154 : TyE := ⟨.func #[108] #[153] false, 1, 8, .nilFunc, [], none, false⟩
theorem te154 : TyOk Try.prog 154 ty154 := tyOk_of Try.underlying154 (ti_of (by kernel_rfl) rfl rfl) (fun _ h => by cases h) (noTy rfl)
def ty155 : TyE := ⟨.func #[44, 3] #[50] false, 1, 8, .nilFunc, [], none, false⟩
theorem te155 : TyOk Try.prog 155 ty155 := tyOk_of Try.underlying155 (ti_of (by kernel_rfl) rfl rfl) (fun _ h => by cases h) (noTy rfl)
def ty157 : TyE := ⟨.func #[50, 40] #[40, 31, 4, 3] false, 1, 8, .nilFunc, [], none, false⟩
theorem te157 : TyOk Try.prog 157 ty157 := tyOk_of Try.underlying157 (ti_of (by kernel_rfl) rfl rfl) (fun _ h => by cases h) (noTy rfl)
def ty158 : TyE := ⟨.func #[62, 3] #[3] false, 1, 8, .nilFunc, [], none, false⟩
theorem te158 : TyOk Try.prog 158 ty158 := tyOk_of Try.underlying158 (ti_of (by kernel_rfl) rfl rfl) (fun _ h => by cases h) (noTy rfl)
def ty160 : TyE := ⟨.func #[115] #[42, 25] false, 1, 8, .nilFunc, [], none, false⟩
theorem te160 : TyOk Try.prog 160 ty160 := tyOk_of Try.underlying160 (ti_of (by kernel_rfl) rfl rfl) (fun _ h => by cases h) (noTy rfl)
def ty162 : TyE := ⟨.func #[42] #[113, 25] false, 1, 8, .nilFunc, [], none, false⟩
theorem te162 : TyOk Try.prog 162 ty162 := tyOk_of Try.underlying162 (ti_of (by kernel_rfl) rfl rfl) (fun _ h => by cases h) (noTy rfl)
def ty163 : TyE := ⟨.func #[62, 3, 3] #[4] false, 1, 8, .nilFunc, [], none, false⟩
theorem te163 : TyOk Try.prog 163 ty163 := tyOk_of Try.underlying163 (ti_of (by kernel_rfl) rfl rfl) (fun _ h => by cases h) (noTy rfl)
def ty164 : TyE := ⟨.func #[129, 132] #[3] false, 1, 8, .nilFunc, [], none, false⟩
theorem te164 : TyOk Try.prog 164 ty164 := tyOk_of Try.underlying164 (ti_of (by kernel_rfl) rfl rfl) (fun _ h => by cases h) (noTy rfl)
def ty165 : TyE := ⟨.func #[31, 95] #[4] false, 1, 8, .nilFunc, [], none, false⟩
theorem te165 : TyOk Try.prog 165 ty165 := tyOk_of Try.underlying165 (ti_of (by kernel_rfl) rfl rfl) (fun _ h => by cases h) (noTy rfl)
def ty166 : TyE := ⟨.func #[137, 167] #[3] false, 1, 8, .nilFunc, [], none, false⟩
theorem te166 : TyOk Try.prog 166 ty166 := tyOk_of Try.underlying166 (ti_of (by kernel_rfl) rfl rfl) (fun _ h => by cases h) (noTy rfl)
def ty167 : TyE := ⟨.func #[85] #[4] false, 1, 8, .nilFunc, [], none, false⟩
theorem te167 : TyOk Try.prog 167 ty167 := tyOk_of Try.underlying167 (ti_of (by kernel_rfl) rfl rfl) (fun _ h => by cases h) (noTy rfl)
def ty168 : TyE := ⟨.pointer 85, 1, 8, .pointer none, [], none, false⟩
theorem te168 : TyOk Try.prog 168 ty168 := tyOk_of Try.underlying168 (ti_of (by kernel_rfl) rfl rfl) (fun _ h => by cases h) (noTy rfl)
def ty169 : TyE := ⟨.func #[137, 3, 3] #[137] false, 1, 8, .nilFunc, [], none, false⟩
theorem te169 : TyOk Try.prog 169 ty169 := tyOk_of Try.underlying169 (ti_of (by kernel_rfl) rfl rfl) (fun _ h => by cases h) (noTy rfl)
def ty170 : TyE := ⟨.func #[83] #[4] false, 1, 8, .nilFunc, [], none, false⟩
theorem te170 : TyOk Try.prog 170 ty170 := tyOk_of Try.underlying170 (ti_of (by kernel_rfl) rfl rfl) (fun _ h => by cases h) (noTy rfl)
def ty171 : TyE := ⟨.func #[3, 113] #[4] false, 1, 8, .nilFunc, [], none, false⟩
theorem te171 : TyOk Try.prog 171 ty171 := tyOk_of Try.underlying171 (ti_of (by kernel_rfl) rfl rfl) (fun _ h => by cases h) (noTy rfl)
def ty173 : TyE := ⟨.func #[50, 3, 40] #[3, 40, 31, 4] false, 1, 8, .nilFunc, [], none, false⟩
theorem te173 : TyOk Try.prog 173 ty173 := tyOk_of Try.underlying173 (ti_of (by kernel_rfl) rfl rfl) (fun _ h => by cases h) (noTy rfl)
def ty174 : TyE := ⟨.func #[83, 3] #[25] false, 1, 8, .nilFunc, [], none, false⟩
theorem te174 : TyOk Try.prog 174 ty174 := tyOk_of Try.underlying174 (ti_of (by kernel_rfl) rfl rfl) (fun _ h => by cases h) (noTy rfl)
def ty175 : TyE := ⟨.func #[62, 101] #[3] false, 1, 8, .nilFunc, [], none, false⟩
theorem te175 : TyOk Try.prog 175 ty175 := tyOk_of Try.underlying175 (ti_of (by kernel_rfl) rfl rfl) (fun _ h => by cases h) (noTy rfl)
def ty176 : TyE := ⟨.int .u64, 1, 8, .int .u64 0, [], (some (.int .u64)), false⟩
theorem te176 : TyOk Try.prog 176 ty176 := tyOk_of Try.underlying176 (ti_of (by kernel_rfl) rfl rfl) (fun _ h => by cases h) (someTy rfl (by kernel_rfl) (by kernel_rfl))
def ty178 : TyE := ⟨.func #[42] #[115, 25] false, 1, 8, .nilFunc, [], none, false⟩
theorem te178 : TyOk Try.prog 178 ty178 := tyOk_of Try.underlying178 (ti_of (by kernel_rfl) rfl rfl) (fun _ h => by cases h) (noTy rfl)
def ty179 : TyE := ⟨.func #[31, 95] #[3] false, 1, 8, .nilFunc, [], none, false⟩
theorem te179 : TyOk Try.prog 179 ty179 := tyOk_of Try.underlying179 (ti_of (by kernel_rfl) rfl rfl) (fun _ h => by cases h) (noTy rfl)
def ty180 : TyE := ⟨.func #[3] #[3] false, 1, 8, .nilFunc, [], none, false⟩
theorem te180 : TyOk Try.prog 180 ty180 := tyOk_of Try.underlying180 (ti_of (by kernel_rfl) rfl rfl) (fun _ h => by cases h) (noTy rfl)
def ty181 : TyE := ⟨.func #[] #[9] false, 1, 8, .nilFunc, [], none, false⟩
theorem te181 : TyOk Try.prog 181 ty181 := tyOk_of Try.underlying181 (ti_of (by kernel_rfl) rfl rfl) (fun _ h => by cases h) (noTy rfl)
def ty182 : TyE := ⟨.struct #[⟨"_interface", 17, 0, false, "", "runtime", 0⟩, ⟨"concrete", 17, 1, false, "", "runtime", 8⟩, ⟨"asserted", 17, 2, false, "", "runtime", 16⟩, ⟨"missingMethod", 9, 3, false, "", "runtime", 24⟩], 4, 40, .agg #[.pointer none, .pointer none, .pointer none, .string ByteArray.empty], [(0, 1), (1, 1), (2, 1), (3, 1)], none, false⟩
theorem te182 : TyOk Try.prog 182 ty182 := tyOk_of Try.underlying182 (ti_of (by kernel_rfl) rfl rfl) (fun fs h w => by cases h; kernel_rfl) (noTy rfl)
def ty183 : TyE := ⟨.struct #[⟨"_interface", 17, 0, false, "", "runtime", 0⟩, ⟨"concrete", 17, 1, false, "", "runtime", 8⟩, ⟨"asserted", 17, 2, false, "", "runtime", 16⟩, ⟨"missingMethod", 9, 3, false, "", "runtime", 24⟩], 4, 40, .agg #[.pointer none, .pointer none, .pointer none, .string ByteArray.empty], [(0, 1), (1, 1), (2, 1), (3, 1)], none, false⟩
theorem te183 : TyOk Try.prog 183 ty183 := tyOk_of Try.underlying183 (ti_of (by kernel_rfl) rfl rfl) (fun fs h w => by cases h; kernel_rfl) (noTy rfl)
def ty184 : TyE := ⟨.array 0 16, 0, 0, .agg #[], [], none, false⟩
theorem te184 : TyOk Try.prog 184 ty184 := tyOk_of Try.underlying184 (ti_of (by kernel_rfl) rfl rfl) (fun _ h => by cases h) (noTy rfl)
def ty185 : TyE := ⟨.struct #[⟨"_", 184, 0, false, "", "runtime", 0⟩], 0, 0, .agg #[], [(0, 0)], none, false⟩
theorem te185 : TyOk Try.prog 185 ty185 := tyOk_of Try.underlying185 (ti_of (by kernel_rfl) rfl rfl) (fun fs h w => by cases h; kernel_rfl) (noTy rfl)
def ty186 : TyE := ⟨.struct #[⟨"_", 184, 0, false, "", "runtime", 0⟩], 0, 0, .agg #[], [(0, 0)], none, false⟩
theorem te186 : TyOk Try.prog 186 ty186 := tyOk_of Try.underlying186 (ti_of (by kernel_rfl) rfl rfl) (fun fs h w => by cases h; kernel_rfl) (noTy rfl)
def ty187 : TyE := ⟨.func #[] #[3] false, 1, 8, .nilFunc, [], none, false⟩
theorem te187 : TyOk Try.prog 187 ty187 := tyOk_of Try.underlying187 (ti_of (by kernel_rfl) rfl rfl) (fun _ h => by cases h) (noTy rfl)
def ty188 : TyE := ⟨.int .u32, 1, 4, .int .u32 0, [], (some (.int .u32)), false⟩
theorem te188 : TyOk Try.prog 188 ty188 := tyOk_of Try.underlying188 (ti_of (by kernel_rfl) rfl rfl) (fun _ h => by cases h) (someTy rfl (by kernel_rfl) (by kernel_rfl))
def ty189 : TyE := ⟨.int .u8, 1, 1, .int .u8 0, [], (some (.int .u8)), false⟩
theorem te189 : TyOk Try.prog 189 ty189 := tyOk_of Try.underlying189 (ti_of (by kernel_rfl) rfl rfl) (fun _ h => by cases h) (someTy rfl (by kernel_rfl) (by kernel_rfl))
def ty190 : TyE := ⟨.int .u8, 1, 1, .int .u8 0, [], (some (.int .u8)), false⟩
theorem te190 : TyOk Try.prog 190 ty190 := tyOk_of Try.underlying190 (ti_of (by kernel_rfl) rfl rfl) (fun _ h => by cases h) (someTy rfl (by kernel_rfl) (by kernel_rfl))
def ty191 : TyE := ⟨.func #[199, 199] #[4] false, 1, 8, .nilFunc, [], none, false⟩
theorem te191 : TyOk Try.prog 191 ty191 := tyOk_of Try.underlying191 (ti_of (by kernel_rfl) rfl rfl) (fun _ h => by cases h) (noTy rfl)
def ty192 : TyE := ⟨.pointer 5, 1, 8, .pointer none, [], none, false⟩
theorem te192 : TyOk Try.prog 192 ty192 := tyOk_of Try.underlying192 (ti_of (by kernel_rfl) rfl rfl) (fun _ h => by cases h) (noTy rfl)
def ty193 : TyE := ⟨.int .i32, 1, 4, .int .i32 0, [], (some (.int .i32)), false⟩
theorem te193 : TyOk Try.prog 193 ty193 := tyOk_of Try.underlying193 (ti_of (by kernel_rfl) rfl rfl) (fun _ h => by cases h) (someTy rfl (by kernel_rfl) (by kernel_rfl))
def ty194 : TyE := ⟨.int .i32, 1, 4, .int .i32 0, [], (some (.int .i32)), false⟩
theorem te194 : TyOk Try.prog 194 ty194 := tyOk_of Try.underlying194 (ti_of (by kernel_rfl) rfl rfl) (fun _ h => by cases h) (someTy rfl (by kernel_rfl) (by kernel_rfl))
def ty195 : TyE := ⟨.struct #[⟨"Size_", 12, 0, false, "", "", 0⟩, ⟨"PtrBytes", 12, 1, false, "", "", 8⟩, ⟨"Hash", 188, 2, false, "", "", 16⟩, ⟨"TFlag", 189, 3, false, "", "", 20⟩, ⟨"Align_", 5, 4, false, "", "", 21⟩, ⟨"FieldAlign_", 5, 5, false, "", "", 22⟩, ⟨"Kind_", 190, 6, false, "", "", 23⟩, ⟨"Equal", 191, 7, false, "", "", 24⟩, ⟨"GCData", 192, 8, false, "", "", 32⟩, ⟨"Str", 193, 9, false, "", "", 40⟩, ⟨"PtrToThis", 194, 10, false, "", "", 44⟩], 11, 48, .agg #[.int .u64 0, .int .u64 0, .int .u32 0, .int .u8 0, .int .u8 0, .int .u8 0, .int .u8 0, .nilFunc, .pointer none, .int .i32 0, .int .i32 0], [(0, 1), (1, 1), (2, 1), (3, 1), (4, 1), (5, 1), (6, 1), (7, 1), (8, 1), (9, 1), (10, 1)], none, false⟩
theorem te195 : TyOk Try.prog 195 ty195 := tyOk_of Try.underlying195 (ti_of (by kernel_rfl) rfl rfl) (fun fs h w => by cases h; kernel_rfl) (noTy rfl)
def ty196 : TyE := ⟨.struct #[⟨"Size_", 12, 0, false, "", "", 0⟩, ⟨"PtrBytes", 12, 1, false, "", "", 8⟩, ⟨"Hash", 188, 2, false, "", "", 16⟩, ⟨"TFlag", 189, 3, false, "", "", 20⟩, ⟨"Align_", 5, 4, false, "", "", 21⟩, ⟨"FieldAlign_", 5, 5, false, "", "", 22⟩, ⟨"Kind_", 190, 6, false, "", "", 23⟩, ⟨"Equal", 191, 7, false, "", "", 24⟩, ⟨"GCData", 192, 8, false, "", "", 32⟩, ⟨"Str", 193, 9, false, "", "", 40⟩, ⟨"PtrToThis", 194, 10, false, "", "", 44⟩], 11, 48, .agg #[.int .u64 0, .int .u64 0, .int .u32 0, .int .u8 0, .int .u8 0, .int .u8 0, .int .u8 0, .nilFunc, .pointer none, .int .i32 0, .int .i32 0], [(0, 1), (1, 1), (2, 1), (3, 1), (4, 1), (5, 1), (6, 1), (7, 1), (8, 1), (9, 1), (10, 1)], none, false⟩
theorem te196 : TyOk Try.prog 196 ty196 := tyOk_of Try.underlying196 (ti_of (by kernel_rfl) rfl rfl) (fun fs h w => by cases h; kernel_rfl) (noTy rfl)
def ty197 : TyE := ⟨.func #[3] #[42] false, 1, 8, .nilFunc, [], none, false⟩
theorem te197 : TyOk Try.prog 197 ty197 := tyOk_of Try.underlying197 (ti_of (by kernel_rfl) rfl rfl) (fun _ h => by cases h) (noTy rfl)
def ty198 : TyE := ⟨.func #[] #[137] false, 1, 8, .nilFunc, [], none, false⟩
theorem te198 : TyOk Try.prog 198 ty198 := tyOk_of Try.underlying198 (ti_of (by kernel_rfl) rfl rfl) (fun _ h => by cases h) (noTy rfl)
theorem eq28 : EqTy Try.prog 28 := eqTy_of Try.stoodInHeld28 Try.eqGuardType28 Try.underlying28 (by decide)
theorem eq29 : EqTy Try.prog 29 := eqTy_of Try.stoodInHeld29 Try.eqGuardType29 Try.underlying29 (by decide)
theorem eq36 : EqTy Try.prog 36 := eqTy_of Try.stoodInHeld36 Try.eqGuardType36 Try.underlying36 (by decide)
theorem eq37 : EqTy Try.prog 37 := eqTy_of Try.stoodInHeld37 Try.eqGuardType37 Try.underlying37 (by decide)
theorem eq52 : EqTy Try.prog 52 := eqTy_of Try.stoodInHeld52 Try.eqGuardType52 Try.underlying52 (by decide)
theorem eq53 : EqTy Try.prog 53 := eqTy_of Try.stoodInHeld53 Try.eqGuardType53 Try.underlying53 (by decide)
theorem eq65 : EqTy Try.prog 65 := eqTy_of Try.stoodInHeld65 Try.eqGuardType65 Try.underlying65 (by decide)
theorem eq66 : EqTy Try.prog 66 := eqTy_of Try.stoodInHeld66 Try.eqGuardType66 Try.underlying66 (by decide)
theorem eq82 : EqTy Try.prog 82 := eqTy_of Try.stoodInHeld82 Try.eqGuardType82 Try.underlying82 (by decide)
theorem eq83 : EqTy Try.prog 83 := eqTy_of Try.stoodInHeld83 Try.eqGuardType83 Try.underlying83 (by decide)
theorem eq84 : EqTy Try.prog 84 := eqTy_of Try.stoodInHeld84 Try.eqGuardType84 Try.underlying84 (by decide)
theorem eq85 : EqTy Try.prog 85 := eqTy_of Try.stoodInHeld85 Try.eqGuardType85 Try.underlying85 (by decide)
theorem eq86 : EqTy Try.prog 86 := eqTy_of Try.stoodInHeld86 Try.eqGuardType86 Try.underlying86 (by decide)
theorem eq87 : EqTy Try.prog 87 := eqTy_of Try.stoodInHeld87 Try.eqGuardType87 Try.underlying87 (by decide)
theorem eq100 : EqTy Try.prog 100 := eqTy_of Try.stoodInHeld100 Try.eqGuardType100 Try.underlying100 (by decide)
theorem eq101 : EqTy Try.prog 101 := eqTy_of Try.stoodInHeld101 Try.eqGuardType101 Try.underlying101 (by decide)
theorem eq114 : EqTy Try.prog 114 := eqTy_of Try.stoodInHeld114 Try.eqGuardType114 Try.underlying114 (by decide)
theorem eq115 : EqTy Try.prog 115 := eqTy_of Try.stoodInHeld115 Try.eqGuardType115 Try.underlying115 (by decide)
def env : Env := ⟨(.node (.node (.node (.node (.node (.node (.node (.node .nil none .nil) (some ty63) (.node .nil (some ty191) .nil)) (some ty31) (.node (.node .nil none .nil) (some ty95) .nil)) (some ty15) (.node (.node (.node .nil (some ty143) .nil) (some ty79) .nil) (some ty47) (.node (.node .nil (some ty175) .nil) none .nil))) (some ty7) (.node (.node (.node (.node .nil (some ty135) .nil) (some ty71) .nil) (some ty39) (.node (.node .nil (some ty167) .nil) (some ty103) .nil)) (some ty23) (.node (.node (.node .nil (some ty151) .nil) (some ty87) .nil) (some ty55) (.node (.node .nil (some ty183) .nil) (some ty119) .nil)))) (some ty3) (.node (.node (.node (.node (.node .nil (some ty131) .nil) (some ty67) (.node .nil (some ty195) .nil)) (some ty35) (.node (.node .nil (some ty163) .nil) (some ty99) .nil)) (some ty19) (.node (.node (.node .nil (some ty147) .nil) (some ty83) .nil) (some ty51) (.node (.node .nil (some ty179) .nil) (some ty115) .nil))) (some ty11) (.node (.node (.node (.node .nil (some ty139) .nil) (some ty75) .nil) (some ty43) (.node (.node .nil (some ty171) .nil) (some ty107) .nil)) (some ty27) (.node (.node (.node .nil (some ty155) .nil) (some ty91) .nil) (some ty59) (.node (.node .nil (some ty187) .nil) none .nil))))) (some ty1) (.node (.node (.node (.node (.node (.node .nil (some ty129) .nil) (some ty65) (.node .nil (some ty193) .nil)) (some ty33) (.node (.node .nil none .nil) (some ty97) .nil)) (some ty17) (.node (.node (.node .nil (some ty145) .nil) (some ty81) .nil) (some ty49) (.node (.node .nil none .nil) (some ty113) .nil))) (some ty9) (.node (.node (.node (.node .nil (some ty137) .nil) (some ty73) .nil) (some ty41) (.node (.node .nil (some ty169) .nil) (some ty105) .nil)) (some ty25) (.node (.node (.node .nil (some ty153) .nil) (some ty89) .nil) (some ty57) (.node (.node .nil (some ty185) .nil) (some ty121) .nil)))) (some ty5) (.node (.node (.node (.node (.node .nil (some ty133) .nil) none (.node .nil (some ty197) .nil)) (some ty37) (.node (.node .nil (some ty165) .nil) (some ty101) .nil)) (some ty21) (.node (.node (.node .nil (some ty149) .nil) (some ty85) .nil) (some ty53) (.node (.node .nil (some ty181) .nil) (some ty117) .nil))) (some ty13) (.node (.node (.node (.node .nil (some ty141) .nil) (some ty77) .nil) (some ty45) (.node (.node .nil (some ty173) .nil) (some ty109) .nil)) (some ty29) (.node (.node (.node .nil (some ty157) .nil) (some ty93) .nil) (some ty61) (.node (.node .nil (some ty189) .nil) (some ty125) .nil)))))) none (.node (.node (.node (.node (.node (.node (.node .nil (some ty128) .nil) (some ty64) (.node .nil (some ty192) .nil)) (some ty32) (.node (.node .nil (some ty160) .nil) (some ty96) .nil)) (some ty16) (.node (.node (.node .nil (some ty144) .nil) (some ty80) .nil) none (.node (.node .nil (some ty176) .nil) (some ty112) .nil))) (some ty8) (.node (.node (.node (.node .nil (some ty136) .nil) (some ty72) .nil) (some ty40) (.node (.node .nil (some ty168) .nil) none .nil)) (some ty24) (.node (.node (.node .nil (some ty152) .nil) none .nil) (some ty56) (.node (.node .nil (some ty184) .nil) (some ty120) .nil)))) (some ty4) (.node (.node (.node (.node (.node .nil (some ty132) .nil) (some ty68) (.node .nil (some ty196) .nil)) (some ty36) (.node (.node .nil (some ty164) .nil) (some ty100) .nil)) none (.node (.node (.node .nil (some ty148) .nil) (some ty84) .nil) (some ty52) (.node (.node .nil (some ty180) .nil) (some ty116) .nil))) (some ty12) (.node (.node (.node (.node .nil (some ty140) .nil) (some ty76) .nil) (some ty44) (.node (.node .nil none .nil) (some ty108) .nil)) (some ty28) (.node (.node (.node .nil none .nil) none .nil) (some ty60) (.node (.node .nil (some ty188) .nil) (some ty124) .nil))))) (some ty2) (.node (.node (.node (.node (.node (.node .nil (some ty130) .nil) (some ty66) (.node .nil (some ty194) .nil)) none (.node (.node .nil (some ty162) .nil) (some ty98) .nil)) (some ty18) (.node (.node (.node .nil none .nil) (some ty82) .nil) (some ty50) (.node (.node .nil (some ty178) .nil) (some ty114) .nil))) (some ty10) (.node (.node (.node (.node .nil (some ty138) .nil) (some ty74) .nil) (some ty42) (.node (.node .nil (some ty170) .nil) (some ty106) .nil)) none (.node (.node (.node .nil (some ty154) .nil) none .nil) (some ty58) (.node (.node .nil (some ty186) .nil) (some ty122) .nil)))) (some ty6) (.node (.node (.node (.node (.node .nil (some ty134) .nil) (some ty70) (.node .nil (some ty198) .nil)) (some ty38) (.node (.node .nil (some ty166) .nil) none .nil)) (some ty22) (.node (.node (.node .nil (some ty150) .nil) (some ty86) .nil) (some ty54) (.node (.node .nil (some ty182) .nil) (some ty118) .nil))) (some ty14) (.node (.node (.node (.node .nil none .nil) (some ty78) .nil) (some ty46) (.node (.node .nil (some ty174) .nil) (some ty110) .nil)) (some ty30) (.node (.node (.node .nil (some ty158) .nil) (some ty94) .nil) (some ty62) (.node (.node .nil (some ty190) .nil) (some ty126) .nil))))))), [28, 29, 36, 37, 52, 53, 65, 66, 82, 83, 84, 85, 86, 87, 100, 101, 114, 115]⟩
theorem envok : EnvOk Try.prog env := ⟨tget_ok (.no (.yes te1 (.yes te3 (.yes te7 (.yes te15 (.yes te31 (.yes te63 (.no (.nil _ _) (.nil _ _)) (.yes te191 (.nil _ _) (.nil _ _))) (.yes te95 (.no (.nil _ _) (.nil _ _)) (.nil _ _))) (.yes te47 (.yes te79 (.yes te143 (.nil _ _) (.nil _ _)) (.nil _ _)) (.no (.yes te175 (.nil _ _) (.nil _ _)) (.nil _ _)))) (.yes te23 (.yes te39 (.yes te71 (.yes te135 (.nil _ _) (.nil _ _)) (.nil _ _)) (.yes te103 (.yes te167 (.nil _ _) (.nil _ _)) (.nil _ _))) (.yes te55 (.yes te87 (.yes te151 (.nil _ _) (.nil _ _)) (.nil _ _)) (.yes te119 (.yes te183 (.nil _ _) (.nil _ _)) (.nil _ _))))) (.yes te11 (.yes te19 (.yes te35 (.yes te67 (.yes te131 (.nil _ _) (.nil _ _)) (.yes te195 (.nil _ _) (.nil _ _))) (.yes te99 (.yes te163 (.nil _ _) (.nil _ _)) (.nil _ _))) (.yes te51 (.yes te83 (.yes te147 (.nil _ _) (.nil _ _)) (.nil _ _)) (.yes te115 (.yes te179 (.nil _ _) (.nil _ _)) (.nil _ _)))) (.yes te27 (.yes te43 (.yes te75 (.yes te139 (.nil _ _) (.nil _ _)) (.nil _ _)) (.yes te107 (.yes te171 (.nil _ _) (.nil _ _)) (.nil _ _))) (.yes te59 (.yes te91 (.yes te155 (.nil _ _) (.nil _ _)) (.nil _ _)) (.no (.yes te187 (.nil _ _) (.nil _ _)) (.nil _ _)))))) (.yes te5 (.yes te9 (.yes te17 (.yes te33 (.yes te65 (.yes te129 (.nil _ _) (.nil _ _)) (.yes te193 (.nil _ _) (.nil _ _))) (.yes te97 (.no (.nil _ _) (.nil _ _)) (.nil _ _))) (.yes te49 (.yes te81 (.yes te145 (.nil _ _) (.nil _ _)) (.nil _ _)) (.yes te113 (.no (.nil _ _) (.nil _ _)) (.nil _ _)))) (.yes te25 (.yes te41 (.yes te73 (.yes te137 (.nil _ _) (.nil _ _)) (.nil _ _)) (.yes te105 (.yes te169 (.nil _ _) (.nil _ _)) (.nil _ _))) (.yes te57 (.yes te89 (.yes te153 (.nil _ _) (.nil _ _)) (.nil _ _)) (.yes te121 (.yes te185 (.nil _ _) (.nil _ _)) (.nil _ _))))) (.yes te13 (.yes te21 (.yes te37 (.no (.yes te133 (.nil _ _) (.nil _ _)) (.yes te197 (.nil _ _) (.nil _ _))) (.yes te101 (.yes te165 (.nil _ _) (.nil _ _)) (.nil _ _))) (.yes te53 (.yes te85 (.yes te149 (.nil _ _) (.nil _ _)) (.nil _ _)) (.yes te117 (.yes te181 (.nil _ _) (.nil _ _)) (.nil _ _)))) (.yes te29 (.yes te45 (.yes te77 (.yes te141 (.nil _ _) (.nil _ _)) (.nil _ _)) (.yes te109 (.yes te173 (.nil _ _) (.nil _ _)) (.nil _ _))) (.yes te61 (.yes te93 (.yes te157 (.nil _ _) (.nil _ _)) (.nil _ _)) (.yes te125 (.yes te189 (.nil _ _) (.nil _ _)) (.nil _ _))))))) (.yes te2 (.yes te4 (.yes te8 (.yes te16 (.yes te32 (.yes te64 (.yes te128 (.nil _ _) (.nil _ _)) (.yes te192 (.nil _ _) (.nil _ _))) (.yes te96 (.yes te160 (.nil _ _) (.nil _ _)) (.nil _ _))) (.no (.yes te80 (.yes te144 (.nil _ _) (.nil _ _)) (.nil _ _)) (.yes te112 (.yes te176 (.nil _ _) (.nil _ _)) (.nil _ _)))) (.yes te24 (.yes te40 (.yes te72 (.yes te136 (.nil _ _) (.nil _ _)) (.nil _ _)) (.no (.yes te168 (.nil _ _) (.nil _ _)) (.nil _ _))) (.yes te56 (.no (.yes te152 (.nil _ _) (.nil _ _)) (.nil _ _)) (.yes te120 (.yes te184 (.nil _ _) (.nil _ _)) (.nil _ _))))) (.yes te12 (.no (.yes te36 (.yes te68 (.yes te132 (.nil _ _) (.nil _ _)) (.yes te196 (.nil _ _) (.nil _ _))) (.yes te100 (.yes te164 (.nil _ _) (.nil _ _)) (.nil _ _))) (.yes te52 (.yes te84 (.yes te148 (.nil _ _) (.nil _ _)) (.nil _ _)) (.yes te116 (.yes te180 (.nil _ _) (.nil _ _)) (.nil _ _)))) (.yes te28 (.yes te44 (.yes te76 (.yes te140 (.nil _ _) (.nil _ _)) (.nil _ _)) (.yes te108 (.no (.nil _ _) (.nil _ _)) (.nil _ _))) (.yes te60 (.no (.no (.nil _ _) (.nil _ _)) (.nil _ _)) (.yes te124 (.yes te188 (.nil _ _) (.nil _ _)) (.nil _ _)))))) (.yes te6 (.yes te10 (.yes te18 (.no (.yes te66 (.yes te130 (.nil _ _) (.nil _ _)) (.yes te194 (.nil _ _) (.nil _ _))) (.yes te98 (.yes te162 (.nil _ _) (.nil _ _)) (.nil _ _))) (.yes te50 (.yes te82 (.no (.nil _ _) (.nil _ _)) (.nil _ _)) (.yes te114 (.yes te178 (.nil _ _) (.nil _ _)) (.nil _ _)))) (.no (.yes te42 (.yes te74 (.yes te138 (.nil _ _) (.nil _ _)) (.nil _ _)) (.yes te106 (.yes te170 (.nil _ _) (.nil _ _)) (.nil _ _))) (.yes te58 (.no (.yes te154 (.nil _ _) (.nil _ _)) (.nil _ _)) (.yes te122 (.yes te186 (.nil _ _) (.nil _ _)) (.nil _ _))))) (.yes te14 (.yes te22 (.yes te38 (.yes te70 (.yes te134 (.nil _ _) (.nil _ _)) (.yes te198 (.nil _ _) (.nil _ _))) (.no (.yes te166 (.nil _ _) (.nil _ _)) (.nil _ _))) (.yes te54 (.yes te86 (.yes te150 (.nil _ _) (.nil _ _)) (.nil _ _)) (.yes te118 (.yes te182 (.nil _ _) (.nil _ _)) (.nil _ _)))) (.yes te30 (.yes te46 (.yes te78 (.no (.nil _ _) (.nil _ _)) (.nil _ _)) (.yes te110 (.yes te174 (.nil _ _) (.nil _ _)) (.nil _ _))) (.yes te62 (.yes te94 (.yes te158 (.nil _ _) (.nil _ _)) (.nil _ _)) (.yes te126 (.yes te190 (.nil _ _) (.nil _ _)) (.nil _ _)))))))), eqs_ok (.cons eq28 (.cons eq29 (.cons eq36 (.cons eq37 (.cons eq52 (.cons eq53 (.cons eq65 (.cons eq66 (.cons eq82 (.cons eq83 (.cons eq84 (.cons eq85 (.cons eq86 (.cons eq87 (.cons eq100 (.cons eq101 (.cons eq114 (.cons eq115 (.nil))))))))))))))))))), by kernel_rfl⟩
def homes : List (Nat × Nat) := [(58, 0), (81, 1), (117, 8), (139, 2)]
end Go.Proofs.Ytihiooaimdoapaa
