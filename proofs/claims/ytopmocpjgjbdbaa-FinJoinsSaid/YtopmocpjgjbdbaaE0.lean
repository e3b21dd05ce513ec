/- What is known of the program's types and functions. -/
import Derived.Test.YtopmocpjgjbdbaaPvK
import Derived.Test.YtopmocpjgjbdbaaRows
namespace Go.Proofs.Ytopmocpjgjbdbaa
open Go.Pv
set_option maxRecDepth 20000
def ty1 : TyE := ⟨.func #[] #[] false, 1, 8, .nilFunc, [(.d (.v .nilFunc))], []⟩
theorem te1 : TyOk Try.prog 1 ty1 := ⟨Try.underlying1, ti_of (by kernel_rfl) rfl rfl, .v rfl .nil, fun _ h => by cases h⟩
def ty2 : TyE := ⟨.int .i64, 1, 8, .int .i64 0, [(.d (.v (.int .i64 0)))], []⟩
theorem te2 : TyOk Try.prog 2 ty2 := ⟨Try.underlying2, ti_of (by kernel_rfl) rfl rfl, .v rfl .nil, fun _ h => by cases h⟩
def ty3 : TyE := ⟨.int .i64, 1, 8, .int .i64 0, [(.d (.v (.int .i64 0)))], []⟩
theorem te3 : TyOk Try.prog 3 ty3 := ⟨Try.underlying3, ti_of (by kernel_rfl) rfl rfl, .v rfl .nil, fun _ h => by cases h⟩
def ty4 : TyE := ⟨.bool, 1, 1, .bool false, [(.d (.v (.bool false)))], []⟩
theorem te4 : TyOk Try.prog 4 ty4 := ⟨Try.underlying4, ti_of (by kernel_rfl) rfl rfl, .v rfl .nil, fun _ h => by cases h⟩
def ty5 : TyE := ⟨.int .u8, 1, 1, .int .u8 0, [(.d (.v (.int .u8 0)))], []⟩
theorem te5 : TyOk Try.prog 5 ty5 := ⟨Try.underlying5, ti_of (by kernel_rfl) rfl rfl, .v rfl .nil, fun _ h => by cases h⟩
def ty6 : TyE := ⟨.int .u8, 1, 1, .int .u8 0, [(.d (.v (.int .u8 0)))], []⟩
theorem te6 : TyOk Try.prog 6 ty6 := ⟨Try.underlying6, ti_of (by kernel_rfl) rfl rfl, .v rfl .nil, fun _ h => by cases h⟩
def ty7 : TyE := ⟨.struct #[⟨"x", 2, 0, false, "", "runtime", 0⟩, ⟨"y", 3, 1, false, "", "runtime", 8⟩, ⟨"signed", 4, 2, false, "", "runtime", 16⟩, ⟨"code", 6, 3, false, "", "runtime", 17⟩], 4, 24, .agg #[.int .i64 0, .int .i64 0, .bool false, .int .u8 0], [(.d (.v (.int .i64 0))), (.d (.v (.int .i64 0))), (.d (.v (.bool false))), (.d (.v (.int .u8 0)))], [(0, 1), (1, 1), (2, 1), (3, 1)]⟩
theorem te7 : TyOk Try.prog 7 ty7 := ⟨Try.underlying7, ti_of (by kernel_rfl) rfl rfl, .v rfl (.v rfl (.v rfl (.v rfl .nil))), fun fs h w => by cases h; kernel_rfl⟩
def ty8 : TyE := ⟨.struct #[⟨"x", 2, 0, false, "", "runtime", 0⟩, ⟨"y", 3, 1, false, "", "runtime", 8⟩, ⟨"signed", 4, 2, false, "", "runtime", 16⟩, ⟨"code", 6, 3, false, "", "runtime", 17⟩], 4, 24, .agg #[.int .i64 0, .int .i64 0, .bool false, .int .u8 0], [(.d (.v (.int .i64 0))), (.d (.v (.int .i64 0))), (.d (.v (.bool false))), (.d (.v (.int .u8 0)))], [(0, 1), (1, 1), (2, 1), (3, 1)]⟩
theorem te8 : TyOk Try.prog 8 ty8 := ⟨Try.underlying8, ti_of (by kernel_rfl) rfl rfl, .v rfl (.v rfl (.v rfl (.v rfl .nil))), fun fs h w => by cases h; kernel_rfl⟩
def ty12 : TyE := ⟨.int .u64, 1, 8, .int .u64 0, [(.d (.v (.int .u64 0)))], []⟩
theorem te12 : TyOk Try.prog 12 ty12 := ⟨Try.underlying12, ti_of (by kernel_rfl) rfl rfl, .v rfl .nil, fun _ h => by cases h⟩
def ty15 : TyE := ⟨.pointer 63, 1, 8, .pointer none, [(.d (.v (.pointer none)))], []⟩
theorem te15 : TyOk Try.prog 15 ty15 := ⟨Try.underlying15, ti_of (by kernel_rfl) rfl rfl, .v rfl .nil, fun _ h => by cases h⟩
def ty16 : TyE := ⟨.pointer 66, 1, 8, .pointer none, [(.d (.v (.pointer none)))], []⟩
theorem te16 : TyOk Try.prog 16 ty16 := ⟨Try.underlying16, ti_of (by kernel_rfl) rfl rfl, .v rfl .nil, fun _ h => by cases h⟩
def ty17 : TyE := ⟨.pointer 76, 1, 8, .pointer none, [(.d (.v (.pointer none)))], []⟩
theorem te17 : TyOk Try.prog 17 ty17 := ⟨Try.underlying17, ti_of (by kernel_rfl) rfl rfl, .v rfl .nil, fun _ h => by cases h⟩
def ty18 : TyE := ⟨.struct #[⟨"typ", 17, 0, false, "", "internal/runtime/maps", 0⟩], 1, 8, .agg #[.pointer none], [(.d (.v (.pointer none)))], [(0, 1)]⟩
theorem te18 : TyOk Try.prog 18 ty18 := ⟨Try.underlying18, ti_of (by kernel_rfl) rfl rfl, .v rfl .nil, fun fs h w => by cases h; kernel_rfl⟩
def ty19 : TyE := ⟨.struct #[⟨"typ", 17, 0, false, "", "internal/runtime/maps", 0⟩], 1, 8, .agg #[.pointer none], [(.d (.v (.pointer none)))], [(0, 1)]⟩
theorem te19 : TyOk Try.prog 19 ty19 := ⟨Try.underlying19, ti_of (by kernel_rfl) rfl rfl, .v rfl .nil, fun fs h w => by cases h; kernel_rfl⟩
def ty21 : TyE := ⟨.int .i32, 1, 4, .int .i32 0, [(.d (.v (.int .i32 0)))], []⟩
theorem te21 : TyOk Try.prog 21 ty21 := ⟨Try.underlying21, ti_of (by kernel_rfl) rfl rfl, .v rfl .nil, fun _ h => by cases h⟩
def ty22 : TyE := ⟨.slice 32, 1, 24, .slice none 0 0, [(.d (.sl 3 true []))], []⟩
theorem te22 : TyOk Try.prog 22 ty22 := ⟨Try.underlying22, ti_of (by kernel_rfl) rfl rfl, .sl .nil, fun _ h => by cases h⟩
def ty23 : TyE := ⟨.slice 39, 1, 24, .slice none 0 0, [(.d (.sl 1 true []))], []⟩
theorem te23 : TyOk Try.prog 23 ty23 := ⟨Try.underlying23, ti_of (by kernel_rfl) rfl rfl, .sl .nil, fun _ h => by cases h⟩
def ty24 : TyE := ⟨.func #[] #[4] false, 1, 8, .nilFunc, [(.d (.v .nilFunc))], []⟩
theorem te24 : TyOk Try.prog 24 ty24 := ⟨Try.underlying24, ti_of (by kernel_rfl) rfl rfl, .v rfl .nil, fun _ h => by cases h⟩
def ty25 : TyE := ⟨.slice 22, 1, 24, .slice none 0 0, [(.d (.sl 1 true []))], []⟩
theorem te25 : TyOk Try.prog 25 ty25 := ⟨Try.underlying25, ti_of (by kernel_rfl) rfl rfl, .sl .nil, fun _ h => by cases h⟩
def ty26 : TyE := ⟨.func #[25] #[25] false, 1, 8, .nilFunc, [(.d (.v .nilFunc))], []⟩
theorem te26 : TyOk Try.prog 26 ty26 := ⟨Try.underlying26, ti_of (by kernel_rfl) rfl rfl, .v rfl .nil, fun _ h => by cases h⟩
def ty27 : TyE := ⟨.func #[23] #[23] false, 1, 8, .nilFunc, [(.d (.v .nilFunc))], []⟩
theorem te27 : TyOk Try.prog 27 ty27 := ⟨Try.underlying27, ti_of (by kernel_rfl) rfl rfl, .v rfl .nil, fun _ h => by cases h⟩
def ty28 : TyE := ⟨.slice 3, 1, 24, .slice none 0 0, [(.d (.sl 1 true []))], []⟩
theorem te28 : TyOk Try.prog 28 ty28 := ⟨Try.underlying28, ti_of (by kernel_rfl) rfl rfl, .sl .nil, fun _ h => by cases h⟩
def ty30 : TyE := ⟨.func #[22, 23] #[23, 28, 4, 3] false, 1, 8, .nilFunc, [(.d (.v .nilFunc))], []⟩
theorem te30 : TyOk Try.prog 30 ty30 := ⟨Try.underlying30, ti_of (by kernel_rfl) rfl rfl, .v rfl .nil, fun _ h => by cases h⟩
def ty31 : TyE := ⟨.struct #[⟨"Op", 5, 0, false, "", "", 0⟩, ⟨"A", 3, 1, false, "", "", 8⟩, ⟨"B", 3, 2, false, "", "", 16⟩], 3, 24, .agg #[.int .u8 0, .int .i64 0, .int .i64 0], [(.d (.v (.int .u8 0))), (.d (.v (.int .i64 0))), (.d (.v (.int .i64 0)))], [(0, 1), (1, 1), (2, 1)]⟩
theorem te31 : TyOk Try.prog 31 ty31 := ⟨Try.underlying31, ti_of (by kernel_rfl) rfl rfl, .v rfl (.v rfl (.v rfl .nil)), fun fs h w => by cases h; kernel_rfl⟩
def ty32 : TyE := ⟨.struct #[⟨"Op", 5, 0, false, "", "", 0⟩, ⟨"A", 3, 1, false, "", "", 8⟩, ⟨"B", 3, 2, false, "", "", 16⟩], 3, 24, .agg #[.int .u8 0, .int .i64 0, .int .i64 0], [(.d (.v (.int .u8 0))), (.d (.v (.int .i64 0))), (.d (.v (.int .i64 0)))], [(0, 1), (1, 1), (2, 1)]⟩
theorem te32 : TyOk Try.prog 32 ty32 := ⟨Try.underlying32, ti_of (by kernel_rfl) rfl rfl, .v rfl (.v rfl (.v rfl .nil)), fun fs h w => by cases h; kernel_rfl⟩
def ty34 : TyE := ⟨.func #[22, 3, 23] #[3, 23, 28, 4] false, 1, 8, .nilFunc, [(.d (.v .nilFunc))], []⟩
theorem te34 : TyOk Try.prog 34 ty34 := ⟨Try.underlying34, ti_of (by kernel_rfl) rfl rfl, .v rfl .nil, fun _ h => by cases h⟩
def ty35 : TyE := ⟨.func #[23, 23] #[4] false, 1, 8, .nilFunc, [(.d (.v .nilFunc))], []⟩
theorem te35 : TyOk Try.prog 35 ty35 := ⟨Try.underlying35, ti_of (by kernel_rfl) rfl rfl, .v rfl .nil, fun _ h => by cases h⟩
def ty36 : TyE := ⟨.func #[28, 28] #[4] false, 1, 8, .nilFunc, [(.d (.v .nilFunc))], []⟩
theorem te36 : TyOk Try.prog 36 ty36 := ⟨Try.underlying36, ti_of (by kernel_rfl) rfl rfl, .v rfl .nil, fun _ h => by cases h⟩
def ty37 : TyE := ⟨.func #[22, 23] #[4] false, 1, 8, .nilFunc, [(.d (.v .nilFunc))], []⟩
theorem te37 : TyOk Try.prog 37 ty37 := ⟨Try.underlying37, ti_of (by kernel_rfl) rfl rfl, .v rfl .nil, fun _ h => by cases h⟩
def ty38 : TyE := ⟨.array 2 5, 2, 2, .agg #[.int .u8 0, .int .u8 0], [(.d (.v (.int .u8 0))), (.d (.v (.int .u8 0)))], []⟩
theorem te38 : TyOk Try.prog 38 ty38 := ⟨Try.underlying38, ti_of (by kernel_rfl) rfl rfl, .v rfl (.v rfl .nil), fun _ h => by cases h⟩
def ty39 : TyE := ⟨.int .u64, 1, 8, .int .u64 0, [(.d (.v (.int .u64 0)))], []⟩
theorem te39 : TyOk Try.prog 39 ty39 := ⟨Try.underlying39, ti_of (by kernel_rfl) rfl rfl, .v rfl .nil, fun _ h => by cases h⟩
def ty40 : TyE := ⟨.func #[22, 23, 38] #[4] false, 1, 8, .nilFunc, [(.d (.v .nilFunc))], []⟩
theorem te40 : TyOk Try.prog 40 ty40 := ⟨Try.underlying40, ti_of (by kernel_rfl) rfl rfl, .v rfl .nil, fun _ h => by cases h⟩
def ty41 : TyE := ⟨.func #[22, 22, 23] #[4] false, 1, 8, .nilFunc, [(.d (.v .nilFunc))], []⟩
theorem te41 : TyOk Try.prog 41 ty41 := ⟨Try.underlying41, ti_of (by kernel_rfl) rfl rfl, .v rfl .nil, fun _ h => by cases h⟩
def ty42 : TyE := ⟨.func #[25] #[4] false, 1, 8, .nilFunc, [(.d (.v .nilFunc))], []⟩
theorem te42 : TyOk Try.prog 42 ty42 := ⟨Try.underlying42, ti_of (by kernel_rfl) rfl rfl, .v rfl .nil, fun _ h => by cases h⟩
def ty43 : TyE := ⟨.array 2 3, 2, 16, .agg #[.int .i64 0, .int .i64 0], [(.d (.v (.int .i64 0))), (.d (.v (.int .i64 0)))], []⟩
theorem te43 : TyOk Try.prog 43 ty43 := ⟨Try.underlying43, ti_of (by kernel_rfl) rfl rfl, .v rfl (.v rfl .nil), fun _ h => by cases h⟩
def ty44 : TyE := ⟨.func #[25, 3] #[22] false, 1, 8, .nilFunc, [(.d (.v .nilFunc))], []⟩
theorem te44 : TyOk Try.prog 44 ty44 := ⟨Try.underlying44, ti_of (by kernel_rfl) rfl rfl, .v rfl .nil, fun _ h => by cases h⟩
def ty45 : TyE := ⟨.func #[25, 43, 23] #[4] false, 1, 8, .nilFunc, [(.d (.v .nilFunc))], []⟩
theorem te45 : TyOk Try.prog 45 ty45 := ⟨Try.underlying45, ti_of (by kernel_rfl) rfl rfl, .v rfl .nil, fun _ h => by cases h⟩
def ty46 : TyE := ⟨.pointer 48, 1, 8, .pointer none, [(.d (.v (.pointer none)))], []⟩
theorem te46 : TyOk Try.prog 46 ty46 := ⟨Try.underlying46, ti_of (by kernel_rfl) rfl rfl, .v rfl .nil, fun _ h => by cases h⟩
def ty47 : TyE := ⟨.struct #[⟨"slots", 23, 0, false, "", "penfold/fin", 0⟩, ⟨"said", 28, 1, false, "", "penfold/fin", 24⟩, ⟨"held", 4, 2, false, "", "penfold/fin", 48⟩, ⟨"skip", 3, 3, false, "", "penfold/fin", 56⟩], 4, 64, .agg #[.slice none 0 0, .slice none 0 0, .bool false, .int .i64 0], [(.d (.sl 1 true [])), (.d (.sl 1 true [])), (.d (.v (.bool false))), (.d (.v (.int .i64 0)))], [(0, 1), (1, 1), (2, 1), (3, 1)]⟩
theorem te47 : TyOk Try.prog 47 ty47 := ⟨Try.underlying47, ti_of (by kernel_rfl) rfl rfl, .sl (.sl (.v rfl (.v rfl .nil))), fun fs h w => by cases h; kernel_rfl⟩
def ty48 : TyE := ⟨.struct #[⟨"slots", 23, 0, false, "", "penfold/fin", 0⟩, ⟨"said", 28, 1, false, "", "penfold/fin", 24⟩, ⟨"held", 4, 2, false, "", "penfold/fin", 48⟩, ⟨"skip", 3, 3, false, "", "penfold/fin", 56⟩], 4, 64, .agg #[.slice none 0 0, .slice none 0 0, .bool false, .int .i64 0], [(.d (.sl 1 true [])), (.d (.sl 1 true [])), (.d (.v (.bool false))), (.d (.v (.int .i64 0)))], [(0, 1), (1, 1), (2, 1), (3, 1)]⟩
theorem te48 : TyOk Try.prog 48 ty48 := ⟨Try.underlying48, ti_of (by kernel_rfl) rfl rfl, .sl (.sl (.v rfl (.v rfl .nil))), fun fs h w => by cases h; kernel_rfl⟩
def ty49 : TyE := ⟨.func #[3, 3, 3] #[4] false, 1, 8, .nilFunc, [(.d (.v .nilFunc))], []⟩
theorem te49 : TyOk Try.prog 49 ty49 := ⟨Try.underlying49, ti_of (by kernel_rfl) rfl rfl, .v rfl .nil, fun _ h => by cases h⟩
def ty50 : TyE := ⟨.func #[46, 32] #[] false, 1, 8, .nilFunc, [(.d (.v .nilFunc))], []⟩
theorem te50 : TyOk Try.prog 50 ty50 := ⟨Try.underlying50, ti_of (by kernel_rfl) rfl rfl, .v rfl .nil, fun _ h => by cases h⟩
def ty51 : TyE := ⟨.struct #[⟨"a", 3, 0, false, "", "penfold/fin", 0⟩, ⟨"b", 3, 1, false, "", "penfold/fin", 8⟩, ⟨"do", 50, 2, false, "", "penfold/fin", 16⟩], 3, 24, .agg #[.int .i64 0, .int .i64 0, .nilFunc], [(.d (.v (.int .i64 0))), (.d (.v (.int .i64 0))), (.d (.v .nilFunc))], [(0, 1), (1, 1), (2, 1)]⟩
theorem te51 : TyOk Try.prog 51 ty51 := ⟨Try.underlying51, ti_of (by kernel_rfl) rfl rfl, .v rfl (.v rfl (.v rfl .nil)), fun fs h w => by cases h; kernel_rfl⟩
def ty52 : TyE := ⟨.struct #[⟨"a", 3, 0, false, "", "penfold/fin", 0⟩, ⟨"b", 3, 1, false, "", "penfold/fin", 8⟩, ⟨"do", 50, 2, false, "", "penfold/fin", 16⟩], 3, 24, .agg #[.int .i64 0, .int .i64 0, .nilFunc], [(.d (.v (.int .i64 0))), (.d (.v (.int .i64 0))), (.d (.v .nilFunc))], [(0, 1), (1, 1), (2, 1)]⟩
theorem te52 : TyOk Try.prog 52 ty52 := ⟨Try.underlying52, ti_of (by kernel_rfl) rfl rfl, .v rfl (.v rfl (.v rfl .nil)), fun fs h w => by cases h; kernel_rfl⟩
def ty53 : TyE := ⟨.array 5 52, 15, 120, .agg #[.int .i64 0, .int .i64 0, .nilFunc, .int .i64 0, .int .i64 0, .nilFunc, .int .i64 0, .int .i64 0, .nilFunc, .int .i64 0, .int .i64 0, .nilFunc, .int .i64 0, .int .i64 0, .nilFunc], [(.d (.v (.int .i64 0))), (.d (.v (.int .i64 0))), (.d (.v .nilFunc)), (.d (.v (.int .i64 0))), (.d (.v (.int .i64 0))), (.d (.v .nilFunc)), (.d (.v (.int .i64 0))), (.d (.v (.int .i64 0))), (.d (.v .nilFunc)), (.d (.v (.int .i64 0))), (.d (.v (.int .i64 0))), (.d (.v .nilFunc)), (.d (.v (.int .i64 0))), (.d (.v (.int .i64 0))), (.d (.v .nilFunc))], []⟩
theorem te53 : TyOk Try.prog 53 ty53 := ⟨Try.underlying53, ti_of (by kernel_rfl) rfl rfl, .v rfl (.v rfl (.v rfl (.v rfl (.v rfl (.v rfl (.v rfl (.v rfl (.v rfl (.v rfl (.v rfl (.v rfl (.v rfl (.v rfl (.v rfl .nil)))))))))))))), fun _ h => by cases h⟩
def ty54 : TyE := ⟨.func #[] #[53] false, 1, 8, .nilFunc, [(.d (.v .nilFunc))], []⟩
theorem te54 : TyOk Try.prog 54 ty54 := ⟨Try.underlying54, ti_of (by kernel_rfl) rfl rfl, .v rfl .nil, fun _ h => by cases h⟩
def ty55 : TyE := ⟨.func #[32] #[4] false, 1, 8, .nilFunc, [(.d (.v .nilFunc))], []⟩
theorem te55 : TyOk Try.prog 55 ty55 := ⟨Try.underlying55, ti_of (by kernel_rfl) rfl rfl, .v rfl .nil, fun _ h => by cases h⟩
def ty56 : TyE := ⟨.func #[28] #[4] true, 1, 8, .nilFunc, [(.d (.v .nilFunc))], []⟩
theorem te56 : TyOk Try.prog 56 ty56 := ⟨Try.underlying56, ti_of (by kernel_rfl) rfl rfl, .v rfl .nil, fun _ h => by cases h⟩
def ty57 : TyE := ⟨.func #[3, 3] #[4] false, 1, 8, .nilFunc, [(.d (.v .nilFunc))], []⟩
theorem te57 : TyOk Try.prog 57 ty57 := ⟨Try.underlying57, ti_of (by kernel_rfl) rfl rfl, .v rfl .nil, fun _ h => by cases h⟩
def ty58 : TyE := ⟨.func #[28, 59] #[4] false, 1, 8, .nilFunc, [(.d (.v .nilFunc))], []⟩
theorem te58 : TyOk Try.prog 58 ty58 := ⟨Try.underlying58, ti_of (by kernel_rfl) rfl rfl, .v rfl .nil, fun _ h => by cases h⟩
def ty59 : TyE := ⟨.func #[3] #[4] false, 1, 8, .nilFunc, [(.d (.v .nilFunc))], []⟩
theorem te59 : TyOk Try.prog 59 ty59 := ⟨Try.underlying59, ti_of (by kernel_rfl) rfl rfl, .v rfl .nil, fun _ h => by cases h⟩
def ty60 : TyE := ⟨.func #[28, 59] #[3] false, 1, 8, .nilFunc, [(.d (.v .nilFunc))], []⟩
theorem te60 : TyOk Try.prog 60 ty60 := ⟨Try.underlying60, ti_of (by kernel_rfl) rfl rfl, .v rfl .nil, fun _ h => by cases h⟩
def ty61 : TyE := ⟨.func #[] #[9] false, 1, 8, .nilFunc, [(.d (.v .nilFunc))], []⟩
theorem te61 : TyOk Try.prog 61 ty61 := ⟨Try.underlying61, ti_of (by kernel_rfl) rfl rfl, .v rfl .nil, fun _ h => by cases h⟩
def ty64 : TyE := ⟨.array 0 16, 0, 0, .agg #[], [], []⟩
theorem te64 : TyOk Try.prog 64 ty64 := ⟨Try.underlying64, ti_of (by kernel_rfl) rfl rfl, .nil, fun _ h => by cases h⟩
def ty65 : TyE := ⟨.struct #[⟨"_", 64, 0, false, "", "runtime", 0⟩], 0, 0, .agg #[], [], [(0, 0)]⟩
theorem te65 : TyOk Try.prog 65 ty65 := ⟨Try.underlying65, ti_of (by kernel_rfl) rfl rfl, .nil, fun fs h w => by cases h; kernel_rfl⟩
def ty66 : TyE := ⟨.struct #[⟨"_", 64, 0, false, "", "runtime", 0⟩], 0, 0, .agg #[], [], [(0, 0)]⟩
theorem te66 : TyOk Try.prog 66 ty66 := ⟨Try.underlying66, ti_of (by kernel_rfl) rfl rfl, .nil, fun fs h w => by cases h; kernel_rfl⟩
def ty67 : TyE := ⟨.func #[] #[3] false, 1, 8, .nilFunc, [(.d (.v .nilFunc))], []⟩
theorem te67 : TyOk Try.prog 67 ty67 := ⟨Try.underlying67, ti_of (by kernel_rfl) rfl rfl, .v rfl .nil, fun _ h => by cases h⟩
def ty68 : TyE := ⟨.int .u32, 1, 4, .int .u32 0, [(.d (.v (.int .u32 0)))], []⟩
theorem te68 : TyOk Try.prog 68 ty68 := ⟨Try.underlying68, ti_of (by kernel_rfl) rfl rfl, .v rfl .nil, fun _ h => by cases h⟩
def ty69 : TyE := ⟨.int .u8, 1, 1, .int .u8 0, [(.d (.v (.int .u8 0)))], []⟩
theorem te69 : TyOk Try.prog 69 ty69 := ⟨Try.underlying69, ti_of (by kernel_rfl) rfl rfl, .v rfl .nil, fun _ h => by cases h⟩
def ty70 : TyE := ⟨.int .u8, 1, 1, .int .u8 0, [(.d (.v (.int .u8 0)))], []⟩
theorem te70 : TyOk Try.prog 70 ty70 := ⟨Try.underlying70, ti_of (by kernel_rfl) rfl rfl, .v rfl .nil, fun _ h => by cases h⟩
def ty71 : TyE := ⟨.func #[77, 77] #[4] false, 1, 8, .nilFunc, [(.d (.v .nilFunc))], []⟩
theorem te71 : TyOk Try.prog 71 ty71 := ⟨Try.underlying71, ti_of (by kernel_rfl) rfl rfl, .v rfl .nil, fun _ h => by cases h⟩
def ty72 : TyE := ⟨.pointer 5, 1, 8, .pointer none, [(.d (.v (.pointer none)))], []⟩
theorem te72 : TyOk Try.prog 72 ty72 := ⟨Try.underlying72, ti_of (by kernel_rfl) rfl rfl, .v rfl .nil, fun _ h => by cases h⟩
def ty73 : TyE := ⟨.int .i32, 1, 4, .int .i32 0, [(.d (.v (.int .i32 0)))], []⟩
theorem te73 : TyOk Try.prog 73 ty73 := ⟨Try.underlying73, ti_of (by kernel_rfl) rfl rfl, .v rfl .nil, fun _ h => by cases h⟩
def ty74 : TyE := ⟨.int .i32, 1, 4, .int .i32 0, [(.d (.v (.int .i32 0)))], []⟩
theorem te74 : TyOk Try.prog 74 ty74 := ⟨Try.underlying74, ti_of (by kernel_rfl) rfl rfl, .v rfl .nil, fun _ h => by cases h⟩
def ty75 : TyE := ⟨.struct #[⟨"Size_", 12, 0, false, "", "", 0⟩, ⟨"PtrBytes", 12, 1, false, "", "", 8⟩, ⟨"Hash", 68, 2, false, "", "", 16⟩, ⟨"TFlag", 69, 3, false, "", "", 20⟩, ⟨"Align_", 5, 4, false, "", "", 21⟩, ⟨"FieldAlign_", 5, 5, false, "", "", 22⟩, ⟨"Kind_", 70, 6, false, "", "", 23⟩, ⟨"Equal", 71, 7, false, "", "", 24⟩, ⟨"GCData", 72, 8, false, "", "", 32⟩, ⟨"Str", 73, 9, false, "", "", 40⟩, ⟨"PtrToThis", 74, 10, false, "", "", 44⟩], 11, 48, .agg #[.int .u64 0, .int .u64 0, .int .u32 0, .int .u8 0, .int .u8 0, .int .u8 0, .int .u8 0, .nilFunc, .pointer none, .int .i32 0, .int .i32 0], [(.d (.v (.int .u64 0))), (.d (.v (.int .u64 0))), (.d (.v (.int .u32 0))), (.d (.v (.int .u8 0))), (.d (.v (.int .u8 0))), (.d (.v (.int .u8 0))), (.d (.v (.int .u8 0))), (.d (.v .nilFunc)), (.d (.v (.pointer none))), (.d (.v (.int .i32 0))), (.d (.v (.int .i32 0)))], [(0, 1), (1, 1), (2, 1), (3, 1), (4, 1), (5, 1), (6, 1), (7, 1), (8, 1), (9, 1), (10, 1)]⟩
theorem te75 : TyOk Try.prog 75 ty75 := ⟨Try.underlying75, ti_of (by kernel_rfl) rfl rfl, .v rfl (.v rfl (.v rfl (.v rfl (.v rfl (.v rfl (.v rfl (.v rfl (.v rfl (.v rfl (.v rfl .nil)))))))))), fun fs h w => by cases h; kernel_rfl⟩
def ty76 : TyE := ⟨.struct #[⟨"Size_", 12, 0, false, "", "", 0⟩, ⟨"PtrBytes", 12, 1, false, "", "", 8⟩, ⟨"Hash", 68, 2, false, "", "", 16⟩, ⟨"TFlag", 69, 3, false, "", "", 20⟩, ⟨"Align_", 5, 4, false, "", "", 21⟩, ⟨"FieldAlign_", 5, 5, false, "", "", 22⟩, ⟨"Kind_", 70, 6, false, "", "", 23⟩, ⟨"Equal", 71, 7, false, "", "", 24⟩, ⟨"GCData", 72, 8, false, "", "", 32⟩, ⟨"Str", 73, 9, false, "", "", 40⟩, ⟨"PtrToThis", 74, 10, false, "", "", 44⟩], 11, 48, .agg #[.int .u64 0, .int .u64 0, .int .u32 0, .int .u8 0, .int .u8 0, .int .u8 0, .int .u8 0, .nilFunc, .pointer none, .int .i32 0, .int .i32 0], [(.d (.v (.int .u64 0))), (.d (.v (.int .u64 0))), (.d (.v (.int .u32 0))), (.d (.v (.int .u8 0))), (.d (.v (.int .u8 0))), (.d (.v (.int .u8 0))), (.d (.v (.int .u8 0))), (.d (.v .nilFunc)), (.d (.v (.pointer none))), (.d (.v (.int .i32 0))), (.d (.v (.int .i32 0)))], [(0, 1), (1, 1), (2, 1), (3, 1), (4, 1), (5, 1), (6, 1), (7, 1), (8, 1), (9, 1), (10, 1)]⟩
theorem te76 : TyOk Try.prog 76 ty76 := ⟨Try.underlying76, ti_of (by kernel_rfl) rfl rfl, .v rfl (.v rfl (.v rfl (.v rfl (.v rfl (.v rfl (.v rfl (.v rfl (.v rfl (.v rfl (.v rfl .nil)))))))))), fun fs h w => by cases h; kernel_rfl⟩
theorem fk2 : FnOk Try.prog 2 := ⟨Try.f2, Try.func2, rfl, rfl⟩
theorem fk3 : FnOk Try.prog 3 := ⟨Try.f3, Try.func3, rfl, rfl⟩
theorem fk4 : FnOk Try.prog 4 := ⟨Try.f4, Try.func4, rfl, rfl⟩
theorem fk5 : FnOk Try.prog 5 := ⟨Try.f5, Try.func5, rfl, rfl⟩
theorem fk6 : FnOk Try.prog 6 := ⟨Try.f6, Try.func6, rfl, rfl⟩
theorem fk7 : FnOk Try.prog 7 := ⟨Try.f7, Try.func7, rfl, rfl⟩
theorem fk8 : FnOk Try.prog 8 := ⟨Try.f8, Try.func8, rfl, rfl⟩
theorem fk9 : FnOk Try.prog 9 := ⟨Try.f9, Try.func9, rfl, rfl⟩
theorem fk10 : FnOk Try.prog 10 := ⟨Try.f10, Try.func10, rfl, rfl⟩
theorem fk11 : FnOk Try.prog 11 := ⟨Try.f11, Try.func11, rfl, rfl⟩
theorem fk12 : FnOk Try.prog 12 := ⟨Try.f12, Try.func12, rfl, rfl⟩
theorem fk13 : FnOk Try.prog 13 := ⟨Try.f13, Try.func13, rfl, rfl⟩
theorem fk14 : FnOk Try.prog 14 := ⟨Try.f14, Try.func14, rfl, rfl⟩
theorem fk15 : FnOk Try.prog 15 := ⟨Try.f15, Try.func15, rfl, rfl⟩
theorem fk16 : FnOk Try.prog 16 := ⟨Try.f16, Try.func16, rfl, rfl⟩
theorem fk17 : FnOk Try.prog 17 := ⟨Try.f17, Try.func17, rfl, rfl⟩
theorem fk18 : FnOk Try.prog 18 := ⟨Try.f18, Try.func18, rfl, rfl⟩
theorem fk19 : FnOk Try.prog 19 := ⟨Try.f19, Try.func19, rfl, rfl⟩
theorem fk20 : FnOk Try.prog 20 := ⟨Try.f20, Try.func20, rfl, rfl⟩
theorem fk21 : FnOk Try.prog 21 := ⟨Try.f21, Try.func21, rfl, rfl⟩
theorem fk22 : FnOk Try.prog 22 := ⟨Try.f22, Try.func22, rfl, rfl⟩
theorem fk23 : FnOk Try.prog 23 := ⟨Try.f23, Try.func23, rfl, rfl⟩
theorem fk24 : FnOk Try.prog 24 := ⟨Try.f24, Try.func24, rfl, rfl⟩
theorem fk25 : FnOk Try.prog 25 := ⟨Try.f25, Try.func25, rfl, rfl⟩
theorem fk26 : FnOk Try.prog 26 := ⟨Try.f26, Try.func26, rfl, rfl⟩
theorem fk27 : FnOk Try.prog 27 := ⟨Try.f27, Try.func27, rfl, rfl⟩
theorem fk28 : FnOk Try.prog 28 := ⟨Try.f28, Try.func28, rfl, rfl⟩
theorem fk29 : FnOk Try.prog 29 := ⟨Try.f29, Try.func29, rfl, rfl⟩
theorem fk30 : FnOk Try.prog 30 := ⟨Try.f30, Try.func30, rfl, rfl⟩
theorem fk31 : FnOk Try.prog 31 := ⟨Try.f31, Try.func31, rfl, rfl⟩
theorem fk32 : FnOk Try.prog 32 := ⟨Try.f32, Try.func32, rfl, rfl⟩
theorem fk33 : FnOk Try.prog 33 := ⟨Try.f33, Try.func33, rfl, rfl⟩
theorem fk34 : FnOk Try.prog 34 := ⟨Try.f34, Try.func34, rfl, rfl⟩
theorem eq31 : EqTy Try.prog 31 := eqTy_of Try.stoodInHeld31 Try.eqGuardType31 Try.underlying31 (by decide)
theorem eq32 : EqTy Try.prog 32 := eqTy_of Try.stoodInHeld32 Try.eqGuardType32 Try.underlying32 (by decide)
def env : Env := ⟨[(1, ty1), (2, ty2), (3, ty3), (4, ty4), (5, ty5), (6, ty6), (7, ty7), (8, ty8), (12, ty12), (15, ty15), (16, ty16), (17, ty17), (18, ty18), (19, ty19), (21, ty21), (22, ty22), (23, ty23), (24, ty24), (25, ty25), (26, ty26), (27, ty27), (28, ty28), (30, ty30), (31, ty31), (32, ty32), (34, ty34), (35, ty35), (36, ty36), (37, ty37), (38, ty38), (39, ty39), (40, ty40), (41, ty41), (42, ty42), (43, ty43), (44, ty44), (45, ty45), (46, ty46), (47, ty47), (48, ty48), (49, ty49), (50, ty50), (51, ty51), (52, ty52), (53, ty53), (54, ty54), (55, ty55), (56, ty56), (57, ty57), (58, ty58), (59, ty59), (60, ty60), (61, ty61), (64, ty64), (65, ty65), (66, ty66), (67, ty67), (68, ty68), (69, ty69), (70, ty70), (71, ty71), (72, ty72), (73, ty73), (74, ty74), (75, ty75), (76, ty76)], [2, 3, 4, 5, 6, 7, 8, 9, 10, 11, 12, 13, 14, 15, 16, 17, 18, 19, 20, 21, 22, 23, 24, 25, 26, 27, 28, 29, 30, 31, 32, 33, 34], [31, 32]⟩
theorem envok : EnvOk Try.prog env := ⟨tget_ok (.cons te1 (.cons te2 (.cons te3 (.cons te4 (.cons te5 (.cons te6 (.cons te7 (.cons te8 (.cons te12 (.cons te15 (.cons te16 (.cons te17 (.cons te18 (.cons te19 (.cons te21 (.cons te22 (.cons te23 (.cons te24 (.cons te25 (.cons te26 (.cons te27 (.cons te28 (.cons te30 (.cons te31 (.cons te32 (.cons te34 (.cons te35 (.cons te36 (.cons te37 (.cons te38 (.cons te39 (.cons te40 (.cons te41 (.cons te42 (.cons te43 (.cons te44 (.cons te45 (.cons te46 (.cons te47 (.cons te48 (.cons te49 (.cons te50 (.cons te51 (.cons te52 (.cons te53 (.cons te54 (.cons te55 (.cons te56 (.cons te57 (.cons te58 (.cons te59 (.cons te60 (.cons te61 (.cons te64 (.cons te65 (.cons te66 (.cons te67 (.cons te68 (.cons te69 (.cons te70 (.cons te71 (.cons te72 (.cons te73 (.cons te74 (.cons te75 (.cons te76 (.nil))))))))))))))))))))))))))))))))))))))))))))))))))))))))))))))))))), fns_ok (.cons fk2 (.cons fk3 (.cons fk4 (.cons fk5 (.cons fk6 (.cons fk7 (.cons fk8 (.cons fk9 (.cons fk10 (.cons fk11 (.cons fk12 (.cons fk13 (.cons fk14 (.cons fk15 (.cons fk16 (.cons fk17 (.cons fk18 (.cons fk19 (.cons fk20 (.cons fk21 (.cons fk22 (.cons fk23 (.cons fk24 (.cons fk25 (.cons fk26 (.cons fk27 (.cons fk28 (.cons fk29 (.cons fk30 (.cons fk31 (.cons fk32 (.cons fk33 (.cons fk34 (.nil)))))))))))))))))))))))))))))))))), eqs_ok (.cons eq31 (.cons eq32 (.nil))), by kernel_rfl⟩
end Go.Proofs.Ytopmocpjgjbdbaa
