/- The seat's types as a table, and that the program has them so. Printed by a program (mktt.py). -/
import Derived.Test.YtdkdepibclhkmaaVcJ
import Derived.Test.YtdkdepibclhkmaaRows
namespace Go.Proofs.Ytdkdepibclhkmaa
open Go.Vc
def ti1 : TI := ⟨.func, .any, 1, 8, [.v (.nilFunc)], false⟩
def ti2 : TI := ⟨.int .i64, (.int .i64), 1, 8, [.v (.int .i64 0)], false⟩
def ti3 : TI := ⟨.int .i64, (.int .i64), 1, 8, [.v (.int .i64 0)], false⟩
def ti4 : TI := ⟨.bool, .bool, 1, 1, [.v (.bool false)], false⟩
def ti5 : TI := ⟨.int .u8, (.int .u8), 1, 1, [.v (.int .u8 0)], false⟩
def ti6 : TI := ⟨.int .u8, (.int .u8), 1, 1, [.v (.int .u8 0)], false⟩
def ti7 : TI := ⟨.struct [(0, 2), (1, 3), (2, 4), (3, 6)], (.st (.pair (.int .i64) (.pair (.int .i64) (.pair .bool (.int .u8))))), 4, 24, [.v (.int .i64 0), .v (.int .i64 0), .v (.bool false), .v (.int .u8 0)], true⟩
def ti8 : TI := ⟨.struct [(0, 2), (1, 3), (2, 4), (3, 6)], (.st (.pair (.int .i64) (.pair (.int .i64) (.pair .bool (.int .u8))))), 4, 24, [.v (.int .i64 0), .v (.int .i64 0), .v (.bool false), .v (.int .u8 0)], true⟩
def ti9 : TI := ⟨.str, .str, 1, 16, [.v (.string ByteArray.empty)], false⟩
def ti10 : TI := ⟨.str, .str, 1, 16, [.v (.string ByteArray.empty)], false⟩
def ti11 : TI := ⟨.str, .str, 1, 16, [.v (.string ByteArray.empty)], false⟩
def ti12 : TI := ⟨.int .u64, (.int .u64), 1, 8, [.v (.int .u64 0)], false⟩
def ti13 : TI := ⟨.struct [(0, 9), (1, 12)], (.st (.pair .str (.int .u64))), 2, 24, [.v (.string ByteArray.empty), .v (.int .u64 0)], false⟩
def ti14 : TI := ⟨.struct [(0, 9), (1, 12)], (.st (.pair .str (.int .u64))), 2, 24, [.v (.string ByteArray.empty), .v (.int .u64 0)], false⟩
def ti15 : TI := ⟨.ptr 92, .any, 1, 8, [.v (.pointer none)], false⟩
def ti16 : TI := ⟨.ptr 95, .any, 1, 8, [.v (.pointer none)], false⟩
def ti17 : TI := ⟨.ptr 103, .any, 1, 8, [.v (.pointer none)], false⟩
def ti18 : TI := ⟨.struct [(0, 17)], (.st .any), 1, 8, [.v (.pointer none)], false⟩
def ti19 : TI := ⟨.struct [(0, 17)], (.st .any), 1, 8, [.v (.pointer none)], false⟩
def ti20 : TI := ⟨.iface, .any, 1, 16, [.v (.nilIface)], false⟩
def ti21 : TI := ⟨.int .i32, (.int .i32), 1, 4, [.v (.int .i32 0)], false⟩
def ti22 : TI := ⟨.slice 29, .slice, 1, 24, [.v (.slice none 0 0)], false⟩
def ti23 : TI := ⟨.func, .any, 1, 8, [.v (.nilFunc)], false⟩
def ti24 : TI := ⟨.func, .any, 1, 8, [.v (.nilFunc)], false⟩
def ti25 : TI := ⟨.struct [(0, 22)], (.st .slice), 1, 24, [.v (.slice none 0 0)], false⟩
def ti26 : TI := ⟨.struct [(0, 22)], (.st .slice), 1, 24, [.v (.slice none 0 0)], false⟩
def ti27 : TI := ⟨.slice 34, .slice, 1, 24, [.v (.slice none 0 0)], false⟩
def ti28 : TI := ⟨.struct [(0, 3), (1, 2), (2, 2)], (.st (.pair (.int .i64) (.pair (.int .i64) (.int .i64)))), 3, 24, [.v (.int .i64 0), .v (.int .i64 0), .v (.int .i64 0)], true⟩
def ti29 : TI := ⟨.struct [(0, 3), (1, 2), (2, 2)], (.st (.pair (.int .i64) (.pair (.int .i64) (.int .i64)))), 3, 24, [.v (.int .i64 0), .v (.int .i64 0), .v (.int .i64 0)], true⟩
def ti30 : TI := ⟨.int .i64, (.int .i64), 1, 8, [.v (.int .i64 0)], false⟩
def ti32 : TI := ⟨.func, .any, 1, 8, [.v (.nilFunc)], false⟩
def ti33 : TI := ⟨.func, .any, 1, 8, [.v (.nilFunc)], false⟩
def ti34 : TI := ⟨.struct [(0, 3), (1, 2), (2, 2)], (.st (.pair (.int .i64) (.pair (.int .i64) (.int .i64)))), 3, 24, [.v (.int .i64 0), .v (.int .i64 0), .v (.int .i64 0)], true⟩
def ti35 : TI := ⟨.func, .any, 1, 8, [.v (.nilFunc)], false⟩
def ti36 : TI := ⟨.func, .any, 1, 8, [.v (.nilFunc)], false⟩
def ti37 : TI := ⟨.slice 2, .slice, 1, 24, [.v (.slice none 0 0)], false⟩
def ti38 : TI := ⟨.slice 30, .slice, 1, 24, [.v (.slice none 0 0)], false⟩
def ti40 : TI := ⟨.func, .any, 1, 8, [.v (.nilFunc)], false⟩
def ti41 : TI := ⟨.map 3 4, .map, 1, 8, [.v (.map none)], false⟩
def ti42 : TI := ⟨.func, .any, 1, 8, [.v (.nilFunc)], false⟩
def ti43 : TI := ⟨.slice 3, .slice, 1, 24, [.v (.slice none 0 0)], false⟩
def ti45 : TI := ⟨.func, .any, 1, 8, [.v (.nilFunc)], false⟩
def ti46 : TI := ⟨.map 3 3, .map, 1, 8, [.v (.map none)], false⟩
def ti47 : TI := ⟨.func, .any, 1, 8, [.v (.nilFunc)], false⟩
def ti48 : TI := ⟨.func, .any, 1, 8, [.v (.nilFunc)], false⟩
def ti49 : TI := ⟨.func, .any, 1, 8, [.v (.nilFunc)], false⟩
def ti50 : TI := ⟨.func, .any, 1, 8, [.v (.nilFunc)], false⟩
def ti51 : TI := ⟨.map 29 4, .map, 1, 8, [.v (.map none)], false⟩
def ti52 : TI := ⟨.func, .any, 1, 8, [.v (.nilFunc)], false⟩
def ti53 : TI := ⟨.func, .any, 1, 8, [.v (.nilFunc)], false⟩
def ti54 : TI := ⟨.func, .any, 1, 8, [.v (.nilFunc)], false⟩
def ti55 : TI := ⟨.func, .any, 1, 8, [.v (.nilFunc)], false⟩
def ti56 : TI := ⟨.func, .any, 1, 8, [.v (.nilFunc)], false⟩
def ti57 : TI := ⟨.map 2 4, .map, 1, 8, [.v (.map none)], false⟩
def ti58 : TI := ⟨.func, .any, 1, 8, [.v (.nilFunc)], false⟩
def ti59 : TI := ⟨.func, .any, 1, 8, [.v (.nilFunc)], false⟩
def ti60 : TI := ⟨.func, .any, 1, 8, [.v (.nilFunc)], false⟩
def ti61 : TI := ⟨.func, .any, 1, 8, [.v (.nilFunc)], false⟩
def ti62 : TI := ⟨.func, .any, 1, 8, [.v (.nilFunc)], false⟩
def ti63 : TI := ⟨.func, .any, 1, 8, [.v (.nilFunc)], false⟩
def ti64 : TI := ⟨.func, .any, 1, 8, [.v (.nilFunc)], false⟩
def ti65 : TI := ⟨.int .u64, (.int .u64), 1, 8, [.v (.int .u64 0)], false⟩
def ti66 : TI := ⟨.func, .any, 1, 8, [.v (.nilFunc)], false⟩
def ti67 : TI := ⟨.func, .any, 1, 8, [.v (.nilFunc)], false⟩
def ti68 : TI := ⟨.int .i64, (.int .i64), 1, 8, [.v (.int .i64 0)], false⟩
def ti70 : TI := ⟨.func, .any, 1, 8, [.v (.nilFunc)], false⟩
def ti71 : TI := ⟨.func, .any, 1, 8, [.v (.nilFunc)], false⟩
def ti72 : TI := ⟨.func, .any, 1, 8, [.v (.nilFunc)], false⟩
def ti73 : TI := ⟨.func, .any, 1, 8, [.v (.nilFunc)], false⟩
def ti75 : TI := ⟨.func, .any, 1, 8, [.v (.nilFunc)], false⟩
def ti76 : TI := ⟨.func, .any, 1, 8, [.v (.nilFunc)], false⟩
def ti77 : TI := ⟨.int .u32, (.int .u32), 1, 4, [.v (.int .u32 0)], false⟩
def ti78 : TI := ⟨.func, .any, 1, 8, [.v (.nilFunc)], false⟩
def ti79 : TI := ⟨.int .u64, (.int .u64), 1, 8, [.v (.int .u64 0)], false⟩
def ti80 : TI := ⟨.int .u64, (.int .u64), 1, 8, [.v (.int .u64 0)], false⟩
def ti81 : TI := ⟨.func, .any, 1, 8, [.v (.nilFunc)], false⟩
def ti82 : TI := ⟨.func, .any, 1, 8, [.v (.nilFunc)], false⟩
def ti83 : TI := ⟨.func, .any, 1, 8, [.v (.nilFunc)], false⟩
def ti84 : TI := ⟨.ptr 3, .any, 1, 8, [.v (.pointer none)], false⟩
def ti85 : TI := ⟨.func, .any, 1, 8, [.v (.nilFunc)], false⟩
def ti86 : TI := ⟨.func, .any, 1, 8, [.v (.nilFunc)], false⟩
def ti87 : TI := ⟨.ptr 80, .any, 1, 8, [.v (.pointer none)], false⟩
def ti89 : TI := ⟨.func, .any, 1, 8, [.v (.nilFunc)], false⟩
def ti90 : TI := ⟨.func, .any, 1, 8, [.v (.nilFunc)], false⟩
def ti91 : TI := ⟨.struct [(0, 17), (1, 17), (2, 17), (3, 9)], (.st (.pair .any (.pair .any (.pair .any .str)))), 4, 40, [.v (.pointer none), .v (.pointer none), .v (.pointer none), .v (.string ByteArray.empty)], false⟩
def ti92 : TI := ⟨.struct [(0, 17), (1, 17), (2, 17), (3, 9)], (.st (.pair .any (.pair .any (.pair .any .str)))), 4, 40, [.v (.pointer none), .v (.pointer none), .v (.pointer none), .v (.string ByteArray.empty)], false⟩
def ti96 : TI := ⟨.int .u8, (.int .u8), 1, 1, [.v (.int .u8 0)], false⟩
def ti97 : TI := ⟨.int .u8, (.int .u8), 1, 1, [.v (.int .u8 0)], false⟩
def ti98 : TI := ⟨.func, .any, 1, 8, [.v (.nilFunc)], false⟩
def ti99 : TI := ⟨.ptr 5, .any, 1, 8, [.v (.pointer none)], false⟩
def ti100 : TI := ⟨.int .i32, (.int .i32), 1, 4, [.v (.int .i32 0)], false⟩
def ti101 : TI := ⟨.int .i32, (.int .i32), 1, 4, [.v (.int .i32 0)], false⟩
def ti102 : TI := ⟨.struct [(0, 12), (1, 12), (2, 77), (3, 96), (4, 5), (5, 5), (6, 97), (7, 98), (8, 99), (9, 100), (10, 101)], (.st (.pair (.int .u64) (.pair (.int .u64) (.pair (.int .u32) (.pair (.int .u8) (.pair (.int .u8) (.pair (.int .u8) (.pair (.int .u8) (.pair .any (.pair .any (.pair (.int .i32) (.int .i32)))))))))))), 11, 48, [.v (.int .u64 0), .v (.int .u64 0), .v (.int .u32 0), .v (.int .u8 0), .v (.int .u8 0), .v (.int .u8 0), .v (.int .u8 0), .v (.nilFunc), .v (.pointer none), .v (.int .i32 0), .v (.int .i32 0)], false⟩
def ti103 : TI := ⟨.struct [(0, 12), (1, 12), (2, 77), (3, 96), (4, 5), (5, 5), (6, 97), (7, 98), (8, 99), (9, 100), (10, 101)], (.st (.pair (.int .u64) (.pair (.int .u64) (.pair (.int .u32) (.pair (.int .u8) (.pair (.int .u8) (.pair (.int .u8) (.pair (.int .u8) (.pair .any (.pair .any (.pair (.int .i32) (.int .i32)))))))))))), 11, 48, [.v (.int .u64 0), .v (.int .u64 0), .v (.int .u32 0), .v (.int .u8 0), .v (.int .u8 0), .v (.int .u8 0), .v (.int .u8 0), .v (.nilFunc), .v (.pointer none), .v (.int .i32 0), .v (.int .i32 0)], false⟩
def tree : TTree := (.node 51 ti51 (.node 24 ti24 (.node 12 ti12 (.node 6 ti6 (.node 3 ti3 (.node 2 ti2 (.node 1 ti1 .leaf .leaf) .leaf) (.node 5 ti5 (.node 4 ti4 .leaf .leaf) .leaf)) (.node 9 ti9 (.node 8 ti8 (.node 7 ti7 .leaf .leaf) .leaf) (.node 11 ti11 (.node 10 ti10 .leaf .leaf) .leaf))) (.node 18 ti18 (.node 15 ti15 (.node 14 ti14 (.node 13 ti13 .leaf .leaf) .leaf) (.node 17 ti17 (.node 16 ti16 .leaf .leaf) .leaf)) (.node 21 ti21 (.node 20 ti20 (.node 19 ti19 .leaf .leaf) .leaf) (.node 23 ti23 (.node 22 ti22 .leaf .leaf) .leaf)))) (.node 37 ti37 (.node 30 ti30 (.node 27 ti27 (.node 26 ti26 (.node 25 ti25 .leaf .leaf) .leaf) (.node 29 ti29 (.node 28 ti28 .leaf .leaf) .leaf)) (.node 34 ti34 (.node 33 ti33 (.node 32 ti32 .leaf .leaf) .leaf) (.node 36 ti36 (.node 35 ti35 .leaf .leaf) .leaf))) (.node 45 ti45 (.node 41 ti41 (.node 40 ti40 (.node 38 ti38 .leaf .leaf) .leaf) (.node 43 ti43 (.node 42 ti42 .leaf .leaf) .leaf)) (.node 48 ti48 (.node 47 ti47 (.node 46 ti46 .leaf .leaf) .leaf) (.node 50 ti50 (.node 49 ti49 .leaf .leaf) .leaf))))) (.node 77 ti77 (.node 63 ti63 (.node 57 ti57 (.node 54 ti54 (.node 53 ti53 (.node 52 ti52 .leaf .leaf) .leaf) (.node 56 ti56 (.node 55 ti55 .leaf .leaf) .leaf)) (.node 60 ti60 (.node 59 ti59 (.node 58 ti58 .leaf .leaf) .leaf) (.node 62 ti62 (.node 61 ti61 .leaf .leaf) .leaf))) (.node 70 ti70 (.node 66 ti66 (.node 65 ti65 (.node 64 ti64 .leaf .leaf) .leaf) (.node 68 ti68 (.node 67 ti67 .leaf .leaf) .leaf)) (.node 73 ti73 (.node 72 ti72 (.node 71 ti71 .leaf .leaf) .leaf) (.node 76 ti76 (.node 75 ti75 .leaf .leaf) .leaf)))) (.node 90 ti90 (.node 83 ti83 (.node 80 ti80 (.node 79 ti79 (.node 78 ti78 .leaf .leaf) .leaf) (.node 82 ti82 (.node 81 ti81 .leaf .leaf) .leaf)) (.node 86 ti86 (.node 85 ti85 (.node 84 ti84 .leaf .leaf) .leaf) (.node 89 ti89 (.node 87 ti87 .leaf .leaf) .leaf))) (.node 99 ti99 (.node 96 ti96 (.node 92 ti92 (.node 91 ti91 .leaf .leaf) .leaf) (.node 98 ti98 (.node 97 ti97 .leaf .leaf) .leaf)) (.node 102 ti102 (.node 101 ti101 (.node 100 ti100 .leaf .leaf) .leaf) (.node 103 ti103 .leaf .leaf))))))
def tt : Nat → Option TI := tree.look
theorem fits1 : Fits Try.prog 1 ti1 := fits_mk (vs := [.nilFunc]) ⟨_, _, _, Try.underlying1⟩ Try.underlying1 rfl (by decide) rfl (by kernel_rfl) rfl rfl rfl (fun h => by cases h)
theorem fits2 : Fits Try.prog 2 ti2 := fits_mk (vs := [.int .i64 0]) Try.underlying2 Try.underlying2 rfl (by decide) rfl (by kernel_rfl) rfl rfl rfl (fun h => by cases h)
theorem fits3 : Fits Try.prog 3 ti3 := fits_mk (vs := [.int .i64 0]) Try.underlying3 Try.underlying3 rfl (by decide) rfl (by kernel_rfl) rfl rfl rfl (fun h => by cases h)
theorem fits4 : Fits Try.prog 4 ti4 := fits_mk (vs := [.bool false]) Try.underlying4 Try.underlying4 rfl (by decide) rfl (by kernel_rfl) rfl rfl rfl (fun h => by cases h)
theorem fits5 : Fits Try.prog 5 ti5 := fits_mk (vs := [.int .u8 0]) Try.underlying5 Try.underlying5 rfl (by decide) rfl (by kernel_rfl) rfl rfl rfl (fun h => by cases h)
theorem fits6 : Fits Try.prog 6 ti6 := fits_mk (vs := [.int .u8 0]) Try.underlying6 Try.underlying6 rfl (by decide) rfl (by kernel_rfl) rfl rfl rfl (fun h => by cases h)
theorem fits7 : Fits Try.prog 7 ti7 := fits_mk (vs := [.int .i64 0, .int .i64 0, .bool false, .int .u8 0]) ⟨_, Try.underlying7, rfl, by kernel_rfl⟩ Try.underlying7 rfl (by decide) rfl (by kernel_rfl) rfl rfl rfl (fun _ => ⟨by kernel_rfl, by kernel_rfl, by kernel_rfl⟩)
theorem fits8 : Fits Try.prog 8 ti8 := fits_mk (vs := [.int .i64 0, .int .i64 0, .bool false, .int .u8 0]) ⟨_, Try.underlying8, rfl, by kernel_rfl⟩ Try.underlying8 rfl (by decide) rfl (by kernel_rfl) rfl rfl rfl (fun _ => ⟨by kernel_rfl, by kernel_rfl, by kernel_rfl⟩)
theorem fits9 : Fits Try.prog 9 ti9 := fits_mk (vs := [.string ByteArray.empty]) Try.underlying9 Try.underlying9 rfl (by decide) rfl (by kernel_rfl) rfl rfl rfl (fun h => by cases h)
theorem fits10 : Fits Try.prog 10 ti10 := fits_mk (vs := [.string ByteArray.empty]) Try.underlying10 Try.underlying10 rfl (by decide) rfl (by kernel_rfl) rfl rfl rfl (fun h => by cases h)
theorem fits11 : Fits Try.prog 11 ti11 := fits_mk (vs := [.string ByteArray.empty]) Try.underlying11 Try.underlying11 rfl (by decide) rfl (by kernel_rfl) rfl rfl rfl (fun h => by cases h)
theorem fits12 : Fits Try.prog 12 ti12 := fits_mk (vs := [.int .u64 0]) Try.underlying12 Try.underlying12 rfl (by decide) rfl (by kernel_rfl) rfl rfl rfl (fun h => by cases h)
theorem fits13 : Fits Try.prog 13 ti13 := fits_mk (vs := [.string ByteArray.empty, .int .u64 0]) ⟨_, Try.underlying13, rfl, by kernel_rfl⟩ Try.underlying13 rfl (by decide) rfl (by kernel_rfl) rfl rfl rfl (fun h => by cases h)
theorem fits14 : Fits Try.prog 14 ti14 := fits_mk (vs := [.string ByteArray.empty, .int .u64 0]) ⟨_, Try.underlying14, rfl, by kernel_rfl⟩ Try.underlying14 rfl (by decide) rfl (by kernel_rfl) rfl rfl rfl (fun h => by cases h)
theorem fits15 : Fits Try.prog 15 ti15 := fits_mk (vs := [.pointer none]) Try.underlying15 Try.underlying15 rfl (by decide) rfl (by kernel_rfl) rfl rfl rfl (fun h => by cases h)
theorem fits16 : Fits Try.prog 16 ti16 := fits_mk (vs := [.pointer none]) Try.underlying16 Try.underlying16 rfl (by decide) rfl (by kernel_rfl) rfl rfl rfl (fun h => by cases h)
theorem fits17 : Fits Try.prog 17 ti17 := fits_mk (vs := [.pointer none]) Try.underlying17 Try.underlying17 rfl (by decide) rfl (by kernel_rfl) rfl rfl rfl (fun h => by cases h)
theorem fits18 : Fits Try.prog 18 ti18 := fits_mk (vs := [.pointer none]) ⟨_, Try.underlying18, rfl, by kernel_rfl⟩ Try.underlying18 rfl (by decide) rfl (by kernel_rfl) rfl rfl rfl (fun h => by cases h)
theorem fits19 : Fits Try.prog 19 ti19 := fits_mk (vs := [.pointer none]) ⟨_, Try.underlying19, rfl, by kernel_rfl⟩ Try.underlying19 rfl (by decide) rfl (by kernel_rfl) rfl rfl rfl (fun h => by cases h)
theorem fits20 : Fits Try.prog 20 ti20 := fits_mk (vs := [.nilIface]) ⟨_, Try.underlying20⟩ Try.underlying20 rfl (by decide) rfl (by kernel_rfl) rfl rfl rfl (fun h => by cases h)
theorem fits21 : Fits Try.prog 21 ti21 := fits_mk (vs := [.int .i32 0]) Try.underlying21 Try.underlying21 rfl (by decide) rfl (by kernel_rfl) rfl rfl rfl (fun h => by cases h)
theorem fits22 : Fits Try.prog 22 ti22 := fits_mk (vs := [.slice none 0 0]) Try.underlying22 Try.underlying22 rfl (by decide) rfl (by kernel_rfl) rfl rfl rfl (fun h => by cases h)
theorem fits23 : Fits Try.prog 23 ti23 := fits_mk (vs := [.nilFunc]) ⟨_, _, _, Try.underlying23⟩ Try.underlying23 rfl (by decide) rfl (by kernel_rfl) rfl rfl rfl (fun h => by cases h)
theorem fits24 : Fits Try.prog 24 ti24 := fits_mk (vs := [.nilFunc]) ⟨_, _, _, Try.underlying24⟩ Try.underlying24 rfl (by decide) rfl (by kernel_rfl) rfl rfl rfl (fun h => by cases h)
theorem fits25 : Fits Try.prog 25 ti25 := fits_mk (vs := [.slice none 0 0]) ⟨_, Try.underlying25, rfl, by kernel_rfl⟩ Try.underlying25 rfl (by decide) rfl (by kernel_rfl) rfl rfl rfl (fun h => by cases h)
theorem fits26 : Fits Try.prog 26 ti26 := fits_mk (vs := [.slice none 0 0]) ⟨_, Try.underlying26, rfl, by kernel_rfl⟩ Try.underlying26 rfl (by decide) rfl (by kernel_rfl) rfl rfl rfl (fun h => by cases h)
theorem fits27 : Fits Try.prog 27 ti27 := fits_mk (vs := [.slice none 0 0]) Try.underlying27 Try.underlying27 rfl (by decide) rfl (by kernel_rfl) rfl rfl rfl (fun h => by cases h)
theorem fits28 : Fits Try.prog 28 ti28 := fits_mk (vs := [.int .i64 0, .int .i64 0, .int .i64 0]) ⟨_, Try.underlying28, rfl, by kernel_rfl⟩ Try.underlying28 rfl (by decide) rfl (by kernel_rfl) rfl rfl rfl (fun _ => ⟨by kernel_rfl, by kernel_rfl, by kernel_rfl⟩)
theorem fits29 : Fits Try.prog 29 ti29 := fits_mk (vs := [.int .i64 0, .int .i64 0, .int .i64 0]) ⟨_, Try.underlying29, rfl, by kernel_rfl⟩ Try.underlying29 rfl (by decide) rfl (by kernel_rfl) rfl rfl rfl (fun _ => ⟨by kernel_rfl, by kernel_rfl, by kernel_rfl⟩)
theorem fits30 : Fits Try.prog 30 ti30 := fits_mk (vs := [.int .i64 0]) Try.underlying30 Try.underlying30 rfl (by decide) rfl (by kernel_rfl) rfl rfl rfl (fun h => by cases h)
theorem fits32 : Fits Try.prog 32 ti32 := fits_mk (vs := [.nilFunc]) ⟨_, _, _, Try.underlying32⟩ Try.underlying32 rfl (by decide) rfl (by kernel_rfl) rfl rfl rfl (fun h => by cases h)
theorem fits33 : Fits Try.prog 33 ti33 := fits_mk (vs := [.nilFunc]) ⟨_, _, _, Try.underlying33⟩ Try.underlying33 rfl (by decide) rfl (by kernel_rfl) rfl rfl rfl (fun h => by cases h)
theorem fits34 : Fits Try.prog 34 ti34 := fits_mk (vs := [.int .i64 0, .int .i64 0, .int .i64 0]) ⟨_, Try.underlying34, rfl, by kernel_rfl⟩ Try.underlying34 rfl (by decide) rfl (by kernel_rfl) rfl rfl rfl (fun _ => ⟨by kernel_rfl, by kernel_rfl, by kernel_rfl⟩)
theorem fits35 : Fits Try.prog 35 ti35 := fits_mk (vs := [.nilFunc]) ⟨_, _, _, Try.underlying35⟩ Try.underlying35 rfl (by decide) rfl (by kernel_rfl) rfl rfl rfl (fun h => by cases h)
theorem fits36 : Fits Try.prog 36 ti36 := fits_mk (vs := [.nilFunc]) ⟨_, _, _, Try.underlying36⟩ Try.underlying36 rfl (by decide) rfl (by kernel_rfl) rfl rfl rfl (fun h => by cases h)
theorem fits37 : Fits Try.prog 37 ti37 := fits_mk (vs := [.slice none 0 0]) Try.underlying37 Try.underlying37 rfl (by decide) rfl (by kernel_rfl) rfl rfl rfl (fun h => by cases h)
theorem fits38 : Fits Try.prog 38 ti38 := fits_mk (vs := [.slice none 0 0]) Try.underlying38 Try.underlying38 rfl (by decide) rfl (by kernel_rfl) rfl rfl rfl (fun h => by cases h)
theorem fits40 : Fits Try.prog 40 ti40 := fits_mk (vs := [.nilFunc]) ⟨_, _, _, Try.underlying40⟩ Try.underlying40 rfl (by decide) rfl (by kernel_rfl) rfl rfl rfl (fun h => by cases h)
theorem fits41 : Fits Try.prog 41 ti41 := fits_mk (vs := [.map none]) Try.underlying41 Try.underlying41 rfl (by decide) rfl (by kernel_rfl) rfl rfl rfl (fun h => by cases h)
theorem fits42 : Fits Try.prog 42 ti42 := fits_mk (vs := [.nilFunc]) ⟨_, _, _, Try.underlying42⟩ Try.underlying42 rfl (by decide) rfl (by kernel_rfl) rfl rfl rfl (fun h => by cases h)
theorem fits43 : Fits Try.prog 43 ti43 := fits_mk (vs := [.slice none 0 0]) Try.underlying43 Try.underlying43 rfl (by decide) rfl (by kernel_rfl) rfl rfl rfl (fun h => by cases h)
theorem fits45 : Fits Try.prog 45 ti45 := fits_mk (vs := [.nilFunc]) ⟨_, _, _, Try.underlying45⟩ Try.underlying45 rfl (by decide) rfl (by kernel_rfl) rfl rfl rfl (fun h => by cases h)
theorem fits46 : Fits Try.prog 46 ti46 := fits_mk (vs := [.map none]) Try.underlying46 Try.underlying46 rfl (by decide) rfl (by kernel_rfl) rfl rfl rfl (fun h => by cases h)
theorem fits47 : Fits Try.prog 47 ti47 := fits_mk (vs := [.nilFunc]) ⟨_, _, _, Try.underlying47⟩ Try.underlying47 rfl (by decide) rfl (by kernel_rfl) rfl rfl rfl (fun h => by cases h)
theorem fits48 : Fits Try.prog 48 ti48 := fits_mk (vs := [.nilFunc]) ⟨_, _, _, Try.underlying48⟩ Try.underlying48 rfl (by decide) rfl (by kernel_rfl) rfl rfl rfl (fun h => by cases h)
theorem fits49 : Fits Try.prog 49 ti49 := fits_mk (vs := [.nilFunc]) ⟨_, _, _, Try.underlying49⟩ Try.underlying49 rfl (by decide) rfl (by kernel_rfl) rfl rfl rfl (fun h => by cases h)
theorem fits50 : Fits Try.prog 50 ti50 := fits_mk (vs := [.nilFunc]) ⟨_, _, _, Try.underlying50⟩ Try.underlying50 rfl (by decide) rfl (by kernel_rfl) rfl rfl rfl (fun h => by cases h)
theorem fits51 : Fits Try.prog 51 ti51 := fits_mk (vs := [.map none]) Try.underlying51 Try.underlying51 rfl (by decide) rfl (by kernel_rfl) rfl rfl rfl (fun h => by cases h)
theorem fits52 : Fits Try.prog 52 ti52 := fits_mk (vs := [.nilFunc]) ⟨_, _, _, Try.underlying52⟩ Try.underlying52 rfl (by decide) rfl (by kernel_rfl) rfl rfl rfl (fun h => by cases h)
theorem fits53 : Fits Try.prog 53 ti53 := fits_mk (vs := [.nilFunc]) ⟨_, _, _, Try.underlying53⟩ Try.underlying53 rfl (by decide) rfl (by kernel_rfl) rfl rfl rfl (fun h => by cases h)
theorem fits54 : Fits Try.prog 54 ti54 := fits_mk (vs := [.nilFunc]) ⟨_, _, _, Try.underlying54⟩ Try.underlying54 rfl (by decide) rfl (by kernel_rfl) rfl rfl rfl (fun h => by cases h)
theorem fits55 : Fits Try.prog 55 ti55 := fits_mk (vs := [.nilFunc]) ⟨_, _, _, Try.underlying55⟩ Try.underlying55 rfl (by decide) rfl (by kernel_rfl) rfl rfl rfl (fun h => by cases h)
theorem fits56 : Fits Try.prog 56 ti56 := fits_mk (vs := [.nilFunc]) ⟨_, _, _, Try.underlying56⟩ Try.underlying56 rfl (by decide) rfl (by kernel_rfl) rfl rfl rfl (fun h => by cases h)
theorem fits57 : Fits Try.prog 57 ti57 := fits_mk (vs := [.map none]) Try.underlying57 Try.underlying57 rfl (by decide) rfl (by kernel_rfl) rfl rfl rfl (fun h => by cases h)
theorem fits58 : Fits Try.prog 58 ti58 := fits_mk (vs := [.nilFunc]) ⟨_, _, _, Try.underlying58⟩ Try.underlying58 rfl (by decide) rfl (by kernel_rfl) rfl rfl rfl (fun h => by cases h)
theorem fits59 : Fits Try.prog 59 ti59 := fits_mk (vs := [.nilFunc]) ⟨_, _, _, Try.underlying59⟩ Try.underlying59 rfl (by decide) rfl (by kernel_rfl) rfl rfl rfl (fun h => by cases h)
theorem fits60 : Fits Try.prog 60 ti60 := fits_mk (vs := [.nilFunc]) ⟨_, _, _, Try.underlying60⟩ Try.underlying60 rfl (by decide) rfl (by kernel_rfl) rfl rfl rfl (fun h => by cases h)
theorem fits61 : Fits Try.prog 61 ti61 := fits_mk (vs := [.nilFunc]) ⟨_, _, _, Try.underlying61⟩ Try.underlying61 rfl (by decide) rfl (by kernel_rfl) rfl rfl rfl (fun h => by cases h)
theorem fits62 : Fits Try.prog 62 ti62 := fits_mk (vs := [.nilFunc]) ⟨_, _, _, Try.underlying62⟩ Try.underlying62 rfl (by decide) rfl (by kernel_rfl) rfl rfl rfl (fun h => by cases h)
theorem fits63 : Fits Try.prog 63 ti63 := fits_mk (vs := [.nilFunc]) ⟨_, _, _, Try.underlying63⟩ Try.underlying63 rfl (by decide) rfl (by kernel_rfl) rfl rfl rfl (fun h => by cases h)
theorem fits64 : Fits Try.prog 64 ti64 := fits_mk (vs := [.nilFunc]) ⟨_, _, _, Try.underlying64⟩ Try.underlying64 rfl (by decide) rfl (by kernel_rfl) rfl rfl rfl (fun h => by cases h)
theorem fits65 : Fits Try.prog 65 ti65 := fits_mk (vs := [.int .u64 0]) Try.underlying65 Try.underlying65 rfl (by decide) rfl (by kernel_rfl) rfl rfl rfl (fun h => by cases h)
theorem fits66 : Fits Try.prog 66 ti66 := fits_mk (vs := [.nilFunc]) ⟨_, _, _, Try.underlying66⟩ Try.underlying66 rfl (by decide) rfl (by kernel_rfl) rfl rfl rfl (fun h => by cases h)
theorem fits67 : Fits Try.prog 67 ti67 := fits_mk (vs := [.nilFunc]) ⟨_, _, _, Try.underlying67⟩ Try.underlying67 rfl (by decide) rfl (by kernel_rfl) rfl rfl rfl (fun h => by cases h)
theorem fits68 : Fits Try.prog 68 ti68 := fits_mk (vs := [.int .i64 0]) Try.underlying68 Try.underlying68 rfl (by decide) rfl (by kernel_rfl) rfl rfl rfl (fun h => by cases h)
theorem fits70 : Fits Try.prog 70 ti70 := fits_mk (vs := [.nilFunc]) ⟨_, _, _, Try.underlying70⟩ Try.underlying70 rfl (by decide) rfl (by kernel_rfl) rfl rfl rfl (fun h => by cases h)
theorem fits71 : Fits Try.prog 71 ti71 := fits_mk (vs := [.nilFunc]) ⟨_, _, _, Try.underlying71⟩ Try.underlying71 rfl (by decide) rfl (by kernel_rfl) rfl rfl rfl (fun h => by cases h)
theorem fits72 : Fits Try.prog 72 ti72 := fits_mk (vs := [.nilFunc]) ⟨_, _, _, Try.underlying72⟩ Try.underlying72 rfl (by decide) rfl (by kernel_rfl) rfl rfl rfl (fun h => by cases h)
theorem fits73 : Fits Try.prog 73 ti73 := fits_mk (vs := [.nilFunc]) ⟨_, _, _, Try.underlying73⟩ Try.underlying73 rfl (by decide) rfl (by kernel_rfl) rfl rfl rfl (fun h => by cases h)
theorem fits75 : Fits Try.prog 75 ti75 := fits_mk (vs := [.nilFunc]) ⟨_, _, _, Try.underlying75⟩ Try.underlying75 rfl (by decide) rfl (by kernel_rfl) rfl rfl rfl (fun h => by cases h)
theorem fits76 : Fits Try.prog 76 ti76 := fits_mk (vs := [.nilFunc]) ⟨_, _, _, Try.underlying76⟩ Try.underlying76 rfl (by decide) rfl (by kernel_rfl) rfl rfl rfl (fun h => by cases h)
theorem fits77 : Fits Try.prog 77 ti77 := fits_mk (vs := [.int .u32 0]) Try.underlying77 Try.underlying77 rfl (by decide) rfl (by kernel_rfl) rfl rfl rfl (fun h => by cases h)
theorem fits78 : Fits Try.prog 78 ti78 := fits_mk (vs := [.nilFunc]) ⟨_, _, _, Try.underlying78⟩ Try.underlying78 rfl (by decide) rfl (by kernel_rfl) rfl rfl rfl (fun h => by cases h)
theorem fits79 : Fits Try.prog 79 ti79 := fits_mk (vs := [.int .u64 0]) Try.underlying79 Try.underlying79 rfl (by decide) rfl (by kernel_rfl) rfl rfl rfl (fun h => by cases h)
theorem fits80 : Fits Try.prog 80 ti80 := fits_mk (vs := [.int .u64 0]) Try.underlying80 Try.underlying80 rfl (by decide) rfl (by kernel_rfl) rfl rfl rfl (fun h => by cases h)
theorem fits81 : Fits Try.prog 81 ti81 := fits_mk (vs := [.nilFunc]) ⟨_, _, _, Try.underlying81⟩ Try.underlying81 rfl (by decide) rfl (by kernel_rfl) rfl rfl rfl (fun h => by cases h)
theorem fits82 : Fits Try.prog 82 ti82 := fits_mk (vs := [.nilFunc]) ⟨_, _, _, Try.underlying82⟩ Try.underlying82 rfl (by decide) rfl (by kernel_rfl) rfl rfl rfl (fun h => by cases h)
theorem fits83 : Fits Try.prog 83 ti83 := fits_mk (vs := [.nilFunc]) ⟨_, _, _, Try.underlying83⟩ Try.underlying83 rfl (by decide) rfl (by kernel_rfl) rfl rfl rfl (fun h => by cases h)
theorem fits84 : Fits Try.prog 84 ti84 := fits_mk (vs := [.pointer none]) Try.underlying84 Try.underlying84 rfl (by decide) rfl (by kernel_rfl) rfl rfl rfl (fun h => by cases h)
theorem fits85 : Fits Try.prog 85 ti85 := fits_mk (vs := [.nilFunc]) ⟨_, _, _, Try.underlying85⟩ Try.underlying85 rfl (by decide) rfl (by kernel_rfl) rfl rfl rfl (fun h => by cases h)
theorem fits86 : Fits Try.prog 86 ti86 := fits_mk (vs := [.nilFunc]) ⟨_, _, _, Try.underlying86⟩ Try.underlying86 rfl (by decide) rfl (by kernel_rfl) rfl rfl rfl (fun h => by cases h)
theorem fits87 : Fits Try.prog 87 ti87 := fits_mk (vs := [.pointer none]) Try.underlying87 Try.underlying87 rfl (by decide) rfl (by kernel_rfl) rfl rfl rfl (fun h => by cases h)
theorem fits89 : Fits Try.prog 89 ti89 := fits_mk (vs := [.nilFunc]) ⟨_, _, _, Try.underlying89⟩ Try.underlying89 rfl (by decide) rfl (by kernel_rfl) rfl rfl rfl (fun h => by cases h)
theorem fits90 : Fits Try.prog 90 ti90 := fits_mk (vs := [.nilFunc]) ⟨_, _, _, Try.underlying90⟩ Try.underlying90 rfl (by decide) rfl (by kernel_rfl) rfl rfl rfl (fun h => by cases h)
theorem fits91 : Fits Try.prog 91 ti91 := fits_mk (vs := [.pointer none, .pointer none, .pointer none, .string ByteArray.empty]) ⟨_, Try.underlying91, rfl, by kernel_rfl⟩ Try.underlying91 rfl (by decide) rfl (by kernel_rfl) rfl rfl rfl (fun h => by cases h)
theorem fits92 : Fits Try.prog 92 ti92 := fits_mk (vs := [.pointer none, .pointer none, .pointer none, .string ByteArray.empty]) ⟨_, Try.underlying92, rfl, by kernel_rfl⟩ Try.underlying92 rfl (by decide) rfl (by kernel_rfl) rfl rfl rfl (fun h => by cases h)
theorem fits96 : Fits Try.prog 96 ti96 := fits_mk (vs := [.int .u8 0]) Try.underlying96 Try.underlying96 rfl (by decide) rfl (by kernel_rfl) rfl rfl rfl (fun h => by cases h)
theorem fits97 : Fits Try.prog 97 ti97 := fits_mk (vs := [.int .u8 0]) Try.underlying97 Try.underlying97 rfl (by decide) rfl (by kernel_rfl) rfl rfl rfl (fun h => by cases h)
theorem fits98 : Fits Try.prog 98 ti98 := fits_mk (vs := [.nilFunc]) ⟨_, _, _, Try.underlying98⟩ Try.underlying98 rfl (by decide) rfl (by kernel_rfl) rfl rfl rfl (fun h => by cases h)
theorem fits99 : Fits Try.prog 99 ti99 := fits_mk (vs := [.pointer none]) Try.underlying99 Try.underlying99 rfl (by decide) rfl (by kernel_rfl) rfl rfl rfl (fun h => by cases h)
theorem fits100 : Fits Try.prog 100 ti100 := fits_mk (vs := [.int .i32 0]) Try.underlying100 Try.underlying100 rfl (by decide) rfl (by kernel_rfl) rfl rfl rfl (fun h => by cases h)
theorem fits101 : Fits Try.prog 101 ti101 := fits_mk (vs := [.int .i32 0]) Try.underlying101 Try.underlying101 rfl (by decide) rfl (by kernel_rfl) rfl rfl rfl (fun h => by cases h)
theorem fits102 : Fits Try.prog 102 ti102 := fits_mk (vs := [.int .u64 0, .int .u64 0, .int .u32 0, .int .u8 0, .int .u8 0, .int .u8 0, .int .u8 0, .nilFunc, .pointer none, .int .i32 0, .int .i32 0]) ⟨_, Try.underlying102, rfl, by kernel_rfl⟩ Try.underlying102 rfl (by decide) rfl (by kernel_rfl) rfl rfl rfl (fun h => by cases h)
theorem fits103 : Fits Try.prog 103 ti103 := fits_mk (vs := [.int .u64 0, .int .u64 0, .int .u32 0, .int .u8 0, .int .u8 0, .int .u8 0, .int .u8 0, .nilFunc, .pointer none, .int .i32 0, .int .i32 0]) ⟨_, Try.underlying103, rfl, by kernel_rfl⟩ Try.underlying103 rfl (by decide) rfl (by kernel_rfl) rfl rfl rfl (fun h => by cases h)
theorem agrees : Agrees Try.prog tt := TTree.agrees (T := tree) ⟨fits51, ⟨fits24, ⟨fits12, ⟨fits6, ⟨fits3, ⟨fits2, ⟨fits1, trivial, trivial⟩, trivial⟩, ⟨fits5, ⟨fits4, trivial, trivial⟩, trivial⟩⟩, ⟨fits9, ⟨fits8, ⟨fits7, trivial, trivial⟩, trivial⟩, ⟨fits11, ⟨fits10, trivial, trivial⟩, trivial⟩⟩⟩, ⟨fits18, ⟨fits15, ⟨fits14, ⟨fits13, trivial, trivial⟩, trivial⟩, ⟨fits17, ⟨fits16, trivial, trivial⟩, trivial⟩⟩, ⟨fits21, ⟨fits20, ⟨fits19, trivial, trivial⟩, trivial⟩, ⟨fits23, ⟨fits22, trivial, trivial⟩, trivial⟩⟩⟩⟩, ⟨fits37, ⟨fits30, ⟨fits27, ⟨fits26, ⟨fits25, trivial, trivial⟩, trivial⟩, ⟨fits29, ⟨fits28, trivial, trivial⟩, trivial⟩⟩, ⟨fits34, ⟨fits33, ⟨fits32, trivial, trivial⟩, trivial⟩, ⟨fits36, ⟨fits35, trivial, trivial⟩, trivial⟩⟩⟩, ⟨fits45, ⟨fits41, ⟨fits40, ⟨fits38, trivial, trivial⟩, trivial⟩, ⟨fits43, ⟨fits42, trivial, trivial⟩, trivial⟩⟩, ⟨fits48, ⟨fits47, ⟨fits46, trivial, trivial⟩, trivial⟩, ⟨fits50, ⟨fits49, trivial, trivial⟩, trivial⟩⟩⟩⟩⟩, ⟨fits77, ⟨fits63, ⟨fits57, ⟨fits54, ⟨fits53, ⟨fits52, trivial, trivial⟩, trivial⟩, ⟨fits56, ⟨fits55, trivial, trivial⟩, trivial⟩⟩, ⟨fits60, ⟨fits59, ⟨fits58, trivial, trivial⟩, trivial⟩, ⟨fits62, ⟨fits61, trivial, trivial⟩, trivial⟩⟩⟩, ⟨fits70, ⟨fits66, ⟨fits65, ⟨fits64, trivial, trivial⟩, trivial⟩, ⟨fits68, ⟨fits67, trivial, trivial⟩, trivial⟩⟩, ⟨fits73, ⟨fits72, ⟨fits71, trivial, trivial⟩, trivial⟩, ⟨fits76, ⟨fits75, trivial, trivial⟩, trivial⟩⟩⟩⟩, ⟨fits90, ⟨fits83, ⟨fits80, ⟨fits79, ⟨fits78, trivial, trivial⟩, trivial⟩, ⟨fits82, ⟨fits81, trivial, trivial⟩, trivial⟩⟩, ⟨fits86, ⟨fits85, ⟨fits84, trivial, trivial⟩, trivial⟩, ⟨fits89, ⟨fits87, trivial, trivial⟩, trivial⟩⟩⟩, ⟨fits99, ⟨fits96, ⟨fits92, ⟨fits91, trivial, trivial⟩, trivial⟩, ⟨fits98, ⟨fits97, trivial, trivial⟩, trivial⟩⟩, ⟨fits102, ⟨fits101, ⟨fits100, trivial, trivial⟩, trivial⟩, ⟨fits103, trivial, trivial⟩⟩⟩⟩⟩⟩
end Go.Proofs.Ytdkdepibclhkmaa
