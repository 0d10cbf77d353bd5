/- The seat's types as a table, and that the program has them so. Printed by a program (mktt.py). -/
import Derived.Test.YtmkbaeilfejbjaaDoorVcJ
import Derived.Test.YtmkbaeilfejbjaaDoorRows
namespace Go.Proofs.YtmkbaeilfejbjaaDoor
open Go.Vc
def ti1 : TI := ⟨.func, .any, 1, 8, [.v (.nilFunc)], false⟩
def ti2 : TI := ⟨.int .i64, (.int .i64), 1, 8, [.v (.int .i64 0)], false⟩
def ti3 : TI := ⟨.int .i64, (.int .i64), 1, 8, [.v (.int .i64 0)], false⟩
def ti4 : TI := ⟨.bool, .bool, 1, 1, [.v (.bool false)], false⟩
def ti5 : TI := ⟨.int .u8, (.int .u8), 1, 1, [.v (.int .u8 0)], false⟩
def ti6 : TI := ⟨.int .u8, (.int .u8), 1, 1, [.v (.int .u8 0)], false⟩
def ti7 : TI := ⟨.struct [(0, 2), (1, 3), (2, 4), (3, 6)], (.st (.pair (.int .i64) (.pair (.int .i64) (.pair .bool (.int .u8))))), 4, 24, [.v (.int .i64 0), .v (.int .i64 0), .v (.bool false), .v (.int .u8 0)], true⟩
def ti8 : TI := ⟨.struct [(0, 2), (1, 3), (2, 4), (3, 6)], (.st (.pair (.int .i64) (.pair (.int .i64) (.pair .bool (.int .u8))))), 4, 24, [.v (.int .i64 0), .v (.int .i64 0), .v (.bool false), .v (.int .u8 0)], true⟩
def ti9 : TI := ⟨.str, .str, 1, 16, [.v (.string ByteArray.empty)], false⟩
def ti10 : TI := ⟨.str, .str, 1, 16, [.v (.string ByteArray.empty)], false⟩
def ti11 : TI := ⟨.str, .str, 1, 16, [.v (.string ByteArray.empty)], false⟩
def ti12 : TI := ⟨.int .u64, (.int .u64), 1, 8, [.v (.int .u64 0)], false⟩
def ti13 : TI := ⟨.struct [(0, 9), (1, 12)], (.st (.pair .str (.int .u64))), 2, 24, [.v (.string ByteArray.empty), .v (.int .u64 0)], false⟩
def ti14 : TI := ⟨.struct [(0, 9), (1, 12)], (.st (.pair .str (.int .u64))), 2, 24, [.v (.string ByteArray.empty), .v (.int .u64 0)], false⟩
def ti15 : TI := ⟨.ptr 90, .any, 1, 8, [.v (.pointer none)], false⟩
def ti16 : TI := ⟨.ptr 93, .any, 1, 8, [.v (.pointer none)], false⟩
def ti17 : TI := ⟨.ptr 101, .any, 1, 8, [.v (.pointer none)], false⟩
def ti18 : TI := ⟨.struct [(0, 17)], (.st .any), 1, 8, [.v (.pointer none)], false⟩
def ti19 : TI := ⟨.struct [(0, 17)], (.st .any), 1, 8, [.v (.pointer none)], false⟩
def ti20 : TI := ⟨.iface, .any, 1, 16, [.v (.nilIface)], false⟩
def ti21 : TI := ⟨.int .i32, (.int .i32), 1, 4, [.v (.int .i32 0)], false⟩
def ti22 : TI := ⟨.slice 3, .slice, 1, 24, [.v (.slice none 0 0)], false⟩
def ti23 : TI := ⟨.func, .any, 1, 8, [.v (.nilFunc)], false⟩
def ti24 : TI := ⟨.struct [(0, 3), (1, 3), (2, 3)], (.st (.pair (.int .i64) (.pair (.int .i64) (.int .i64)))), 3, 24, [.v (.int .i64 0), .v (.int .i64 0), .v (.int .i64 0)], true⟩
def ti25 : TI := ⟨.struct [(0, 3), (1, 3), (2, 3)], (.st (.pair (.int .i64) (.pair (.int .i64) (.int .i64)))), 3, 24, [.v (.int .i64 0), .v (.int .i64 0), .v (.int .i64 0)], true⟩
def ti26 : TI := ⟨.slice 37, .slice, 1, 24, [.v (.slice none 0 0)], false⟩
def ti27 : TI := ⟨.int .i64, (.int .i64), 1, 8, [.v (.int .i64 0)], false⟩
def ti29 : TI := ⟨.func, .any, 1, 8, [.v (.nilFunc)], false⟩
def ti30 : TI := ⟨.func, .any, 1, 8, [.v (.nilFunc)], false⟩
def ti32 : TI := ⟨.func, .any, 1, 8, [.v (.nilFunc)], false⟩
def ti33 : TI := ⟨.func, .any, 1, 8, [.v (.nilFunc)], false⟩
def ti34 : TI := ⟨.func, .any, 1, 8, [.v (.nilFunc)], false⟩
def ti35 : TI := ⟨.int .u32, (.int .u32), 1, 4, [.v (.int .u32 0)], false⟩
def ti36 : TI := ⟨.struct [(0, 2), (1, 35), (2, 35)], (.st (.pair (.int .i64) (.pair (.int .u32) (.int .u32)))), 3, 16, [.v (.int .i64 0), .v (.int .u32 0), .v (.int .u32 0)], true⟩
def ti37 : TI := ⟨.struct [(0, 2), (1, 35), (2, 35)], (.st (.pair (.int .i64) (.pair (.int .u32) (.int .u32)))), 3, 16, [.v (.int .i64 0), .v (.int .u32 0), .v (.int .u32 0)], true⟩
def ti38 : TI := ⟨.func, .any, 1, 8, [.v (.nilFunc)], false⟩
def ti39 : TI := ⟨.func, .any, 1, 8, [.v (.nilFunc)], false⟩
def ti40 : TI := ⟨.func, .any, 1, 8, [.v (.nilFunc)], false⟩
def ti41 : TI := ⟨.func, .any, 1, 8, [.v (.nilFunc)], false⟩
def ti42 : TI := ⟨.slice 22, .slice, 1, 24, [.v (.slice none 0 0)], false⟩
def ti43 : TI := ⟨.func, .any, 1, 8, [.v (.nilFunc)], false⟩
def ti44 : TI := ⟨.func, .any, 1, 8, [.v (.nilFunc)], false⟩
def ti45 : TI := ⟨.func, .any, 1, 8, [.v (.nilFunc)], false⟩
def ti46 : TI := ⟨.func, .any, 1, 8, [.v (.nilFunc)], false⟩
def ti47 : TI := ⟨.int .i64, (.int .i64), 1, 8, [.v (.int .i64 0)], false⟩
def ti49 : TI := ⟨.func, .any, 1, 8, [.v (.nilFunc)], false⟩
def ti50 : TI := ⟨.func, .any, 1, 8, [.v (.nilFunc)], false⟩
def ti51 : TI := ⟨.func, .any, 1, 8, [.v (.nilFunc)], false⟩
def ti52 : TI := ⟨.func, .any, 1, 8, [.v (.nilFunc)], false⟩
def ti53 : TI := ⟨.func, .any, 1, 8, [.v (.nilFunc)], false⟩
def ti54 : TI := ⟨.slice 4, .slice, 1, 24, [.v (.slice none 0 0)], false⟩
def ti55 : TI := ⟨.func, .any, 1, 8, [.v (.nilFunc)], false⟩
def ti56 : TI := ⟨.func, .any, 1, 8, [.v (.nilFunc)], false⟩
def ti57 : TI := ⟨.func, .any, 1, 8, [.v (.nilFunc)], false⟩
def ti58 : TI := ⟨.func, .any, 1, 8, [.v (.nilFunc)], false⟩
def ti59 : TI := ⟨.func, .any, 1, 8, [.v (.nilFunc)], false⟩
def ti60 : TI := ⟨.map 3 4, .map, 1, 8, [.v (.map none)], false⟩
def ti61 : TI := ⟨.func, .any, 1, 8, [.v (.nilFunc)], false⟩
def ti62 : TI := ⟨.func, .any, 1, 8, [.v (.nilFunc)], false⟩
def ti63 : TI := ⟨.array 7 3, (.st (.pair (.int .i64) (.pair (.int .i64) (.pair (.int .i64) (.pair (.int .i64) (.pair (.int .i64) (.pair (.int .i64) (.int .i64)))))))), 7, 56, [.v (.int .i64 0), .v (.int .i64 0), .v (.int .i64 0), .v (.int .i64 0), .v (.int .i64 0), .v (.int .i64 0), .v (.int .i64 0)], false⟩
def ti64 : TI := ⟨.func, .any, 1, 8, [.v (.nilFunc)], false⟩
def ti65 : TI := ⟨.func, .any, 1, 8, [.v (.nilFunc)], false⟩
def ti66 : TI := ⟨.int .u64, (.int .u64), 1, 8, [.v (.int .u64 0)], false⟩
def ti67 : TI := ⟨.func, .any, 1, 8, [.v (.nilFunc)], false⟩
def ti68 : TI := ⟨.int .i64, (.int .i64), 1, 8, [.v (.int .i64 0)], false⟩
def ti70 : TI := ⟨.func, .any, 1, 8, [.v (.nilFunc)], false⟩
def ti71 : TI := ⟨.func, .any, 1, 8, [.v (.nilFunc)], false⟩
def ti72 : TI := ⟨.func, .any, 1, 8, [.v (.nilFunc)], false⟩
def ti73 : TI := ⟨.func, .any, 1, 8, [.v (.nilFunc)], false⟩
def ti75 : TI := ⟨.func, .any, 1, 8, [.v (.nilFunc)], false⟩
def ti76 : TI := ⟨.func, .any, 1, 8, [.v (.nilFunc)], false⟩
def ti77 : TI := ⟨.func, .any, 1, 8, [.v (.nilFunc)], false⟩
def ti78 : TI := ⟨.int .u64, (.int .u64), 1, 8, [.v (.int .u64 0)], false⟩
def ti79 : TI := ⟨.int .u64, (.int .u64), 1, 8, [.v (.int .u64 0)], false⟩
def ti80 : TI := ⟨.func, .any, 1, 8, [.v (.nilFunc)], false⟩
def ti81 : TI := ⟨.func, .any, 1, 8, [.v (.nilFunc)], false⟩
def ti82 : TI := ⟨.func, .any, 1, 8, [.v (.nilFunc)], false⟩
def ti83 : TI := ⟨.ptr 3, .any, 1, 8, [.v (.pointer none)], false⟩
def ti84 : TI := ⟨.func, .any, 1, 8, [.v (.nilFunc)], false⟩
def ti85 : TI := ⟨.ptr 79, .any, 1, 8, [.v (.pointer none)], false⟩
def ti87 : TI := ⟨.func, .any, 1, 8, [.v (.nilFunc)], false⟩
def ti88 : TI := ⟨.func, .any, 1, 8, [.v (.nilFunc)], false⟩
def ti89 : TI := ⟨.struct [(0, 17), (1, 17), (2, 17), (3, 9)], (.st (.pair .any (.pair .any (.pair .any .str)))), 4, 40, [.v (.pointer none), .v (.pointer none), .v (.pointer none), .v (.string ByteArray.empty)], false⟩
def ti90 : TI := ⟨.struct [(0, 17), (1, 17), (2, 17), (3, 9)], (.st (.pair .any (.pair .any (.pair .any .str)))), 4, 40, [.v (.pointer none), .v (.pointer none), .v (.pointer none), .v (.string ByteArray.empty)], false⟩
def ti94 : TI := ⟨.int .u8, (.int .u8), 1, 1, [.v (.int .u8 0)], false⟩
def ti95 : TI := ⟨.int .u8, (.int .u8), 1, 1, [.v (.int .u8 0)], false⟩
def ti96 : TI := ⟨.func, .any, 1, 8, [.v (.nilFunc)], false⟩
def ti97 : TI := ⟨.ptr 5, .any, 1, 8, [.v (.pointer none)], false⟩
def ti98 : TI := ⟨.int .i32, (.int .i32), 1, 4, [.v (.int .i32 0)], false⟩
def ti99 : TI := ⟨.int .i32, (.int .i32), 1, 4, [.v (.int .i32 0)], false⟩
def ti100 : TI := ⟨.struct [(0, 12), (1, 12), (2, 35), (3, 94), (4, 5), (5, 5), (6, 95), (7, 96), (8, 97), (9, 98), (10, 99)], (.st (.pair (.int .u64) (.pair (.int .u64) (.pair (.int .u32) (.pair (.int .u8) (.pair (.int .u8) (.pair (.int .u8) (.pair (.int .u8) (.pair .any (.pair .any (.pair (.int .i32) (.int .i32)))))))))))), 11, 48, [.v (.int .u64 0), .v (.int .u64 0), .v (.int .u32 0), .v (.int .u8 0), .v (.int .u8 0), .v (.int .u8 0), .v (.int .u8 0), .v (.nilFunc), .v (.pointer none), .v (.int .i32 0), .v (.int .i32 0)], false⟩
def ti101 : TI := ⟨.struct [(0, 12), (1, 12), (2, 35), (3, 94), (4, 5), (5, 5), (6, 95), (7, 96), (8, 97), (9, 98), (10, 99)], (.st (.pair (.int .u64) (.pair (.int .u64) (.pair (.int .u32) (.pair (.int .u8) (.pair (.int .u8) (.pair (.int .u8) (.pair (.int .u8) (.pair .any (.pair .any (.pair (.int .i32) (.int .i32)))))))))))), 11, 48, [.v (.int .u64 0), .v (.int .u64 0), .v (.int .u32 0), .v (.int .u8 0), .v (.int .u8 0), .v (.int .u8 0), .v (.int .u8 0), .v (.nilFunc), .v (.pointer none), .v (.int .i32 0), .v (.int .i32 0)], false⟩
def tree : TTree := (.node 50 ti50 (.node 24 ti24 (.node 12 ti12 (.node 6 ti6 (.node 3 ti3 (.node 2 ti2 (.node 1 ti1 .leaf .leaf) .leaf) (.node 5 ti5 (.node 4 ti4 .leaf .leaf) .leaf)) (.node 9 ti9 (.node 8 ti8 (.node 7 ti7 .leaf .leaf) .leaf) (.node 11 ti11 (.node 10 ti10 .leaf .leaf) .leaf))) (.node 18 ti18 (.node 15 ti15 (.node 14 ti14 (.node 13 ti13 .leaf .leaf) .leaf) (.node 17 ti17 (.node 16 ti16 .leaf .leaf) .leaf)) (.node 21 ti21 (.node 20 ti20 (.node 19 ti19 .leaf .leaf) .leaf) (.node 23 ti23 (.node 22 ti22 .leaf .leaf) .leaf)))) (.node 38 ti38 (.node 32 ti32 (.node 27 ti27 (.node 26 ti26 (.node 25 ti25 .leaf .leaf) .leaf) (.node 30 ti30 (.node 29 ti29 .leaf .leaf) .leaf)) (.node 35 ti35 (.node 34 ti34 (.node 33 ti33 .leaf .leaf) .leaf) (.node 37 ti37 (.node 36 ti36 .leaf .leaf) .leaf))) (.node 44 ti44 (.node 41 ti41 (.node 40 ti40 (.node 39 ti39 .leaf .leaf) .leaf) (.node 43 ti43 (.node 42 ti42 .leaf .leaf) .leaf)) (.node 47 ti47 (.node 46 ti46 (.node 45 ti45 .leaf .leaf) .leaf) (.node 49 ti49 .leaf .leaf))))) (.node 75 ti75 (.node 62 ti62 (.node 56 ti56 (.node 53 ti53 (.node 52 ti52 (.node 51 ti51 .leaf .leaf) .leaf) (.node 55 ti55 (.node 54 ti54 .leaf .leaf) .leaf)) (.node 59 ti59 (.node 58 ti58 (.node 57 ti57 .leaf .leaf) .leaf) (.node 61 ti61 (.node 60 ti60 .leaf .leaf) .leaf))) (.node 68 ti68 (.node 65 ti65 (.node 64 ti64 (.node 63 ti63 .leaf .leaf) .leaf) (.node 67 ti67 (.node 66 ti66 .leaf .leaf) .leaf)) (.node 72 ti72 (.node 71 ti71 (.node 70 ti70 .leaf .leaf) .leaf) (.node 73 ti73 .leaf .leaf)))) (.node 88 ti88 (.node 81 ti81 (.node 78 ti78 (.node 77 ti77 (.node 76 ti76 .leaf .leaf) .leaf) (.node 80 ti80 (.node 79 ti79 .leaf .leaf) .leaf)) (.node 84 ti84 (.node 83 ti83 (.node 82 ti82 .leaf .leaf) .leaf) (.node 87 ti87 (.node 85 ti85 .leaf .leaf) .leaf))) (.node 97 ti97 (.node 94 ti94 (.node 90 ti90 (.node 89 ti89 .leaf .leaf) .leaf) (.node 96 ti96 (.node 95 ti95 .leaf .leaf) .leaf)) (.node 100 ti100 (.node 99 ti99 (.node 98 ti98 .leaf .leaf) .leaf) (.node 101 ti101 .leaf .leaf))))))
def tt : Nat → Option TI := tree.look
theorem fits1 : Fits Tryd.prog 1 ti1 := fits_mk (vs := [.nilFunc]) ⟨_, _, _, Tryd.underlying1⟩ Tryd.underlying1 rfl (by decide) rfl (by kernel_rfl) rfl rfl rfl (fun h => by cases h)
theorem fits2 : Fits Tryd.prog 2 ti2 := fits_mk (vs := [.int .i64 0]) Tryd.underlying2 Tryd.underlying2 rfl (by decide) rfl (by kernel_rfl) rfl rfl rfl (fun h => by cases h)
theorem fits3 : Fits Tryd.prog 3 ti3 := fits_mk (vs := [.int .i64 0]) Tryd.underlying3 Tryd.underlying3 rfl (by decide) rfl (by kernel_rfl) rfl rfl rfl (fun h => by cases h)
theorem fits4 : Fits Tryd.prog 4 ti4 := fits_mk (vs := [.bool false]) Tryd.underlying4 Tryd.underlying4 rfl (by decide) rfl (by kernel_rfl) rfl rfl rfl (fun h => by cases h)
theorem fits5 : Fits Tryd.prog 5 ti5 := fits_mk (vs := [.int .u8 0]) Tryd.underlying5 Tryd.underlying5 rfl (by decide) rfl (by kernel_rfl) rfl rfl rfl (fun h => by cases h)
theorem fits6 : Fits Tryd.prog 6 ti6 := fits_mk (vs := [.int .u8 0]) Tryd.underlying6 Tryd.underlying6 rfl (by decide) rfl (by kernel_rfl) rfl rfl rfl (fun h => by cases h)
theorem fits7 : Fits Tryd.prog 7 ti7 := fits_mk (vs := [.int .i64 0, .int .i64 0, .bool false, .int .u8 0]) ⟨_, Tryd.underlying7, rfl, by kernel_rfl⟩ Tryd.underlying7 rfl (by decide) rfl (by kernel_rfl) rfl rfl rfl (fun _ => ⟨by kernel_rfl, by kernel_rfl, by kernel_rfl⟩)
theorem fits8 : Fits Tryd.prog 8 ti8 := fits_mk (vs := [.int .i64 0, .int .i64 0, .bool false, .int .u8 0]) ⟨_, Tryd.underlying8, rfl, by kernel_rfl⟩ Tryd.underlying8 rfl (by decide) rfl (by kernel_rfl) rfl rfl rfl (fun _ => ⟨by kernel_rfl, by kernel_rfl, by kernel_rfl⟩)
theorem fits9 : Fits Tryd.prog 9 ti9 := fits_mk (vs := [.string ByteArray.empty]) Tryd.underlying9 Tryd.underlying9 rfl (by decide) rfl (by kernel_rfl) rfl rfl rfl (fun h => by cases h)
theorem fits10 : Fits Tryd.prog 10 ti10 := fits_mk (vs := [.string ByteArray.empty]) Tryd.underlying10 Tryd.underlying10 rfl (by decide) rfl (by kernel_rfl) rfl rfl rfl (fun h => by cases h)
theorem fits11 : Fits Tryd.prog 11 ti11 := fits_mk (vs := [.string ByteArray.empty]) Tryd.underlying11 Tryd.underlying11 rfl (by decide) rfl (by kernel_rfl) rfl rfl rfl (fun h => by cases h)
theorem fits12 : Fits Tryd.prog 12 ti12 := fits_mk (vs := [.int .u64 0]) Tryd.underlying12 Tryd.underlying12 rfl (by decide) rfl (by kernel_rfl) rfl rfl rfl (fun h => by cases h)
theorem fits13 : Fits Tryd.prog 13 ti13 := fits_mk (vs := [.string ByteArray.empty, .int .u64 0]) ⟨_, Tryd.underlying13, rfl, by kernel_rfl⟩ Tryd.underlying13 rfl (by decide) rfl (by kernel_rfl) rfl rfl rfl (fun h => by cases h)
theorem fits14 : Fits Tryd.prog 14 ti14 := fits_mk (vs := [.string ByteArray.empty, .int .u64 0]) ⟨_, Tryd.underlying14, rfl, by kernel_rfl⟩ Tryd.underlying14 rfl (by decide) rfl (by kernel_rfl) rfl rfl rfl (fun h => by cases h)
theorem fits15 : Fits Tryd.prog 15 ti15 := fits_mk (vs := [.pointer none]) Tryd.underlying15 Tryd.underlying15 rfl (by decide) rfl (by kernel_rfl) rfl rfl rfl (fun h => by cases h)
theorem fits16 : Fits Tryd.prog 16 ti16 := fits_mk (vs := [.pointer none]) Tryd.underlying16 Tryd.underlying16 rfl (by decide) rfl (by kernel_rfl) rfl rfl rfl (fun h => by cases h)
theorem fits17 : Fits Tryd.prog 17 ti17 := fits_mk (vs := [.pointer none]) Tryd.underlying17 Tryd.underlying17 rfl (by decide) rfl (by kernel_rfl) rfl rfl rfl (fun h => by cases h)
theorem fits18 : Fits Tryd.prog 18 ti18 := fits_mk (vs := [.pointer none]) ⟨_, Tryd.underlying18, rfl, by kernel_rfl⟩ Tryd.underlying18 rfl (by decide) rfl (by kernel_rfl) rfl rfl rfl (fun h => by cases h)
theorem fits19 : Fits Tryd.prog 19 ti19 := fits_mk (vs := [.pointer none]) ⟨_, Tryd.underlying19, rfl, by kernel_rfl⟩ Tryd.underlying19 rfl (by decide) rfl (by kernel_rfl) rfl rfl rfl (fun h => by cases h)
theorem fits20 : Fits Tryd.prog 20 ti20 := fits_mk (vs := [.nilIface]) ⟨_, Tryd.underlying20⟩ Tryd.underlying20 rfl (by decide) rfl (by kernel_rfl) rfl rfl rfl (fun h => by cases h)
theorem fits21 : Fits Tryd.prog 21 ti21 := fits_mk (vs := [.int .i32 0]) Tryd.underlying21 Tryd.underlying21 rfl (by decide) rfl (by kernel_rfl) rfl rfl rfl (fun h => by cases h)
theorem fits22 : Fits Tryd.prog 22 ti22 := fits_mk (vs := [.slice none 0 0]) Tryd.underlying22 Tryd.underlying22 rfl (by decide) rfl (by kernel_rfl) rfl rfl rfl (fun h => by cases h)
theorem fits23 : Fits Tryd.prog 23 ti23 := fits_mk (vs := [.nilFunc]) ⟨_, _, _, Tryd.underlying23⟩ Tryd.underlying23 rfl (by decide) rfl (by kernel_rfl) rfl rfl rfl (fun h => by cases h)
theorem fits24 : Fits Tryd.prog 24 ti24 := fits_mk (vs := [.int .i64 0, .int .i64 0, .int .i64 0]) ⟨_, Tryd.underlying24, rfl, by kernel_rfl⟩ Tryd.underlying24 rfl (by decide) rfl (by kernel_rfl) rfl rfl rfl (fun _ => ⟨by kernel_rfl, by kernel_rfl, by kernel_rfl⟩)
theorem fits25 : Fits Tryd.prog 25 ti25 := fits_mk (vs := [.int .i64 0, .int .i64 0, .int .i64 0]) ⟨_, Tryd.underlying25, rfl, by kernel_rfl⟩ Tryd.underlying25 rfl (by decide) rfl (by kernel_rfl) rfl rfl rfl (fun _ => ⟨by kernel_rfl, by kernel_rfl, by kernel_rfl⟩)
theorem fits26 : Fits Tryd.prog 26 ti26 := fits_mk (vs := [.slice none 0 0]) Tryd.underlying26 Tryd.underlying26 rfl (by decide) rfl (by kernel_rfl) rfl rfl rfl (fun h => by cases h)
theorem fits27 : Fits Tryd.prog 27 ti27 := fits_mk (vs := [.int .i64 0]) Tryd.underlying27 Tryd.underlying27 rfl (by decide) rfl (by kernel_rfl) rfl rfl rfl (fun h => by cases h)
theorem fits29 : Fits Tryd.prog 29 ti29 := fits_mk (vs := [.nilFunc]) ⟨_, _, _, Tryd.underlying29⟩ Tryd.underlying29 rfl (by decide) rfl (by kernel_rfl) rfl rfl rfl (fun h => by cases h)
theorem fits30 : Fits Tryd.prog 30 ti30 := fits_mk (vs := [.nilFunc]) ⟨_, _, _, Tryd.underlying30⟩ Tryd.underlying30 rfl (by decide) rfl (by kernel_rfl) rfl rfl rfl (fun h => by cases h)
theorem fits32 : Fits Tryd.prog 32 ti32 := fits_mk (vs := [.nilFunc]) ⟨_, _, _, Tryd.underlying32⟩ Tryd.underlying32 rfl (by decide) rfl (by kernel_rfl) rfl rfl rfl (fun h => by cases h)
theorem fits33 : Fits Tryd.prog 33 ti33 := fits_mk (vs := [.nilFunc]) ⟨_, _, _, Tryd.underlying33⟩ Tryd.underlying33 rfl (by decide) rfl (by kernel_rfl) rfl rfl rfl (fun h => by cases h)
theorem fits34 : Fits Tryd.prog 34 ti34 := fits_mk (vs := [.nilFunc]) ⟨_, _, _, Tryd.underlying34⟩ Tryd.underlying34 rfl (by decide) rfl (by kernel_rfl) rfl rfl rfl (fun h => by cases h)
theorem fits35 : Fits Tryd.prog 35 ti35 := fits_mk (vs := [.int .u32 0]) Tryd.underlying35 Tryd.underlying35 rfl (by decide) rfl (by kernel_rfl) rfl rfl rfl (fun h => by cases h)
theorem fits36 : Fits Tryd.prog 36 ti36 := fits_mk (vs := [.int .i64 0, .int .u32 0, .int .u32 0]) ⟨_, Tryd.underlying36, rfl, by kernel_rfl⟩ Tryd.underlying36 rfl (by decide) rfl (by kernel_rfl) rfl rfl rfl (fun _ => ⟨by kernel_rfl, by kernel_rfl, by kernel_rfl⟩)
theorem fits37 : Fits Tryd.prog 37 ti37 := fits_mk (vs := [.int .i64 0, .int .u32 0, .int .u32 0]) ⟨_, Tryd.underlying37, rfl, by kernel_rfl⟩ Tryd.underlying37 rfl (by decide) rfl (by kernel_rfl) rfl rfl rfl (fun _ => ⟨by kernel_rfl, by kernel_rfl, by kernel_rfl⟩)
theorem fits38 : Fits Tryd.prog 38 ti38 := fits_mk (vs := [.nilFunc]) ⟨_, _, _, Tryd.underlying38⟩ Tryd.underlying38 rfl (by decide) rfl (by kernel_rfl) rfl rfl rfl (fun h => by cases h)
theorem fits39 : Fits Tryd.prog 39 ti39 := fits_mk (vs := [.nilFunc]) ⟨_, _, _, Tryd.underlying39⟩ Tryd.underlying39 rfl (by decide) rfl (by kernel_rfl) rfl rfl rfl (fun h => by cases h)
theorem fits40 : Fits Tryd.prog 40 ti40 := fits_mk (vs := [.nilFunc]) ⟨_, _, _, Tryd.underlying40⟩ Tryd.underlying40 rfl (by decide) rfl (by kernel_rfl) rfl rfl rfl (fun h => by cases h)
theorem fits41 : Fits Tryd.prog 41 ti41 := fits_mk (vs := [.nilFunc]) ⟨_, _, _, Tryd.underlying41⟩ Tryd.underlying41 rfl (by decide) rfl (by kernel_rfl) rfl rfl rfl (fun h => by cases h)
theorem fits42 : Fits Tryd.prog 42 ti42 := fits_mk (vs := [.slice none 0 0]) Tryd.underlying42 Tryd.underlying42 rfl (by decide) rfl (by kernel_rfl) rfl rfl rfl (fun h => by cases h)
theorem fits43 : Fits Tryd.prog 43 ti43 := fits_mk (vs := [.nilFunc]) ⟨_, _, _, Tryd.underlying43⟩ Tryd.underlying43 rfl (by decide) rfl (by kernel_rfl) rfl rfl rfl (fun h => by cases h)
theorem fits44 : Fits Tryd.prog 44 ti44 := fits_mk (vs := [.nilFunc]) ⟨_, _, _, Tryd.underlying44⟩ Tryd.underlying44 rfl (by decide) rfl (by kernel_rfl) rfl rfl rfl (fun h => by cases h)
theorem fits45 : Fits Tryd.prog 45 ti45 := fits_mk (vs := [.nilFunc]) ⟨_, _, _, Tryd.underlying45⟩ Tryd.underlying45 rfl (by decide) rfl (by kernel_rfl) rfl rfl rfl (fun h => by cases h)
theorem fits46 : Fits Tryd.prog 46 ti46 := fits_mk (vs := [.nilFunc]) ⟨_, _, _, Tryd.underlying46⟩ Tryd.underlying46 rfl (by decide) rfl (by kernel_rfl) rfl rfl rfl (fun h => by cases h)
theorem fits47 : Fits Tryd.prog 47 ti47 := fits_mk (vs := [.int .i64 0]) Tryd.underlying47 Tryd.underlying47 rfl (by decide) rfl (by kernel_rfl) rfl rfl rfl (fun h => by cases h)
theorem fits49 : Fits Tryd.prog 49 ti49 := fits_mk (vs := [.nilFunc]) ⟨_, _, _, Tryd.underlying49⟩ Tryd.underlying49 rfl (by decide) rfl (by kernel_rfl) rfl rfl rfl (fun h => by cases h)
theorem fits50 : Fits Tryd.prog 50 ti50 := fits_mk (vs := [.nilFunc]) ⟨_, _, _, Tryd.underlying50⟩ Tryd.underlying50 rfl (by decide) rfl (by kernel_rfl) rfl rfl rfl (fun h => by cases h)
theorem fits51 : Fits Tryd.prog 51 ti51 := fits_mk (vs := [.nilFunc]) ⟨_, _, _, Tryd.underlying51⟩ Tryd.underlying51 rfl (by decide) rfl (by kernel_rfl) rfl rfl rfl (fun h => by cases h)
theorem fits52 : Fits Tryd.prog 52 ti52 := fits_mk (vs := [.nilFunc]) ⟨_, _, _, Tryd.underlying52⟩ Tryd.underlying52 rfl (by decide) rfl (by kernel_rfl) rfl rfl rfl (fun h => by cases h)
theorem fits53 : Fits Tryd.prog 53 ti53 := fits_mk (vs := [.nilFunc]) ⟨_, _, _, Tryd.underlying53⟩ Tryd.underlying53 rfl (by decide) rfl (by kernel_rfl) rfl rfl rfl (fun h => by cases h)
theorem fits54 : Fits Tryd.prog 54 ti54 := fits_mk (vs := [.slice none 0 0]) Tryd.underlying54 Tryd.underlying54 rfl (by decide) rfl (by kernel_rfl) rfl rfl rfl (fun h => by cases h)
theorem fits55 : Fits Tryd.prog 55 ti55 := fits_mk (vs := [.nilFunc]) ⟨_, _, _, Tryd.underlying55⟩ Tryd.underlying55 rfl (by decide) rfl (by kernel_rfl) rfl rfl rfl (fun h => by cases h)
theorem fits56 : Fits Tryd.prog 56 ti56 := fits_mk (vs := [.nilFunc]) ⟨_, _, _, Tryd.underlying56⟩ Tryd.underlying56 rfl (by decide) rfl (by kernel_rfl) rfl rfl rfl (fun h => by cases h)
theorem fits57 : Fits Tryd.prog 57 ti57 := fits_mk (vs := [.nilFunc]) ⟨_, _, _, Tryd.underlying57⟩ Tryd.underlying57 rfl (by decide) rfl (by kernel_rfl) rfl rfl rfl (fun h => by cases h)
theorem fits58 : Fits Tryd.prog 58 ti58 := fits_mk (vs := [.nilFunc]) ⟨_, _, _, Tryd.underlying58⟩ Tryd.underlying58 rfl (by decide) rfl (by kernel_rfl) rfl rfl rfl (fun h => by cases h)
theorem fits59 : Fits Tryd.prog 59 ti59 := fits_mk (vs := [.nilFunc]) ⟨_, _, _, Tryd.underlying59⟩ Tryd.underlying59 rfl (by decide) rfl (by kernel_rfl) rfl rfl rfl (fun h => by cases h)
theorem fits60 : Fits Tryd.prog 60 ti60 := fits_mk (vs := [.map none]) Tryd.underlying60 Tryd.underlying60 rfl (by decide) rfl (by kernel_rfl) rfl rfl rfl (fun h => by cases h)
theorem fits61 : Fits Tryd.prog 61 ti61 := fits_mk (vs := [.nilFunc]) ⟨_, _, _, Tryd.underlying61⟩ Tryd.underlying61 rfl (by decide) rfl (by kernel_rfl) rfl rfl rfl (fun h => by cases h)
theorem fits62 : Fits Tryd.prog 62 ti62 := fits_mk (vs := [.nilFunc]) ⟨_, _, _, Tryd.underlying62⟩ Tryd.underlying62 rfl (by decide) rfl (by kernel_rfl) rfl rfl rfl (fun h => by cases h)
theorem fits63 : Fits Tryd.prog 63 ti63 := fits_mk (vs := [.int .i64 0, .int .i64 0, .int .i64 0, .int .i64 0, .int .i64 0, .int .i64 0, .int .i64 0]) Tryd.underlying63 Tryd.underlying63 rfl (by decide) rfl (by kernel_rfl) rfl rfl rfl (fun h => by cases h)
theorem fits64 : Fits Tryd.prog 64 ti64 := fits_mk (vs := [.nilFunc]) ⟨_, _, _, Tryd.underlying64⟩ Tryd.underlying64 rfl (by decide) rfl (by kernel_rfl) rfl rfl rfl (fun h => by cases h)
theorem fits65 : Fits Tryd.prog 65 ti65 := fits_mk (vs := [.nilFunc]) ⟨_, _, _, Tryd.underlying65⟩ Tryd.underlying65 rfl (by decide) rfl (by kernel_rfl) rfl rfl rfl (fun h => by cases h)
theorem fits66 : Fits Tryd.prog 66 ti66 := fits_mk (vs := [.int .u64 0]) Tryd.underlying66 Tryd.underlying66 rfl (by decide) rfl (by kernel_rfl) rfl rfl rfl (fun h => by cases h)
theorem fits67 : Fits Tryd.prog 67 ti67 := fits_mk (vs := [.nilFunc]) ⟨_, _, _, Tryd.underlying67⟩ Tryd.underlying67 rfl (by decide) rfl (by kernel_rfl) rfl rfl rfl (fun h => by cases h)
theorem fits68 : Fits Tryd.prog 68 ti68 := fits_mk (vs := [.int .i64 0]) Tryd.underlying68 Tryd.underlying68 rfl (by decide) rfl (by kernel_rfl) rfl rfl rfl (fun h => by cases h)
theorem fits70 : Fits Tryd.prog 70 ti70 := fits_mk (vs := [.nilFunc]) ⟨_, _, _, Tryd.underlying70⟩ Tryd.underlying70 rfl (by decide) rfl (by kernel_rfl) rfl rfl rfl (fun h => by cases h)
theorem fits71 : Fits Tryd.prog 71 ti71 := fits_mk (vs := [.nilFunc]) ⟨_, _, _, Tryd.underlying71⟩ Tryd.underlying71 rfl (by decide) rfl (by kernel_rfl) rfl rfl rfl (fun h => by cases h)
theorem fits72 : Fits Tryd.prog 72 ti72 := fits_mk (vs := [.nilFunc]) ⟨_, _, _, Tryd.underlying72⟩ Tryd.underlying72 rfl (by decide) rfl (by kernel_rfl) rfl rfl rfl (fun h => by cases h)
theorem fits73 : Fits Tryd.prog 73 ti73 := fits_mk (vs := [.nilFunc]) ⟨_, _, _, Tryd.underlying73⟩ Tryd.underlying73 rfl (by decide) rfl (by kernel_rfl) rfl rfl rfl (fun h => by cases h)
theorem fits75 : Fits Tryd.prog 75 ti75 := fits_mk (vs := [.nilFunc]) ⟨_, _, _, Tryd.underlying75⟩ Tryd.underlying75 rfl (by decide) rfl (by kernel_rfl) rfl rfl rfl (fun h => by cases h)
theorem fits76 : Fits Tryd.prog 76 ti76 := fits_mk (vs := [.nilFunc]) ⟨_, _, _, Tryd.underlying76⟩ Tryd.underlying76 rfl (by decide) rfl (by kernel_rfl) rfl rfl rfl (fun h => by cases h)
theorem fits77 : Fits Tryd.prog 77 ti77 := fits_mk (vs := [.nilFunc]) ⟨_, _, _, Tryd.underlying77⟩ Tryd.underlying77 rfl (by decide) rfl (by kernel_rfl) rfl rfl rfl (fun h => by cases h)
theorem fits78 : Fits Tryd.prog 78 ti78 := fits_mk (vs := [.int .u64 0]) Tryd.underlying78 Tryd.underlying78 rfl (by decide) rfl (by kernel_rfl) rfl rfl rfl (fun h => by cases h)
theorem fits79 : Fits Tryd.prog 79 ti79 := fits_mk (vs := [.int .u64 0]) Tryd.underlying79 Tryd.underlying79 rfl (by decide) rfl (by kernel_rfl) rfl rfl rfl (fun h => by cases h)
theorem fits80 : Fits Tryd.prog 80 ti80 := fits_mk (vs := [.nilFunc]) ⟨_, _, _, Tryd.underlying80⟩ Tryd.underlying80 rfl (by decide) rfl (by kernel_rfl) rfl rfl rfl (fun h => by cases h)
theorem fits81 : Fits Tryd.prog 81 ti81 := fits_mk (vs := [.nilFunc]) ⟨_, _, _, Tryd.underlying81⟩ Tryd.underlying81 rfl (by decide) rfl (by kernel_rfl) rfl rfl rfl (fun h => by cases h)
theorem fits82 : Fits Tryd.prog 82 ti82 := fits_mk (vs := [.nilFunc]) ⟨_, _, _, Tryd.underlying82⟩ Tryd.underlying82 rfl (by decide) rfl (by kernel_rfl) rfl rfl rfl (fun h => by cases h)
theorem fits83 : Fits Tryd.prog 83 ti83 := fits_mk (vs := [.pointer none]) Tryd.underlying83 Tryd.underlying83 rfl (by decide) rfl (by kernel_rfl) rfl rfl rfl (fun h => by cases h)
theorem fits84 : Fits Tryd.prog 84 ti84 := fits_mk (vs := [.nilFunc]) ⟨_, _, _, Tryd.underlying84⟩ Tryd.underlying84 rfl (by decide) rfl (by kernel_rfl) rfl rfl rfl (fun h => by cases h)
theorem fits85 : Fits Tryd.prog 85 ti85 := fits_mk (vs := [.pointer none]) Tryd.underlying85 Tryd.underlying85 rfl (by decide) rfl (by kernel_rfl) rfl rfl rfl (fun h => by cases h)
theorem fits87 : Fits Tryd.prog 87 ti87 := fits_mk (vs := [.nilFunc]) ⟨_, _, _, Tryd.underlying87⟩ Tryd.underlying87 rfl (by decide) rfl (by kernel_rfl) rfl rfl rfl (fun h => by cases h)
theorem fits88 : Fits Tryd.prog 88 ti88 := fits_mk (vs := [.nilFunc]) ⟨_, _, _, Tryd.underlying88⟩ Tryd.underlying88 rfl (by decide) rfl (by kernel_rfl) rfl rfl rfl (fun h => by cases h)
theorem fits89 : Fits Tryd.prog 89 ti89 := fits_mk (vs := [.pointer none, .pointer none, .pointer none, .string ByteArray.empty]) ⟨_, Tryd.underlying89, rfl, by kernel_rfl⟩ Tryd.underlying89 rfl (by decide) rfl (by kernel_rfl) rfl rfl rfl (fun h => by cases h)
theorem fits90 : Fits Tryd.prog 90 ti90 := fits_mk (vs := [.pointer none, .pointer none, .pointer none, .string ByteArray.empty]) ⟨_, Tryd.underlying90, rfl, by kernel_rfl⟩ Tryd.underlying90 rfl (by decide) rfl (by kernel_rfl) rfl rfl rfl (fun h => by cases h)
theorem fits94 : Fits Tryd.prog 94 ti94 := fits_mk (vs := [.int .u8 0]) Tryd.underlying94 Tryd.underlying94 rfl (by decide) rfl (by kernel_rfl) rfl rfl rfl (fun h => by cases h)
theorem fits95 : Fits Tryd.prog 95 ti95 := fits_mk (vs := [.int .u8 0]) Tryd.underlying95 Tryd.underlying95 rfl (by decide) rfl (by kernel_rfl) rfl rfl rfl (fun h => by cases h)
theorem fits96 : Fits Tryd.prog 96 ti96 := fits_mk (vs := [.nilFunc]) ⟨_, _, _, Tryd.underlying96⟩ Tryd.underlying96 rfl (by decide) rfl (by kernel_rfl) rfl rfl rfl (fun h => by cases h)
theorem fits97 : Fits Tryd.prog 97 ti97 := fits_mk (vs := [.pointer none]) Tryd.underlying97 Tryd.underlying97 rfl (by decide) rfl (by kernel_rfl) rfl rfl rfl (fun h => by cases h)
theorem fits98 : Fits Tryd.prog 98 ti98 := fits_mk (vs := [.int .i32 0]) Tryd.underlying98 Tryd.underlying98 rfl (by decide) rfl (by kernel_rfl) rfl rfl rfl (fun h => by cases h)
theorem fits99 : Fits Tryd.prog 99 ti99 := fits_mk (vs := [.int .i32 0]) Tryd.underlying99 Tryd.underlying99 rfl (by decide) rfl (by kernel_rfl) rfl rfl rfl (fun h => by cases h)
theorem fits100 : Fits Tryd.prog 100 ti100 := fits_mk (vs := [.int .u64 0, .int .u64 0, .int .u32 0, .int .u8 0, .int .u8 0, .int .u8 0, .int .u8 0, .nilFunc, .pointer none, .int .i32 0, .int .i32 0]) ⟨_, Tryd.underlying100, rfl, by kernel_rfl⟩ Tryd.underlying100 rfl (by decide) rfl (by kernel_rfl) rfl rfl rfl (fun h => by cases h)
theorem fits101 : Fits Tryd.prog 101 ti101 := fits_mk (vs := [.int .u64 0, .int .u64 0, .int .u32 0, .int .u8 0, .int .u8 0, .int .u8 0, .int .u8 0, .nilFunc, .pointer none, .int .i32 0, .int .i32 0]) ⟨_, Tryd.underlying101, rfl, by kernel_rfl⟩ Tryd.underlying101 rfl (by decide) rfl (by kernel_rfl) rfl rfl rfl (fun h => by cases h)
theorem agrees : Agrees Tryd.prog tt := TTree.agrees (T := tree) ⟨fits50, ⟨fits24, ⟨fits12, ⟨fits6, ⟨fits3, ⟨fits2, ⟨fits1, trivial, trivial⟩, trivial⟩, ⟨fits5, ⟨fits4, trivial, trivial⟩, trivial⟩⟩, ⟨fits9, ⟨fits8, ⟨fits7, trivial, trivial⟩, trivial⟩, ⟨fits11, ⟨fits10, trivial, trivial⟩, trivial⟩⟩⟩, ⟨fits18, ⟨fits15, ⟨fits14, ⟨fits13, trivial, trivial⟩, trivial⟩, ⟨fits17, ⟨fits16, trivial, trivial⟩, trivial⟩⟩, ⟨fits21, ⟨fits20, ⟨fits19, trivial, trivial⟩, trivial⟩, ⟨fits23, ⟨fits22, trivial, trivial⟩, trivial⟩⟩⟩⟩, ⟨fits38, ⟨fits32, ⟨fits27, ⟨fits26, ⟨fits25, trivial, trivial⟩, trivial⟩, ⟨fits30, ⟨fits29, trivial, trivial⟩, trivial⟩⟩, ⟨fits35, ⟨fits34, ⟨fits33, trivial, trivial⟩, trivial⟩, ⟨fits37, ⟨fits36, trivial, trivial⟩, trivial⟩⟩⟩, ⟨fits44, ⟨fits41, ⟨fits40, ⟨fits39, trivial, trivial⟩, trivial⟩, ⟨fits43, ⟨fits42, trivial, trivial⟩, trivial⟩⟩, ⟨fits47, ⟨fits46, ⟨fits45, trivial, trivial⟩, trivial⟩, ⟨fits49, trivial, trivial⟩⟩⟩⟩⟩, ⟨fits75, ⟨fits62, ⟨fits56, ⟨fits53, ⟨fits52, ⟨fits51, trivial, trivial⟩, trivial⟩, ⟨fits55, ⟨fits54, trivial, trivial⟩, trivial⟩⟩, ⟨fits59, ⟨fits58, ⟨fits57, trivial, trivial⟩, trivial⟩, ⟨fits61, ⟨fits60, trivial, trivial⟩, trivial⟩⟩⟩, ⟨fits68, ⟨fits65, ⟨fits64, ⟨fits63, trivial, trivial⟩, trivial⟩, ⟨fits67, ⟨fits66, trivial, trivial⟩, trivial⟩⟩, ⟨fits72, ⟨fits71, ⟨fits70, trivial, trivial⟩, trivial⟩, ⟨fits73, trivial, trivial⟩⟩⟩⟩, ⟨fits88, ⟨fits81, ⟨fits78, ⟨fits77, ⟨fits76, trivial, trivial⟩, trivial⟩, ⟨fits80, ⟨fits79, trivial, trivial⟩, trivial⟩⟩, ⟨fits84, ⟨fits83, ⟨fits82, trivial, trivial⟩, trivial⟩, ⟨fits87, ⟨fits85, trivial, trivial⟩, trivial⟩⟩⟩, ⟨fits97, ⟨fits94, ⟨fits90, ⟨fits89, trivial, trivial⟩, trivial⟩, ⟨fits96, ⟨fits95, trivial, trivial⟩, trivial⟩⟩, ⟨fits100, ⟨fits99, ⟨fits98, trivial, trivial⟩, trivial⟩, ⟨fits101, trivial, trivial⟩⟩⟩⟩⟩⟩
end Go.Proofs.YtmkbaeilfejbjaaDoor
