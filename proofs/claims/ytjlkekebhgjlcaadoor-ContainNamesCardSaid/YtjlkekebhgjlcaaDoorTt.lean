/- The seat's types as a table, and that the program has them so. Printed by a program (mktt.py). -/
import Derived.Test.YtjlkekebhgjlcaaDoorVcJ
import Derived.Test.YtjlkekebhgjlcaaDoorRows
namespace Go.Proofs.YtjlkekebhgjlcaaDoor
open Go.Vc
def ti1 : TI := ⟨.func, .any, 1, 8, [.v (.nilFunc)], false⟩
def ti2 : TI := ⟨.int .i64, (.int .i64), 1, 8, [.v (.int .i64 0)], false⟩
def ti3 : TI := ⟨.int .i64, (.int .i64), 1, 8, [.v (.int .i64 0)], false⟩
def ti4 : TI := ⟨.bool, .bool, 1, 1, [.v (.bool false)], false⟩
def ti5 : TI := ⟨.int .u8, (.int .u8), 1, 1, [.v (.int .u8 0)], false⟩
def ti6 : TI := ⟨.int .u8, (.int .u8), 1, 1, [.v (.int .u8 0)], false⟩
def ti7 : TI := ⟨.struct [(0, 2), (1, 3), (2, 4), (3, 6)], (.st (.pair (.int .i64) (.pair (.int .i64) (.pair .bool (.int .u8))))), 4, 24, [.v (.int .i64 0), .v (.int .i64 0), .v (.bool false), .v (.int .u8 0)], true⟩
def ti8 : TI := ⟨.struct [(0, 2), (1, 3), (2, 4), (3, 6)], (.st (.pair (.int .i64) (.pair (.int .i64) (.pair .bool (.int .u8))))), 4, 24, [.v (.int .i64 0), .v (.int .i64 0), .v (.bool false), .v (.int .u8 0)], true⟩
def ti9 : TI := ⟨.str, .str, 1, 16, [.v (.string ByteArray.empty)], false⟩
def ti10 : TI := ⟨.str, .str, 1, 16, [.v (.string ByteArray.empty)], false⟩
def ti11 : TI := ⟨.str, .str, 1, 16, [.v (.string ByteArray.empty)], false⟩
def ti12 : TI := ⟨.int .u64, (.int .u64), 1, 8, [.v (.int .u64 0)], false⟩
def ti13 : TI := ⟨.struct [(0, 9), (1, 12)], (.st (.pair .str (.int .u64))), 2, 24, [.v (.string ByteArray.empty), .v (.int .u64 0)], false⟩
def ti14 : TI := ⟨.struct [(0, 9), (1, 12)], (.st (.pair .str (.int .u64))), 2, 24, [.v (.string ByteArray.empty), .v (.int .u64 0)], false⟩
def ti15 : TI := ⟨.ptr 104, .any, 1, 8, [.v (.pointer none)], false⟩
def ti16 : TI := ⟨.ptr 107, .any, 1, 8, [.v (.pointer none)], false⟩
def ti17 : TI := ⟨.ptr 116, .any, 1, 8, [.v (.pointer none)], false⟩
def ti18 : TI := ⟨.struct [(0, 17)], (.st .any), 1, 8, [.v (.pointer none)], false⟩
def ti19 : TI := ⟨.struct [(0, 17)], (.st .any), 1, 8, [.v (.pointer none)], false⟩
def ti20 : TI := ⟨.iface, .any, 1, 16, [.v (.nilIface)], false⟩
def ti21 : TI := ⟨.int .i32, (.int .i32), 1, 4, [.v (.int .i32 0)], false⟩
def ti23 : TI := ⟨.func, .any, 1, 8, [.v (.nilFunc)], false⟩
def ti24 : TI := ⟨.struct [(0, 9)], (.st .str), 1, 16, [.v (.string ByteArray.empty)], false⟩
def ti25 : TI := ⟨.struct [(0, 9)], (.st .str), 1, 16, [.v (.string ByteArray.empty)], false⟩
def ti26 : TI := ⟨.slice 9, .slice, 1, 24, [.v (.slice none 0 0)], false⟩
def ti27 : TI := ⟨.func, .any, 1, 8, [.v (.nilFunc)], false⟩
def ti28 : TI := ⟨.func, .any, 1, 8, [.v (.nilFunc)], false⟩
def ti29 : TI := ⟨.func, .any, 1, 8, [.v (.nilFunc)], false⟩
def ti30 : TI := ⟨.func, .any, 1, 8, [.v (.nilFunc)], false⟩
def ti31 : TI := ⟨.slice 3, .slice, 1, 24, [.v (.slice none 0 0)], false⟩
def ti32 : TI := ⟨.func, .any, 1, 8, [.v (.nilFunc)], false⟩
def ti33 : TI := ⟨.func, .any, 1, 8, [.v (.nilFunc)], false⟩
def ti34 : TI := ⟨.slice 2, .slice, 1, 24, [.v (.slice none 0 0)], false⟩
def ti35 : TI := ⟨.int .i64, (.int .i64), 1, 8, [.v (.int .i64 0)], false⟩
def ti37 : TI := ⟨.func, .any, 1, 8, [.v (.nilFunc)], false⟩
def ti39 : TI := ⟨.func, .any, 1, 8, [.v (.nilFunc)], false⟩
def ti41 : TI := ⟨.func, .any, 1, 8, [.v (.nilFunc)], false⟩
def ti42 : TI := ⟨.func, .any, 1, 8, [.v (.nilFunc)], false⟩
def ti43 : TI := ⟨.func, .any, 1, 8, [.v (.nilFunc)], false⟩
def ti44 : TI := ⟨.func, .any, 1, 8, [.v (.nilFunc)], false⟩
def ti45 : TI := ⟨.func, .any, 1, 8, [.v (.nilFunc)], false⟩
def ti46 : TI := ⟨.func, .any, 1, 8, [.v (.nilFunc)], false⟩
def ti47 : TI := ⟨.slice 5, .slice, 1, 24, [.v (.slice none 0 0)], false⟩
def ti48 : TI := ⟨.func, .any, 1, 8, [.v (.nilFunc)], false⟩
def ti49 : TI := ⟨.struct [(0, 3), (1, 48)], (.st (.pair (.int .i64) .any)), 2, 16, [.v (.int .i64 0), .v (.nilFunc)], false⟩
def ti50 : TI := ⟨.struct [(0, 3), (1, 48)], (.st (.pair (.int .i64) .any)), 2, 16, [.v (.int .i64 0), .v (.nilFunc)], false⟩
def ti52 : TI := ⟨.map 9 50, .map, 1, 8, [.v (.map none)], false⟩
def ti53 : TI := ⟨.func, .any, 1, 8, [.v (.nilFunc)], false⟩
def ti54 : TI := ⟨.func, .any, 1, 8, [.v (.nilFunc)], false⟩
def ti55 : TI := ⟨.func, .any, 1, 8, [.v (.nilFunc)], false⟩
def ti56 : TI := ⟨.func, .any, 1, 8, [.v (.nilFunc)], false⟩
def ti57 : TI := ⟨.func, .any, 1, 8, [.v (.nilFunc)], false⟩
def ti58 : TI := ⟨.func, .any, 1, 8, [.v (.nilFunc)], false⟩
def ti59 : TI := ⟨.iface, .any, 1, 16, [.v (.nilIface)], false⟩
def ti60 : TI := ⟨.iface, .any, 1, 16, [.v (.nilIface)], false⟩
def ti61 : TI := ⟨.func, .any, 1, 8, [.v (.nilFunc)], false⟩
def ti62 : TI := ⟨.func, .any, 1, 8, [.v (.nilFunc)], false⟩
def ti63 : TI := ⟨.func, .any, 1, 8, [.v (.nilFunc)], false⟩
def ti64 : TI := ⟨.func, .any, 1, 8, [.v (.nilFunc)], false⟩
def ti65 : TI := ⟨.func, .any, 1, 8, [.v (.nilFunc)], false⟩
def ti66 : TI := ⟨.func, .any, 1, 8, [.v (.nilFunc)], false⟩
def ti67 : TI := ⟨.func, .any, 1, 8, [.v (.nilFunc)], false⟩
def ti68 : TI := ⟨.func, .any, 1, 8, [.v (.nilFunc)], false⟩
def ti69 : TI := ⟨.func, .any, 1, 8, [.v (.nilFunc)], false⟩
def ti70 : TI := ⟨.int .u64, (.int .u64), 1, 8, [.v (.int .u64 0)], false⟩
def ti71 : TI := ⟨.array 24 5, (.st (.pair (.int .u8) (.pair (.int .u8) (.pair (.int .u8) (.pair (.int .u8) (.pair (.int .u8) (.pair (.int .u8) (.pair (.int .u8) (.pair (.int .u8) (.pair (.int .u8) (.pair (.int .u8) (.pair (.int .u8) (.pair (.int .u8) (.pair (.int .u8) (.pair (.int .u8) (.pair (.int .u8) (.pair (.int .u8) (.pair (.int .u8) (.pair (.int .u8) (.pair (.int .u8) (.pair (.int .u8) (.pair (.int .u8) (.pair (.int .u8) (.pair (.int .u8) (.int .u8))))))))))))))))))))))))), 24, 24, [.v (.int .u8 0), .v (.int .u8 0), .v (.int .u8 0), .v (.int .u8 0), .v (.int .u8 0), .v (.int .u8 0), .v (.int .u8 0), .v (.int .u8 0), .v (.int .u8 0), .v (.int .u8 0), .v (.int .u8 0), .v (.int .u8 0), .v (.int .u8 0), .v (.int .u8 0), .v (.int .u8 0), .v (.int .u8 0), .v (.int .u8 0), .v (.int .u8 0), .v (.int .u8 0), .v (.int .u8 0), .v (.int .u8 0), .v (.int .u8 0), .v (.int .u8 0), .v (.int .u8 0)], false⟩
def ti72 : TI := ⟨.int .u64, (.int .u64), 1, 8, [.v (.int .u64 0)], false⟩
def ti73 : TI := ⟨.func, .any, 1, 8, [.v (.nilFunc)], false⟩
def ti74 : TI := ⟨.func, .any, 1, 8, [.v (.nilFunc)], false⟩
def ti76 : TI := ⟨.func, .any, 1, 8, [.v (.nilFunc)], false⟩
def ti77 : TI := ⟨.func, .any, 1, 8, [.v (.nilFunc)], false⟩
def ti78 : TI := ⟨.int .i64, (.int .i64), 1, 8, [.v (.int .i64 0)], false⟩
def ti80 : TI := ⟨.func, .any, 1, 8, [.v (.nilFunc)], false⟩
def ti81 : TI := ⟨.func, .any, 1, 8, [.v (.nilFunc)], false⟩
def ti82 : TI := ⟨.func, .any, 1, 8, [.v (.nilFunc)], false⟩
def ti83 : TI := ⟨.func, .any, 1, 8, [.v (.nilFunc)], false⟩
def ti84 : TI := ⟨.func, .any, 1, 8, [.v (.nilFunc)], false⟩
def ti85 : TI := ⟨.func, .any, 1, 8, [.v (.nilFunc)], false⟩
def ti86 : TI := ⟨.int .u32, (.int .u32), 1, 4, [.v (.int .u32 0)], false⟩
def ti87 : TI := ⟨.func, .any, 1, 8, [.v (.nilFunc)], false⟩
def ti88 : TI := ⟨.func, .any, 1, 8, [.v (.nilFunc)], false⟩
def ti89 : TI := ⟨.array 20 72, (.st (.pair (.int .u64) (.pair (.int .u64) (.pair (.int .u64) (.pair (.int .u64) (.pair (.int .u64) (.pair (.int .u64) (.pair (.int .u64) (.pair (.int .u64) (.pair (.int .u64) (.pair (.int .u64) (.pair (.int .u64) (.pair (.int .u64) (.pair (.int .u64) (.pair (.int .u64) (.pair (.int .u64) (.pair (.int .u64) (.pair (.int .u64) (.pair (.int .u64) (.pair (.int .u64) (.int .u64))))))))))))))))))))), 20, 160, [.v (.int .u64 0), .v (.int .u64 0), .v (.int .u64 0), .v (.int .u64 0), .v (.int .u64 0), .v (.int .u64 0), .v (.int .u64 0), .v (.int .u64 0), .v (.int .u64 0), .v (.int .u64 0), .v (.int .u64 0), .v (.int .u64 0), .v (.int .u64 0), .v (.int .u64 0), .v (.int .u64 0), .v (.int .u64 0), .v (.int .u64 0), .v (.int .u64 0), .v (.int .u64 0), .v (.int .u64 0)], false⟩
def ti91 : TI := ⟨.func, .any, 1, 8, [.v (.nilFunc)], false⟩
def ti92 : TI := ⟨.int .u64, (.int .u64), 1, 8, [.v (.int .u64 0)], false⟩
def ti93 : TI := ⟨.func, .any, 1, 8, [.v (.nilFunc)], false⟩
def ti94 : TI := ⟨.func, .any, 1, 8, [.v (.nilFunc)], false⟩
def ti95 : TI := ⟨.func, .any, 1, 8, [.v (.nilFunc)], false⟩
def ti96 : TI := ⟨.ptr 3, .any, 1, 8, [.v (.pointer none)], false⟩
def ti97 : TI := ⟨.func, .any, 1, 8, [.v (.nilFunc)], false⟩
def ti98 : TI := ⟨.ptr 92, .any, 1, 8, [.v (.pointer none)], false⟩
def ti100 : TI := ⟨.func, .any, 1, 8, [.v (.nilFunc)], false⟩
def ti101 : TI := ⟨.array 32 5, (.st (.pair (.int .u8) (.pair (.int .u8) (.pair (.int .u8) (.pair (.int .u8) (.pair (.int .u8) (.pair (.int .u8) (.pair (.int .u8) (.pair (.int .u8) (.pair (.int .u8) (.pair (.int .u8) (.pair (.int .u8) (.pair (.int .u8) (.pair (.int .u8) (.pair (.int .u8) (.pair (.int .u8) (.pair (.int .u8) (.pair (.int .u8) (.pair (.int .u8) (.pair (.int .u8) (.pair (.int .u8) (.pair (.int .u8) (.pair (.int .u8) (.pair (.int .u8) (.pair (.int .u8) (.pair (.int .u8) (.pair (.int .u8) (.pair (.int .u8) (.pair (.int .u8) (.pair (.int .u8) (.pair (.int .u8) (.pair (.int .u8) (.int .u8))))))))))))))))))))))))))))))))), 32, 32, [.v (.int .u8 0), .v (.int .u8 0), .v (.int .u8 0), .v (.int .u8 0), .v (.int .u8 0), .v (.int .u8 0), .v (.int .u8 0), .v (.int .u8 0), .v (.int .u8 0), .v (.int .u8 0), .v (.int .u8 0), .v (.int .u8 0), .v (.int .u8 0), .v (.int .u8 0), .v (.int .u8 0), .v (.int .u8 0), .v (.int .u8 0), .v (.int .u8 0), .v (.int .u8 0), .v (.int .u8 0), .v (.int .u8 0), .v (.int .u8 0), .v (.int .u8 0), .v (.int .u8 0), .v (.int .u8 0), .v (.int .u8 0), .v (.int .u8 0), .v (.int .u8 0), .v (.int .u8 0), .v (.int .u8 0), .v (.int .u8 0), .v (.int .u8 0)], false⟩
def ti103 : TI := ⟨.struct [(0, 17), (1, 17), (2, 17), (3, 9)], (.st (.pair .any (.pair .any (.pair .any .str)))), 4, 40, [.v (.pointer none), .v (.pointer none), .v (.pointer none), .v (.string ByteArray.empty)], false⟩
def ti104 : TI := ⟨.struct [(0, 17), (1, 17), (2, 17), (3, 9)], (.st (.pair .any (.pair .any (.pair .any .str)))), 4, 40, [.v (.pointer none), .v (.pointer none), .v (.pointer none), .v (.string ByteArray.empty)], false⟩
def ti108 : TI := ⟨.func, .any, 1, 8, [.v (.nilFunc)], false⟩
def ti109 : TI := ⟨.int .u8, (.int .u8), 1, 1, [.v (.int .u8 0)], false⟩
def ti110 : TI := ⟨.int .u8, (.int .u8), 1, 1, [.v (.int .u8 0)], false⟩
def ti111 : TI := ⟨.func, .any, 1, 8, [.v (.nilFunc)], false⟩
def ti112 : TI := ⟨.ptr 5, .any, 1, 8, [.v (.pointer none)], false⟩
def ti113 : TI := ⟨.int .i32, (.int .i32), 1, 4, [.v (.int .i32 0)], false⟩
def ti114 : TI := ⟨.int .i32, (.int .i32), 1, 4, [.v (.int .i32 0)], false⟩
def ti115 : TI := ⟨.struct [(0, 12), (1, 12), (2, 86), (3, 109), (4, 5), (5, 5), (6, 110), (7, 111), (8, 112), (9, 113), (10, 114)], (.st (.pair (.int .u64) (.pair (.int .u64) (.pair (.int .u32) (.pair (.int .u8) (.pair (.int .u8) (.pair (.int .u8) (.pair (.int .u8) (.pair .any (.pair .any (.pair (.int .i32) (.int .i32)))))))))))), 11, 48, [.v (.int .u64 0), .v (.int .u64 0), .v (.int .u32 0), .v (.int .u8 0), .v (.int .u8 0), .v (.int .u8 0), .v (.int .u8 0), .v (.nilFunc), .v (.pointer none), .v (.int .i32 0), .v (.int .i32 0)], false⟩
def ti116 : TI := ⟨.struct [(0, 12), (1, 12), (2, 86), (3, 109), (4, 5), (5, 5), (6, 110), (7, 111), (8, 112), (9, 113), (10, 114)], (.st (.pair (.int .u64) (.pair (.int .u64) (.pair (.int .u32) (.pair (.int .u8) (.pair (.int .u8) (.pair (.int .u8) (.pair (.int .u8) (.pair .any (.pair .any (.pair (.int .i32) (.int .i32)))))))))))), 11, 48, [.v (.int .u64 0), .v (.int .u64 0), .v (.int .u32 0), .v (.int .u8 0), .v (.int .u8 0), .v (.int .u8 0), .v (.int .u8 0), .v (.nilFunc), .v (.pointer none), .v (.int .i32 0), .v (.int .i32 0)], false⟩
def tree : TTree := (.node 57 ti57 (.node 27 ti27 (.node 13 ti13 (.node 7 ti7 (.node 4 ti4 (.node 2 ti2 (.node 1 ti1 .leaf .leaf) (.node 3 ti3 .leaf .leaf)) (.node 6 ti6 (.node 5 ti5 .leaf .leaf) .leaf)) (.node 10 ti10 (.node 9 ti9 (.node 8 ti8 .leaf .leaf) .leaf) (.node 12 ti12 (.node 11 ti11 .leaf .leaf) .leaf))) (.node 20 ti20 (.node 17 ti17 (.node 15 ti15 (.node 14 ti14 .leaf .leaf) (.node 16 ti16 .leaf .leaf)) (.node 19 ti19 (.node 18 ti18 .leaf .leaf) .leaf)) (.node 24 ti24 (.node 23 ti23 (.node 21 ti21 .leaf .leaf) .leaf) (.node 26 ti26 (.node 25 ti25 .leaf .leaf) .leaf)))) (.node 43 ti43 (.node 34 ti34 (.node 31 ti31 (.node 29 ti29 (.node 28 ti28 .leaf .leaf) (.node 30 ti30 .leaf .leaf)) (.node 33 ti33 (.node 32 ti32 .leaf .leaf) .leaf)) (.node 39 ti39 (.node 37 ti37 (.node 35 ti35 .leaf .leaf) .leaf) (.node 42 ti42 (.node 41 ti41 .leaf .leaf) .leaf))) (.node 50 ti50 (.node 47 ti47 (.node 45 ti45 (.node 44 ti44 .leaf .leaf) (.node 46 ti46 .leaf .leaf)) (.node 49 ti49 (.node 48 ti48 .leaf .leaf) .leaf)) (.node 54 ti54 (.node 53 ti53 (.node 52 ti52 .leaf .leaf) .leaf) (.node 56 ti56 (.node 55 ti55 .leaf .leaf) .leaf))))) (.node 85 ti85 (.node 70 ti70 (.node 64 ti64 (.node 61 ti61 (.node 59 ti59 (.node 58 ti58 .leaf .leaf) (.node 60 ti60 .leaf .leaf)) (.node 63 ti63 (.node 62 ti62 .leaf .leaf) .leaf)) (.node 67 ti67 (.node 66 ti66 (.node 65 ti65 .leaf .leaf) .leaf) (.node 69 ti69 (.node 68 ti68 .leaf .leaf) .leaf))) (.node 78 ti78 (.node 74 ti74 (.node 72 ti72 (.node 71 ti71 .leaf .leaf) (.node 73 ti73 .leaf .leaf)) (.node 77 ti77 (.node 76 ti76 .leaf .leaf) .leaf)) (.node 82 ti82 (.node 81 ti81 (.node 80 ti80 .leaf .leaf) .leaf) (.node 84 ti84 (.node 83 ti83 .leaf .leaf) .leaf)))) (.node 100 ti100 (.node 93 ti93 (.node 89 ti89 (.node 87 ti87 (.node 86 ti86 .leaf .leaf) (.node 88 ti88 .leaf .leaf)) (.node 92 ti92 (.node 91 ti91 .leaf .leaf) .leaf)) (.node 96 ti96 (.node 95 ti95 (.node 94 ti94 .leaf .leaf) .leaf) (.node 98 ti98 (.node 97 ti97 .leaf .leaf) .leaf))) (.node 111 ti111 (.node 108 ti108 (.node 103 ti103 (.node 101 ti101 .leaf .leaf) (.node 104 ti104 .leaf .leaf)) (.node 110 ti110 (.node 109 ti109 .leaf .leaf) .leaf)) (.node 114 ti114 (.node 113 ti113 (.node 112 ti112 .leaf .leaf) .leaf) (.node 116 ti116 (.node 115 ti115 .leaf .leaf) .leaf))))))
def tt : Nat → Option TI := tree.look
theorem fits1 : Fits Tryd.prog 1 ti1 := fits_mk (vs := [.nilFunc]) ⟨_, _, _, Tryd.underlying1⟩ Tryd.underlying1 rfl (by decide) rfl (by kernel_rfl) rfl rfl rfl (fun h => by cases h)
theorem fits2 : Fits Tryd.prog 2 ti2 := fits_mk (vs := [.int .i64 0]) Tryd.underlying2 Tryd.underlying2 rfl (by decide) rfl (by kernel_rfl) rfl rfl rfl (fun h => by cases h)
theorem fits3 : Fits Tryd.prog 3 ti3 := fits_mk (vs := [.int .i64 0]) Tryd.underlying3 Tryd.underlying3 rfl (by decide) rfl (by kernel_rfl) rfl rfl rfl (fun h => by cases h)
theorem fits4 : Fits Tryd.prog 4 ti4 := fits_mk (vs := [.bool false]) Tryd.underlying4 Tryd.underlying4 rfl (by decide) rfl (by kernel_rfl) rfl rfl rfl (fun h => by cases h)
theorem fits5 : Fits Tryd.prog 5 ti5 := fits_mk (vs := [.int .u8 0]) Tryd.underlying5 Tryd.underlying5 rfl (by decide) rfl (by kernel_rfl) rfl rfl rfl (fun h => by cases h)
theorem fits6 : Fits Tryd.prog 6 ti6 := fits_mk (vs := [.int .u8 0]) Tryd.underlying6 Tryd.underlying6 rfl (by decide) rfl (by kernel_rfl) rfl rfl rfl (fun h => by cases h)
theorem fits7 : Fits Tryd.prog 7 ti7 := fits_mk (vs := [.int .i64 0, .int .i64 0, .bool false, .int .u8 0]) ⟨_, Tryd.underlying7, rfl, by kernel_rfl⟩ Tryd.underlying7 rfl (by decide) rfl (by kernel_rfl) rfl rfl rfl (fun _ => ⟨by kernel_rfl, by kernel_rfl, by kernel_rfl⟩)
theorem fits8 : Fits Tryd.prog 8 ti8 := fits_mk (vs := [.int .i64 0, .int .i64 0, .bool false, .int .u8 0]) ⟨_, Tryd.underlying8, rfl, by kernel_rfl⟩ Tryd.underlying8 rfl (by decide) rfl (by kernel_rfl) rfl rfl rfl (fun _ => ⟨by kernel_rfl, by kernel_rfl, by kernel_rfl⟩)
theorem fits9 : Fits Tryd.prog 9 ti9 := fits_mk (vs := [.string ByteArray.empty]) Tryd.underlying9 Tryd.underlying9 rfl (by decide) rfl (by kernel_rfl) rfl rfl rfl (fun h => by cases h)
theorem fits10 : Fits Tryd.prog 10 ti10 := fits_mk (vs := [.string ByteArray.empty]) Tryd.underlying10 Tryd.underlying10 rfl (by decide) rfl (by kernel_rfl) rfl rfl rfl (fun h => by cases h)
theorem fits11 : Fits Tryd.prog 11 ti11 := fits_mk (vs := [.string ByteArray.empty]) Tryd.underlying11 Tryd.underlying11 rfl (by decide) rfl (by kernel_rfl) rfl rfl rfl (fun h => by cases h)
theorem fits12 : Fits Tryd.prog 12 ti12 := fits_mk (vs := [.int .u64 0]) Tryd.underlying12 Tryd.underlying12 rfl (by decide) rfl (by kernel_rfl) rfl rfl rfl (fun h => by cases h)
theorem fits13 : Fits Tryd.prog 13 ti13 := fits_mk (vs := [.string ByteArray.empty, .int .u64 0]) ⟨_, Tryd.underlying13, rfl, by kernel_rfl⟩ Tryd.underlying13 rfl (by decide) rfl (by kernel_rfl) rfl rfl rfl (fun h => by cases h)
theorem fits14 : Fits Tryd.prog 14 ti14 := fits_mk (vs := [.string ByteArray.empty, .int .u64 0]) ⟨_, Tryd.underlying14, rfl, by kernel_rfl⟩ Tryd.underlying14 rfl (by decide) rfl (by kernel_rfl) rfl rfl rfl (fun h => by cases h)
theorem fits15 : Fits Tryd.prog 15 ti15 := fits_mk (vs := [.pointer none]) Tryd.underlying15 Tryd.underlying15 rfl (by decide) rfl (by kernel_rfl) rfl rfl rfl (fun h => by cases h)
theorem fits16 : Fits Tryd.prog 16 ti16 := fits_mk (vs := [.pointer none]) Tryd.underlying16 Tryd.underlying16 rfl (by decide) rfl (by kernel_rfl) rfl rfl rfl (fun h => by cases h)
theorem fits17 : Fits Tryd.prog 17 ti17 := fits_mk (vs := [.pointer none]) Tryd.underlying17 Tryd.underlying17 rfl (by decide) rfl (by kernel_rfl) rfl rfl rfl (fun h => by cases h)
theorem fits18 : Fits Tryd.prog 18 ti18 := fits_mk (vs := [.pointer none]) ⟨_, Tryd.underlying18, rfl, by kernel_rfl⟩ Tryd.underlying18 rfl (by decide) rfl (by kernel_rfl) rfl rfl rfl (fun h => by cases h)
theorem fits19 : Fits Tryd.prog 19 ti19 := fits_mk (vs := [.pointer none]) ⟨_, Tryd.underlying19, rfl, by kernel_rfl⟩ Tryd.underlying19 rfl (by decide) rfl (by kernel_rfl) rfl rfl rfl (fun h => by cases h)
theorem fits20 : Fits Tryd.prog 20 ti20 := fits_mk (vs := [.nilIface]) ⟨_, Tryd.underlying20⟩ Tryd.underlying20 rfl (by decide) rfl (by kernel_rfl) rfl rfl rfl (fun h => by cases h)
theorem fits21 : Fits Tryd.prog 21 ti21 := fits_mk (vs := [.int .i32 0]) Tryd.underlying21 Tryd.underlying21 rfl (by decide) rfl (by kernel_rfl) rfl rfl rfl (fun h => by cases h)
theorem fits23 : Fits Tryd.prog 23 ti23 := fits_mk (vs := [.nilFunc]) ⟨_, _, _, Tryd.underlying23⟩ Tryd.underlying23 rfl (by decide) rfl (by kernel_rfl) rfl rfl rfl (fun h => by cases h)
theorem fits24 : Fits Tryd.prog 24 ti24 := fits_mk (vs := [.string ByteArray.empty]) ⟨_, Tryd.underlying24, rfl, by kernel_rfl⟩ Tryd.underlying24 rfl (by decide) rfl (by kernel_rfl) rfl rfl rfl (fun h => by cases h)
theorem fits25 : Fits Tryd.prog 25 ti25 := fits_mk (vs := [.string ByteArray.empty]) ⟨_, Tryd.underlying25, rfl, by kernel_rfl⟩ Tryd.underlying25 rfl (by decide) rfl (by kernel_rfl) rfl rfl rfl (fun h => by cases h)
theorem fits26 : Fits Tryd.prog 26 ti26 := fits_mk (vs := [.slice none 0 0]) Tryd.underlying26 Tryd.underlying26 rfl (by decide) rfl (by kernel_rfl) rfl rfl rfl (fun h => by cases h)
theorem fits27 : Fits Tryd.prog 27 ti27 := fits_mk (vs := [.nilFunc]) ⟨_, _, _, Tryd.underlying27⟩ Tryd.underlying27 rfl (by decide) rfl (by kernel_rfl) rfl rfl rfl (fun h => by cases h)
theorem fits28 : Fits Tryd.prog 28 ti28 := fits_mk (vs := [.nilFunc]) ⟨_, _, _, Tryd.underlying28⟩ Tryd.underlying28 rfl (by decide) rfl (by kernel_rfl) rfl rfl rfl (fun h => by cases h)
theorem fits29 : Fits Tryd.prog 29 ti29 := fits_mk (vs := [.nilFunc]) ⟨_, _, _, Tryd.underlying29⟩ Tryd.underlying29 rfl (by decide) rfl (by kernel_rfl) rfl rfl rfl (fun h => by cases h)
theorem fits30 : Fits Tryd.prog 30 ti30 := fits_mk (vs := [.nilFunc]) ⟨_, _, _, Tryd.underlying30⟩ Tryd.underlying30 rfl (by decide) rfl (by kernel_rfl) rfl rfl rfl (fun h => by cases h)
theorem fits31 : Fits Tryd.prog 31 ti31 := fits_mk (vs := [.slice none 0 0]) Tryd.underlying31 Tryd.underlying31 rfl (by decide) rfl (by kernel_rfl) rfl rfl rfl (fun h => by cases h)
theorem fits32 : Fits Tryd.prog 32 ti32 := fits_mk (vs := [.nilFunc]) ⟨_, _, _, Tryd.underlying32⟩ Tryd.underlying32 rfl (by decide) rfl (by kernel_rfl) rfl rfl rfl (fun h => by cases h)
theorem fits33 : Fits Tryd.prog 33 ti33 := fits_mk (vs := [.nilFunc]) ⟨_, _, _, Tryd.underlying33⟩ Tryd.underlying33 rfl (by decide) rfl (by kernel_rfl) rfl rfl rfl (fun h => by cases h)
theorem fits34 : Fits Tryd.prog 34 ti34 := fits_mk (vs := [.slice none 0 0]) Tryd.underlying34 Tryd.underlying34 rfl (by decide) rfl (by kernel_rfl) rfl rfl rfl (fun h => by cases h)
theorem fits35 : Fits Tryd.prog 35 ti35 := fits_mk (vs := [.int .i64 0]) Tryd.underlying35 Tryd.underlying35 rfl (by decide) rfl (by kernel_rfl) rfl rfl rfl (fun h => by cases h)
theorem fits37 : Fits Tryd.prog 37 ti37 := fits_mk (vs := [.nilFunc]) ⟨_, _, _, Tryd.underlying37⟩ Tryd.underlying37 rfl (by decide) rfl (by kernel_rfl) rfl rfl rfl (fun h => by cases h)
theorem fits39 : Fits Tryd.prog 39 ti39 := fits_mk (vs := [.nilFunc]) ⟨_, _, _, Tryd.underlying39⟩ Tryd.underlying39 rfl (by decide) rfl (by kernel_rfl) rfl rfl rfl (fun h => by cases h)
theorem fits41 : Fits Tryd.prog 41 ti41 := fits_mk (vs := [.nilFunc]) ⟨_, _, _, Tryd.underlying41⟩ Tryd.underlying41 rfl (by decide) rfl (by kernel_rfl) rfl rfl rfl (fun h => by cases h)
theorem fits42 : Fits Tryd.prog 42 ti42 := fits_mk (vs := [.nilFunc]) ⟨_, _, _, Tryd.underlying42⟩ Tryd.underlying42 rfl (by decide) rfl (by kernel_rfl) rfl rfl rfl (fun h => by cases h)
theorem fits43 : Fits Tryd.prog 43 ti43 := fits_mk (vs := [.nilFunc]) ⟨_, _, _, Tryd.underlying43⟩ Tryd.underlying43 rfl (by decide) rfl (by kernel_rfl) rfl rfl rfl (fun h => by cases h)
theorem fits44 : Fits Tryd.prog 44 ti44 := fits_mk (vs := [.nilFunc]) ⟨_, _, _, Tryd.underlying44⟩ Tryd.underlying44 rfl (by decide) rfl (by kernel_rfl) rfl rfl rfl (fun h => by cases h)
theorem fits45 : Fits Tryd.prog 45 ti45 := fits_mk (vs := [.nilFunc]) ⟨_, _, _, Tryd.underlying45⟩ Tryd.underlying45 rfl (by decide) rfl (by kernel_rfl) rfl rfl rfl (fun h => by cases h)
theorem fits46 : Fits Tryd.prog 46 ti46 := fits_mk (vs := [.nilFunc]) ⟨_, _, _, Tryd.underlying46⟩ Tryd.underlying46 rfl (by decide) rfl (by kernel_rfl) rfl rfl rfl (fun h => by cases h)
theorem fits47 : Fits Tryd.prog 47 ti47 := fits_mk (vs := [.slice none 0 0]) Tryd.underlying47 Tryd.underlying47 rfl (by decide) rfl (by kernel_rfl) rfl rfl rfl (fun h => by cases h)
theorem fits48 : Fits Tryd.prog 48 ti48 := fits_mk (vs := [.nilFunc]) ⟨_, _, _, Tryd.underlying48⟩ Tryd.underlying48 rfl (by decide) rfl (by kernel_rfl) rfl rfl rfl (fun h => by cases h)
theorem fits49 : Fits Tryd.prog 49 ti49 := fits_mk (vs := [.int .i64 0, .nilFunc]) ⟨_, Tryd.underlying49, rfl, by kernel_rfl⟩ Tryd.underlying49 rfl (by decide) rfl (by kernel_rfl) rfl rfl rfl (fun h => by cases h)
theorem fits50 : Fits Tryd.prog 50 ti50 := fits_mk (vs := [.int .i64 0, .nilFunc]) ⟨_, Tryd.underlying50, rfl, by kernel_rfl⟩ Tryd.underlying50 rfl (by decide) rfl (by kernel_rfl) rfl rfl rfl (fun h => by cases h)
theorem fits52 : Fits Tryd.prog 52 ti52 := fits_mk (vs := [.map none]) Tryd.underlying52 Tryd.underlying52 rfl (by decide) rfl (by kernel_rfl) rfl rfl rfl (fun h => by cases h)
theorem fits53 : Fits Tryd.prog 53 ti53 := fits_mk (vs := [.nilFunc]) ⟨_, _, _, Tryd.underlying53⟩ Tryd.underlying53 rfl (by decide) rfl (by kernel_rfl) rfl rfl rfl (fun h => by cases h)
theorem fits54 : Fits Tryd.prog 54 ti54 := fits_mk (vs := [.nilFunc]) ⟨_, _, _, Tryd.underlying54⟩ Tryd.underlying54 rfl (by decide) rfl (by kernel_rfl) rfl rfl rfl (fun h => by cases h)
theorem fits55 : Fits Tryd.prog 55 ti55 := fits_mk (vs := [.nilFunc]) ⟨_, _, _, Tryd.underlying55⟩ Tryd.underlying55 rfl (by decide) rfl (by kernel_rfl) rfl rfl rfl (fun h => by cases h)
theorem fits56 : Fits Tryd.prog 56 ti56 := fits_mk (vs := [.nilFunc]) ⟨_, _, _, Tryd.underlying56⟩ Tryd.underlying56 rfl (by decide) rfl (by kernel_rfl) rfl rfl rfl (fun h => by cases h)
theorem fits57 : Fits Tryd.prog 57 ti57 := fits_mk (vs := [.nilFunc]) ⟨_, _, _, Tryd.underlying57⟩ Tryd.underlying57 rfl (by decide) rfl (by kernel_rfl) rfl rfl rfl (fun h => by cases h)
theorem fits58 : Fits Tryd.prog 58 ti58 := fits_mk (vs := [.nilFunc]) ⟨_, _, _, Tryd.underlying58⟩ Tryd.underlying58 rfl (by decide) rfl (by kernel_rfl) rfl rfl rfl (fun h => by cases h)
theorem fits59 : Fits Tryd.prog 59 ti59 := fits_mk (vs := [.nilIface]) ⟨_, Tryd.underlying59⟩ Tryd.underlying59 rfl (by decide) rfl (by kernel_rfl) rfl rfl rfl (fun h => by cases h)
theorem fits60 : Fits Tryd.prog 60 ti60 := fits_mk (vs := [.nilIface]) ⟨_, Tryd.underlying60⟩ Tryd.underlying60 rfl (by decide) rfl (by kernel_rfl) rfl rfl rfl (fun h => by cases h)
theorem fits61 : Fits Tryd.prog 61 ti61 := fits_mk (vs := [.nilFunc]) ⟨_, _, _, Tryd.underlying61⟩ Tryd.underlying61 rfl (by decide) rfl (by kernel_rfl) rfl rfl rfl (fun h => by cases h)
theorem fits62 : Fits Tryd.prog 62 ti62 := fits_mk (vs := [.nilFunc]) ⟨_, _, _, Tryd.underlying62⟩ Tryd.underlying62 rfl (by decide) rfl (by kernel_rfl) rfl rfl rfl (fun h => by cases h)
theorem fits63 : Fits Tryd.prog 63 ti63 := fits_mk (vs := [.nilFunc]) ⟨_, _, _, Tryd.underlying63⟩ Tryd.underlying63 rfl (by decide) rfl (by kernel_rfl) rfl rfl rfl (fun h => by cases h)
theorem fits64 : Fits Tryd.prog 64 ti64 := fits_mk (vs := [.nilFunc]) ⟨_, _, _, Tryd.underlying64⟩ Tryd.underlying64 rfl (by decide) rfl (by kernel_rfl) rfl rfl rfl (fun h => by cases h)
theorem fits65 : Fits Tryd.prog 65 ti65 := fits_mk (vs := [.nilFunc]) ⟨_, _, _, Tryd.underlying65⟩ Tryd.underlying65 rfl (by decide) rfl (by kernel_rfl) rfl rfl rfl (fun h => by cases h)
theorem fits66 : Fits Tryd.prog 66 ti66 := fits_mk (vs := [.nilFunc]) ⟨_, _, _, Tryd.underlying66⟩ Tryd.underlying66 rfl (by decide) rfl (by kernel_rfl) rfl rfl rfl (fun h => by cases h)
theorem fits67 : Fits Tryd.prog 67 ti67 := fits_mk (vs := [.nilFunc]) ⟨_, _, _, Tryd.underlying67⟩ Tryd.underlying67 rfl (by decide) rfl (by kernel_rfl) rfl rfl rfl (fun h => by cases h)
theorem fits68 : Fits Tryd.prog 68 ti68 := fits_mk (vs := [.nilFunc]) ⟨_, _, _, Tryd.underlying68⟩ Tryd.underlying68 rfl (by decide) rfl (by kernel_rfl) rfl rfl rfl (fun h => by cases h)
theorem fits69 : Fits Tryd.prog 69 ti69 := fits_mk (vs := [.nilFunc]) ⟨_, _, _, Tryd.underlying69⟩ Tryd.underlying69 rfl (by decide) rfl (by kernel_rfl) rfl rfl rfl (fun h => by cases h)
theorem fits70 : Fits Tryd.prog 70 ti70 := fits_mk (vs := [.int .u64 0]) Tryd.underlying70 Tryd.underlying70 rfl (by decide) rfl (by kernel_rfl) rfl rfl rfl (fun h => by cases h)
theorem fits71 : Fits Tryd.prog 71 ti71 := fits_mk (vs := [.int .u8 0, .int .u8 0, .int .u8 0, .int .u8 0, .int .u8 0, .int .u8 0, .int .u8 0, .int .u8 0, .int .u8 0, .int .u8 0, .int .u8 0, .int .u8 0, .int .u8 0, .int .u8 0, .int .u8 0, .int .u8 0, .int .u8 0, .int .u8 0, .int .u8 0, .int .u8 0, .int .u8 0, .int .u8 0, .int .u8 0, .int .u8 0]) Tryd.underlying71 Tryd.underlying71 rfl (by decide) rfl (by kernel_rfl) rfl rfl rfl (fun h => by cases h)
theorem fits72 : Fits Tryd.prog 72 ti72 := fits_mk (vs := [.int .u64 0]) Tryd.underlying72 Tryd.underlying72 rfl (by decide) rfl (by kernel_rfl) rfl rfl rfl (fun h => by cases h)
theorem fits73 : Fits Tryd.prog 73 ti73 := fits_mk (vs := [.nilFunc]) ⟨_, _, _, Tryd.underlying73⟩ Tryd.underlying73 rfl (by decide) rfl (by kernel_rfl) rfl rfl rfl (fun h => by cases h)
theorem fits74 : Fits Tryd.prog 74 ti74 := fits_mk (vs := [.nilFunc]) ⟨_, _, _, Tryd.underlying74⟩ Tryd.underlying74 rfl (by decide) rfl (by kernel_rfl) rfl rfl rfl (fun h => by cases h)
theorem fits76 : Fits Tryd.prog 76 ti76 := fits_mk (vs := [.nilFunc]) ⟨_, _, _, Tryd.underlying76⟩ Tryd.underlying76 rfl (by decide) rfl (by kernel_rfl) rfl rfl rfl (fun h => by cases h)
theorem fits77 : Fits Tryd.prog 77 ti77 := fits_mk (vs := [.nilFunc]) ⟨_, _, _, Tryd.underlying77⟩ Tryd.underlying77 rfl (by decide) rfl (by kernel_rfl) rfl rfl rfl (fun h => by cases h)
theorem fits78 : Fits Tryd.prog 78 ti78 := fits_mk (vs := [.int .i64 0]) Tryd.underlying78 Tryd.underlying78 rfl (by decide) rfl (by kernel_rfl) rfl rfl rfl (fun h => by cases h)
theorem fits80 : Fits Tryd.prog 80 ti80 := fits_mk (vs := [.nilFunc]) ⟨_, _, _, Tryd.underlying80⟩ Tryd.underlying80 rfl (by decide) rfl (by kernel_rfl) rfl rfl rfl (fun h => by cases h)
theorem fits81 : Fits Tryd.prog 81 ti81 := fits_mk (vs := [.nilFunc]) ⟨_, _, _, Tryd.underlying81⟩ Tryd.underlying81 rfl (by decide) rfl (by kernel_rfl) rfl rfl rfl (fun h => by cases h)
theorem fits82 : Fits Tryd.prog 82 ti82 := fits_mk (vs := [.nilFunc]) ⟨_, _, _, Tryd.underlying82⟩ Tryd.underlying82 rfl (by decide) rfl (by kernel_rfl) rfl rfl rfl (fun h => by cases h)
theorem fits83 : Fits Tryd.prog 83 ti83 := fits_mk (vs := [.nilFunc]) ⟨_, _, _, Tryd.underlying83⟩ Tryd.underlying83 rfl (by decide) rfl (by kernel_rfl) rfl rfl rfl (fun h => by cases h)
theorem fits84 : Fits Tryd.prog 84 ti84 := fits_mk (vs := [.nilFunc]) ⟨_, _, _, Tryd.underlying84⟩ Tryd.underlying84 rfl (by decide) rfl (by kernel_rfl) rfl rfl rfl (fun h => by cases h)
theorem fits85 : Fits Tryd.prog 85 ti85 := fits_mk (vs := [.nilFunc]) ⟨_, _, _, Tryd.underlying85⟩ Tryd.underlying85 rfl (by decide) rfl (by kernel_rfl) rfl rfl rfl (fun h => by cases h)
theorem fits86 : Fits Tryd.prog 86 ti86 := fits_mk (vs := [.int .u32 0]) Tryd.underlying86 Tryd.underlying86 rfl (by decide) rfl (by kernel_rfl) rfl rfl rfl (fun h => by cases h)
theorem fits87 : Fits Tryd.prog 87 ti87 := fits_mk (vs := [.nilFunc]) ⟨_, _, _, Tryd.underlying87⟩ Tryd.underlying87 rfl (by decide) rfl (by kernel_rfl) rfl rfl rfl (fun h => by cases h)
theorem fits88 : Fits Tryd.prog 88 ti88 := fits_mk (vs := [.nilFunc]) ⟨_, _, _, Tryd.underlying88⟩ Tryd.underlying88 rfl (by decide) rfl (by kernel_rfl) rfl rfl rfl (fun h => by cases h)
theorem fits89 : Fits Tryd.prog 89 ti89 := fits_mk (vs := [.int .u64 0, .int .u64 0, .int .u64 0, .int .u64 0, .int .u64 0, .int .u64 0, .int .u64 0, .int .u64 0, .int .u64 0, .int .u64 0, .int .u64 0, .int .u64 0, .int .u64 0, .int .u64 0, .int .u64 0, .int .u64 0, .int .u64 0, .int .u64 0, .int .u64 0, .int .u64 0]) Tryd.underlying89 Tryd.underlying89 rfl (by decide) rfl (by kernel_rfl) rfl rfl rfl (fun h => by cases h)
theorem fits91 : Fits Tryd.prog 91 ti91 := fits_mk (vs := [.nilFunc]) ⟨_, _, _, Tryd.underlying91⟩ Tryd.underlying91 rfl (by decide) rfl (by kernel_rfl) rfl rfl rfl (fun h => by cases h)
theorem fits92 : Fits Tryd.prog 92 ti92 := fits_mk (vs := [.int .u64 0]) Tryd.underlying92 Tryd.underlying92 rfl (by decide) rfl (by kernel_rfl) rfl rfl rfl (fun h => by cases h)
theorem fits93 : Fits Tryd.prog 93 ti93 := fits_mk (vs := [.nilFunc]) ⟨_, _, _, Tryd.underlying93⟩ Tryd.underlying93 rfl (by decide) rfl (by kernel_rfl) rfl rfl rfl (fun h => by cases h)
theorem fits94 : Fits Tryd.prog 94 ti94 := fits_mk (vs := [.nilFunc]) ⟨_, _, _, Tryd.underlying94⟩ Tryd.underlying94 rfl (by decide) rfl (by kernel_rfl) rfl rfl rfl (fun h => by cases h)
theorem fits95 : Fits Tryd.prog 95 ti95 := fits_mk (vs := [.nilFunc]) ⟨_, _, _, Tryd.underlying95⟩ Tryd.underlying95 rfl (by decide) rfl (by kernel_rfl) rfl rfl rfl (fun h => by cases h)
theorem fits96 : Fits Tryd.prog 96 ti96 := fits_mk (vs := [.pointer none]) Tryd.underlying96 Tryd.underlying96 rfl (by decide) rfl (by kernel_rfl) rfl rfl rfl (fun h => by cases h)
theorem fits97 : Fits Tryd.prog 97 ti97 := fits_mk (vs := [.nilFunc]) ⟨_, _, _, Tryd.underlying97⟩ Tryd.underlying97 rfl (by decide) rfl (by kernel_rfl) rfl rfl rfl (fun h => by cases h)
theorem fits98 : Fits Tryd.prog 98 ti98 := fits_mk (vs := [.pointer none]) Tryd.underlying98 Tryd.underlying98 rfl (by decide) rfl (by kernel_rfl) rfl rfl rfl (fun h => by cases h)
theorem fits100 : Fits Tryd.prog 100 ti100 := fits_mk (vs := [.nilFunc]) ⟨_, _, _, Tryd.underlying100⟩ Tryd.underlying100 rfl (by decide) rfl (by kernel_rfl) rfl rfl rfl (fun h => by cases h)
theorem fits101 : Fits Tryd.prog 101 ti101 := fits_mk (vs := [.int .u8 0, .int .u8 0, .int .u8 0, .int .u8 0, .int .u8 0, .int .u8 0, .int .u8 0, .int .u8 0, .int .u8 0, .int .u8 0, .int .u8 0, .int .u8 0, .int .u8 0, .int .u8 0, .int .u8 0, .int .u8 0, .int .u8 0, .int .u8 0, .int .u8 0, .int .u8 0, .int .u8 0, .int .u8 0, .int .u8 0, .int .u8 0, .int .u8 0, .int .u8 0, .int .u8 0, .int .u8 0, .int .u8 0, .int .u8 0, .int .u8 0, .int .u8 0]) Tryd.underlying101 Tryd.underlying101 rfl (by decide) rfl (by kernel_rfl) rfl rfl rfl (fun h => by cases h)
theorem fits103 : Fits Tryd.prog 103 ti103 := fits_mk (vs := [.pointer none, .pointer none, .pointer none, .string ByteArray.empty]) ⟨_, Tryd.underlying103, rfl, by kernel_rfl⟩ Tryd.underlying103 rfl (by decide) rfl (by kernel_rfl) rfl rfl rfl (fun h => by cases h)
theorem fits104 : Fits Tryd.prog 104 ti104 := fits_mk (vs := [.pointer none, .pointer none, .pointer none, .string ByteArray.empty]) ⟨_, Tryd.underlying104, rfl, by kernel_rfl⟩ Tryd.underlying104 rfl (by decide) rfl (by kernel_rfl) rfl rfl rfl (fun h => by cases h)
theorem fits108 : Fits Tryd.prog 108 ti108 := fits_mk (vs := [.nilFunc]) ⟨_, _, _, Tryd.underlying108⟩ Tryd.underlying108 rfl (by decide) rfl (by kernel_rfl) rfl rfl rfl (fun h => by cases h)
theorem fits109 : Fits Tryd.prog 109 ti109 := fits_mk (vs := [.int .u8 0]) Tryd.underlying109 Tryd.underlying109 rfl (by decide) rfl (by kernel_rfl) rfl rfl rfl (fun h => by cases h)
theorem fits110 : Fits Tryd.prog 110 ti110 := fits_mk (vs := [.int .u8 0]) Tryd.underlying110 Tryd.underlying110 rfl (by decide) rfl (by kernel_rfl) rfl rfl rfl (fun h => by cases h)
theorem fits111 : Fits Tryd.prog 111 ti111 := fits_mk (vs := [.nilFunc]) ⟨_, _, _, Tryd.underlying111⟩ Tryd.underlying111 rfl (by decide) rfl (by kernel_rfl) rfl rfl rfl (fun h => by cases h)
theorem fits112 : Fits Tryd.prog 112 ti112 := fits_mk (vs := [.pointer none]) Tryd.underlying112 Tryd.underlying112 rfl (by decide) rfl (by kernel_rfl) rfl rfl rfl (fun h => by cases h)
theorem fits113 : Fits Tryd.prog 113 ti113 := fits_mk (vs := [.int .i32 0]) Tryd.underlying113 Tryd.underlying113 rfl (by decide) rfl (by kernel_rfl) rfl rfl rfl (fun h => by cases h)
theorem fits114 : Fits Tryd.prog 114 ti114 := fits_mk (vs := [.int .i32 0]) Tryd.underlying114 Tryd.underlying114 rfl (by decide) rfl (by kernel_rfl) rfl rfl rfl (fun h => by cases h)
theorem fits115 : Fits Tryd.prog 115 ti115 := fits_mk (vs := [.int .u64 0, .int .u64 0, .int .u32 0, .int .u8 0, .int .u8 0, .int .u8 0, .int .u8 0, .nilFunc, .pointer none, .int .i32 0, .int .i32 0]) ⟨_, Tryd.underlying115, rfl, by kernel_rfl⟩ Tryd.underlying115 rfl (by decide) rfl (by kernel_rfl) rfl rfl rfl (fun h => by cases h)
theorem fits116 : Fits Tryd.prog 116 ti116 := fits_mk (vs := [.int .u64 0, .int .u64 0, .int .u32 0, .int .u8 0, .int .u8 0, .int .u8 0, .int .u8 0, .nilFunc, .pointer none, .int .i32 0, .int .i32 0]) ⟨_, Tryd.underlying116, rfl, by kernel_rfl⟩ Tryd.underlying116 rfl (by decide) rfl (by kernel_rfl) rfl rfl rfl (fun h => by cases h)
theorem agrees : Agrees Tryd.prog tt := TTree.agrees (T := tree) ⟨fits57, ⟨fits27, ⟨fits13, ⟨fits7, ⟨fits4, ⟨fits2, ⟨fits1, trivial, trivial⟩, ⟨fits3, trivial, trivial⟩⟩, ⟨fits6, ⟨fits5, trivial, trivial⟩, trivial⟩⟩, ⟨fits10, ⟨fits9, ⟨fits8, trivial, trivial⟩, trivial⟩, ⟨fits12, ⟨fits11, trivial, trivial⟩, trivial⟩⟩⟩, ⟨fits20, ⟨fits17, ⟨fits15, ⟨fits14, trivial, trivial⟩, ⟨fits16, trivial, trivial⟩⟩, ⟨fits19, ⟨fits18, trivial, trivial⟩, trivial⟩⟩, ⟨fits24, ⟨fits23, ⟨fits21, trivial, trivial⟩, trivial⟩, ⟨fits26, ⟨fits25, trivial, trivial⟩, trivial⟩⟩⟩⟩, ⟨fits43, ⟨fits34, ⟨fits31, ⟨fits29, ⟨fits28, trivial, trivial⟩, ⟨fits30, trivial, trivial⟩⟩, ⟨fits33, ⟨fits32, trivial, trivial⟩, trivial⟩⟩, ⟨fits39, ⟨fits37, ⟨fits35, trivial, trivial⟩, trivial⟩, ⟨fits42, ⟨fits41, trivial, trivial⟩, trivial⟩⟩⟩, ⟨fits50, ⟨fits47, ⟨fits45, ⟨fits44, trivial, trivial⟩, ⟨fits46, trivial, trivial⟩⟩, ⟨fits49, ⟨fits48, trivial, trivial⟩, trivial⟩⟩, ⟨fits54, ⟨fits53, ⟨fits52, trivial, trivial⟩, trivial⟩, ⟨fits56, ⟨fits55, trivial, trivial⟩, trivial⟩⟩⟩⟩⟩, ⟨fits85, ⟨fits70, ⟨fits64, ⟨fits61, ⟨fits59, ⟨fits58, trivial, trivial⟩, ⟨fits60, trivial, trivial⟩⟩, ⟨fits63, ⟨fits62, trivial, trivial⟩, trivial⟩⟩, ⟨fits67, ⟨fits66, ⟨fits65, trivial, trivial⟩, trivial⟩, ⟨fits69, ⟨fits68, trivial, trivial⟩, trivial⟩⟩⟩, ⟨fits78, ⟨fits74, ⟨fits72, ⟨fits71, trivial, trivial⟩, ⟨fits73, trivial, trivial⟩⟩, ⟨fits77, ⟨fits76, trivial, trivial⟩, trivial⟩⟩, ⟨fits82, ⟨fits81, ⟨fits80, trivial, trivial⟩, trivial⟩, ⟨fits84, ⟨fits83, trivial, trivial⟩, trivial⟩⟩⟩⟩, ⟨fits100, ⟨fits93, ⟨fits89, ⟨fits87, ⟨fits86, trivial, trivial⟩, ⟨fits88, trivial, trivial⟩⟩, ⟨fits92, ⟨fits91, trivial, trivial⟩, trivial⟩⟩, ⟨fits96, ⟨fits95, ⟨fits94, trivial, trivial⟩, trivial⟩, ⟨fits98, ⟨fits97, trivial, trivial⟩, trivial⟩⟩⟩, ⟨fits111, ⟨fits108, ⟨fits103, ⟨fits101, trivial, trivial⟩, ⟨fits104, trivial, trivial⟩⟩, ⟨fits110, ⟨fits109, trivial, trivial⟩, trivial⟩⟩, ⟨fits114, ⟨fits113, ⟨fits112, trivial, trivial⟩, trivial⟩, ⟨fits116, ⟨fits115, trivial, trivial⟩, trivial⟩⟩⟩⟩⟩⟩
end Go.Proofs.YtjlkekebhgjlcaaDoor
