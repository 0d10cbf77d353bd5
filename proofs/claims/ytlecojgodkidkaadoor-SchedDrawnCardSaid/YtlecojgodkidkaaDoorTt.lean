/- The seat's types as a table, and that the program has them so. Printed by a program (mktt.py). -/
import Derived.Test.YtlecojgodkidkaaDoorVcJ
import Derived.Test.YtlecojgodkidkaaDoorRows
namespace Go.Proofs.YtlecojgodkidkaaDoor
open Go.Vc
def ti1 : TI := ⟨.func, .any, 1, 8, [.v (.nilFunc)], false, false⟩
def ti2 : TI := ⟨.int .i64, (.int .i64), 1, 8, [.v (.int .i64 0)], false, false⟩
def ti3 : TI := ⟨.int .i64, (.int .i64), 1, 8, [.v (.int .i64 0)], false, false⟩
def ti4 : TI := ⟨.bool, .bool, 1, 1, [.v (.bool false)], false, false⟩
def ti5 : TI := ⟨.int .u8, (.int .u8), 1, 1, [.v (.int .u8 0)], false, false⟩
def ti6 : TI := ⟨.int .u8, (.int .u8), 1, 1, [.v (.int .u8 0)], false, false⟩
def ti7 : TI := ⟨.struct [(0, 2), (1, 3), (2, 4), (3, 6)], (.st (.pair (.int .i64) (.pair (.int .i64) (.pair .bool (.int .u8))))), 4, 24, [.v (.int .i64 0), .v (.int .i64 0), .v (.bool false), .v (.int .u8 0)], true, false⟩
def ti8 : TI := ⟨.struct [(0, 2), (1, 3), (2, 4), (3, 6)], (.st (.pair (.int .i64) (.pair (.int .i64) (.pair .bool (.int .u8))))), 4, 24, [.v (.int .i64 0), .v (.int .i64 0), .v (.bool false), .v (.int .u8 0)], true, false⟩
def ti9 : TI := ⟨.str, .str, 1, 16, [.v (.string ByteArray.empty)], false, false⟩
def ti10 : TI := ⟨.str, .str, 1, 16, [.v (.string ByteArray.empty)], false, false⟩
def ti11 : TI := ⟨.str, .str, 1, 16, [.v (.string ByteArray.empty)], false, false⟩
def ti12 : TI := ⟨.int .u64, (.int .u64), 1, 8, [.v (.int .u64 0)], false, false⟩
def ti13 : TI := ⟨.struct [(0, 9), (1, 12)], (.st (.pair .str (.int .u64))), 2, 24, [.v (.string ByteArray.empty), .v (.int .u64 0)], false, false⟩
def ti14 : TI := ⟨.struct [(0, 9), (1, 12)], (.st (.pair .str (.int .u64))), 2, 24, [.v (.string ByteArray.empty), .v (.int .u64 0)], false, false⟩
def ti15 : TI := ⟨.ptr 166, .any, 1, 8, [.v (.pointer none)], false, false⟩
def ti16 : TI := ⟨.ptr 169, .any, 1, 8, [.v (.pointer none)], false, false⟩
def ti17 : TI := ⟨.ptr 176, .any, 1, 8, [.v (.pointer none)], false, false⟩
def ti18 : TI := ⟨.struct [(0, 17)], (.st .any), 1, 8, [.v (.pointer none)], false, false⟩
def ti19 : TI := ⟨.struct [(0, 17)], (.st .any), 1, 8, [.v (.pointer none)], false, false⟩
def ti20 : TI := ⟨.iface, .any, 1, 16, [.v (.nilIface)], false, false⟩
def ti21 : TI := ⟨.int .i32, (.int .i32), 1, 4, [.v (.int .i32 0)], false, false⟩
def ti22 : TI := ⟨.slice 26, .slice, 1, 24, [.v (.slice none 0 0)], false, false⟩
def ti23 : TI := ⟨.func, .any, 1, 8, [.v (.nilFunc)], false, false⟩
def ti24 : TI := ⟨.func, .any, 1, 8, [.v (.nilFunc)], false, false⟩
def ti25 : TI := ⟨.struct [(0, 3), (1, 3), (2, 3)], (.st (.pair (.int .i64) (.pair (.int .i64) (.int .i64)))), 3, 24, [.v (.int .i64 0), .v (.int .i64 0), .v (.int .i64 0)], true, false⟩
def ti26 : TI := ⟨.struct [(0, 3), (1, 3), (2, 3)], (.st (.pair (.int .i64) (.pair (.int .i64) (.int .i64)))), 3, 24, [.v (.int .i64 0), .v (.int .i64 0), .v (.int .i64 0)], true, false⟩
def ti27 : TI := ⟨.func, .any, 1, 8, [.v (.nilFunc)], false, false⟩
def ti28 : TI := ⟨.func, .any, 1, 8, [.v (.nilFunc)], false, false⟩
def ti29 : TI := ⟨.slice 22, .slice, 1, 24, [.v (.slice none 0 0)], false, false⟩
def ti30 : TI := ⟨.func, .any, 1, 8, [.v (.nilFunc)], false, false⟩
def ti31 : TI := ⟨.func, .any, 1, 8, [.v (.nilFunc)], false, false⟩
def ti32 : TI := ⟨.int .u64, (.int .u64), 1, 8, [.v (.int .u64 0)], false, false⟩
def ti33 : TI := ⟨.struct [(0, 32), (1, 3), (2, 3), (3, 3)], (.st (.pair (.int .u64) (.pair (.int .i64) (.pair (.int .i64) (.int .i64))))), 4, 32, [.v (.int .u64 0), .v (.int .i64 0), .v (.int .i64 0), .v (.int .i64 0)], true, false⟩
def ti34 : TI := ⟨.struct [(0, 32), (1, 3), (2, 3), (3, 3)], (.st (.pair (.int .u64) (.pair (.int .i64) (.pair (.int .i64) (.int .i64))))), 4, 32, [.v (.int .u64 0), .v (.int .i64 0), .v (.int .i64 0), .v (.int .i64 0)], true, false⟩
def ti35 : TI := ⟨.func, .any, 1, 8, [.v (.nilFunc)], false, false⟩
def ti36 : TI := ⟨.func, .any, 1, 8, [.v (.nilFunc)], false, false⟩
def ti37 : TI := ⟨.func, .any, 1, 8, [.v (.nilFunc)], false, false⟩
def ti38 : TI := ⟨.slice 54, .slice, 1, 24, [.v (.slice none 0 0)], false, false⟩
def ti39 : TI := ⟨.func, .any, 1, 8, [.v (.nilFunc)], false, false⟩
def ti40 : TI := ⟨.func, .any, 1, 8, [.v (.nilFunc)], false, false⟩
def ti41 : TI := ⟨.func, .any, 1, 8, [.v (.nilFunc)], false, false⟩
def ti42 : TI := ⟨.slice 3, .slice, 1, 24, [.v (.slice none 0 0)], false, false⟩
def ti43 : TI := ⟨.func, .any, 1, 8, [.v (.nilFunc)], false, false⟩
def ti44 : TI := ⟨.func, .any, 1, 8, [.v (.nilFunc)], false, false⟩
def ti45 : TI := ⟨.int .i64, (.int .i64), 1, 8, [.v (.int .i64 0)], false, false⟩
def ti47 : TI := ⟨.func, .any, 1, 8, [.v (.nilFunc)], false, false⟩
def ti49 : TI := ⟨.func, .any, 1, 8, [.v (.nilFunc)], false, false⟩
def ti51 : TI := ⟨.func, .any, 1, 8, [.v (.nilFunc)], false, false⟩
def ti52 : TI := ⟨.func, .any, 1, 8, [.v (.nilFunc)], false, false⟩
def ti53 : TI := ⟨.func, .any, 1, 8, [.v (.nilFunc)], false, false⟩
def ti54 : TI := ⟨.struct [(0, 3), (1, 3), (2, 3)], (.st (.pair (.int .i64) (.pair (.int .i64) (.int .i64)))), 3, 24, [.v (.int .i64 0), .v (.int .i64 0), .v (.int .i64 0)], true, false⟩
def ti55 : TI := ⟨.func, .any, 1, 8, [.v (.nilFunc)], false, false⟩
def ti56 : TI := ⟨.slice 5, .slice, 1, 24, [.v (.slice none 0 0)], false, false⟩
def ti57 : TI := ⟨.func, .any, 1, 8, [.v (.nilFunc)], false, false⟩
def ti58 : TI := ⟨.int .u64, (.int .u64), 1, 8, [.v (.int .u64 0)], false, false⟩
def ti59 : TI := ⟨.func, .any, 1, 8, [.v (.nilFunc)], false, false⟩
def ti60 : TI := ⟨.int .u64, (.int .u64), 1, 8, [.v (.int .u64 0)], false, false⟩
def ti62 : TI := ⟨.func, .any, 1, 8, [.v (.nilFunc)], false, false⟩
def ti63 : TI := ⟨.func, .any, 1, 8, [.v (.nilFunc)], false, false⟩
def ti65 : TI := ⟨.func, .any, 1, 8, [.v (.nilFunc)], false, false⟩
def ti67 : TI := ⟨.func, .any, 1, 8, [.v (.nilFunc)], false, false⟩
def ti69 : TI := ⟨.func, .any, 1, 8, [.v (.nilFunc)], false, false⟩
def ti70 : TI := ⟨.ptr 72, .any, 1, 8, [.v (.pointer none)], false, false⟩
def ti71 : TI := ⟨.struct [(0, 70), (1, 56)], (.st (.pair .any .slice)), 2, 32, [.v (.pointer none), .v (.slice none 0 0)], false, false⟩
def ti72 : TI := ⟨.struct [(0, 70), (1, 56)], (.st (.pair .any .slice)), 2, 32, [.v (.pointer none), .v (.slice none 0 0)], false, true⟩
def ti73 : TI := ⟨.func, .any, 1, 8, [.v (.nilFunc)], false, false⟩
def ti74 : TI := ⟨.iface, .any, 1, 16, [.v (.nilIface)], false, false⟩
def ti75 : TI := ⟨.iface, .any, 1, 16, [.v (.nilIface)], false, false⟩
def ti77 : TI := ⟨.func, .any, 1, 8, [.v (.nilFunc)], false, false⟩
def ti78 : TI := ⟨.func, .any, 1, 8, [.v (.nilFunc)], false, false⟩
def ti79 : TI := ⟨.func, .any, 1, 8, [.v (.nilFunc)], false, false⟩
def ti80 : TI := ⟨.func, .any, 1, 8, [.v (.nilFunc)], false, false⟩
def ti81 : TI := ⟨.func, .any, 1, 8, [.v (.nilFunc)], false, false⟩
def ti82 : TI := ⟨.ptr 58, .any, 1, 8, [.v (.pointer none)], false, false⟩
def ti83 : TI := ⟨.func, .any, 1, 8, [.v (.nilFunc)], false, false⟩
def ti84 : TI := ⟨.slice 9, .slice, 1, 24, [.v (.slice none 0 0)], false, false⟩
def ti85 : TI := ⟨.func, .any, 1, 8, [.v (.nilFunc)], false, false⟩
def ti86 : TI := ⟨.struct [(0, 9), (1, 4), (2, 4)], (.st (.pair .str (.pair .bool .bool))), 3, 24, [.v (.string ByteArray.empty), .v (.bool false), .v (.bool false)], false, false⟩
def ti87 : TI := ⟨.struct [(0, 9), (1, 4), (2, 4)], (.st (.pair .str (.pair .bool .bool))), 3, 24, [.v (.string ByteArray.empty), .v (.bool false), .v (.bool false)], false, false⟩
def ti88 : TI := ⟨.array 3 87, (.st (.pair (.st (.pair .str (.pair .bool .bool))) (.pair (.st (.pair .str (.pair .bool .bool))) (.st (.pair .str (.pair .bool .bool)))))), 9, 72, [.v (.string ByteArray.empty), .v (.bool false), .v (.bool false), .v (.string ByteArray.empty), .v (.bool false), .v (.bool false), .v (.string ByteArray.empty), .v (.bool false), .v (.bool false)], false, false⟩
def ti89 : TI := ⟨.func, .any, 1, 8, [.v (.nilFunc)], false, false⟩
def ti90 : TI := ⟨.func, .any, 1, 8, [.v (.nilFunc)], false, false⟩
def ti91 : TI := ⟨.slice 87, .slice, 1, 24, [.v (.slice none 0 0)], false, false⟩
def ti92 : TI := ⟨.func, .any, 1, 8, [.v (.nilFunc)], false, false⟩
def ti93 : TI := ⟨.slice 94, .slice, 1, 24, [.v (.slice none 0 0)], false, false⟩
def ti94 : TI := ⟨.ptr 3, .any, 1, 8, [.v (.pointer none)], false, false⟩
def ti96 : TI := ⟨.func, .any, 1, 8, [.v (.nilFunc)], false, false⟩
def ti97 : TI := ⟨.func, .any, 1, 8, [.v (.nilFunc)], false, false⟩
def ti99 : TI := ⟨.func, .any, 1, 8, [.v (.nilFunc)], false, false⟩
def ti100 : TI := ⟨.func, .any, 1, 8, [.v (.nilFunc)], false, false⟩
def ti101 : TI := ⟨.ptr 5, .any, 1, 8, [.v (.pointer none)], false, false⟩
def ti102 : TI := ⟨.func, .any, 1, 8, [.v (.nilFunc)], false, false⟩
def ti103 : TI := ⟨.func, .any, 1, 8, [.v (.nilFunc)], false, false⟩
def ti104 : TI := ⟨.func, .any, 1, 8, [.v (.nilFunc)], false, false⟩
def ti106 : TI := ⟨.func, .any, 1, 8, [.v (.nilFunc)], false, false⟩
def ti107 : TI := ⟨.func, .any, 1, 8, [.v (.nilFunc)], false, false⟩
def ti108 : TI := ⟨.func, .any, 1, 8, [.v (.nilFunc)], false, false⟩
def ti109 : TI := ⟨.func, .any, 1, 8, [.v (.nilFunc)], false, false⟩
def ti110 : TI := ⟨.func, .any, 1, 8, [.v (.nilFunc)], false, false⟩
def ti111 : TI := ⟨.func, .any, 1, 8, [.v (.nilFunc)], false, false⟩
def ti115 : TI := ⟨.func, .any, 1, 8, [.v (.nilFunc)], false, false⟩
def ti116 : TI := ⟨.func, .any, 1, 8, [.v (.nilFunc)], false, false⟩
def ti117 : TI := ⟨.ptr 113, .any, 1, 8, [.v (.pointer none)], false, false⟩
def ti118 : TI := ⟨.func, .any, 1, 8, [.v (.nilFunc)], false, false⟩
def ti119 : TI := ⟨.func, .any, 1, 8, [.v (.nilFunc)], false, false⟩
def ti120 : TI := ⟨.func, .any, 1, 8, [.v (.nilFunc)], false, false⟩
def ti121 : TI := ⟨.int .u32, (.int .u32), 1, 4, [.v (.int .u32 0)], false, false⟩
def ti123 : TI := ⟨.func, .any, 1, 8, [.v (.nilFunc)], false, false⟩
def ti124 : TI := ⟨.func, .any, 1, 8, [.v (.nilFunc)], false, false⟩
def ti126 : TI := ⟨.func, .any, 1, 8, [.v (.nilFunc)], false, false⟩
def ti127 : TI := ⟨.func, .any, 1, 8, [.v (.nilFunc)], false, false⟩
def ti128 : TI := ⟨.func, .any, 1, 8, [.v (.nilFunc)], false, false⟩
def ti129 : TI := ⟨.int .i64, (.int .i64), 1, 8, [.v (.int .i64 0)], false, false⟩
def ti131 : TI := ⟨.func, .any, 1, 8, [.v (.nilFunc)], false, false⟩
def ti132 : TI := ⟨.ptr 145, .any, 1, 8, [.v (.pointer none)], false, false⟩
def ti133 : TI := ⟨.func, .any, 1, 8, [.v (.nilFunc)], false, false⟩
def ti134 : TI := ⟨.func, .any, 1, 8, [.v (.nilFunc)], false, false⟩
def ti135 : TI := ⟨.array 24 5, (.st (.pair (.int .u8) (.pair (.int .u8) (.pair (.int .u8) (.pair (.int .u8) (.pair (.int .u8) (.pair (.int .u8) (.pair (.int .u8) (.pair (.int .u8) (.pair (.int .u8) (.pair (.int .u8) (.pair (.int .u8) (.pair (.int .u8) (.pair (.int .u8) (.pair (.int .u8) (.pair (.int .u8) (.pair (.int .u8) (.pair (.int .u8) (.pair (.int .u8) (.pair (.int .u8) (.pair (.int .u8) (.pair (.int .u8) (.pair (.int .u8) (.pair (.int .u8) (.int .u8))))))))))))))))))))))))), 24, 24, [.v (.int .u8 0), .v (.int .u8 0), .v (.int .u8 0), .v (.int .u8 0), .v (.int .u8 0), .v (.int .u8 0), .v (.int .u8 0), .v (.int .u8 0), .v (.int .u8 0), .v (.int .u8 0), .v (.int .u8 0), .v (.int .u8 0), .v (.int .u8 0), .v (.int .u8 0), .v (.int .u8 0), .v (.int .u8 0), .v (.int .u8 0), .v (.int .u8 0), .v (.int .u8 0), .v (.int .u8 0), .v (.int .u8 0), .v (.int .u8 0), .v (.int .u8 0), .v (.int .u8 0)], false, false⟩
def ti136 : TI := ⟨.func, .any, 1, 8, [.v (.nilFunc)], false, false⟩
def ti137 : TI := ⟨.func, .any, 1, 8, [.v (.nilFunc)], false, false⟩
def ti139 : TI := ⟨.func, .any, 1, 8, [.v (.nilFunc)], false, false⟩
def ti140 : TI := ⟨.func, .any, 1, 8, [.v (.nilFunc)], false, false⟩
def ti142 : TI := ⟨.func, .any, 1, 8, [.v (.nilFunc)], false, false⟩
def ti143 : TI := ⟨.func, .any, 1, 8, [.v (.nilFunc)], false, false⟩
def ti144 : TI := ⟨.struct [(0, 9), (1, 9), (2, 75)], (.st (.pair .str (.pair .str .any))), 3, 48, [.v (.string ByteArray.empty), .v (.string ByteArray.empty), .v (.nilIface)], false, false⟩
def ti145 : TI := ⟨.struct [(0, 9), (1, 9), (2, 75)], (.st (.pair .str (.pair .str .any))), 3, 48, [.v (.string ByteArray.empty), .v (.string ByteArray.empty), .v (.nilIface)], false, false⟩
def ti146 : TI := ⟨.func, .any, 1, 8, [.v (.nilFunc)], false, false⟩
def ti147 : TI := ⟨.func, .any, 1, 8, [.v (.nilFunc)], false, false⟩
def ti148 : TI := ⟨.array 20 32, (.st (.pair (.int .u64) (.pair (.int .u64) (.pair (.int .u64) (.pair (.int .u64) (.pair (.int .u64) (.pair (.int .u64) (.pair (.int .u64) (.pair (.int .u64) (.pair (.int .u64) (.pair (.int .u64) (.pair (.int .u64) (.pair (.int .u64) (.pair (.int .u64) (.pair (.int .u64) (.pair (.int .u64) (.pair (.int .u64) (.pair (.int .u64) (.pair (.int .u64) (.pair (.int .u64) (.int .u64))))))))))))))))))))), 20, 160, [.v (.int .u64 0), .v (.int .u64 0), .v (.int .u64 0), .v (.int .u64 0), .v (.int .u64 0), .v (.int .u64 0), .v (.int .u64 0), .v (.int .u64 0), .v (.int .u64 0), .v (.int .u64 0), .v (.int .u64 0), .v (.int .u64 0), .v (.int .u64 0), .v (.int .u64 0), .v (.int .u64 0), .v (.int .u64 0), .v (.int .u64 0), .v (.int .u64 0), .v (.int .u64 0), .v (.int .u64 0)], false, false⟩
def ti150 : TI := ⟨.func, .any, 1, 8, [.v (.nilFunc)], false, false⟩
def ti151 : TI := ⟨.func, .any, 1, 8, [.v (.nilFunc)], false, false⟩
def ti152 : TI := ⟨.func, .any, 1, 8, [.v (.nilFunc)], false, false⟩
def ti154 : TI := ⟨.struct [(0, 5), (1, 5)], (.st (.pair (.int .u8) (.int .u8))), 2, 2, [.v (.int .u8 0), .v (.int .u8 0)], true, false⟩
def ti155 : TI := ⟨.struct [(0, 5), (1, 5)], (.st (.pair (.int .u8) (.int .u8))), 2, 2, [.v (.int .u8 0), .v (.int .u8 0)], true, false⟩
def ti156 : TI := ⟨.array 16 155, (.st (.pair (.st (.pair (.int .u8) (.int .u8))) (.pair (.st (.pair (.int .u8) (.int .u8))) (.pair (.st (.pair (.int .u8) (.int .u8))) (.pair (.st (.pair (.int .u8) (.int .u8))) (.pair (.st (.pair (.int .u8) (.int .u8))) (.pair (.st (.pair (.int .u8) (.int .u8))) (.pair (.st (.pair (.int .u8) (.int .u8))) (.pair (.st (.pair (.int .u8) (.int .u8))) (.pair (.st (.pair (.int .u8) (.int .u8))) (.pair (.st (.pair (.int .u8) (.int .u8))) (.pair (.st (.pair (.int .u8) (.int .u8))) (.pair (.st (.pair (.int .u8) (.int .u8))) (.pair (.st (.pair (.int .u8) (.int .u8))) (.pair (.st (.pair (.int .u8) (.int .u8))) (.pair (.st (.pair (.int .u8) (.int .u8))) (.st (.pair (.int .u8) (.int .u8))))))))))))))))))), 32, 32, [.v (.int .u8 0), .v (.int .u8 0), .v (.int .u8 0), .v (.int .u8 0), .v (.int .u8 0), .v (.int .u8 0), .v (.int .u8 0), .v (.int .u8 0), .v (.int .u8 0), .v (.int .u8 0), .v (.int .u8 0), .v (.int .u8 0), .v (.int .u8 0), .v (.int .u8 0), .v (.int .u8 0), .v (.int .u8 0), .v (.int .u8 0), .v (.int .u8 0), .v (.int .u8 0), .v (.int .u8 0), .v (.int .u8 0), .v (.int .u8 0), .v (.int .u8 0), .v (.int .u8 0), .v (.int .u8 0), .v (.int .u8 0), .v (.int .u8 0), .v (.int .u8 0), .v (.int .u8 0), .v (.int .u8 0), .v (.int .u8 0), .v (.int .u8 0)], false, false⟩
def ti157 : TI := ⟨.func, .any, 1, 8, [.v (.nilFunc)], false, false⟩
def ti158 : TI := ⟨.func, .any, 1, 8, [.v (.nilFunc)], false, false⟩
def ti159 : TI := ⟨.ptr 161, .any, 1, 8, [.v (.pointer none)], false, false⟩
def ti160 : TI := ⟨.struct [(0, 9)], (.st .str), 1, 16, [.v (.string ByteArray.empty)], false, false⟩
def ti161 : TI := ⟨.struct [(0, 9)], (.st .str), 1, 16, [.v (.string ByteArray.empty)], false, false⟩
def ti162 : TI := ⟨.func, .any, 1, 8, [.v (.nilFunc)], false, false⟩
def ti163 : TI := ⟨.array 32 5, (.st (.pair (.int .u8) (.pair (.int .u8) (.pair (.int .u8) (.pair (.int .u8) (.pair (.int .u8) (.pair (.int .u8) (.pair (.int .u8) (.pair (.int .u8) (.pair (.int .u8) (.pair (.int .u8) (.pair (.int .u8) (.pair (.int .u8) (.pair (.int .u8) (.pair (.int .u8) (.pair (.int .u8) (.pair (.int .u8) (.pair (.int .u8) (.pair (.int .u8) (.pair (.int .u8) (.pair (.int .u8) (.pair (.int .u8) (.pair (.int .u8) (.pair (.int .u8) (.pair (.int .u8) (.pair (.int .u8) (.pair (.int .u8) (.pair (.int .u8) (.pair (.int .u8) (.pair (.int .u8) (.pair (.int .u8) (.pair (.int .u8) (.int .u8))))))))))))))))))))))))))))))))), 32, 32, [.v (.int .u8 0), .v (.int .u8 0), .v (.int .u8 0), .v (.int .u8 0), .v (.int .u8 0), .v (.int .u8 0), .v (.int .u8 0), .v (.int .u8 0), .v (.int .u8 0), .v (.int .u8 0), .v (.int .u8 0), .v (.int .u8 0), .v (.int .u8 0), .v (.int .u8 0), .v (.int .u8 0), .v (.int .u8 0), .v (.int .u8 0), .v (.int .u8 0), .v (.int .u8 0), .v (.int .u8 0), .v (.int .u8 0), .v (.int .u8 0), .v (.int .u8 0), .v (.int .u8 0), .v (.int .u8 0), .v (.int .u8 0), .v (.int .u8 0), .v (.int .u8 0), .v (.int .u8 0), .v (.int .u8 0), .v (.int .u8 0), .v (.int .u8 0)], false, false⟩
def ti165 : TI := ⟨.struct [(0, 17), (1, 17), (2, 17), (3, 9)], (.st (.pair .any (.pair .any (.pair .any .str)))), 4, 40, [.v (.pointer none), .v (.pointer none), .v (.pointer none), .v (.string ByteArray.empty)], false, false⟩
def ti166 : TI := ⟨.struct [(0, 17), (1, 17), (2, 17), (3, 9)], (.st (.pair .any (.pair .any (.pair .any .str)))), 4, 40, [.v (.pointer none), .v (.pointer none), .v (.pointer none), .v (.string ByteArray.empty)], false, false⟩
def ti170 : TI := ⟨.int .u8, (.int .u8), 1, 1, [.v (.int .u8 0)], false, false⟩
def ti171 : TI := ⟨.int .u8, (.int .u8), 1, 1, [.v (.int .u8 0)], false, false⟩
def ti172 : TI := ⟨.func, .any, 1, 8, [.v (.nilFunc)], false, false⟩
def ti173 : TI := ⟨.int .i32, (.int .i32), 1, 4, [.v (.int .i32 0)], false, false⟩
def ti174 : TI := ⟨.int .i32, (.int .i32), 1, 4, [.v (.int .i32 0)], false, false⟩
def ti175 : TI := ⟨.struct [(0, 12), (1, 12), (2, 121), (3, 170), (4, 5), (5, 5), (6, 171), (7, 172), (8, 101), (9, 173), (10, 174)], (.st (.pair (.int .u64) (.pair (.int .u64) (.pair (.int .u32) (.pair (.int .u8) (.pair (.int .u8) (.pair (.int .u8) (.pair (.int .u8) (.pair .any (.pair .any (.pair (.int .i32) (.int .i32)))))))))))), 11, 48, [.v (.int .u64 0), .v (.int .u64 0), .v (.int .u32 0), .v (.int .u8 0), .v (.int .u8 0), .v (.int .u8 0), .v (.int .u8 0), .v (.nilFunc), .v (.pointer none), .v (.int .i32 0), .v (.int .i32 0)], false, false⟩
def ti176 : TI := ⟨.struct [(0, 12), (1, 12), (2, 121), (3, 170), (4, 5), (5, 5), (6, 171), (7, 172), (8, 101), (9, 173), (10, 174)], (.st (.pair (.int .u64) (.pair (.int .u64) (.pair (.int .u32) (.pair (.int .u8) (.pair (.int .u8) (.pair (.int .u8) (.pair (.int .u8) (.pair .any (.pair .any (.pair (.int .i32) (.int .i32)))))))))))), 11, 48, [.v (.int .u64 0), .v (.int .u64 0), .v (.int .u32 0), .v (.int .u8 0), .v (.int .u8 0), .v (.int .u8 0), .v (.int .u8 0), .v (.nilFunc), .v (.pointer none), .v (.int .i32 0), .v (.int .i32 0)], false, false⟩
def tree : TTree := (.node 84 ti84 (.node 38 ti38 (.node 19 ti19 (.node 10 ti10 (.node 5 ti5 (.node 3 ti3 (.node 2 ti2 (.node 1 ti1 .leaf .leaf) .leaf) (.node 4 ti4 .leaf .leaf)) (.node 8 ti8 (.node 7 ti7 (.node 6 ti6 .leaf .leaf) .leaf) (.node 9 ti9 .leaf .leaf))) (.node 15 ti15 (.node 13 ti13 (.node 12 ti12 (.node 11 ti11 .leaf .leaf) .leaf) (.node 14 ti14 .leaf .leaf)) (.node 17 ti17 (.node 16 ti16 .leaf .leaf) (.node 18 ti18 .leaf .leaf)))) (.node 29 ti29 (.node 24 ti24 (.node 22 ti22 (.node 21 ti21 (.node 20 ti20 .leaf .leaf) .leaf) (.node 23 ti23 .leaf .leaf)) (.node 27 ti27 (.node 26 ti26 (.node 25 ti25 .leaf .leaf) .leaf) (.node 28 ti28 .leaf .leaf))) (.node 34 ti34 (.node 32 ti32 (.node 31 ti31 (.node 30 ti30 .leaf .leaf) .leaf) (.node 33 ti33 .leaf .leaf)) (.node 36 ti36 (.node 35 ti35 .leaf .leaf) (.node 37 ti37 .leaf .leaf))))) (.node 60 ti60 (.node 51 ti51 (.node 43 ti43 (.node 41 ti41 (.node 40 ti40 (.node 39 ti39 .leaf .leaf) .leaf) (.node 42 ti42 .leaf .leaf)) (.node 47 ti47 (.node 45 ti45 (.node 44 ti44 .leaf .leaf) .leaf) (.node 49 ti49 .leaf .leaf))) (.node 56 ti56 (.node 54 ti54 (.node 53 ti53 (.node 52 ti52 .leaf .leaf) .leaf) (.node 55 ti55 .leaf .leaf)) (.node 58 ti58 (.node 57 ti57 .leaf .leaf) (.node 59 ti59 .leaf .leaf)))) (.node 74 ti74 (.node 69 ti69 (.node 65 ti65 (.node 63 ti63 (.node 62 ti62 .leaf .leaf) .leaf) (.node 67 ti67 .leaf .leaf)) (.node 72 ti72 (.node 71 ti71 (.node 70 ti70 .leaf .leaf) .leaf) (.node 73 ti73 .leaf .leaf))) (.node 80 ti80 (.node 78 ti78 (.node 77 ti77 (.node 75 ti75 .leaf .leaf) .leaf) (.node 79 ti79 .leaf .leaf)) (.node 82 ti82 (.node 81 ti81 .leaf .leaf) (.node 83 ti83 .leaf .leaf)))))) (.node 131 ti131 (.node 106 ti106 (.node 94 ti94 (.node 89 ti89 (.node 87 ti87 (.node 86 ti86 (.node 85 ti85 .leaf .leaf) .leaf) (.node 88 ti88 .leaf .leaf)) (.node 92 ti92 (.node 91 ti91 (.node 90 ti90 .leaf .leaf) .leaf) (.node 93 ti93 .leaf .leaf))) (.node 101 ti101 (.node 99 ti99 (.node 97 ti97 (.node 96 ti96 .leaf .leaf) .leaf) (.node 100 ti100 .leaf .leaf)) (.node 103 ti103 (.node 102 ti102 .leaf .leaf) (.node 104 ti104 .leaf .leaf)))) (.node 119 ti119 (.node 111 ti111 (.node 109 ti109 (.node 108 ti108 (.node 107 ti107 .leaf .leaf) .leaf) (.node 110 ti110 .leaf .leaf)) (.node 117 ti117 (.node 116 ti116 (.node 115 ti115 .leaf .leaf) .leaf) (.node 118 ti118 .leaf .leaf))) (.node 126 ti126 (.node 123 ti123 (.node 121 ti121 (.node 120 ti120 .leaf .leaf) .leaf) (.node 124 ti124 .leaf .leaf)) (.node 128 ti128 (.node 127 ti127 .leaf .leaf) (.node 129 ti129 .leaf .leaf))))) (.node 154 ti154 (.node 143 ti143 (.node 136 ti136 (.node 134 ti134 (.node 133 ti133 (.node 132 ti132 .leaf .leaf) .leaf) (.node 135 ti135 .leaf .leaf)) (.node 140 ti140 (.node 139 ti139 (.node 137 ti137 .leaf .leaf) .leaf) (.node 142 ti142 .leaf .leaf))) (.node 148 ti148 (.node 146 ti146 (.node 145 ti145 (.node 144 ti144 .leaf .leaf) .leaf) (.node 147 ti147 .leaf .leaf)) (.node 151 ti151 (.node 150 ti150 .leaf .leaf) (.node 152 ti152 .leaf .leaf)))) (.node 165 ti165 (.node 159 ti159 (.node 157 ti157 (.node 156 ti156 (.node 155 ti155 .leaf .leaf) .leaf) (.node 158 ti158 .leaf .leaf)) (.node 162 ti162 (.node 161 ti161 (.node 160 ti160 .leaf .leaf) .leaf) (.node 163 ti163 .leaf .leaf))) (.node 173 ti173 (.node 171 ti171 (.node 170 ti170 (.node 166 ti166 .leaf .leaf) .leaf) (.node 172 ti172 .leaf .leaf)) (.node 175 ti175 (.node 174 ti174 .leaf .leaf) (.node 176 ti176 .leaf .leaf)))))))
def tt : Nat → Option TI := tree.look
theorem tyfit1 : Fits Tryd.prog 1 ti1 := fits_mk (vs := [.nilFunc]) ⟨_, _, _, Tryd.underlying1⟩ Tryd.underlying1 rfl (by decide) rfl (by kernel_rfl) rfl rfl rfl (fun h => by cases h)
theorem tyfit2 : Fits Tryd.prog 2 ti2 := fits_mk (vs := [.int .i64 0]) Tryd.underlying2 Tryd.underlying2 rfl (by decide) rfl (by kernel_rfl) rfl rfl rfl (fun h => by cases h)
theorem tyfit3 : Fits Tryd.prog 3 ti3 := fits_mk (vs := [.int .i64 0]) Tryd.underlying3 Tryd.underlying3 rfl (by decide) rfl (by kernel_rfl) rfl rfl rfl (fun h => by cases h)
theorem tyfit4 : Fits Tryd.prog 4 ti4 := fits_mk (vs := [.bool false]) Tryd.underlying4 Tryd.underlying4 rfl (by decide) rfl (by kernel_rfl) rfl rfl rfl (fun h => by cases h)
theorem tyfit5 : Fits Tryd.prog 5 ti5 := fits_mk (vs := [.int .u8 0]) Tryd.underlying5 Tryd.underlying5 rfl (by decide) rfl (by kernel_rfl) rfl rfl rfl (fun h => by cases h)
theorem tyfit6 : Fits Tryd.prog 6 ti6 := fits_mk (vs := [.int .u8 0]) Tryd.underlying6 Tryd.underlying6 rfl (by decide) rfl (by kernel_rfl) rfl rfl rfl (fun h => by cases h)
theorem tyfit7 : Fits Tryd.prog 7 ti7 := fits_mk (vs := [.int .i64 0, .int .i64 0, .bool false, .int .u8 0]) ⟨_, Tryd.underlying7, rfl, by kernel_rfl⟩ Tryd.underlying7 rfl (by decide) rfl (by kernel_rfl) rfl rfl rfl (fun _ => ⟨by kernel_rfl, by kernel_rfl, by kernel_rfl⟩)
theorem tyfit8 : Fits Tryd.prog 8 ti8 := fits_mk (vs := [.int .i64 0, .int .i64 0, .bool false, .int .u8 0]) ⟨_, Tryd.underlying8, rfl, by kernel_rfl⟩ Tryd.underlying8 rfl (by decide) rfl (by kernel_rfl) rfl rfl rfl (fun _ => ⟨by kernel_rfl, by kernel_rfl, by kernel_rfl⟩)
theorem tyfit9 : Fits Tryd.prog 9 ti9 := fits_mk (vs := [.string ByteArray.empty]) Tryd.underlying9 Tryd.underlying9 rfl (by decide) rfl (by kernel_rfl) rfl rfl rfl (fun h => by cases h)
theorem tyfit10 : Fits Tryd.prog 10 ti10 := fits_mk (vs := [.string ByteArray.empty]) Tryd.underlying10 Tryd.underlying10 rfl (by decide) rfl (by kernel_rfl) rfl rfl rfl (fun h => by cases h)
theorem tyfit11 : Fits Tryd.prog 11 ti11 := fits_mk (vs := [.string ByteArray.empty]) Tryd.underlying11 Tryd.underlying11 rfl (by decide) rfl (by kernel_rfl) rfl rfl rfl (fun h => by cases h)
theorem tyfit12 : Fits Tryd.prog 12 ti12 := fits_mk (vs := [.int .u64 0]) Tryd.underlying12 Tryd.underlying12 rfl (by decide) rfl (by kernel_rfl) rfl rfl rfl (fun h => by cases h)
theorem tyfit13 : Fits Tryd.prog 13 ti13 := fits_mk (vs := [.string ByteArray.empty, .int .u64 0]) ⟨_, Tryd.underlying13, rfl, by kernel_rfl⟩ Tryd.underlying13 rfl (by decide) rfl (by kernel_rfl) rfl rfl rfl (fun h => by cases h)
theorem tyfit14 : Fits Tryd.prog 14 ti14 := fits_mk (vs := [.string ByteArray.empty, .int .u64 0]) ⟨_, Tryd.underlying14, rfl, by kernel_rfl⟩ Tryd.underlying14 rfl (by decide) rfl (by kernel_rfl) rfl rfl rfl (fun h => by cases h)
theorem tyfit15 : Fits Tryd.prog 15 ti15 := fits_mk (vs := [.pointer none]) Tryd.underlying15 Tryd.underlying15 rfl (by decide) rfl (by kernel_rfl) rfl rfl rfl (fun h => by cases h)
theorem tyfit16 : Fits Tryd.prog 16 ti16 := fits_mk (vs := [.pointer none]) Tryd.underlying16 Tryd.underlying16 rfl (by decide) rfl (by kernel_rfl) rfl rfl rfl (fun h => by cases h)
theorem tyfit17 : Fits Tryd.prog 17 ti17 := fits_mk (vs := [.pointer none]) Tryd.underlying17 Tryd.underlying17 rfl (by decide) rfl (by kernel_rfl) rfl rfl rfl (fun h => by cases h)
theorem tyfit18 : Fits Tryd.prog 18 ti18 := fits_mk (vs := [.pointer none]) ⟨_, Tryd.underlying18, rfl, by kernel_rfl⟩ Tryd.underlying18 rfl (by decide) rfl (by kernel_rfl) rfl rfl rfl (fun h => by cases h)
theorem tyfit19 : Fits Tryd.prog 19 ti19 := fits_mk (vs := [.pointer none]) ⟨_, Tryd.underlying19, rfl, by kernel_rfl⟩ Tryd.underlying19 rfl (by decide) rfl (by kernel_rfl) rfl rfl rfl (fun h => by cases h)
theorem tyfit20 : Fits Tryd.prog 20 ti20 := fits_mk (vs := [.nilIface]) ⟨_, Tryd.underlying20⟩ Tryd.underlying20 rfl (by decide) rfl (by kernel_rfl) rfl rfl rfl (fun h => by cases h)
theorem tyfit21 : Fits Tryd.prog 21 ti21 := fits_mk (vs := [.int .i32 0]) Tryd.underlying21 Tryd.underlying21 rfl (by decide) rfl (by kernel_rfl) rfl rfl rfl (fun h => by cases h)
theorem tyfit22 : Fits Tryd.prog 22 ti22 := fits_mk (vs := [.slice none 0 0]) Tryd.underlying22 Tryd.underlying22 rfl (by decide) rfl (by kernel_rfl) rfl rfl rfl (fun h => by cases h)
theorem tyfit23 : Fits Tryd.prog 23 ti23 := fits_mk (vs := [.nilFunc]) ⟨_, _, _, Tryd.underlying23⟩ Tryd.underlying23 rfl (by decide) rfl (by kernel_rfl) rfl rfl rfl (fun h => by cases h)
theorem tyfit24 : Fits Tryd.prog 24 ti24 := fits_mk (vs := [.nilFunc]) ⟨_, _, _, Tryd.underlying24⟩ Tryd.underlying24 rfl (by decide) rfl (by kernel_rfl) rfl rfl rfl (fun h => by cases h)
theorem tyfit25 : Fits Tryd.prog 25 ti25 := fits_mk (vs := [.int .i64 0, .int .i64 0, .int .i64 0]) ⟨_, Tryd.underlying25, rfl, by kernel_rfl⟩ Tryd.underlying25 rfl (by decide) rfl (by kernel_rfl) rfl rfl rfl (fun _ => ⟨by kernel_rfl, by kernel_rfl, by kernel_rfl⟩)
theorem tyfit26 : Fits Tryd.prog 26 ti26 := fits_mk (vs := [.int .i64 0, .int .i64 0, .int .i64 0]) ⟨_, Tryd.underlying26, rfl, by kernel_rfl⟩ Tryd.underlying26 rfl (by decide) rfl (by kernel_rfl) rfl rfl rfl (fun _ => ⟨by kernel_rfl, by kernel_rfl, by kernel_rfl⟩)
theorem tyfit27 : Fits Tryd.prog 27 ti27 := fits_mk (vs := [.nilFunc]) ⟨_, _, _, Tryd.underlying27⟩ Tryd.underlying27 rfl (by decide) rfl (by kernel_rfl) rfl rfl rfl (fun h => by cases h)
theorem tyfit28 : Fits Tryd.prog 28 ti28 := fits_mk (vs := [.nilFunc]) ⟨_, _, _, Tryd.underlying28⟩ Tryd.underlying28 rfl (by decide) rfl (by kernel_rfl) rfl rfl rfl (fun h => by cases h)
theorem tyfit29 : Fits Tryd.prog 29 ti29 := fits_mk (vs := [.slice none 0 0]) Tryd.underlying29 Tryd.underlying29 rfl (by decide) rfl (by kernel_rfl) rfl rfl rfl (fun h => by cases h)
theorem tyfit30 : Fits Tryd.prog 30 ti30 := fits_mk (vs := [.nilFunc]) ⟨_, _, _, Tryd.underlying30⟩ Tryd.underlying30 rfl (by decide) rfl (by kernel_rfl) rfl rfl rfl (fun h => by cases h)
theorem tyfit31 : Fits Tryd.prog 31 ti31 := fits_mk (vs := [.nilFunc]) ⟨_, _, _, Tryd.underlying31⟩ Tryd.underlying31 rfl (by decide) rfl (by kernel_rfl) rfl rfl rfl (fun h => by cases h)
theorem tyfit32 : Fits Tryd.prog 32 ti32 := fits_mk (vs := [.int .u64 0]) Tryd.underlying32 Tryd.underlying32 rfl (by decide) rfl (by kernel_rfl) rfl rfl rfl (fun h => by cases h)
theorem tyfit33 : Fits Tryd.prog 33 ti33 := fits_mk (vs := [.int .u64 0, .int .i64 0, .int .i64 0, .int .i64 0]) ⟨_, Tryd.underlying33, rfl, by kernel_rfl⟩ Tryd.underlying33 rfl (by decide) rfl (by kernel_rfl) rfl rfl rfl (fun _ => ⟨by kernel_rfl, by kernel_rfl, by kernel_rfl⟩)
theorem tyfit34 : Fits Tryd.prog 34 ti34 := fits_mk (vs := [.int .u64 0, .int .i64 0, .int .i64 0, .int .i64 0]) ⟨_, Tryd.underlying34, rfl, by kernel_rfl⟩ Tryd.underlying34 rfl (by decide) rfl (by kernel_rfl) rfl rfl rfl (fun _ => ⟨by kernel_rfl, by kernel_rfl, by kernel_rfl⟩)
theorem tyfit35 : Fits Tryd.prog 35 ti35 := fits_mk (vs := [.nilFunc]) ⟨_, _, _, Tryd.underlying35⟩ Tryd.underlying35 rfl (by decide) rfl (by kernel_rfl) rfl rfl rfl (fun h => by cases h)
theorem tyfit36 : Fits Tryd.prog 36 ti36 := fits_mk (vs := [.nilFunc]) ⟨_, _, _, Tryd.underlying36⟩ Tryd.underlying36 rfl (by decide) rfl (by kernel_rfl) rfl rfl rfl (fun h => by cases h)
theorem tyfit37 : Fits Tryd.prog 37 ti37 := fits_mk (vs := [.nilFunc]) ⟨_, _, _, Tryd.underlying37⟩ Tryd.underlying37 rfl (by decide) rfl (by kernel_rfl) rfl rfl rfl (fun h => by cases h)
theorem tyfit38 : Fits Tryd.prog 38 ti38 := fits_mk (vs := [.slice none 0 0]) Tryd.underlying38 Tryd.underlying38 rfl (by decide) rfl (by kernel_rfl) rfl rfl rfl (fun h => by cases h)
theorem tyfit39 : Fits Tryd.prog 39 ti39 := fits_mk (vs := [.nilFunc]) ⟨_, _, _, Tryd.underlying39⟩ Tryd.underlying39 rfl (by decide) rfl (by kernel_rfl) rfl rfl rfl (fun h => by cases h)
theorem tyfit40 : Fits Tryd.prog 40 ti40 := fits_mk (vs := [.nilFunc]) ⟨_, _, _, Tryd.underlying40⟩ Tryd.underlying40 rfl (by decide) rfl (by kernel_rfl) rfl rfl rfl (fun h => by cases h)
theorem tyfit41 : Fits Tryd.prog 41 ti41 := fits_mk (vs := [.nilFunc]) ⟨_, _, _, Tryd.underlying41⟩ Tryd.underlying41 rfl (by decide) rfl (by kernel_rfl) rfl rfl rfl (fun h => by cases h)
theorem tyfit42 : Fits Tryd.prog 42 ti42 := fits_mk (vs := [.slice none 0 0]) Tryd.underlying42 Tryd.underlying42 rfl (by decide) rfl (by kernel_rfl) rfl rfl rfl (fun h => by cases h)
theorem tyfit43 : Fits Tryd.prog 43 ti43 := fits_mk (vs := [.nilFunc]) ⟨_, _, _, Tryd.underlying43⟩ Tryd.underlying43 rfl (by decide) rfl (by kernel_rfl) rfl rfl rfl (fun h => by cases h)
theorem tyfit44 : Fits Tryd.prog 44 ti44 := fits_mk (vs := [.nilFunc]) ⟨_, _, _, Tryd.underlying44⟩ Tryd.underlying44 rfl (by decide) rfl (by kernel_rfl) rfl rfl rfl (fun h => by cases h)
theorem tyfit45 : Fits Tryd.prog 45 ti45 := fits_mk (vs := [.int .i64 0]) Tryd.underlying45 Tryd.underlying45 rfl (by decide) rfl (by kernel_rfl) rfl rfl rfl (fun h => by cases h)
theorem tyfit47 : Fits Tryd.prog 47 ti47 := fits_mk (vs := [.nilFunc]) ⟨_, _, _, Tryd.underlying47⟩ Tryd.underlying47 rfl (by decide) rfl (by kernel_rfl) rfl rfl rfl (fun h => by cases h)
theorem tyfit49 : Fits Tryd.prog 49 ti49 := fits_mk (vs := [.nilFunc]) ⟨_, _, _, Tryd.underlying49⟩ Tryd.underlying49 rfl (by decide) rfl (by kernel_rfl) rfl rfl rfl (fun h => by cases h)
theorem tyfit51 : Fits Tryd.prog 51 ti51 := fits_mk (vs := [.nilFunc]) ⟨_, _, _, Tryd.underlying51⟩ Tryd.underlying51 rfl (by decide) rfl (by kernel_rfl) rfl rfl rfl (fun h => by cases h)
theorem tyfit52 : Fits Tryd.prog 52 ti52 := fits_mk (vs := [.nilFunc]) ⟨_, _, _, Tryd.underlying52⟩ Tryd.underlying52 rfl (by decide) rfl (by kernel_rfl) rfl rfl rfl (fun h => by cases h)
theorem tyfit53 : Fits Tryd.prog 53 ti53 := fits_mk (vs := [.nilFunc]) ⟨_, _, _, Tryd.underlying53⟩ Tryd.underlying53 rfl (by decide) rfl (by kernel_rfl) rfl rfl rfl (fun h => by cases h)
theorem tyfit54 : Fits Tryd.prog 54 ti54 := fits_mk (vs := [.int .i64 0, .int .i64 0, .int .i64 0]) ⟨_, Tryd.underlying54, rfl, by kernel_rfl⟩ Tryd.underlying54 rfl (by decide) rfl (by kernel_rfl) rfl rfl rfl (fun _ => ⟨by kernel_rfl, by kernel_rfl, by kernel_rfl⟩)
theorem tyfit55 : Fits Tryd.prog 55 ti55 := fits_mk (vs := [.nilFunc]) ⟨_, _, _, Tryd.underlying55⟩ Tryd.underlying55 rfl (by decide) rfl (by kernel_rfl) rfl rfl rfl (fun h => by cases h)
theorem tyfit56 : Fits Tryd.prog 56 ti56 := fits_mk (vs := [.slice none 0 0]) Tryd.underlying56 Tryd.underlying56 rfl (by decide) rfl (by kernel_rfl) rfl rfl rfl (fun h => by cases h)
theorem tyfit57 : Fits Tryd.prog 57 ti57 := fits_mk (vs := [.nilFunc]) ⟨_, _, _, Tryd.underlying57⟩ Tryd.underlying57 rfl (by decide) rfl (by kernel_rfl) rfl rfl rfl (fun h => by cases h)
theorem tyfit58 : Fits Tryd.prog 58 ti58 := fits_mk (vs := [.int .u64 0]) Tryd.underlying58 Tryd.underlying58 rfl (by decide) rfl (by kernel_rfl) rfl rfl rfl (fun h => by cases h)
theorem tyfit59 : Fits Tryd.prog 59 ti59 := fits_mk (vs := [.nilFunc]) ⟨_, _, _, Tryd.underlying59⟩ Tryd.underlying59 rfl (by decide) rfl (by kernel_rfl) rfl rfl rfl (fun h => by cases h)
theorem tyfit60 : Fits Tryd.prog 60 ti60 := fits_mk (vs := [.int .u64 0]) Tryd.underlying60 Tryd.underlying60 rfl (by decide) rfl (by kernel_rfl) rfl rfl rfl (fun h => by cases h)
theorem tyfit62 : Fits Tryd.prog 62 ti62 := fits_mk (vs := [.nilFunc]) ⟨_, _, _, Tryd.underlying62⟩ Tryd.underlying62 rfl (by decide) rfl (by kernel_rfl) rfl rfl rfl (fun h => by cases h)
theorem tyfit63 : Fits Tryd.prog 63 ti63 := fits_mk (vs := [.nilFunc]) ⟨_, _, _, Tryd.underlying63⟩ Tryd.underlying63 rfl (by decide) rfl (by kernel_rfl) rfl rfl rfl (fun h => by cases h)
theorem tyfit65 : Fits Tryd.prog 65 ti65 := fits_mk (vs := [.nilFunc]) ⟨_, _, _, Tryd.underlying65⟩ Tryd.underlying65 rfl (by decide) rfl (by kernel_rfl) rfl rfl rfl (fun h => by cases h)
theorem tyfit67 : Fits Tryd.prog 67 ti67 := fits_mk (vs := [.nilFunc]) ⟨_, _, _, Tryd.underlying67⟩ Tryd.underlying67 rfl (by decide) rfl (by kernel_rfl) rfl rfl rfl (fun h => by cases h)
theorem tyfit69 : Fits Tryd.prog 69 ti69 := fits_mk (vs := [.nilFunc]) ⟨_, _, _, Tryd.underlying69⟩ Tryd.underlying69 rfl (by decide) rfl (by kernel_rfl) rfl rfl rfl (fun h => by cases h)
theorem tyfit70 : Fits Tryd.prog 70 ti70 := fits_mk (vs := [.pointer none]) Tryd.underlying70 Tryd.underlying70 rfl (by decide) rfl (by kernel_rfl) rfl rfl rfl (fun h => by cases h)
theorem tyfit71 : Fits Tryd.prog 71 ti71 := fits_mk (vs := [.pointer none, .slice none 0 0]) ⟨_, Tryd.underlying71, rfl, by kernel_rfl⟩ Tryd.underlying71 rfl (by decide) rfl (by kernel_rfl) rfl rfl rfl (fun h => by cases h)
theorem tyfit72 : Fits Tryd.prog 72 ti72 := fits_mk (vs := [.pointer none, .slice none 0 0]) ⟨_, Tryd.underlying72, rfl, by kernel_rfl⟩ Tryd.underlying72 rfl (by decide) rfl (by kernel_rfl) rfl rfl rfl (fun h => by cases h)
theorem tyfit73 : Fits Tryd.prog 73 ti73 := fits_mk (vs := [.nilFunc]) ⟨_, _, _, Tryd.underlying73⟩ Tryd.underlying73 rfl (by decide) rfl (by kernel_rfl) rfl rfl rfl (fun h => by cases h)
theorem tyfit74 : Fits Tryd.prog 74 ti74 := fits_mk (vs := [.nilIface]) ⟨_, Tryd.underlying74⟩ Tryd.underlying74 rfl (by decide) rfl (by kernel_rfl) rfl rfl rfl (fun h => by cases h)
theorem tyfit75 : Fits Tryd.prog 75 ti75 := fits_mk (vs := [.nilIface]) ⟨_, Tryd.underlying75⟩ Tryd.underlying75 rfl (by decide) rfl (by kernel_rfl) rfl rfl rfl (fun h => by cases h)
theorem tyfit77 : Fits Tryd.prog 77 ti77 := fits_mk (vs := [.nilFunc]) ⟨_, _, _, Tryd.underlying77⟩ Tryd.underlying77 rfl (by decide) rfl (by kernel_rfl) rfl rfl rfl (fun h => by cases h)
theorem tyfit78 : Fits Tryd.prog 78 ti78 := fits_mk (vs := [.nilFunc]) ⟨_, _, _, Tryd.underlying78⟩ Tryd.underlying78 rfl (by decide) rfl (by kernel_rfl) rfl rfl rfl (fun h => by cases h)
theorem tyfit79 : Fits Tryd.prog 79 ti79 := fits_mk (vs := [.nilFunc]) ⟨_, _, _, Tryd.underlying79⟩ Tryd.underlying79 rfl (by decide) rfl (by kernel_rfl) rfl rfl rfl (fun h => by cases h)
theorem tyfit80 : Fits Tryd.prog 80 ti80 := fits_mk (vs := [.nilFunc]) ⟨_, _, _, Tryd.underlying80⟩ Tryd.underlying80 rfl (by decide) rfl (by kernel_rfl) rfl rfl rfl (fun h => by cases h)
theorem tyfit81 : Fits Tryd.prog 81 ti81 := fits_mk (vs := [.nilFunc]) ⟨_, _, _, Tryd.underlying81⟩ Tryd.underlying81 rfl (by decide) rfl (by kernel_rfl) rfl rfl rfl (fun h => by cases h)
theorem tyfit82 : Fits Tryd.prog 82 ti82 := fits_mk (vs := [.pointer none]) Tryd.underlying82 Tryd.underlying82 rfl (by decide) rfl (by kernel_rfl) rfl rfl rfl (fun h => by cases h)
theorem tyfit83 : Fits Tryd.prog 83 ti83 := fits_mk (vs := [.nilFunc]) ⟨_, _, _, Tryd.underlying83⟩ Tryd.underlying83 rfl (by decide) rfl (by kernel_rfl) rfl rfl rfl (fun h => by cases h)
theorem tyfit84 : Fits Tryd.prog 84 ti84 := fits_mk (vs := [.slice none 0 0]) Tryd.underlying84 Tryd.underlying84 rfl (by decide) rfl (by kernel_rfl) rfl rfl rfl (fun h => by cases h)
theorem tyfit85 : Fits Tryd.prog 85 ti85 := fits_mk (vs := [.nilFunc]) ⟨_, _, _, Tryd.underlying85⟩ Tryd.underlying85 rfl (by decide) rfl (by kernel_rfl) rfl rfl rfl (fun h => by cases h)
theorem tyfit86 : Fits Tryd.prog 86 ti86 := fits_mk (vs := [.string ByteArray.empty, .bool false, .bool false]) ⟨_, Tryd.underlying86, rfl, by kernel_rfl⟩ Tryd.underlying86 rfl (by decide) rfl (by kernel_rfl) rfl rfl rfl (fun h => by cases h)
theorem tyfit87 : Fits Tryd.prog 87 ti87 := fits_mk (vs := [.string ByteArray.empty, .bool false, .bool false]) ⟨_, Tryd.underlying87, rfl, by kernel_rfl⟩ Tryd.underlying87 rfl (by decide) rfl (by kernel_rfl) rfl rfl rfl (fun h => by cases h)
theorem tyfit88 : Fits Tryd.prog 88 ti88 := fits_mk (vs := [.string ByteArray.empty, .bool false, .bool false, .string ByteArray.empty, .bool false, .bool false, .string ByteArray.empty, .bool false, .bool false]) Tryd.underlying88 Tryd.underlying88 rfl (by decide) rfl (by kernel_rfl) rfl rfl rfl (fun h => by cases h)
theorem tyfit89 : Fits Tryd.prog 89 ti89 := fits_mk (vs := [.nilFunc]) ⟨_, _, _, Tryd.underlying89⟩ Tryd.underlying89 rfl (by decide) rfl (by kernel_rfl) rfl rfl rfl (fun h => by cases h)
theorem tyfit90 : Fits Tryd.prog 90 ti90 := fits_mk (vs := [.nilFunc]) ⟨_, _, _, Tryd.underlying90⟩ Tryd.underlying90 rfl (by decide) rfl (by kernel_rfl) rfl rfl rfl (fun h => by cases h)
theorem tyfit91 : Fits Tryd.prog 91 ti91 := fits_mk (vs := [.slice none 0 0]) Tryd.underlying91 Tryd.underlying91 rfl (by decide) rfl (by kernel_rfl) rfl rfl rfl (fun h => by cases h)
theorem tyfit92 : Fits Tryd.prog 92 ti92 := fits_mk (vs := [.nilFunc]) ⟨_, _, _, Tryd.underlying92⟩ Tryd.underlying92 rfl (by decide) rfl (by kernel_rfl) rfl rfl rfl (fun h => by cases h)
theorem tyfit93 : Fits Tryd.prog 93 ti93 := fits_mk (vs := [.slice none 0 0]) Tryd.underlying93 Tryd.underlying93 rfl (by decide) rfl (by kernel_rfl) rfl rfl rfl (fun h => by cases h)
theorem tyfit94 : Fits Tryd.prog 94 ti94 := fits_mk (vs := [.pointer none]) Tryd.underlying94 Tryd.underlying94 rfl (by decide) rfl (by kernel_rfl) rfl rfl rfl (fun h => by cases h)
theorem tyfit96 : Fits Tryd.prog 96 ti96 := fits_mk (vs := [.nilFunc]) ⟨_, _, _, Tryd.underlying96⟩ Tryd.underlying96 rfl (by decide) rfl (by kernel_rfl) rfl rfl rfl (fun h => by cases h)
theorem tyfit97 : Fits Tryd.prog 97 ti97 := fits_mk (vs := [.nilFunc]) ⟨_, _, _, Tryd.underlying97⟩ Tryd.underlying97 rfl (by decide) rfl (by kernel_rfl) rfl rfl rfl (fun h => by cases h)
theorem tyfit99 : Fits Tryd.prog 99 ti99 := fits_mk (vs := [.nilFunc]) ⟨_, _, _, Tryd.underlying99⟩ Tryd.underlying99 rfl (by decide) rfl (by kernel_rfl) rfl rfl rfl (fun h => by cases h)
theorem tyfit100 : Fits Tryd.prog 100 ti100 := fits_mk (vs := [.nilFunc]) ⟨_, _, _, Tryd.underlying100⟩ Tryd.underlying100 rfl (by decide) rfl (by kernel_rfl) rfl rfl rfl (fun h => by cases h)
theorem tyfit101 : Fits Tryd.prog 101 ti101 := fits_mk (vs := [.pointer none]) Tryd.underlying101 Tryd.underlying101 rfl (by decide) rfl (by kernel_rfl) rfl rfl rfl (fun h => by cases h)
theorem tyfit102 : Fits Tryd.prog 102 ti102 := fits_mk (vs := [.nilFunc]) ⟨_, _, _, Tryd.underlying102⟩ Tryd.underlying102 rfl (by decide) rfl (by kernel_rfl) rfl rfl rfl (fun h => by cases h)
theorem tyfit103 : Fits Tryd.prog 103 ti103 := fits_mk (vs := [.nilFunc]) ⟨_, _, _, Tryd.underlying103⟩ Tryd.underlying103 rfl (by decide) rfl (by kernel_rfl) rfl rfl rfl (fun h => by cases h)
theorem tyfit104 : Fits Tryd.prog 104 ti104 := fits_mk (vs := [.nilFunc]) ⟨_, _, _, Tryd.underlying104⟩ Tryd.underlying104 rfl (by decide) rfl (by kernel_rfl) rfl rfl rfl (fun h => by cases h)
theorem tyfit106 : Fits Tryd.prog 106 ti106 := fits_mk (vs := [.nilFunc]) ⟨_, _, _, Tryd.underlying106⟩ Tryd.underlying106 rfl (by decide) rfl (by kernel_rfl) rfl rfl rfl (fun h => by cases h)
theorem tyfit107 : Fits Tryd.prog 107 ti107 := fits_mk (vs := [.nilFunc]) ⟨_, _, _, Tryd.underlying107⟩ Tryd.underlying107 rfl (by decide) rfl (by kernel_rfl) rfl rfl rfl (fun h => by cases h)
theorem tyfit108 : Fits Tryd.prog 108 ti108 := fits_mk (vs := [.nilFunc]) ⟨_, _, _, Tryd.underlying108⟩ Tryd.underlying108 rfl (by decide) rfl (by kernel_rfl) rfl rfl rfl (fun h => by cases h)
theorem tyfit109 : Fits Tryd.prog 109 ti109 := fits_mk (vs := [.nilFunc]) ⟨_, _, _, Tryd.underlying109⟩ Tryd.underlying109 rfl (by decide) rfl (by kernel_rfl) rfl rfl rfl (fun h => by cases h)
theorem tyfit110 : Fits Tryd.prog 110 ti110 := fits_mk (vs := [.nilFunc]) ⟨_, _, _, Tryd.underlying110⟩ Tryd.underlying110 rfl (by decide) rfl (by kernel_rfl) rfl rfl rfl (fun h => by cases h)
theorem tyfit111 : Fits Tryd.prog 111 ti111 := fits_mk (vs := [.nilFunc]) ⟨_, _, _, Tryd.underlying111⟩ Tryd.underlying111 rfl (by decide) rfl (by kernel_rfl) rfl rfl rfl (fun h => by cases h)
theorem tyfit115 : Fits Tryd.prog 115 ti115 := fits_mk (vs := [.nilFunc]) ⟨_, _, _, Tryd.underlying115⟩ Tryd.underlying115 rfl (by decide) rfl (by kernel_rfl) rfl rfl rfl (fun h => by cases h)
theorem tyfit116 : Fits Tryd.prog 116 ti116 := fits_mk (vs := [.nilFunc]) ⟨_, _, _, Tryd.underlying116⟩ Tryd.underlying116 rfl (by decide) rfl (by kernel_rfl) rfl rfl rfl (fun h => by cases h)
theorem tyfit117 : Fits Tryd.prog 117 ti117 := fits_mk (vs := [.pointer none]) Tryd.underlying117 Tryd.underlying117 rfl (by decide) rfl (by kernel_rfl) rfl rfl rfl (fun h => by cases h)
theorem tyfit118 : Fits Tryd.prog 118 ti118 := fits_mk (vs := [.nilFunc]) ⟨_, _, _, Tryd.underlying118⟩ Tryd.underlying118 rfl (by decide) rfl (by kernel_rfl) rfl rfl rfl (fun h => by cases h)
theorem tyfit119 : Fits Tryd.prog 119 ti119 := fits_mk (vs := [.nilFunc]) ⟨_, _, _, Tryd.underlying119⟩ Tryd.underlying119 rfl (by decide) rfl (by kernel_rfl) rfl rfl rfl (fun h => by cases h)
theorem tyfit120 : Fits Tryd.prog 120 ti120 := fits_mk (vs := [.nilFunc]) ⟨_, _, _, Tryd.underlying120⟩ Tryd.underlying120 rfl (by decide) rfl (by kernel_rfl) rfl rfl rfl (fun h => by cases h)
theorem tyfit121 : Fits Tryd.prog 121 ti121 := fits_mk (vs := [.int .u32 0]) Tryd.underlying121 Tryd.underlying121 rfl (by decide) rfl (by kernel_rfl) rfl rfl rfl (fun h => by cases h)
theorem tyfit123 : Fits Tryd.prog 123 ti123 := fits_mk (vs := [.nilFunc]) ⟨_, _, _, Tryd.underlying123⟩ Tryd.underlying123 rfl (by decide) rfl (by kernel_rfl) rfl rfl rfl (fun h => by cases h)
theorem tyfit124 : Fits Tryd.prog 124 ti124 := fits_mk (vs := [.nilFunc]) ⟨_, _, _, Tryd.underlying124⟩ Tryd.underlying124 rfl (by decide) rfl (by kernel_rfl) rfl rfl rfl (fun h => by cases h)
theorem tyfit126 : Fits Tryd.prog 126 ti126 := fits_mk (vs := [.nilFunc]) ⟨_, _, _, Tryd.underlying126⟩ Tryd.underlying126 rfl (by decide) rfl (by kernel_rfl) rfl rfl rfl (fun h => by cases h)
theorem tyfit127 : Fits Tryd.prog 127 ti127 := fits_mk (vs := [.nilFunc]) ⟨_, _, _, Tryd.underlying127⟩ Tryd.underlying127 rfl (by decide) rfl (by kernel_rfl) rfl rfl rfl (fun h => by cases h)
theorem tyfit128 : Fits Tryd.prog 128 ti128 := fits_mk (vs := [.nilFunc]) ⟨_, _, _, Tryd.underlying128⟩ Tryd.underlying128 rfl (by decide) rfl (by kernel_rfl) rfl rfl rfl (fun h => by cases h)
theorem tyfit129 : Fits Tryd.prog 129 ti129 := fits_mk (vs := [.int .i64 0]) Tryd.underlying129 Tryd.underlying129 rfl (by decide) rfl (by kernel_rfl) rfl rfl rfl (fun h => by cases h)
theorem tyfit131 : Fits Tryd.prog 131 ti131 := fits_mk (vs := [.nilFunc]) ⟨_, _, _, Tryd.underlying131⟩ Tryd.underlying131 rfl (by decide) rfl (by kernel_rfl) rfl rfl rfl (fun h => by cases h)
theorem tyfit132 : Fits Tryd.prog 132 ti132 := fits_mk (vs := [.pointer none]) Tryd.underlying132 Tryd.underlying132 rfl (by decide) rfl (by kernel_rfl) rfl rfl rfl (fun h => by cases h)
theorem tyfit133 : Fits Tryd.prog 133 ti133 := fits_mk (vs := [.nilFunc]) ⟨_, _, _, Tryd.underlying133⟩ Tryd.underlying133 rfl (by decide) rfl (by kernel_rfl) rfl rfl rfl (fun h => by cases h)
theorem tyfit134 : Fits Tryd.prog 134 ti134 := fits_mk (vs := [.nilFunc]) ⟨_, _, _, Tryd.underlying134⟩ Tryd.underlying134 rfl (by decide) rfl (by kernel_rfl) rfl rfl rfl (fun h => by cases h)
theorem tyfit135 : Fits Tryd.prog 135 ti135 := fits_mk (vs := [.int .u8 0, .int .u8 0, .int .u8 0, .int .u8 0, .int .u8 0, .int .u8 0, .int .u8 0, .int .u8 0, .int .u8 0, .int .u8 0, .int .u8 0, .int .u8 0, .int .u8 0, .int .u8 0, .int .u8 0, .int .u8 0, .int .u8 0, .int .u8 0, .int .u8 0, .int .u8 0, .int .u8 0, .int .u8 0, .int .u8 0, .int .u8 0]) Tryd.underlying135 Tryd.underlying135 rfl (by decide) rfl (by kernel_rfl) rfl rfl rfl (fun h => by cases h)
theorem tyfit136 : Fits Tryd.prog 136 ti136 := fits_mk (vs := [.nilFunc]) ⟨_, _, _, Tryd.underlying136⟩ Tryd.underlying136 rfl (by decide) rfl (by kernel_rfl) rfl rfl rfl (fun h => by cases h)
theorem tyfit137 : Fits Tryd.prog 137 ti137 := fits_mk (vs := [.nilFunc]) ⟨_, _, _, Tryd.underlying137⟩ Tryd.underlying137 rfl (by decide) rfl (by kernel_rfl) rfl rfl rfl (fun h => by cases h)
theorem tyfit139 : Fits Tryd.prog 139 ti139 := fits_mk (vs := [.nilFunc]) ⟨_, _, _, Tryd.underlying139⟩ Tryd.underlying139 rfl (by decide) rfl (by kernel_rfl) rfl rfl rfl (fun h => by cases h)
theorem tyfit140 : Fits Tryd.prog 140 ti140 := fits_mk (vs := [.nilFunc]) ⟨_, _, _, Tryd.underlying140⟩ Tryd.underlying140 rfl (by decide) rfl (by kernel_rfl) rfl rfl rfl (fun h => by cases h)
theorem tyfit142 : Fits Tryd.prog 142 ti142 := fits_mk (vs := [.nilFunc]) ⟨_, _, _, Tryd.underlying142⟩ Tryd.underlying142 rfl (by decide) rfl (by kernel_rfl) rfl rfl rfl (fun h => by cases h)
theorem tyfit143 : Fits Tryd.prog 143 ti143 := fits_mk (vs := [.nilFunc]) ⟨_, _, _, Tryd.underlying143⟩ Tryd.underlying143 rfl (by decide) rfl (by kernel_rfl) rfl rfl rfl (fun h => by cases h)
theorem tyfit144 : Fits Tryd.prog 144 ti144 := fits_mk (vs := [.string ByteArray.empty, .string ByteArray.empty, .nilIface]) ⟨_, Tryd.underlying144, rfl, by kernel_rfl⟩ Tryd.underlying144 rfl (by decide) rfl (by kernel_rfl) rfl rfl rfl (fun h => by cases h)
theorem tyfit145 : Fits Tryd.prog 145 ti145 := fits_mk (vs := [.string ByteArray.empty, .string ByteArray.empty, .nilIface]) ⟨_, Tryd.underlying145, rfl, by kernel_rfl⟩ Tryd.underlying145 rfl (by decide) rfl (by kernel_rfl) rfl rfl rfl (fun h => by cases h)
theorem tyfit146 : Fits Tryd.prog 146 ti146 := fits_mk (vs := [.nilFunc]) ⟨_, _, _, Tryd.underlying146⟩ Tryd.underlying146 rfl (by decide) rfl (by kernel_rfl) rfl rfl rfl (fun h => by cases h)
theorem tyfit147 : Fits Tryd.prog 147 ti147 := fits_mk (vs := [.nilFunc]) ⟨_, _, _, Tryd.underlying147⟩ Tryd.underlying147 rfl (by decide) rfl (by kernel_rfl) rfl rfl rfl (fun h => by cases h)
theorem tyfit148 : Fits Tryd.prog 148 ti148 := fits_mk (vs := [.int .u64 0, .int .u64 0, .int .u64 0, .int .u64 0, .int .u64 0, .int .u64 0, .int .u64 0, .int .u64 0, .int .u64 0, .int .u64 0, .int .u64 0, .int .u64 0, .int .u64 0, .int .u64 0, .int .u64 0, .int .u64 0, .int .u64 0, .int .u64 0, .int .u64 0, .int .u64 0]) Tryd.underlying148 Tryd.underlying148 rfl (by decide) rfl (by kernel_rfl) rfl rfl rfl (fun h => by cases h)
theorem tyfit150 : Fits Tryd.prog 150 ti150 := fits_mk (vs := [.nilFunc]) ⟨_, _, _, Tryd.underlying150⟩ Tryd.underlying150 rfl (by decide) rfl (by kernel_rfl) rfl rfl rfl (fun h => by cases h)
theorem tyfit151 : Fits Tryd.prog 151 ti151 := fits_mk (vs := [.nilFunc]) ⟨_, _, _, Tryd.underlying151⟩ Tryd.underlying151 rfl (by decide) rfl (by kernel_rfl) rfl rfl rfl (fun h => by cases h)
theorem tyfit152 : Fits Tryd.prog 152 ti152 := fits_mk (vs := [.nilFunc]) ⟨_, _, _, Tryd.underlying152⟩ Tryd.underlying152 rfl (by decide) rfl (by kernel_rfl) rfl rfl rfl (fun h => by cases h)
theorem tyfit154 : Fits Tryd.prog 154 ti154 := fits_mk (vs := [.int .u8 0, .int .u8 0]) ⟨_, Tryd.underlying154, rfl, by kernel_rfl⟩ Tryd.underlying154 rfl (by decide) rfl (by kernel_rfl) rfl rfl rfl (fun _ => ⟨by kernel_rfl, by kernel_rfl, by kernel_rfl⟩)
theorem tyfit155 : Fits Tryd.prog 155 ti155 := fits_mk (vs := [.int .u8 0, .int .u8 0]) ⟨_, Tryd.underlying155, rfl, by kernel_rfl⟩ Tryd.underlying155 rfl (by decide) rfl (by kernel_rfl) rfl rfl rfl (fun _ => ⟨by kernel_rfl, by kernel_rfl, by kernel_rfl⟩)
theorem tyfit156 : Fits Tryd.prog 156 ti156 := fits_mk (vs := [.int .u8 0, .int .u8 0, .int .u8 0, .int .u8 0, .int .u8 0, .int .u8 0, .int .u8 0, .int .u8 0, .int .u8 0, .int .u8 0, .int .u8 0, .int .u8 0, .int .u8 0, .int .u8 0, .int .u8 0, .int .u8 0, .int .u8 0, .int .u8 0, .int .u8 0, .int .u8 0, .int .u8 0, .int .u8 0, .int .u8 0, .int .u8 0, .int .u8 0, .int .u8 0, .int .u8 0, .int .u8 0, .int .u8 0, .int .u8 0, .int .u8 0, .int .u8 0]) Tryd.underlying156 Tryd.underlying156 rfl (by decide) rfl (by kernel_rfl) rfl rfl rfl (fun h => by cases h)
theorem tyfit157 : Fits Tryd.prog 157 ti157 := fits_mk (vs := [.nilFunc]) ⟨_, _, _, Tryd.underlying157⟩ Tryd.underlying157 rfl (by decide) rfl (by kernel_rfl) rfl rfl rfl (fun h => by cases h)
theorem tyfit158 : Fits Tryd.prog 158 ti158 := fits_mk (vs := [.nilFunc]) ⟨_, _, _, Tryd.underlying158⟩ Tryd.underlying158 rfl (by decide) rfl (by kernel_rfl) rfl rfl rfl (fun h => by cases h)
theorem tyfit159 : Fits Tryd.prog 159 ti159 := fits_mk (vs := [.pointer none]) Tryd.underlying159 Tryd.underlying159 rfl (by decide) rfl (by kernel_rfl) rfl rfl rfl (fun h => by cases h)
theorem tyfit160 : Fits Tryd.prog 160 ti160 := fits_mk (vs := [.string ByteArray.empty]) ⟨_, Tryd.underlying160, rfl, by kernel_rfl⟩ Tryd.underlying160 rfl (by decide) rfl (by kernel_rfl) rfl rfl rfl (fun h => by cases h)
theorem tyfit161 : Fits Tryd.prog 161 ti161 := fits_mk (vs := [.string ByteArray.empty]) ⟨_, Tryd.underlying161, rfl, by kernel_rfl⟩ Tryd.underlying161 rfl (by decide) rfl (by kernel_rfl) rfl rfl rfl (fun h => by cases h)
theorem tyfit162 : Fits Tryd.prog 162 ti162 := fits_mk (vs := [.nilFunc]) ⟨_, _, _, Tryd.underlying162⟩ Tryd.underlying162 rfl (by decide) rfl (by kernel_rfl) rfl rfl rfl (fun h => by cases h)
theorem tyfit163 : Fits Tryd.prog 163 ti163 := fits_mk (vs := [.int .u8 0, .int .u8 0, .int .u8 0, .int .u8 0, .int .u8 0, .int .u8 0, .int .u8 0, .int .u8 0, .int .u8 0, .int .u8 0, .int .u8 0, .int .u8 0, .int .u8 0, .int .u8 0, .int .u8 0, .int .u8 0, .int .u8 0, .int .u8 0, .int .u8 0, .int .u8 0, .int .u8 0, .int .u8 0, .int .u8 0, .int .u8 0, .int .u8 0, .int .u8 0, .int .u8 0, .int .u8 0, .int .u8 0, .int .u8 0, .int .u8 0, .int .u8 0]) Tryd.underlying163 Tryd.underlying163 rfl (by decide) rfl (by kernel_rfl) rfl rfl rfl (fun h => by cases h)
theorem tyfit165 : Fits Tryd.prog 165 ti165 := fits_mk (vs := [.pointer none, .pointer none, .pointer none, .string ByteArray.empty]) ⟨_, Tryd.underlying165, rfl, by kernel_rfl⟩ Tryd.underlying165 rfl (by decide) rfl (by kernel_rfl) rfl rfl rfl (fun h => by cases h)
theorem tyfit166 : Fits Tryd.prog 166 ti166 := fits_mk (vs := [.pointer none, .pointer none, .pointer none, .string ByteArray.empty]) ⟨_, Tryd.underlying166, rfl, by kernel_rfl⟩ Tryd.underlying166 rfl (by decide) rfl (by kernel_rfl) rfl rfl rfl (fun h => by cases h)
theorem tyfit170 : Fits Tryd.prog 170 ti170 := fits_mk (vs := [.int .u8 0]) Tryd.underlying170 Tryd.underlying170 rfl (by decide) rfl (by kernel_rfl) rfl rfl rfl (fun h => by cases h)
theorem tyfit171 : Fits Tryd.prog 171 ti171 := fits_mk (vs := [.int .u8 0]) Tryd.underlying171 Tryd.underlying171 rfl (by decide) rfl (by kernel_rfl) rfl rfl rfl (fun h => by cases h)
theorem tyfit172 : Fits Tryd.prog 172 ti172 := fits_mk (vs := [.nilFunc]) ⟨_, _, _, Tryd.underlying172⟩ Tryd.underlying172 rfl (by decide) rfl (by kernel_rfl) rfl rfl rfl (fun h => by cases h)
theorem tyfit173 : Fits Tryd.prog 173 ti173 := fits_mk (vs := [.int .i32 0]) Tryd.underlying173 Tryd.underlying173 rfl (by decide) rfl (by kernel_rfl) rfl rfl rfl (fun h => by cases h)
theorem tyfit174 : Fits Tryd.prog 174 ti174 := fits_mk (vs := [.int .i32 0]) Tryd.underlying174 Tryd.underlying174 rfl (by decide) rfl (by kernel_rfl) rfl rfl rfl (fun h => by cases h)
theorem tyfit175 : Fits Tryd.prog 175 ti175 := fits_mk (vs := [.int .u64 0, .int .u64 0, .int .u32 0, .int .u8 0, .int .u8 0, .int .u8 0, .int .u8 0, .nilFunc, .pointer none, .int .i32 0, .int .i32 0]) ⟨_, Tryd.underlying175, rfl, by kernel_rfl⟩ Tryd.underlying175 rfl (by decide) rfl (by kernel_rfl) rfl rfl rfl (fun h => by cases h)
theorem tyfit176 : Fits Tryd.prog 176 ti176 := fits_mk (vs := [.int .u64 0, .int .u64 0, .int .u32 0, .int .u8 0, .int .u8 0, .int .u8 0, .int .u8 0, .nilFunc, .pointer none, .int .i32 0, .int .i32 0]) ⟨_, Tryd.underlying176, rfl, by kernel_rfl⟩ Tryd.underlying176 rfl (by decide) rfl (by kernel_rfl) rfl rfl rfl (fun h => by cases h)
theorem agrees : Agrees Tryd.prog tt := TTree.agrees (T := tree) ⟨tyfit84, ⟨tyfit38, ⟨tyfit19, ⟨tyfit10, ⟨tyfit5, ⟨tyfit3, ⟨tyfit2, ⟨tyfit1, trivial, trivial⟩, trivial⟩, ⟨tyfit4, trivial, trivial⟩⟩, ⟨tyfit8, ⟨tyfit7, ⟨tyfit6, trivial, trivial⟩, trivial⟩, ⟨tyfit9, trivial, trivial⟩⟩⟩, ⟨tyfit15, ⟨tyfit13, ⟨tyfit12, ⟨tyfit11, trivial, trivial⟩, trivial⟩, ⟨tyfit14, trivial, trivial⟩⟩, ⟨tyfit17, ⟨tyfit16, trivial, trivial⟩, ⟨tyfit18, trivial, trivial⟩⟩⟩⟩, ⟨tyfit29, ⟨tyfit24, ⟨tyfit22, ⟨tyfit21, ⟨tyfit20, trivial, trivial⟩, trivial⟩, ⟨tyfit23, trivial, trivial⟩⟩, ⟨tyfit27, ⟨tyfit26, ⟨tyfit25, trivial, trivial⟩, trivial⟩, ⟨tyfit28, trivial, trivial⟩⟩⟩, ⟨tyfit34, ⟨tyfit32, ⟨tyfit31, ⟨tyfit30, trivial, trivial⟩, trivial⟩, ⟨tyfit33, trivial, trivial⟩⟩, ⟨tyfit36, ⟨tyfit35, trivial, trivial⟩, ⟨tyfit37, trivial, trivial⟩⟩⟩⟩⟩, ⟨tyfit60, ⟨tyfit51, ⟨tyfit43, ⟨tyfit41, ⟨tyfit40, ⟨tyfit39, trivial, trivial⟩, trivial⟩, ⟨tyfit42, trivial, trivial⟩⟩, ⟨tyfit47, ⟨tyfit45, ⟨tyfit44, trivial, trivial⟩, trivial⟩, ⟨tyfit49, trivial, trivial⟩⟩⟩, ⟨tyfit56, ⟨tyfit54, ⟨tyfit53, ⟨tyfit52, trivial, trivial⟩, trivial⟩, ⟨tyfit55, trivial, trivial⟩⟩, ⟨tyfit58, ⟨tyfit57, trivial, trivial⟩, ⟨tyfit59, trivial, trivial⟩⟩⟩⟩, ⟨tyfit74, ⟨tyfit69, ⟨tyfit65, ⟨tyfit63, ⟨tyfit62, trivial, trivial⟩, trivial⟩, ⟨tyfit67, trivial, trivial⟩⟩, ⟨tyfit72, ⟨tyfit71, ⟨tyfit70, trivial, trivial⟩, trivial⟩, ⟨tyfit73, trivial, trivial⟩⟩⟩, ⟨tyfit80, ⟨tyfit78, ⟨tyfit77, ⟨tyfit75, trivial, trivial⟩, trivial⟩, ⟨tyfit79, trivial, trivial⟩⟩, ⟨tyfit82, ⟨tyfit81, trivial, trivial⟩, ⟨tyfit83, trivial, trivial⟩⟩⟩⟩⟩⟩, ⟨tyfit131, ⟨tyfit106, ⟨tyfit94, ⟨tyfit89, ⟨tyfit87, ⟨tyfit86, ⟨tyfit85, trivial, trivial⟩, trivial⟩, ⟨tyfit88, trivial, trivial⟩⟩, ⟨tyfit92, ⟨tyfit91, ⟨tyfit90, trivial, trivial⟩, trivial⟩, ⟨tyfit93, trivial, trivial⟩⟩⟩, ⟨tyfit101, ⟨tyfit99, ⟨tyfit97, ⟨tyfit96, trivial, trivial⟩, trivial⟩, ⟨tyfit100, trivial, trivial⟩⟩, ⟨tyfit103, ⟨tyfit102, trivial, trivial⟩, ⟨tyfit104, trivial, trivial⟩⟩⟩⟩, ⟨tyfit119, ⟨tyfit111, ⟨tyfit109, ⟨tyfit108, ⟨tyfit107, trivial, trivial⟩, trivial⟩, ⟨tyfit110, trivial, trivial⟩⟩, ⟨tyfit117, ⟨tyfit116, ⟨tyfit115, trivial, trivial⟩, trivial⟩, ⟨tyfit118, trivial, trivial⟩⟩⟩, ⟨tyfit126, ⟨tyfit123, ⟨tyfit121, ⟨tyfit120, trivial, trivial⟩, trivial⟩, ⟨tyfit124, trivial, trivial⟩⟩, ⟨tyfit128, ⟨tyfit127, trivial, trivial⟩, ⟨tyfit129, trivial, trivial⟩⟩⟩⟩⟩, ⟨tyfit154, ⟨tyfit143, ⟨tyfit136, ⟨tyfit134, ⟨tyfit133, ⟨tyfit132, trivial, trivial⟩, trivial⟩, ⟨tyfit135, trivial, trivial⟩⟩, ⟨tyfit140, ⟨tyfit139, ⟨tyfit137, trivial, trivial⟩, trivial⟩, ⟨tyfit142, trivial, trivial⟩⟩⟩, ⟨tyfit148, ⟨tyfit146, ⟨tyfit145, ⟨tyfit144, trivial, trivial⟩, trivial⟩, ⟨tyfit147, trivial, trivial⟩⟩, ⟨tyfit151, ⟨tyfit150, trivial, trivial⟩, ⟨tyfit152, trivial, trivial⟩⟩⟩⟩, ⟨tyfit165, ⟨tyfit159, ⟨tyfit157, ⟨tyfit156, ⟨tyfit155, trivial, trivial⟩, trivial⟩, ⟨tyfit158, trivial, trivial⟩⟩, ⟨tyfit162, ⟨tyfit161, ⟨tyfit160, trivial, trivial⟩, trivial⟩, ⟨tyfit163, trivial, trivial⟩⟩⟩, ⟨tyfit173, ⟨tyfit171, ⟨tyfit170, ⟨tyfit166, trivial, trivial⟩, trivial⟩, ⟨tyfit172, trivial, trivial⟩⟩, ⟨tyfit175, ⟨tyfit174, trivial, trivial⟩, ⟨tyfit176, trivial, trivial⟩⟩⟩⟩⟩⟩⟩
end Go.Proofs.YtlecojgodkidkaaDoor
