/- The seat's types as a table, and that the program has them so. Printed by a program (mktt.py). -/
import Derived.Test.YtpeehenohdlfdaaGreatDoorVcJ
import Derived.Test.YtpeehenohdlfdaaGreatDoorRows
namespace Go.Proofs.YtpeehenohdlfdaaGreatDoor
open Go.Vc
def ti1 : TI := ⟨.func, .any, 1, 8, [.v (.nilFunc)], false, false⟩
def ti2 : TI := ⟨.int .i64, (.int .i64), 1, 8, [.v (.int .i64 0)], false, false⟩
def ti3 : TI := ⟨.int .i64, (.int .i64), 1, 8, [.v (.int .i64 0)], false, false⟩
def ti4 : TI := ⟨.bool, .bool, 1, 1, [.v (.bool false)], false, false⟩
def ti5 : TI := ⟨.int .u8, (.int .u8), 1, 1, [.v (.int .u8 0)], false, false⟩
def ti6 : TI := ⟨.int .u8, (.int .u8), 1, 1, [.v (.int .u8 0)], false, false⟩
def ti7 : TI := ⟨.struct [(0, 2), (1, 3), (2, 4), (3, 6)], (.st (.pair (.int .i64) (.pair (.int .i64) (.pair .bool (.int .u8))))), 4, 24, [.v (.int .i64 0), .v (.int .i64 0), .v (.bool false), .v (.int .u8 0)], true, false⟩
def ti8 : TI := ⟨.struct [(0, 2), (1, 3), (2, 4), (3, 6)], (.st (.pair (.int .i64) (.pair (.int .i64) (.pair .bool (.int .u8))))), 4, 24, [.v (.int .i64 0), .v (.int .i64 0), .v (.bool false), .v (.int .u8 0)], false, false⟩
def ti9 : TI := ⟨.str, .str, 1, 16, [.v (.string ByteArray.empty)], false, false⟩
def ti10 : TI := ⟨.str, .str, 1, 16, [.v (.string ByteArray.empty)], false, false⟩
def ti11 : TI := ⟨.str, .str, 1, 16, [.v (.string ByteArray.empty)], false, false⟩
def ti12 : TI := ⟨.int .u64, (.int .u64), 1, 8, [.v (.int .u64 0)], false, false⟩
def ti13 : TI := ⟨.struct [(0, 9), (1, 12)], (.st (.pair .str (.int .u64))), 2, 24, [.v (.string ByteArray.empty), .v (.int .u64 0)], false, false⟩
def ti14 : TI := ⟨.struct [(0, 9), (1, 12)], (.st (.pair .str (.int .u64))), 2, 24, [.v (.string ByteArray.empty), .v (.int .u64 0)], false, false⟩
def ti15 : TI := ⟨.ptr 199, .any, 1, 8, [.v (.pointer none)], false, false⟩
def ti16 : TI := ⟨.ptr 202, .any, 1, 8, [.v (.pointer none)], false, false⟩
def ti17 : TI := ⟨.ptr 210, .any, 1, 8, [.v (.pointer none)], false, false⟩
def ti18 : TI := ⟨.struct [(0, 17)], (.st .any), 1, 8, [.v (.pointer none)], false, false⟩
def ti19 : TI := ⟨.struct [(0, 17)], (.st .any), 1, 8, [.v (.pointer none)], false, false⟩
def ti20 : TI := ⟨.iface, .any, 1, 16, [.v (.nilIface)], false, false⟩
def ti21 : TI := ⟨.int .i32, (.int .i32), 1, 4, [.v (.int .i32 0)], false, false⟩
def ti22 : TI := ⟨.slice 64, .slice, 1, 24, [.v (.slice none 0 0)], false, false⟩
def ti23 : TI := ⟨.func, .any, 1, 8, [.v (.nilFunc)], false, false⟩
def ti24 : TI := ⟨.func, .any, 1, 8, [.v (.nilFunc)], false, false⟩
def ti25 : TI := ⟨.slice 47, .slice, 1, 24, [.v (.slice none 0 0)], false, false⟩
def ti26 : TI := ⟨.map 3 84, .map, 1, 8, [.v (.map none)], false, false⟩
def ti27 : TI := ⟨.map 3 3, .map, 1, 8, [.v (.map none)], false, false⟩
def ti28 : TI := ⟨.struct [(0, 25), (1, 26), (2, 27)], (.st (.pair .slice (.pair .map .map))), 3, 40, [.v (.slice none 0 0), .v (.map none), .v (.map none)], false, false⟩
def ti29 : TI := ⟨.struct [(0, 25), (1, 26), (2, 27)], (.st (.pair .slice (.pair .map .map))), 3, 40, [.v (.slice none 0 0), .v (.map none), .v (.map none)], false, false⟩
def ti31 : TI := ⟨.func, .any, 1, 8, [.v (.nilFunc)], false, false⟩
def ti32 : TI := ⟨.func, .any, 1, 8, [.v (.nilFunc)], false, false⟩
def ti33 : TI := ⟨.slice 3, .slice, 1, 24, [.v (.slice none 0 0)], false, false⟩
def ti34 : TI := ⟨.func, .any, 1, 8, [.v (.nilFunc)], false, false⟩
def ti35 : TI := ⟨.func, .any, 1, 8, [.v (.nilFunc)], false, false⟩
def ti36 : TI := ⟨.func, .any, 1, 8, [.v (.nilFunc)], false, false⟩
def ti37 : TI := ⟨.func, .any, 1, 8, [.v (.nilFunc)], false, false⟩
def ti38 : TI := ⟨.map 3 4, .map, 1, 8, [.v (.map none)], false, false⟩
def ti39 : TI := ⟨.func, .any, 1, 8, [.v (.nilFunc)], false, false⟩
def ti40 : TI := ⟨.slice 2, .slice, 1, 24, [.v (.slice none 0 0)], false, false⟩
def ti41 : TI := ⟨.struct [(0, 9), (1, 40)], (.st (.pair .str .slice)), 2, 40, [.v (.string ByteArray.empty), .v (.slice none 0 0)], false, false⟩
def ti42 : TI := ⟨.struct [(0, 9), (1, 40)], (.st (.pair .str .slice)), 2, 40, [.v (.string ByteArray.empty), .v (.slice none 0 0)], false, false⟩
def ti43 : TI := ⟨.int .i64, (.int .i64), 1, 8, [.v (.int .i64 0)], false, false⟩
def ti44 : TI := ⟨.struct [(0, 43), (1, 2)], (.st (.pair (.int .i64) (.int .i64))), 2, 16, [.v (.int .i64 0), .v (.int .i64 0)], true, false⟩
def ti45 : TI := ⟨.struct [(0, 43), (1, 2)], (.st (.pair (.int .i64) (.int .i64))), 2, 16, [.v (.int .i64 0), .v (.int .i64 0)], true, false⟩
def ti46 : TI := ⟨.struct [(0, 3), (1, 3), (2, 3), (3, 42), (5, 45)], (.st (.pair (.int .i64) (.pair (.int .i64) (.pair (.int .i64) (.pair (.st (.pair .str .slice)) (.st (.pair (.int .i64) (.int .i64)))))))), 7, 80, [.v (.int .i64 0), .v (.int .i64 0), .v (.int .i64 0), .v (.string ByteArray.empty), .v (.slice none 0 0), .v (.int .i64 0), .v (.int .i64 0)], false, false⟩
def ti47 : TI := ⟨.struct [(0, 3), (1, 3), (2, 3), (3, 42), (5, 45)], (.st (.pair (.int .i64) (.pair (.int .i64) (.pair (.int .i64) (.pair (.st (.pair .str .slice)) (.st (.pair (.int .i64) (.int .i64)))))))), 7, 80, [.v (.int .i64 0), .v (.int .i64 0), .v (.int .i64 0), .v (.string ByteArray.empty), .v (.slice none 0 0), .v (.int .i64 0), .v (.int .i64 0)], false, false⟩
def ti49 : TI := ⟨.array 3 2, (.st (.pair (.int .i64) (.pair (.int .i64) (.int .i64)))), 3, 24, [.v (.int .i64 0), .v (.int .i64 0), .v (.int .i64 0)], false, false⟩
def ti51 : TI := ⟨.func, .any, 1, 8, [.v (.nilFunc)], false, false⟩
def ti52 : TI := ⟨.func, .any, 1, 8, [.v (.nilFunc)], false, false⟩
def ti53 : TI := ⟨.func, .any, 1, 8, [.v (.nilFunc)], false, false⟩
def ti54 : TI := ⟨.func, .any, 1, 8, [.v (.nilFunc)], false, false⟩
def ti55 : TI := ⟨.func, .any, 1, 8, [.v (.nilFunc)], false, false⟩
def ti56 : TI := ⟨.func, .any, 1, 8, [.v (.nilFunc)], false, false⟩
def ti58 : TI := ⟨.func, .any, 1, 8, [.v (.nilFunc)], false, false⟩
def ti60 : TI := ⟨.func, .any, 1, 8, [.v (.nilFunc)], false, false⟩
def ti61 : TI := ⟨.func, .any, 1, 8, [.v (.nilFunc)], false, false⟩
def ti62 : TI := ⟨.func, .any, 1, 8, [.v (.nilFunc)], false, false⟩
def ti63 : TI := ⟨.struct [(0, 5), (1, 3), (2, 3), (3, 42), (5, 45)], (.st (.pair (.int .u8) (.pair (.int .i64) (.pair (.int .i64) (.pair (.st (.pair .str .slice)) (.st (.pair (.int .i64) (.int .i64)))))))), 7, 80, [.v (.int .u8 0), .v (.int .i64 0), .v (.int .i64 0), .v (.string ByteArray.empty), .v (.slice none 0 0), .v (.int .i64 0), .v (.int .i64 0)], false, false⟩
def ti64 : TI := ⟨.struct [(0, 5), (1, 3), (2, 3), (3, 42), (5, 45)], (.st (.pair (.int .u8) (.pair (.int .i64) (.pair (.int .i64) (.pair (.st (.pair .str .slice)) (.st (.pair (.int .i64) (.int .i64)))))))), 7, 80, [.v (.int .u8 0), .v (.int .i64 0), .v (.int .i64 0), .v (.string ByteArray.empty), .v (.slice none 0 0), .v (.int .i64 0), .v (.int .i64 0)], false, false⟩
def ti65 : TI := ⟨.func, .any, 1, 8, [.v (.nilFunc)], false, false⟩
def ti66 : TI := ⟨.func, .any, 1, 8, [.v (.nilFunc)], false, false⟩
def ti67 : TI := ⟨.func, .any, 1, 8, [.v (.nilFunc)], false, false⟩
def ti68 : TI := ⟨.func, .any, 1, 8, [.v (.nilFunc)], false, false⟩
def ti69 : TI := ⟨.func, .any, 1, 8, [.v (.nilFunc)], false, false⟩
def ti70 : TI := ⟨.func, .any, 1, 8, [.v (.nilFunc)], false, false⟩
def ti71 : TI := ⟨.func, .any, 1, 8, [.v (.nilFunc)], false, false⟩
def ti72 : TI := ⟨.func, .any, 1, 8, [.v (.nilFunc)], false, false⟩
def ti73 : TI := ⟨.ptr 76, .any, 1, 8, [.v (.pointer none)], false, false⟩
def ti74 : TI := ⟨.slice 5, .slice, 1, 24, [.v (.slice none 0 0)], false, false⟩
def ti75 : TI := ⟨.struct [(0, 73), (1, 74)], (.st (.pair .any .slice)), 2, 32, [.v (.pointer none), .v (.slice none 0 0)], false, false⟩
def ti76 : TI := ⟨.struct [(0, 73), (1, 74)], (.st (.pair .any .slice)), 2, 32, [.v (.pointer none), .v (.slice none 0 0)], false, true⟩
def ti77 : TI := ⟨.iface, .any, 1, 16, [.v (.nilIface)], false, false⟩
def ti78 : TI := ⟨.iface, .any, 1, 16, [.v (.nilIface)], false, false⟩
def ti80 : TI := ⟨.func, .any, 1, 8, [.v (.nilFunc)], false, false⟩
def ti81 : TI := ⟨.func, .any, 1, 8, [.v (.nilFunc)], false, false⟩
def ti82 : TI := ⟨.func, .any, 1, 8, [.v (.nilFunc)], false, false⟩
def ti83 : TI := ⟨.struct [(0, 3), (1, 4)], (.st (.pair (.int .i64) .bool)), 2, 16, [.v (.int .i64 0), .v (.bool false)], true, false⟩
def ti84 : TI := ⟨.struct [(0, 3), (1, 4)], (.st (.pair (.int .i64) .bool)), 2, 16, [.v (.int .i64 0), .v (.bool false)], true, false⟩
def ti86 : TI := ⟨.func, .any, 1, 8, [.v (.nilFunc)], false, false⟩
def ti87 : TI := ⟨.func, .any, 1, 8, [.v (.nilFunc)], false, false⟩
def ti88 : TI := ⟨.func, .any, 1, 8, [.v (.nilFunc)], false, false⟩
def ti89 : TI := ⟨.func, .any, 1, 8, [.v (.nilFunc)], false, false⟩
def ti91 : TI := ⟨.func, .any, 1, 8, [.v (.nilFunc)], false, false⟩
def ti92 : TI := ⟨.func, .any, 1, 8, [.v (.nilFunc)], false, false⟩
def ti94 : TI := ⟨.func, .any, 1, 8, [.v (.nilFunc)], false, false⟩
def ti95 : TI := ⟨.func, .any, 1, 8, [.v (.nilFunc)], false, false⟩
def ti96 : TI := ⟨.func, .any, 1, 8, [.v (.nilFunc)], false, false⟩
def ti97 : TI := ⟨.func, .any, 1, 8, [.v (.nilFunc)], false, false⟩
def ti98 : TI := ⟨.func, .any, 1, 8, [.v (.nilFunc)], false, false⟩
def ti99 : TI := ⟨.func, .any, 1, 8, [.v (.nilFunc)], false, false⟩
def ti100 : TI := ⟨.func, .any, 1, 8, [.v (.nilFunc)], false, false⟩
def ti101 : TI := ⟨.func, .any, 1, 8, [.v (.nilFunc)], false, false⟩
def ti102 : TI := ⟨.int .u64, (.int .u64), 1, 8, [.v (.int .u64 0)], false, false⟩
def ti103 : TI := ⟨.func, .any, 1, 8, [.v (.nilFunc)], false, false⟩
def ti104 : TI := ⟨.slice 9, .slice, 1, 24, [.v (.slice none 0 0)], false, false⟩
def ti105 : TI := ⟨.func, .any, 1, 8, [.v (.nilFunc)], false, false⟩
def ti106 : TI := ⟨.func, .any, 1, 8, [.v (.nilFunc)], false, false⟩
def ti107 : TI := ⟨.ptr 5, .any, 1, 8, [.v (.pointer none)], false, false⟩
def ti108 : TI := ⟨.func, .any, 1, 8, [.v (.nilFunc)], false, false⟩
def ti109 : TI := ⟨.func, .any, 1, 8, [.v (.nilFunc)], false, false⟩
def ti110 : TI := ⟨.func, .any, 1, 8, [.v (.nilFunc)], false, false⟩
def ti111 : TI := ⟨.func, .any, 1, 8, [.v (.nilFunc)], false, false⟩
def ti112 : TI := ⟨.func, .any, 1, 8, [.v (.nilFunc)], false, false⟩
def ti113 : TI := ⟨.func, .any, 1, 8, [.v (.nilFunc)], false, false⟩
def ti115 : TI := ⟨.func, .any, 1, 8, [.v (.nilFunc)], false, false⟩
def ti116 : TI := ⟨.func, .any, 1, 8, [.v (.nilFunc)], false, false⟩
def ti117 : TI := ⟨.func, .any, 1, 8, [.v (.nilFunc)], false, false⟩
def ti119 : TI := ⟨.func, .any, 1, 8, [.v (.nilFunc)], false, false⟩
def ti120 : TI := ⟨.func, .any, 1, 8, [.v (.nilFunc)], false, false⟩
def ti121 : TI := ⟨.func, .any, 1, 8, [.v (.nilFunc)], false, false⟩
def ti122 : TI := ⟨.func, .any, 1, 8, [.v (.nilFunc)], false, false⟩
def ti123 : TI := ⟨.int .i64, (.int .i64), 1, 8, [.v (.int .i64 0)], false, false⟩
def ti125 : TI := ⟨.func, .any, 1, 8, [.v (.nilFunc)], false, false⟩
def ti126 : TI := ⟨.func, .any, 1, 8, [.v (.nilFunc)], false, false⟩
def ti127 : TI := ⟨.func, .any, 1, 8, [.v (.nilFunc)], false, false⟩
def ti128 : TI := ⟨.func, .any, 1, 8, [.v (.nilFunc)], false, false⟩
def ti129 : TI := ⟨.func, .any, 1, 8, [.v (.nilFunc)], false, false⟩
def ti130 : TI := ⟨.int .u32, (.int .u32), 1, 4, [.v (.int .u32 0)], false, false⟩
def ti131 : TI := ⟨.func, .any, 1, 8, [.v (.nilFunc)], false, false⟩
def ti132 : TI := ⟨.int .u64, (.int .u64), 1, 8, [.v (.int .u64 0)], false, false⟩
def ti134 : TI := ⟨.func, .any, 1, 8, [.v (.nilFunc)], false, false⟩
def ti135 : TI := ⟨.func, .any, 1, 8, [.v (.nilFunc)], false, false⟩
def ti136 : TI := ⟨.func, .any, 1, 8, [.v (.nilFunc)], false, false⟩
def ti137 : TI := ⟨.func, .any, 1, 8, [.v (.nilFunc)], false, false⟩
def ti141 : TI := ⟨.func, .any, 1, 8, [.v (.nilFunc)], false, false⟩
def ti142 : TI := ⟨.func, .any, 1, 8, [.v (.nilFunc)], false, false⟩
def ti143 : TI := ⟨.ptr 139, .any, 1, 8, [.v (.pointer none)], false, false⟩
def ti144 : TI := ⟨.func, .any, 1, 8, [.v (.nilFunc)], false, false⟩
def ti145 : TI := ⟨.func, .any, 1, 8, [.v (.nilFunc)], false, false⟩
def ti147 : TI := ⟨.func, .any, 1, 8, [.v (.nilFunc)], false, false⟩
def ti148 : TI := ⟨.int .u64, (.int .u64), 1, 8, [.v (.int .u64 0)], false, false⟩
def ti149 : TI := ⟨.func, .any, 1, 8, [.v (.nilFunc)], false, false⟩
def ti150 : TI := ⟨.func, .any, 1, 8, [.v (.nilFunc)], false, false⟩
def ti151 : TI := ⟨.func, .any, 1, 8, [.v (.nilFunc)], false, false⟩
def ti152 : TI := ⟨.ptr 3, .any, 1, 8, [.v (.pointer none)], false, false⟩
def ti153 : TI := ⟨.func, .any, 1, 8, [.v (.nilFunc)], false, false⟩
def ti154 : TI := ⟨.array 24 5, (.st (.pair (.int .u8) (.pair (.int .u8) (.pair (.int .u8) (.pair (.int .u8) (.pair (.int .u8) (.pair (.int .u8) (.pair (.int .u8) (.pair (.int .u8) (.pair (.int .u8) (.pair (.int .u8) (.pair (.int .u8) (.pair (.int .u8) (.pair (.int .u8) (.pair (.int .u8) (.pair (.int .u8) (.pair (.int .u8) (.pair (.int .u8) (.pair (.int .u8) (.pair (.int .u8) (.pair (.int .u8) (.pair (.int .u8) (.pair (.int .u8) (.pair (.int .u8) (.int .u8))))))))))))))))))))))))), 24, 24, [.v (.int .u8 0), .v (.int .u8 0), .v (.int .u8 0), .v (.int .u8 0), .v (.int .u8 0), .v (.int .u8 0), .v (.int .u8 0), .v (.int .u8 0), .v (.int .u8 0), .v (.int .u8 0), .v (.int .u8 0), .v (.int .u8 0), .v (.int .u8 0), .v (.int .u8 0), .v (.int .u8 0), .v (.int .u8 0), .v (.int .u8 0), .v (.int .u8 0), .v (.int .u8 0), .v (.int .u8 0), .v (.int .u8 0), .v (.int .u8 0), .v (.int .u8 0), .v (.int .u8 0)], false, false⟩
def ti155 : TI := ⟨.func, .any, 1, 8, [.v (.nilFunc)], false, false⟩
def ti157 : TI := ⟨.func, .any, 1, 8, [.v (.nilFunc)], false, false⟩
def ti158 : TI := ⟨.func, .any, 1, 8, [.v (.nilFunc)], false, false⟩
def ti160 : TI := ⟨.func, .any, 1, 8, [.v (.nilFunc)], false, false⟩
def ti161 : TI := ⟨.func, .any, 1, 8, [.v (.nilFunc)], false, false⟩
def ti162 : TI := ⟨.func, .any, 1, 8, [.v (.nilFunc)], false, false⟩
def ti163 : TI := ⟨.func, .any, 1, 8, [.v (.nilFunc)], false, false⟩
def ti164 : TI := ⟨.func, .any, 1, 8, [.v (.nilFunc)], false, false⟩
def ti165 : TI := ⟨.func, .any, 1, 8, [.v (.nilFunc)], false, false⟩
def ti166 : TI := ⟨.ptr 148, .any, 1, 8, [.v (.pointer none)], false, false⟩
def ti168 : TI := ⟨.func, .any, 1, 8, [.v (.nilFunc)], false, false⟩
def ti169 : TI := ⟨.func, .any, 1, 8, [.v (.nilFunc)], false, false⟩
def ti170 : TI := ⟨.array 20 132, (.st (.pair (.int .u64) (.pair (.int .u64) (.pair (.int .u64) (.pair (.int .u64) (.pair (.int .u64) (.pair (.int .u64) (.pair (.int .u64) (.pair (.int .u64) (.pair (.int .u64) (.pair (.int .u64) (.pair (.int .u64) (.pair (.int .u64) (.pair (.int .u64) (.pair (.int .u64) (.pair (.int .u64) (.pair (.int .u64) (.pair (.int .u64) (.pair (.int .u64) (.pair (.int .u64) (.int .u64))))))))))))))))))))), 20, 160, [.v (.int .u64 0), .v (.int .u64 0), .v (.int .u64 0), .v (.int .u64 0), .v (.int .u64 0), .v (.int .u64 0), .v (.int .u64 0), .v (.int .u64 0), .v (.int .u64 0), .v (.int .u64 0), .v (.int .u64 0), .v (.int .u64 0), .v (.int .u64 0), .v (.int .u64 0), .v (.int .u64 0), .v (.int .u64 0), .v (.int .u64 0), .v (.int .u64 0), .v (.int .u64 0), .v (.int .u64 0)], false, false⟩
def ti172 : TI := ⟨.func, .any, 1, 8, [.v (.nilFunc)], false, false⟩
def ti174 : TI := ⟨.func, .any, 1, 8, [.v (.nilFunc)], false, false⟩
def ti175 : TI := ⟨.func, .any, 1, 8, [.v (.nilFunc)], false, false⟩
def ti176 : TI := ⟨.int .i64, (.int .i64), 1, 8, [.v (.int .i64 0)], false, false⟩
def ti178 : TI := ⟨.func, .any, 1, 8, [.v (.nilFunc)], false, false⟩
def ti179 : TI := ⟨.ptr 191, .any, 1, 8, [.v (.pointer none)], false, false⟩
def ti180 : TI := ⟨.func, .any, 1, 8, [.v (.nilFunc)], false, false⟩
def ti181 : TI := ⟨.func, .any, 1, 8, [.v (.nilFunc)], false, false⟩
def ti182 : TI := ⟨.func, .any, 1, 8, [.v (.nilFunc)], false, false⟩
def ti184 : TI := ⟨.struct [(0, 5), (1, 5)], (.st (.pair (.int .u8) (.int .u8))), 2, 2, [.v (.int .u8 0), .v (.int .u8 0)], true, false⟩
def ti185 : TI := ⟨.struct [(0, 5), (1, 5)], (.st (.pair (.int .u8) (.int .u8))), 2, 2, [.v (.int .u8 0), .v (.int .u8 0)], true, false⟩
def ti186 : TI := ⟨.array 16 185, (.st (.pair (.st (.pair (.int .u8) (.int .u8))) (.pair (.st (.pair (.int .u8) (.int .u8))) (.pair (.st (.pair (.int .u8) (.int .u8))) (.pair (.st (.pair (.int .u8) (.int .u8))) (.pair (.st (.pair (.int .u8) (.int .u8))) (.pair (.st (.pair (.int .u8) (.int .u8))) (.pair (.st (.pair (.int .u8) (.int .u8))) (.pair (.st (.pair (.int .u8) (.int .u8))) (.pair (.st (.pair (.int .u8) (.int .u8))) (.pair (.st (.pair (.int .u8) (.int .u8))) (.pair (.st (.pair (.int .u8) (.int .u8))) (.pair (.st (.pair (.int .u8) (.int .u8))) (.pair (.st (.pair (.int .u8) (.int .u8))) (.pair (.st (.pair (.int .u8) (.int .u8))) (.pair (.st (.pair (.int .u8) (.int .u8))) (.st (.pair (.int .u8) (.int .u8))))))))))))))))))), 32, 32, [.v (.int .u8 0), .v (.int .u8 0), .v (.int .u8 0), .v (.int .u8 0), .v (.int .u8 0), .v (.int .u8 0), .v (.int .u8 0), .v (.int .u8 0), .v (.int .u8 0), .v (.int .u8 0), .v (.int .u8 0), .v (.int .u8 0), .v (.int .u8 0), .v (.int .u8 0), .v (.int .u8 0), .v (.int .u8 0), .v (.int .u8 0), .v (.int .u8 0), .v (.int .u8 0), .v (.int .u8 0), .v (.int .u8 0), .v (.int .u8 0), .v (.int .u8 0), .v (.int .u8 0), .v (.int .u8 0), .v (.int .u8 0), .v (.int .u8 0), .v (.int .u8 0), .v (.int .u8 0), .v (.int .u8 0), .v (.int .u8 0), .v (.int .u8 0)], false, false⟩
def ti187 : TI := ⟨.func, .any, 1, 8, [.v (.nilFunc)], false, false⟩
def ti188 : TI := ⟨.func, .any, 1, 8, [.v (.nilFunc)], false, false⟩
def ti189 : TI := ⟨.func, .any, 1, 8, [.v (.nilFunc)], false, false⟩
def ti190 : TI := ⟨.struct [(0, 9), (1, 9), (2, 78)], (.st (.pair .str (.pair .str .any))), 3, 48, [.v (.string ByteArray.empty), .v (.string ByteArray.empty), .v (.nilIface)], false, false⟩
def ti191 : TI := ⟨.struct [(0, 9), (1, 9), (2, 78)], (.st (.pair .str (.pair .str .any))), 3, 48, [.v (.string ByteArray.empty), .v (.string ByteArray.empty), .v (.nilIface)], false, false⟩
def ti192 : TI := ⟨.func, .any, 1, 8, [.v (.nilFunc)], false, false⟩
def ti193 : TI := ⟨.array 32 5, (.st (.pair (.int .u8) (.pair (.int .u8) (.pair (.int .u8) (.pair (.int .u8) (.pair (.int .u8) (.pair (.int .u8) (.pair (.int .u8) (.pair (.int .u8) (.pair (.int .u8) (.pair (.int .u8) (.pair (.int .u8) (.pair (.int .u8) (.pair (.int .u8) (.pair (.int .u8) (.pair (.int .u8) (.pair (.int .u8) (.pair (.int .u8) (.pair (.int .u8) (.pair (.int .u8) (.pair (.int .u8) (.pair (.int .u8) (.pair (.int .u8) (.pair (.int .u8) (.pair (.int .u8) (.pair (.int .u8) (.pair (.int .u8) (.pair (.int .u8) (.pair (.int .u8) (.pair (.int .u8) (.pair (.int .u8) (.pair (.int .u8) (.int .u8))))))))))))))))))))))))))))))))), 32, 32, [.v (.int .u8 0), .v (.int .u8 0), .v (.int .u8 0), .v (.int .u8 0), .v (.int .u8 0), .v (.int .u8 0), .v (.int .u8 0), .v (.int .u8 0), .v (.int .u8 0), .v (.int .u8 0), .v (.int .u8 0), .v (.int .u8 0), .v (.int .u8 0), .v (.int .u8 0), .v (.int .u8 0), .v (.int .u8 0), .v (.int .u8 0), .v (.int .u8 0), .v (.int .u8 0), .v (.int .u8 0), .v (.int .u8 0), .v (.int .u8 0), .v (.int .u8 0), .v (.int .u8 0), .v (.int .u8 0), .v (.int .u8 0), .v (.int .u8 0), .v (.int .u8 0), .v (.int .u8 0), .v (.int .u8 0), .v (.int .u8 0), .v (.int .u8 0)], false, false⟩
def ti194 : TI := ⟨.array 64 5, (.st (.pair (.int .u8) (.pair (.int .u8) (.pair (.int .u8) (.pair (.int .u8) (.pair (.int .u8) (.pair (.int .u8) (.pair (.int .u8) (.pair (.int .u8) (.pair (.int .u8) (.pair (.int .u8) (.pair (.int .u8) (.pair (.int .u8) (.pair (.int .u8) (.pair (.int .u8) (.pair (.int .u8) (.pair (.int .u8) (.pair (.int .u8) (.pair (.int .u8) (.pair (.int .u8) (.pair (.int .u8) (.pair (.int .u8) (.pair (.int .u8) (.pair (.int .u8) (.pair (.int .u8) (.pair (.int .u8) (.pair (.int .u8) (.pair (.int .u8) (.pair (.int .u8) (.pair (.int .u8) (.pair (.int .u8) (.pair (.int .u8) (.pair (.int .u8) (.pair (.int .u8) (.pair (.int .u8) (.pair (.int .u8) (.pair (.int .u8) (.pair (.int .u8) (.pair (.int .u8) (.pair (.int .u8) (.pair (.int .u8) (.pair (.int .u8) (.pair (.int .u8) (.pair (.int .u8) (.pair (.int .u8) (.pair (.int .u8) (.pair (.int .u8) (.pair (.int .u8) (.pair (.int .u8) (.pair (.int .u8) (.pair (.int .u8) (.pair (.int .u8) (.pair (.int .u8) (.pair (.int .u8) (.pair (.int .u8) (.pair (.int .u8) (.pair (.int .u8) (.pair (.int .u8) (.pair (.int .u8) (.pair (.int .u8) (.pair (.int .u8) (.pair (.int .u8) (.pair (.int .u8) (.pair (.int .u8) (.int .u8))))))))))))))))))))))))))))))))))))))))))))))))))))))))))))))))), 64, 64, [.v (.int .u8 0), .v (.int .u8 0), .v (.int .u8 0), .v (.int .u8 0), .v (.int .u8 0), .v (.int .u8 0), .v (.int .u8 0), .v (.int .u8 0), .v (.int .u8 0), .v (.int .u8 0), .v (.int .u8 0), .v (.int .u8 0), .v (.int .u8 0), .v (.int .u8 0), .v (.int .u8 0), .v (.int .u8 0), .v (.int .u8 0), .v (.int .u8 0), .v (.int .u8 0), .v (.int .u8 0), .v (.int .u8 0), .v (.int .u8 0), .v (.int .u8 0), .v (.int .u8 0), .v (.int .u8 0), .v (.int .u8 0), .v (.int .u8 0), .v (.int .u8 0), .v (.int .u8 0), .v (.int .u8 0), .v (.int .u8 0), .v (.int .u8 0), .v (.int .u8 0), .v (.int .u8 0), .v (.int .u8 0), .v (.int .u8 0), .v (.int .u8 0), .v (.int .u8 0), .v (.int .u8 0), .v (.int .u8 0), .v (.int .u8 0), .v (.int .u8 0), .v (.int .u8 0), .v (.int .u8 0), .v (.int .u8 0), .v (.int .u8 0), .v (.int .u8 0), .v (.int .u8 0), .v (.int .u8 0), .v (.int .u8 0), .v (.int .u8 0), .v (.int .u8 0), .v (.int .u8 0), .v (.int .u8 0), .v (.int .u8 0), .v (.int .u8 0), .v (.int .u8 0), .v (.int .u8 0), .v (.int .u8 0), .v (.int .u8 0), .v (.int .u8 0), .v (.int .u8 0), .v (.int .u8 0), .v (.int .u8 0)], false, false⟩
def ti195 : TI := ⟨.ptr 197, .any, 1, 8, [.v (.pointer none)], false, false⟩
def ti196 : TI := ⟨.struct [(0, 9)], (.st .str), 1, 16, [.v (.string ByteArray.empty)], true, false⟩
def ti197 : TI := ⟨.struct [(0, 9)], (.st .str), 1, 16, [.v (.string ByteArray.empty)], true, false⟩
def ti198 : TI := ⟨.struct [(0, 17), (1, 17), (2, 17), (3, 9)], (.st (.pair .any (.pair .any (.pair .any .str)))), 4, 40, [.v (.pointer none), .v (.pointer none), .v (.pointer none), .v (.string ByteArray.empty)], false, false⟩
def ti199 : TI := ⟨.struct [(0, 17), (1, 17), (2, 17), (3, 9)], (.st (.pair .any (.pair .any (.pair .any .str)))), 4, 40, [.v (.pointer none), .v (.pointer none), .v (.pointer none), .v (.string ByteArray.empty)], false, false⟩
def ti203 : TI := ⟨.func, .any, 1, 8, [.v (.nilFunc)], false, false⟩
def ti204 : TI := ⟨.int .u8, (.int .u8), 1, 1, [.v (.int .u8 0)], false, false⟩
def ti205 : TI := ⟨.int .u8, (.int .u8), 1, 1, [.v (.int .u8 0)], false, false⟩
def ti206 : TI := ⟨.func, .any, 1, 8, [.v (.nilFunc)], false, false⟩
def ti207 : TI := ⟨.int .i32, (.int .i32), 1, 4, [.v (.int .i32 0)], false, false⟩
def ti208 : TI := ⟨.int .i32, (.int .i32), 1, 4, [.v (.int .i32 0)], false, false⟩
def ti209 : TI := ⟨.struct [(0, 12), (1, 12), (2, 130), (3, 204), (4, 5), (5, 5), (6, 205), (7, 206), (8, 107), (9, 207), (10, 208)], (.st (.pair (.int .u64) (.pair (.int .u64) (.pair (.int .u32) (.pair (.int .u8) (.pair (.int .u8) (.pair (.int .u8) (.pair (.int .u8) (.pair .any (.pair .any (.pair (.int .i32) (.int .i32)))))))))))), 11, 48, [.v (.int .u64 0), .v (.int .u64 0), .v (.int .u32 0), .v (.int .u8 0), .v (.int .u8 0), .v (.int .u8 0), .v (.int .u8 0), .v (.nilFunc), .v (.pointer none), .v (.int .i32 0), .v (.int .i32 0)], false, false⟩
def ti210 : TI := ⟨.struct [(0, 12), (1, 12), (2, 130), (3, 204), (4, 5), (5, 5), (6, 205), (7, 206), (8, 107), (9, 207), (10, 208)], (.st (.pair (.int .u64) (.pair (.int .u64) (.pair (.int .u32) (.pair (.int .u8) (.pair (.int .u8) (.pair (.int .u8) (.pair (.int .u8) (.pair .any (.pair .any (.pair (.int .i32) (.int .i32)))))))))))), 11, 48, [.v (.int .u64 0), .v (.int .u64 0), .v (.int .u32 0), .v (.int .u8 0), .v (.int .u8 0), .v (.int .u8 0), .v (.int .u8 0), .v (.nilFunc), .v (.pointer none), .v (.int .i32 0), .v (.int .i32 0)], false, false⟩
def tree : TTree := (.node 101 ti101 (.node 47 ti47 (.node 23 ti23 (.node 12 ti12 (.node 6 ti6 (.node 3 ti3 (.node 2 ti2 (.node 1 ti1 .leaf .leaf) .leaf) (.node 5 ti5 (.node 4 ti4 .leaf .leaf) .leaf)) (.node 9 ti9 (.node 8 ti8 (.node 7 ti7 .leaf .leaf) .leaf) (.node 11 ti11 (.node 10 ti10 .leaf .leaf) .leaf))) (.node 18 ti18 (.node 15 ti15 (.node 14 ti14 (.node 13 ti13 .leaf .leaf) .leaf) (.node 17 ti17 (.node 16 ti16 .leaf .leaf) .leaf)) (.node 21 ti21 (.node 20 ti20 (.node 19 ti19 .leaf .leaf) .leaf) (.node 22 ti22 .leaf .leaf)))) (.node 36 ti36 (.node 29 ti29 (.node 26 ti26 (.node 25 ti25 (.node 24 ti24 .leaf .leaf) .leaf) (.node 28 ti28 (.node 27 ti27 .leaf .leaf) .leaf)) (.node 33 ti33 (.node 32 ti32 (.node 31 ti31 .leaf .leaf) .leaf) (.node 35 ti35 (.node 34 ti34 .leaf .leaf) .leaf))) (.node 42 ti42 (.node 39 ti39 (.node 38 ti38 (.node 37 ti37 .leaf .leaf) .leaf) (.node 41 ti41 (.node 40 ti40 .leaf .leaf) .leaf)) (.node 45 ti45 (.node 44 ti44 (.node 43 ti43 .leaf .leaf) .leaf) (.node 46 ti46 .leaf .leaf))))) (.node 74 ti74 (.node 63 ti63 (.node 55 ti55 (.node 52 ti52 (.node 51 ti51 (.node 49 ti49 .leaf .leaf) .leaf) (.node 54 ti54 (.node 53 ti53 .leaf .leaf) .leaf)) (.node 60 ti60 (.node 58 ti58 (.node 56 ti56 .leaf .leaf) .leaf) (.node 62 ti62 (.node 61 ti61 .leaf .leaf) .leaf))) (.node 69 ti69 (.node 66 ti66 (.node 65 ti65 (.node 64 ti64 .leaf .leaf) .leaf) (.node 68 ti68 (.node 67 ti67 .leaf .leaf) .leaf)) (.node 72 ti72 (.node 71 ti71 (.node 70 ti70 .leaf .leaf) .leaf) (.node 73 ti73 .leaf .leaf)))) (.node 88 ti88 (.node 81 ti81 (.node 77 ti77 (.node 76 ti76 (.node 75 ti75 .leaf .leaf) .leaf) (.node 80 ti80 (.node 78 ti78 .leaf .leaf) .leaf)) (.node 84 ti84 (.node 83 ti83 (.node 82 ti82 .leaf .leaf) .leaf) (.node 87 ti87 (.node 86 ti86 .leaf .leaf) .leaf))) (.node 96 ti96 (.node 92 ti92 (.node 91 ti91 (.node 89 ti89 .leaf .leaf) .leaf) (.node 95 ti95 (.node 94 ti94 .leaf .leaf) .leaf)) (.node 99 ti99 (.node 98 ti98 (.node 97 ti97 .leaf .leaf) .leaf) (.node 100 ti100 .leaf .leaf)))))) (.node 155 ti155 (.node 127 ti127 (.node 113 ti113 (.node 107 ti107 (.node 104 ti104 (.node 103 ti103 (.node 102 ti102 .leaf .leaf) .leaf) (.node 106 ti106 (.node 105 ti105 .leaf .leaf) .leaf)) (.node 110 ti110 (.node 109 ti109 (.node 108 ti108 .leaf .leaf) .leaf) (.node 112 ti112 (.node 111 ti111 .leaf .leaf) .leaf))) (.node 121 ti121 (.node 117 ti117 (.node 116 ti116 (.node 115 ti115 .leaf .leaf) .leaf) (.node 120 ti120 (.node 119 ti119 .leaf .leaf) .leaf)) (.node 125 ti125 (.node 123 ti123 (.node 122 ti122 .leaf .leaf) .leaf) (.node 126 ti126 .leaf .leaf)))) (.node 143 ti143 (.node 134 ti134 (.node 130 ti130 (.node 129 ti129 (.node 128 ti128 .leaf .leaf) .leaf) (.node 132 ti132 (.node 131 ti131 .leaf .leaf) .leaf)) (.node 137 ti137 (.node 136 ti136 (.node 135 ti135 .leaf .leaf) .leaf) (.node 142 ti142 (.node 141 ti141 .leaf .leaf) .leaf))) (.node 150 ti150 (.node 147 ti147 (.node 145 ti145 (.node 144 ti144 .leaf .leaf) .leaf) (.node 149 ti149 (.node 148 ti148 .leaf .leaf) .leaf)) (.node 153 ti153 (.node 152 ti152 (.node 151 ti151 .leaf .leaf) .leaf) (.node 154 ti154 .leaf .leaf))))) (.node 185 ti185 (.node 170 ti170 (.node 163 ti163 (.node 160 ti160 (.node 158 ti158 (.node 157 ti157 .leaf .leaf) .leaf) (.node 162 ti162 (.node 161 ti161 .leaf .leaf) .leaf)) (.node 166 ti166 (.node 165 ti165 (.node 164 ti164 .leaf .leaf) .leaf) (.node 169 ti169 (.node 168 ti168 .leaf .leaf) .leaf))) (.node 179 ti179 (.node 175 ti175 (.node 174 ti174 (.node 172 ti172 .leaf .leaf) .leaf) (.node 178 ti178 (.node 176 ti176 .leaf .leaf) .leaf)) (.node 182 ti182 (.node 181 ti181 (.node 180 ti180 .leaf .leaf) .leaf) (.node 184 ti184 .leaf .leaf)))) (.node 197 ti197 (.node 191 ti191 (.node 188 ti188 (.node 187 ti187 (.node 186 ti186 .leaf .leaf) .leaf) (.node 190 ti190 (.node 189 ti189 .leaf .leaf) .leaf)) (.node 194 ti194 (.node 193 ti193 (.node 192 ti192 .leaf .leaf) .leaf) (.node 196 ti196 (.node 195 ti195 .leaf .leaf) .leaf))) (.node 206 ti206 (.node 203 ti203 (.node 199 ti199 (.node 198 ti198 .leaf .leaf) .leaf) (.node 205 ti205 (.node 204 ti204 .leaf .leaf) .leaf)) (.node 209 ti209 (.node 208 ti208 (.node 207 ti207 .leaf .leaf) .leaf) (.node 210 ti210 .leaf .leaf)))))))
def tt : Nat → Option TI := tree.look
theorem tyfit1 : Fits Tryz.prog 1 ti1 := fits_mk (vs := [.nilFunc]) ⟨_, _, _, Tryz.underlying1⟩ Tryz.underlying1 rfl (by decide) rfl (by kernel_rfl) rfl rfl rfl (fun h => by cases h)
theorem tyfit2 : Fits Tryz.prog 2 ti2 := fits_mk (vs := [.int .i64 0]) Tryz.underlying2 Tryz.underlying2 rfl (by decide) rfl (by kernel_rfl) rfl rfl rfl (fun h => by cases h)
theorem tyfit3 : Fits Tryz.prog 3 ti3 := fits_mk (vs := [.int .i64 0]) Tryz.underlying3 Tryz.underlying3 rfl (by decide) rfl (by kernel_rfl) rfl rfl rfl (fun h => by cases h)
theorem tyfit4 : Fits Tryz.prog 4 ti4 := fits_mk (vs := [.bool false]) Tryz.underlying4 Tryz.underlying4 rfl (by decide) rfl (by kernel_rfl) rfl rfl rfl (fun h => by cases h)
theorem tyfit5 : Fits Tryz.prog 5 ti5 := fits_mk (vs := [.int .u8 0]) Tryz.underlying5 Tryz.underlying5 rfl (by decide) rfl (by kernel_rfl) rfl rfl rfl (fun h => by cases h)
theorem tyfit6 : Fits Tryz.prog 6 ti6 := fits_mk (vs := [.int .u8 0]) Tryz.underlying6 Tryz.underlying6 rfl (by decide) rfl (by kernel_rfl) rfl rfl rfl (fun h => by cases h)
theorem tyfit7 : Fits Tryz.prog 7 ti7 := fits_mk (vs := [.int .i64 0, .int .i64 0, .bool false, .int .u8 0]) ⟨_, Tryz.underlying7, rfl, by kernel_rfl⟩ Tryz.underlying7 rfl (by decide) rfl (by kernel_rfl) rfl rfl rfl (fun _ => ⟨by kernel_rfl, by kernel_rfl, by kernel_rfl⟩)
theorem tyfit8 : Fits Tryz.prog 8 ti8 := fits_mk (vs := [.int .i64 0, .int .i64 0, .bool false, .int .u8 0]) ⟨_, Tryz.underlying8, rfl, by kernel_rfl⟩ Tryz.underlying8 rfl (by decide) rfl (by kernel_rfl) rfl rfl rfl (fun h => by cases h)
theorem tyfit9 : Fits Tryz.prog 9 ti9 := fits_mk (vs := [.string ByteArray.empty]) Tryz.underlying9 Tryz.underlying9 rfl (by decide) rfl (by kernel_rfl) rfl rfl rfl (fun h => by cases h)
theorem tyfit10 : Fits Tryz.prog 10 ti10 := fits_mk (vs := [.string ByteArray.empty]) Tryz.underlying10 Tryz.underlying10 rfl (by decide) rfl (by kernel_rfl) rfl rfl rfl (fun h => by cases h)
theorem tyfit11 : Fits Tryz.prog 11 ti11 := fits_mk (vs := [.string ByteArray.empty]) Tryz.underlying11 Tryz.underlying11 rfl (by decide) rfl (by kernel_rfl) rfl rfl rfl (fun h => by cases h)
theorem tyfit12 : Fits Tryz.prog 12 ti12 := fits_mk (vs := [.int .u64 0]) Tryz.underlying12 Tryz.underlying12 rfl (by decide) rfl (by kernel_rfl) rfl rfl rfl (fun h => by cases h)
theorem tyfit13 : Fits Tryz.prog 13 ti13 := fits_mk (vs := [.string ByteArray.empty, .int .u64 0]) ⟨_, Tryz.underlying13, rfl, by kernel_rfl⟩ Tryz.underlying13 rfl (by decide) rfl (by kernel_rfl) rfl rfl rfl (fun h => by cases h)
theorem tyfit14 : Fits Tryz.prog 14 ti14 := fits_mk (vs := [.string ByteArray.empty, .int .u64 0]) ⟨_, Tryz.underlying14, rfl, by kernel_rfl⟩ Tryz.underlying14 rfl (by decide) rfl (by kernel_rfl) rfl rfl rfl (fun h => by cases h)
theorem tyfit15 : Fits Tryz.prog 15 ti15 := fits_mk (vs := [.pointer none]) Tryz.underlying15 Tryz.underlying15 rfl (by decide) rfl (by kernel_rfl) rfl rfl rfl (fun h => by cases h)
theorem tyfit16 : Fits Tryz.prog 16 ti16 := fits_mk (vs := [.pointer none]) Tryz.underlying16 Tryz.underlying16 rfl (by decide) rfl (by kernel_rfl) rfl rfl rfl (fun h => by cases h)
theorem tyfit17 : Fits Tryz.prog 17 ti17 := fits_mk (vs := [.pointer none]) Tryz.underlying17 Tryz.underlying17 rfl (by decide) rfl (by kernel_rfl) rfl rfl rfl (fun h => by cases h)
theorem tyfit18 : Fits Tryz.prog 18 ti18 := fits_mk (vs := [.pointer none]) ⟨_, Tryz.underlying18, rfl, by kernel_rfl⟩ Tryz.underlying18 rfl (by decide) rfl (by kernel_rfl) rfl rfl rfl (fun h => by cases h)
theorem tyfit19 : Fits Tryz.prog 19 ti19 := fits_mk (vs := [.pointer none]) ⟨_, Tryz.underlying19, rfl, by kernel_rfl⟩ Tryz.underlying19 rfl (by decide) rfl (by kernel_rfl) rfl rfl rfl (fun h => by cases h)
theorem tyfit20 : Fits Tryz.prog 20 ti20 := fits_mk (vs := [.nilIface]) ⟨_, Tryz.underlying20⟩ Tryz.underlying20 rfl (by decide) rfl (by kernel_rfl) rfl rfl rfl (fun h => by cases h)
theorem tyfit21 : Fits Tryz.prog 21 ti21 := fits_mk (vs := [.int .i32 0]) Tryz.underlying21 Tryz.underlying21 rfl (by decide) rfl (by kernel_rfl) rfl rfl rfl (fun h => by cases h)
theorem tyfit22 : Fits Tryz.prog 22 ti22 := fits_mk (vs := [.slice none 0 0]) Tryz.underlying22 Tryz.underlying22 rfl (by decide) rfl (by kernel_rfl) rfl rfl rfl (fun h => by cases h)
theorem tyfit23 : Fits Tryz.prog 23 ti23 := fits_mk (vs := [.nilFunc]) ⟨_, _, _, Tryz.underlying23⟩ Tryz.underlying23 rfl (by decide) rfl (by kernel_rfl) rfl rfl rfl (fun h => by cases h)
theorem tyfit24 : Fits Tryz.prog 24 ti24 := fits_mk (vs := [.nilFunc]) ⟨_, _, _, Tryz.underlying24⟩ Tryz.underlying24 rfl (by decide) rfl (by kernel_rfl) rfl rfl rfl (fun h => by cases h)
theorem tyfit25 : Fits Tryz.prog 25 ti25 := fits_mk (vs := [.slice none 0 0]) Tryz.underlying25 Tryz.underlying25 rfl (by decide) rfl (by kernel_rfl) rfl rfl rfl (fun h => by cases h)
theorem tyfit26 : Fits Tryz.prog 26 ti26 := fits_mk (vs := [.map none]) Tryz.underlying26 Tryz.underlying26 rfl (by decide) rfl (by kernel_rfl) rfl rfl rfl (fun h => by cases h)
theorem tyfit27 : Fits Tryz.prog 27 ti27 := fits_mk (vs := [.map none]) Tryz.underlying27 Tryz.underlying27 rfl (by decide) rfl (by kernel_rfl) rfl rfl rfl (fun h => by cases h)
theorem tyfit28 : Fits Tryz.prog 28 ti28 := fits_mk (vs := [.slice none 0 0, .map none, .map none]) ⟨_, Tryz.underlying28, rfl, by kernel_rfl⟩ Tryz.underlying28 rfl (by decide) rfl (by kernel_rfl) rfl rfl rfl (fun h => by cases h)
theorem tyfit29 : Fits Tryz.prog 29 ti29 := fits_mk (vs := [.slice none 0 0, .map none, .map none]) ⟨_, Tryz.underlying29, rfl, by kernel_rfl⟩ Tryz.underlying29 rfl (by decide) rfl (by kernel_rfl) rfl rfl rfl (fun h => by cases h)
theorem tyfit31 : Fits Tryz.prog 31 ti31 := fits_mk (vs := [.nilFunc]) ⟨_, _, _, Tryz.underlying31⟩ Tryz.underlying31 rfl (by decide) rfl (by kernel_rfl) rfl rfl rfl (fun h => by cases h)
theorem tyfit32 : Fits Tryz.prog 32 ti32 := fits_mk (vs := [.nilFunc]) ⟨_, _, _, Tryz.underlying32⟩ Tryz.underlying32 rfl (by decide) rfl (by kernel_rfl) rfl rfl rfl (fun h => by cases h)
theorem tyfit33 : Fits Tryz.prog 33 ti33 := fits_mk (vs := [.slice none 0 0]) Tryz.underlying33 Tryz.underlying33 rfl (by decide) rfl (by kernel_rfl) rfl rfl rfl (fun h => by cases h)
theorem tyfit34 : Fits Tryz.prog 34 ti34 := fits_mk (vs := [.nilFunc]) ⟨_, _, _, Tryz.underlying34⟩ Tryz.underlying34 rfl (by decide) rfl (by kernel_rfl) rfl rfl rfl (fun h => by cases h)
theorem tyfit35 : Fits Tryz.prog 35 ti35 := fits_mk (vs := [.nilFunc]) ⟨_, _, _, Tryz.underlying35⟩ Tryz.underlying35 rfl (by decide) rfl (by kernel_rfl) rfl rfl rfl (fun h => by cases h)
theorem tyfit36 : Fits Tryz.prog 36 ti36 := fits_mk (vs := [.nilFunc]) ⟨_, _, _, Tryz.underlying36⟩ Tryz.underlying36 rfl (by decide) rfl (by kernel_rfl) rfl rfl rfl (fun h => by cases h)
theorem tyfit37 : Fits Tryz.prog 37 ti37 := fits_mk (vs := [.nilFunc]) ⟨_, _, _, Tryz.underlying37⟩ Tryz.underlying37 rfl (by decide) rfl (by kernel_rfl) rfl rfl rfl (fun h => by cases h)
theorem tyfit38 : Fits Tryz.prog 38 ti38 := fits_mk (vs := [.map none]) Tryz.underlying38 Tryz.underlying38 rfl (by decide) rfl (by kernel_rfl) rfl rfl rfl (fun h => by cases h)
theorem tyfit39 : Fits Tryz.prog 39 ti39 := fits_mk (vs := [.nilFunc]) ⟨_, _, _, Tryz.underlying39⟩ Tryz.underlying39 rfl (by decide) rfl (by kernel_rfl) rfl rfl rfl (fun h => by cases h)
theorem tyfit40 : Fits Tryz.prog 40 ti40 := fits_mk (vs := [.slice none 0 0]) Tryz.underlying40 Tryz.underlying40 rfl (by decide) rfl (by kernel_rfl) rfl rfl rfl (fun h => by cases h)
theorem tyfit41 : Fits Tryz.prog 41 ti41 := fits_mk (vs := [.string ByteArray.empty, .slice none 0 0]) ⟨_, Tryz.underlying41, rfl, by kernel_rfl⟩ Tryz.underlying41 rfl (by decide) rfl (by kernel_rfl) rfl rfl rfl (fun h => by cases h)
theorem tyfit42 : Fits Tryz.prog 42 ti42 := fits_mk (vs := [.string ByteArray.empty, .slice none 0 0]) ⟨_, Tryz.underlying42, rfl, by kernel_rfl⟩ Tryz.underlying42 rfl (by decide) rfl (by kernel_rfl) rfl rfl rfl (fun h => by cases h)
theorem tyfit43 : Fits Tryz.prog 43 ti43 := fits_mk (vs := [.int .i64 0]) Tryz.underlying43 Tryz.underlying43 rfl (by decide) rfl (by kernel_rfl) rfl rfl rfl (fun h => by cases h)
theorem tyfit44 : Fits Tryz.prog 44 ti44 := fits_mk (vs := [.int .i64 0, .int .i64 0]) ⟨_, Tryz.underlying44, rfl, by kernel_rfl⟩ Tryz.underlying44 rfl (by decide) rfl (by kernel_rfl) rfl rfl rfl (fun _ => ⟨by kernel_rfl, by kernel_rfl, by kernel_rfl⟩)
theorem tyfit45 : Fits Tryz.prog 45 ti45 := fits_mk (vs := [.int .i64 0, .int .i64 0]) ⟨_, Tryz.underlying45, rfl, by kernel_rfl⟩ Tryz.underlying45 rfl (by decide) rfl (by kernel_rfl) rfl rfl rfl (fun _ => ⟨by kernel_rfl, by kernel_rfl, by kernel_rfl⟩)
theorem tyfit46 : Fits Tryz.prog 46 ti46 := fits_mk (vs := [.int .i64 0, .int .i64 0, .int .i64 0, .string ByteArray.empty, .slice none 0 0, .int .i64 0, .int .i64 0]) ⟨_, Tryz.underlying46, rfl, by kernel_rfl⟩ Tryz.underlying46 rfl (by decide) rfl (by kernel_rfl) rfl rfl rfl (fun h => by cases h)
theorem tyfit47 : Fits Tryz.prog 47 ti47 := fits_mk (vs := [.int .i64 0, .int .i64 0, .int .i64 0, .string ByteArray.empty, .slice none 0 0, .int .i64 0, .int .i64 0]) ⟨_, Tryz.underlying47, rfl, by kernel_rfl⟩ Tryz.underlying47 rfl (by decide) rfl (by kernel_rfl) rfl rfl rfl (fun h => by cases h)
theorem tyfit49 : Fits Tryz.prog 49 ti49 := fits_mk (vs := [.int .i64 0, .int .i64 0, .int .i64 0]) Tryz.underlying49 Tryz.underlying49 rfl (by decide) rfl (by kernel_rfl) rfl rfl rfl (fun h => by cases h)
theorem tyfit51 : Fits Tryz.prog 51 ti51 := fits_mk (vs := [.nilFunc]) ⟨_, _, _, Tryz.underlying51⟩ Tryz.underlying51 rfl (by decide) rfl (by kernel_rfl) rfl rfl rfl (fun h => by cases h)
theorem tyfit52 : Fits Tryz.prog 52 ti52 := fits_mk (vs := [.nilFunc]) ⟨_, _, _, Tryz.underlying52⟩ Tryz.underlying52 rfl (by decide) rfl (by kernel_rfl) rfl rfl rfl (fun h => by cases h)
theorem tyfit53 : Fits Tryz.prog 53 ti53 := fits_mk (vs := [.nilFunc]) ⟨_, _, _, Tryz.underlying53⟩ Tryz.underlying53 rfl (by decide) rfl (by kernel_rfl) rfl rfl rfl (fun h => by cases h)
theorem tyfit54 : Fits Tryz.prog 54 ti54 := fits_mk (vs := [.nilFunc]) ⟨_, _, _, Tryz.underlying54⟩ Tryz.underlying54 rfl (by decide) rfl (by kernel_rfl) rfl rfl rfl (fun h => by cases h)
theorem tyfit55 : Fits Tryz.prog 55 ti55 := fits_mk (vs := [.nilFunc]) ⟨_, _, _, Tryz.underlying55⟩ Tryz.underlying55 rfl (by decide) rfl (by kernel_rfl) rfl rfl rfl (fun h => by cases h)
theorem tyfit56 : Fits Tryz.prog 56 ti56 := fits_mk (vs := [.nilFunc]) ⟨_, _, _, Tryz.underlying56⟩ Tryz.underlying56 rfl (by decide) rfl (by kernel_rfl) rfl rfl rfl (fun h => by cases h)
theorem tyfit58 : Fits Tryz.prog 58 ti58 := fits_mk (vs := [.nilFunc]) ⟨_, _, _, Tryz.underlying58⟩ Tryz.underlying58 rfl (by decide) rfl (by kernel_rfl) rfl rfl rfl (fun h => by cases h)
theorem tyfit60 : Fits Tryz.prog 60 ti60 := fits_mk (vs := [.nilFunc]) ⟨_, _, _, Tryz.underlying60⟩ Tryz.underlying60 rfl (by decide) rfl (by kernel_rfl) rfl rfl rfl (fun h => by cases h)
theorem tyfit61 : Fits Tryz.prog 61 ti61 := fits_mk (vs := [.nilFunc]) ⟨_, _, _, Tryz.underlying61⟩ Tryz.underlying61 rfl (by decide) rfl (by kernel_rfl) rfl rfl rfl (fun h => by cases h)
theorem tyfit62 : Fits Tryz.prog 62 ti62 := fits_mk (vs := [.nilFunc]) ⟨_, _, _, Tryz.underlying62⟩ Tryz.underlying62 rfl (by decide) rfl (by kernel_rfl) rfl rfl rfl (fun h => by cases h)
theorem tyfit63 : Fits Tryz.prog 63 ti63 := fits_mk (vs := [.int .u8 0, .int .i64 0, .int .i64 0, .string ByteArray.empty, .slice none 0 0, .int .i64 0, .int .i64 0]) ⟨_, Tryz.underlying63, rfl, by kernel_rfl⟩ Tryz.underlying63 rfl (by decide) rfl (by kernel_rfl) rfl rfl rfl (fun h => by cases h)
theorem tyfit64 : Fits Tryz.prog 64 ti64 := fits_mk (vs := [.int .u8 0, .int .i64 0, .int .i64 0, .string ByteArray.empty, .slice none 0 0, .int .i64 0, .int .i64 0]) ⟨_, Tryz.underlying64, rfl, by kernel_rfl⟩ Tryz.underlying64 rfl (by decide) rfl (by kernel_rfl) rfl rfl rfl (fun h => by cases h)
theorem tyfit65 : Fits Tryz.prog 65 ti65 := fits_mk (vs := [.nilFunc]) ⟨_, _, _, Tryz.underlying65⟩ Tryz.underlying65 rfl (by decide) rfl (by kernel_rfl) rfl rfl rfl (fun h => by cases h)
theorem tyfit66 : Fits Tryz.prog 66 ti66 := fits_mk (vs := [.nilFunc]) ⟨_, _, _, Tryz.underlying66⟩ Tryz.underlying66 rfl (by decide) rfl (by kernel_rfl) rfl rfl rfl (fun h => by cases h)
theorem tyfit67 : Fits Tryz.prog 67 ti67 := fits_mk (vs := [.nilFunc]) ⟨_, _, _, Tryz.underlying67⟩ Tryz.underlying67 rfl (by decide) rfl (by kernel_rfl) rfl rfl rfl (fun h => by cases h)
theorem tyfit68 : Fits Tryz.prog 68 ti68 := fits_mk (vs := [.nilFunc]) ⟨_, _, _, Tryz.underlying68⟩ Tryz.underlying68 rfl (by decide) rfl (by kernel_rfl) rfl rfl rfl (fun h => by cases h)
theorem tyfit69 : Fits Tryz.prog 69 ti69 := fits_mk (vs := [.nilFunc]) ⟨_, _, _, Tryz.underlying69⟩ Tryz.underlying69 rfl (by decide) rfl (by kernel_rfl) rfl rfl rfl (fun h => by cases h)
theorem tyfit70 : Fits Tryz.prog 70 ti70 := fits_mk (vs := [.nilFunc]) ⟨_, _, _, Tryz.underlying70⟩ Tryz.underlying70 rfl (by decide) rfl (by kernel_rfl) rfl rfl rfl (fun h => by cases h)
theorem tyfit71 : Fits Tryz.prog 71 ti71 := fits_mk (vs := [.nilFunc]) ⟨_, _, _, Tryz.underlying71⟩ Tryz.underlying71 rfl (by decide) rfl (by kernel_rfl) rfl rfl rfl (fun h => by cases h)
theorem tyfit72 : Fits Tryz.prog 72 ti72 := fits_mk (vs := [.nilFunc]) ⟨_, _, _, Tryz.underlying72⟩ Tryz.underlying72 rfl (by decide) rfl (by kernel_rfl) rfl rfl rfl (fun h => by cases h)
theorem tyfit73 : Fits Tryz.prog 73 ti73 := fits_mk (vs := [.pointer none]) Tryz.underlying73 Tryz.underlying73 rfl (by decide) rfl (by kernel_rfl) rfl rfl rfl (fun h => by cases h)
theorem tyfit74 : Fits Tryz.prog 74 ti74 := fits_mk (vs := [.slice none 0 0]) Tryz.underlying74 Tryz.underlying74 rfl (by decide) rfl (by kernel_rfl) rfl rfl rfl (fun h => by cases h)
theorem tyfit75 : Fits Tryz.prog 75 ti75 := fits_mk (vs := [.pointer none, .slice none 0 0]) ⟨_, Tryz.underlying75, rfl, by kernel_rfl⟩ Tryz.underlying75 rfl (by decide) rfl (by kernel_rfl) rfl rfl rfl (fun h => by cases h)
theorem tyfit76 : Fits Tryz.prog 76 ti76 := fits_mk (vs := [.pointer none, .slice none 0 0]) ⟨_, Tryz.underlying76, rfl, by kernel_rfl⟩ Tryz.underlying76 rfl (by decide) rfl (by kernel_rfl) rfl rfl rfl (fun h => by cases h)
theorem tyfit77 : Fits Tryz.prog 77 ti77 := fits_mk (vs := [.nilIface]) ⟨_, Tryz.underlying77⟩ Tryz.underlying77 rfl (by decide) rfl (by kernel_rfl) rfl rfl rfl (fun h => by cases h)
theorem tyfit78 : Fits Tryz.prog 78 ti78 := fits_mk (vs := [.nilIface]) ⟨_, Tryz.underlying78⟩ Tryz.underlying78 rfl (by decide) rfl (by kernel_rfl) rfl rfl rfl (fun h => by cases h)
theorem tyfit80 : Fits Tryz.prog 80 ti80 := fits_mk (vs := [.nilFunc]) ⟨_, _, _, Tryz.underlying80⟩ Tryz.underlying80 rfl (by decide) rfl (by kernel_rfl) rfl rfl rfl (fun h => by cases h)
theorem tyfit81 : Fits Tryz.prog 81 ti81 := fits_mk (vs := [.nilFunc]) ⟨_, _, _, Tryz.underlying81⟩ Tryz.underlying81 rfl (by decide) rfl (by kernel_rfl) rfl rfl rfl (fun h => by cases h)
theorem tyfit82 : Fits Tryz.prog 82 ti82 := fits_mk (vs := [.nilFunc]) ⟨_, _, _, Tryz.underlying82⟩ Tryz.underlying82 rfl (by decide) rfl (by kernel_rfl) rfl rfl rfl (fun h => by cases h)
theorem tyfit83 : Fits Tryz.prog 83 ti83 := fits_mk (vs := [.int .i64 0, .bool false]) ⟨_, Tryz.underlying83, rfl, by kernel_rfl⟩ Tryz.underlying83 rfl (by decide) rfl (by kernel_rfl) rfl rfl rfl (fun _ => ⟨by kernel_rfl, by kernel_rfl, by kernel_rfl⟩)
theorem tyfit84 : Fits Tryz.prog 84 ti84 := fits_mk (vs := [.int .i64 0, .bool false]) ⟨_, Tryz.underlying84, rfl, by kernel_rfl⟩ Tryz.underlying84 rfl (by decide) rfl (by kernel_rfl) rfl rfl rfl (fun _ => ⟨by kernel_rfl, by kernel_rfl, by kernel_rfl⟩)
theorem tyfit86 : Fits Tryz.prog 86 ti86 := fits_mk (vs := [.nilFunc]) ⟨_, _, _, Tryz.underlying86⟩ Tryz.underlying86 rfl (by decide) rfl (by kernel_rfl) rfl rfl rfl (fun h => by cases h)
theorem tyfit87 : Fits Tryz.prog 87 ti87 := fits_mk (vs := [.nilFunc]) ⟨_, _, _, Tryz.underlying87⟩ Tryz.underlying87 rfl (by decide) rfl (by kernel_rfl) rfl rfl rfl (fun h => by cases h)
theorem tyfit88 : Fits Tryz.prog 88 ti88 := fits_mk (vs := [.nilFunc]) ⟨_, _, _, Tryz.underlying88⟩ Tryz.underlying88 rfl (by decide) rfl (by kernel_rfl) rfl rfl rfl (fun h => by cases h)
theorem tyfit89 : Fits Tryz.prog 89 ti89 := fits_mk (vs := [.nilFunc]) ⟨_, _, _, Tryz.underlying89⟩ Tryz.underlying89 rfl (by decide) rfl (by kernel_rfl) rfl rfl rfl (fun h => by cases h)
theorem tyfit91 : Fits Tryz.prog 91 ti91 := fits_mk (vs := [.nilFunc]) ⟨_, _, _, Tryz.underlying91⟩ Tryz.underlying91 rfl (by decide) rfl (by kernel_rfl) rfl rfl rfl (fun h => by cases h)
theorem tyfit92 : Fits Tryz.prog 92 ti92 := fits_mk (vs := [.nilFunc]) ⟨_, _, _, Tryz.underlying92⟩ Tryz.underlying92 rfl (by decide) rfl (by kernel_rfl) rfl rfl rfl (fun h => by cases h)
theorem tyfit94 : Fits Tryz.prog 94 ti94 := fits_mk (vs := [.nilFunc]) ⟨_, _, _, Tryz.underlying94⟩ Tryz.underlying94 rfl (by decide) rfl (by kernel_rfl) rfl rfl rfl (fun h => by cases h)
theorem tyfit95 : Fits Tryz.prog 95 ti95 := fits_mk (vs := [.nilFunc]) ⟨_, _, _, Tryz.underlying95⟩ Tryz.underlying95 rfl (by decide) rfl (by kernel_rfl) rfl rfl rfl (fun h => by cases h)
theorem tyfit96 : Fits Tryz.prog 96 ti96 := fits_mk (vs := [.nilFunc]) ⟨_, _, _, Tryz.underlying96⟩ Tryz.underlying96 rfl (by decide) rfl (by kernel_rfl) rfl rfl rfl (fun h => by cases h)
theorem tyfit97 : Fits Tryz.prog 97 ti97 := fits_mk (vs := [.nilFunc]) ⟨_, _, _, Tryz.underlying97⟩ Tryz.underlying97 rfl (by decide) rfl (by kernel_rfl) rfl rfl rfl (fun h => by cases h)
theorem tyfit98 : Fits Tryz.prog 98 ti98 := fits_mk (vs := [.nilFunc]) ⟨_, _, _, Tryz.underlying98⟩ Tryz.underlying98 rfl (by decide) rfl (by kernel_rfl) rfl rfl rfl (fun h => by cases h)
theorem tyfit99 : Fits Tryz.prog 99 ti99 := fits_mk (vs := [.nilFunc]) ⟨_, _, _, Tryz.underlying99⟩ Tryz.underlying99 rfl (by decide) rfl (by kernel_rfl) rfl rfl rfl (fun h => by cases h)
theorem tyfit100 : Fits Tryz.prog 100 ti100 := fits_mk (vs := [.nilFunc]) ⟨_, _, _, Tryz.underlying100⟩ Tryz.underlying100 rfl (by decide) rfl (by kernel_rfl) rfl rfl rfl (fun h => by cases h)
theorem tyfit101 : Fits Tryz.prog 101 ti101 := fits_mk (vs := [.nilFunc]) ⟨_, _, _, Tryz.underlying101⟩ Tryz.underlying101 rfl (by decide) rfl (by kernel_rfl) rfl rfl rfl (fun h => by cases h)
theorem tyfit102 : Fits Tryz.prog 102 ti102 := fits_mk (vs := [.int .u64 0]) Tryz.underlying102 Tryz.underlying102 rfl (by decide) rfl (by kernel_rfl) rfl rfl rfl (fun h => by cases h)
theorem tyfit103 : Fits Tryz.prog 103 ti103 := fits_mk (vs := [.nilFunc]) ⟨_, _, _, Tryz.underlying103⟩ Tryz.underlying103 rfl (by decide) rfl (by kernel_rfl) rfl rfl rfl (fun h => by cases h)
theorem tyfit104 : Fits Tryz.prog 104 ti104 := fits_mk (vs := [.slice none 0 0]) Tryz.underlying104 Tryz.underlying104 rfl (by decide) rfl (by kernel_rfl) rfl rfl rfl (fun h => by cases h)
theorem tyfit105 : Fits Tryz.prog 105 ti105 := fits_mk (vs := [.nilFunc]) ⟨_, _, _, Tryz.underlying105⟩ Tryz.underlying105 rfl (by decide) rfl (by kernel_rfl) rfl rfl rfl (fun h => by cases h)
theorem tyfit106 : Fits Tryz.prog 106 ti106 := fits_mk (vs := [.nilFunc]) ⟨_, _, _, Tryz.underlying106⟩ Tryz.underlying106 rfl (by decide) rfl (by kernel_rfl) rfl rfl rfl (fun h => by cases h)
theorem tyfit107 : Fits Tryz.prog 107 ti107 := fits_mk (vs := [.pointer none]) Tryz.underlying107 Tryz.underlying107 rfl (by decide) rfl (by kernel_rfl) rfl rfl rfl (fun h => by cases h)
theorem tyfit108 : Fits Tryz.prog 108 ti108 := fits_mk (vs := [.nilFunc]) ⟨_, _, _, Tryz.underlying108⟩ Tryz.underlying108 rfl (by decide) rfl (by kernel_rfl) rfl rfl rfl (fun h => by cases h)
theorem tyfit109 : Fits Tryz.prog 109 ti109 := fits_mk (vs := [.nilFunc]) ⟨_, _, _, Tryz.underlying109⟩ Tryz.underlying109 rfl (by decide) rfl (by kernel_rfl) rfl rfl rfl (fun h => by cases h)
theorem tyfit110 : Fits Tryz.prog 110 ti110 := fits_mk (vs := [.nilFunc]) ⟨_, _, _, Tryz.underlying110⟩ Tryz.underlying110 rfl (by decide) rfl (by kernel_rfl) rfl rfl rfl (fun h => by cases h)
theorem tyfit111 : Fits Tryz.prog 111 ti111 := fits_mk (vs := [.nilFunc]) ⟨_, _, _, Tryz.underlying111⟩ Tryz.underlying111 rfl (by decide) rfl (by kernel_rfl) rfl rfl rfl (fun h => by cases h)
theorem tyfit112 : Fits Tryz.prog 112 ti112 := fits_mk (vs := [.nilFunc]) ⟨_, _, _, Tryz.underlying112⟩ Tryz.underlying112 rfl (by decide) rfl (by kernel_rfl) rfl rfl rfl (fun h => by cases h)
theorem tyfit113 : Fits Tryz.prog 113 ti113 := fits_mk (vs := [.nilFunc]) ⟨_, _, _, Tryz.underlying113⟩ Tryz.underlying113 rfl (by decide) rfl (by kernel_rfl) rfl rfl rfl (fun h => by cases h)
theorem tyfit115 : Fits Tryz.prog 115 ti115 := fits_mk (vs := [.nilFunc]) ⟨_, _, _, Tryz.underlying115⟩ Tryz.underlying115 rfl (by decide) rfl (by kernel_rfl) rfl rfl rfl (fun h => by cases h)
theorem tyfit116 : Fits Tryz.prog 116 ti116 := fits_mk (vs := [.nilFunc]) ⟨_, _, _, Tryz.underlying116⟩ Tryz.underlying116 rfl (by decide) rfl (by kernel_rfl) rfl rfl rfl (fun h => by cases h)
theorem tyfit117 : Fits Tryz.prog 117 ti117 := fits_mk (vs := [.nilFunc]) ⟨_, _, _, Tryz.underlying117⟩ Tryz.underlying117 rfl (by decide) rfl (by kernel_rfl) rfl rfl rfl (fun h => by cases h)
theorem tyfit119 : Fits Tryz.prog 119 ti119 := fits_mk (vs := [.nilFunc]) ⟨_, _, _, Tryz.underlying119⟩ Tryz.underlying119 rfl (by decide) rfl (by kernel_rfl) rfl rfl rfl (fun h => by cases h)
theorem tyfit120 : Fits Tryz.prog 120 ti120 := fits_mk (vs := [.nilFunc]) ⟨_, _, _, Tryz.underlying120⟩ Tryz.underlying120 rfl (by decide) rfl (by kernel_rfl) rfl rfl rfl (fun h => by cases h)
theorem tyfit121 : Fits Tryz.prog 121 ti121 := fits_mk (vs := [.nilFunc]) ⟨_, _, _, Tryz.underlying121⟩ Tryz.underlying121 rfl (by decide) rfl (by kernel_rfl) rfl rfl rfl (fun h => by cases h)
theorem tyfit122 : Fits Tryz.prog 122 ti122 := fits_mk (vs := [.nilFunc]) ⟨_, _, _, Tryz.underlying122⟩ Tryz.underlying122 rfl (by decide) rfl (by kernel_rfl) rfl rfl rfl (fun h => by cases h)
theorem tyfit123 : Fits Tryz.prog 123 ti123 := fits_mk (vs := [.int .i64 0]) Tryz.underlying123 Tryz.underlying123 rfl (by decide) rfl (by kernel_rfl) rfl rfl rfl (fun h => by cases h)
theorem tyfit125 : Fits Tryz.prog 125 ti125 := fits_mk (vs := [.nilFunc]) ⟨_, _, _, Tryz.underlying125⟩ Tryz.underlying125 rfl (by decide) rfl (by kernel_rfl) rfl rfl rfl (fun h => by cases h)
theorem tyfit126 : Fits Tryz.prog 126 ti126 := fits_mk (vs := [.nilFunc]) ⟨_, _, _, Tryz.underlying126⟩ Tryz.underlying126 rfl (by decide) rfl (by kernel_rfl) rfl rfl rfl (fun h => by cases h)
theorem tyfit127 : Fits Tryz.prog 127 ti127 := fits_mk (vs := [.nilFunc]) ⟨_, _, _, Tryz.underlying127⟩ Tryz.underlying127 rfl (by decide) rfl (by kernel_rfl) rfl rfl rfl (fun h => by cases h)
theorem tyfit128 : Fits Tryz.prog 128 ti128 := fits_mk (vs := [.nilFunc]) ⟨_, _, _, Tryz.underlying128⟩ Tryz.underlying128 rfl (by decide) rfl (by kernel_rfl) rfl rfl rfl (fun h => by cases h)
theorem tyfit129 : Fits Tryz.prog 129 ti129 := fits_mk (vs := [.nilFunc]) ⟨_, _, _, Tryz.underlying129⟩ Tryz.underlying129 rfl (by decide) rfl (by kernel_rfl) rfl rfl rfl (fun h => by cases h)
theorem tyfit130 : Fits Tryz.prog 130 ti130 := fits_mk (vs := [.int .u32 0]) Tryz.underlying130 Tryz.underlying130 rfl (by decide) rfl (by kernel_rfl) rfl rfl rfl (fun h => by cases h)
theorem tyfit131 : Fits Tryz.prog 131 ti131 := fits_mk (vs := [.nilFunc]) ⟨_, _, _, Tryz.underlying131⟩ Tryz.underlying131 rfl (by decide) rfl (by kernel_rfl) rfl rfl rfl (fun h => by cases h)
theorem tyfit132 : Fits Tryz.prog 132 ti132 := fits_mk (vs := [.int .u64 0]) Tryz.underlying132 Tryz.underlying132 rfl (by decide) rfl (by kernel_rfl) rfl rfl rfl (fun h => by cases h)
theorem tyfit134 : Fits Tryz.prog 134 ti134 := fits_mk (vs := [.nilFunc]) ⟨_, _, _, Tryz.underlying134⟩ Tryz.underlying134 rfl (by decide) rfl (by kernel_rfl) rfl rfl rfl (fun h => by cases h)
theorem tyfit135 : Fits Tryz.prog 135 ti135 := fits_mk (vs := [.nilFunc]) ⟨_, _, _, Tryz.underlying135⟩ Tryz.underlying135 rfl (by decide) rfl (by kernel_rfl) rfl rfl rfl (fun h => by cases h)
theorem tyfit136 : Fits Tryz.prog 136 ti136 := fits_mk (vs := [.nilFunc]) ⟨_, _, _, Tryz.underlying136⟩ Tryz.underlying136 rfl (by decide) rfl (by kernel_rfl) rfl rfl rfl (fun h => by cases h)
theorem tyfit137 : Fits Tryz.prog 137 ti137 := fits_mk (vs := [.nilFunc]) ⟨_, _, _, Tryz.underlying137⟩ Tryz.underlying137 rfl (by decide) rfl (by kernel_rfl) rfl rfl rfl (fun h => by cases h)
theorem tyfit141 : Fits Tryz.prog 141 ti141 := fits_mk (vs := [.nilFunc]) ⟨_, _, _, Tryz.underlying141⟩ Tryz.underlying141 rfl (by decide) rfl (by kernel_rfl) rfl rfl rfl (fun h => by cases h)
theorem tyfit142 : Fits Tryz.prog 142 ti142 := fits_mk (vs := [.nilFunc]) ⟨_, _, _, Tryz.underlying142⟩ Tryz.underlying142 rfl (by decide) rfl (by kernel_rfl) rfl rfl rfl (fun h => by cases h)
theorem tyfit143 : Fits Tryz.prog 143 ti143 := fits_mk (vs := [.pointer none]) Tryz.underlying143 Tryz.underlying143 rfl (by decide) rfl (by kernel_rfl) rfl rfl rfl (fun h => by cases h)
theorem tyfit144 : Fits Tryz.prog 144 ti144 := fits_mk (vs := [.nilFunc]) ⟨_, _, _, Tryz.underlying144⟩ Tryz.underlying144 rfl (by decide) rfl (by kernel_rfl) rfl rfl rfl (fun h => by cases h)
theorem tyfit145 : Fits Tryz.prog 145 ti145 := fits_mk (vs := [.nilFunc]) ⟨_, _, _, Tryz.underlying145⟩ Tryz.underlying145 rfl (by decide) rfl (by kernel_rfl) rfl rfl rfl (fun h => by cases h)
theorem tyfit147 : Fits Tryz.prog 147 ti147 := fits_mk (vs := [.nilFunc]) ⟨_, _, _, Tryz.underlying147⟩ Tryz.underlying147 rfl (by decide) rfl (by kernel_rfl) rfl rfl rfl (fun h => by cases h)
theorem tyfit148 : Fits Tryz.prog 148 ti148 := fits_mk (vs := [.int .u64 0]) Tryz.underlying148 Tryz.underlying148 rfl (by decide) rfl (by kernel_rfl) rfl rfl rfl (fun h => by cases h)
theorem tyfit149 : Fits Tryz.prog 149 ti149 := fits_mk (vs := [.nilFunc]) ⟨_, _, _, Tryz.underlying149⟩ Tryz.underlying149 rfl (by decide) rfl (by kernel_rfl) rfl rfl rfl (fun h => by cases h)
theorem tyfit150 : Fits Tryz.prog 150 ti150 := fits_mk (vs := [.nilFunc]) ⟨_, _, _, Tryz.underlying150⟩ Tryz.underlying150 rfl (by decide) rfl (by kernel_rfl) rfl rfl rfl (fun h => by cases h)
theorem tyfit151 : Fits Tryz.prog 151 ti151 := fits_mk (vs := [.nilFunc]) ⟨_, _, _, Tryz.underlying151⟩ Tryz.underlying151 rfl (by decide) rfl (by kernel_rfl) rfl rfl rfl (fun h => by cases h)
theorem tyfit152 : Fits Tryz.prog 152 ti152 := fits_mk (vs := [.pointer none]) Tryz.underlying152 Tryz.underlying152 rfl (by decide) rfl (by kernel_rfl) rfl rfl rfl (fun h => by cases h)
theorem tyfit153 : Fits Tryz.prog 153 ti153 := fits_mk (vs := [.nilFunc]) ⟨_, _, _, Tryz.underlying153⟩ Tryz.underlying153 rfl (by decide) rfl (by kernel_rfl) rfl rfl rfl (fun h => by cases h)
theorem tyfit154 : Fits Tryz.prog 154 ti154 := fits_mk (vs := [.int .u8 0, .int .u8 0, .int .u8 0, .int .u8 0, .int .u8 0, .int .u8 0, .int .u8 0, .int .u8 0, .int .u8 0, .int .u8 0, .int .u8 0, .int .u8 0, .int .u8 0, .int .u8 0, .int .u8 0, .int .u8 0, .int .u8 0, .int .u8 0, .int .u8 0, .int .u8 0, .int .u8 0, .int .u8 0, .int .u8 0, .int .u8 0]) Tryz.underlying154 Tryz.underlying154 rfl (by decide) rfl (by kernel_rfl) rfl rfl rfl (fun h => by cases h)
theorem tyfit155 : Fits Tryz.prog 155 ti155 := fits_mk (vs := [.nilFunc]) ⟨_, _, _, Tryz.underlying155⟩ Tryz.underlying155 rfl (by decide) rfl (by kernel_rfl) rfl rfl rfl (fun h => by cases h)
theorem tyfit157 : Fits Tryz.prog 157 ti157 := fits_mk (vs := [.nilFunc]) ⟨_, _, _, Tryz.underlying157⟩ Tryz.underlying157 rfl (by decide) rfl (by kernel_rfl) rfl rfl rfl (fun h => by cases h)
theorem tyfit158 : Fits Tryz.prog 158 ti158 := fits_mk (vs := [.nilFunc]) ⟨_, _, _, Tryz.underlying158⟩ Tryz.underlying158 rfl (by decide) rfl (by kernel_rfl) rfl rfl rfl (fun h => by cases h)
theorem tyfit160 : Fits Tryz.prog 160 ti160 := fits_mk (vs := [.nilFunc]) ⟨_, _, _, Tryz.underlying160⟩ Tryz.underlying160 rfl (by decide) rfl (by kernel_rfl) rfl rfl rfl (fun h => by cases h)
theorem tyfit161 : Fits Tryz.prog 161 ti161 := fits_mk (vs := [.nilFunc]) ⟨_, _, _, Tryz.underlying161⟩ Tryz.underlying161 rfl (by decide) rfl (by kernel_rfl) rfl rfl rfl (fun h => by cases h)
theorem tyfit162 : Fits Tryz.prog 162 ti162 := fits_mk (vs := [.nilFunc]) ⟨_, _, _, Tryz.underlying162⟩ Tryz.underlying162 rfl (by decide) rfl (by kernel_rfl) rfl rfl rfl (fun h => by cases h)
theorem tyfit163 : Fits Tryz.prog 163 ti163 := fits_mk (vs := [.nilFunc]) ⟨_, _, _, Tryz.underlying163⟩ Tryz.underlying163 rfl (by decide) rfl (by kernel_rfl) rfl rfl rfl (fun h => by cases h)
theorem tyfit164 : Fits Tryz.prog 164 ti164 := fits_mk (vs := [.nilFunc]) ⟨_, _, _, Tryz.underlying164⟩ Tryz.underlying164 rfl (by decide) rfl (by kernel_rfl) rfl rfl rfl (fun h => by cases h)
theorem tyfit165 : Fits Tryz.prog 165 ti165 := fits_mk (vs := [.nilFunc]) ⟨_, _, _, Tryz.underlying165⟩ Tryz.underlying165 rfl (by decide) rfl (by kernel_rfl) rfl rfl rfl (fun h => by cases h)
theorem tyfit166 : Fits Tryz.prog 166 ti166 := fits_mk (vs := [.pointer none]) Tryz.underlying166 Tryz.underlying166 rfl (by decide) rfl (by kernel_rfl) rfl rfl rfl (fun h => by cases h)
theorem tyfit168 : Fits Tryz.prog 168 ti168 := fits_mk (vs := [.nilFunc]) ⟨_, _, _, Tryz.underlying168⟩ Tryz.underlying168 rfl (by decide) rfl (by kernel_rfl) rfl rfl rfl (fun h => by cases h)
theorem tyfit169 : Fits Tryz.prog 169 ti169 := fits_mk (vs := [.nilFunc]) ⟨_, _, _, Tryz.underlying169⟩ Tryz.underlying169 rfl (by decide) rfl (by kernel_rfl) rfl rfl rfl (fun h => by cases h)
theorem tyfit170 : Fits Tryz.prog 170 ti170 := fits_mk (vs := [.int .u64 0, .int .u64 0, .int .u64 0, .int .u64 0, .int .u64 0, .int .u64 0, .int .u64 0, .int .u64 0, .int .u64 0, .int .u64 0, .int .u64 0, .int .u64 0, .int .u64 0, .int .u64 0, .int .u64 0, .int .u64 0, .int .u64 0, .int .u64 0, .int .u64 0, .int .u64 0]) Tryz.underlying170 Tryz.underlying170 rfl (by decide) rfl (by kernel_rfl) rfl rfl rfl (fun h => by cases h)
theorem tyfit172 : Fits Tryz.prog 172 ti172 := fits_mk (vs := [.nilFunc]) ⟨_, _, _, Tryz.underlying172⟩ Tryz.underlying172 rfl (by decide) rfl (by kernel_rfl) rfl rfl rfl (fun h => by cases h)
theorem tyfit174 : Fits Tryz.prog 174 ti174 := fits_mk (vs := [.nilFunc]) ⟨_, _, _, Tryz.underlying174⟩ Tryz.underlying174 rfl (by decide) rfl (by kernel_rfl) rfl rfl rfl (fun h => by cases h)
theorem tyfit175 : Fits Tryz.prog 175 ti175 := fits_mk (vs := [.nilFunc]) ⟨_, _, _, Tryz.underlying175⟩ Tryz.underlying175 rfl (by decide) rfl (by kernel_rfl) rfl rfl rfl (fun h => by cases h)
theorem tyfit176 : Fits Tryz.prog 176 ti176 := fits_mk (vs := [.int .i64 0]) Tryz.underlying176 Tryz.underlying176 rfl (by decide) rfl (by kernel_rfl) rfl rfl rfl (fun h => by cases h)
theorem tyfit178 : Fits Tryz.prog 178 ti178 := fits_mk (vs := [.nilFunc]) ⟨_, _, _, Tryz.underlying178⟩ Tryz.underlying178 rfl (by decide) rfl (by kernel_rfl) rfl rfl rfl (fun h => by cases h)
theorem tyfit179 : Fits Tryz.prog 179 ti179 := fits_mk (vs := [.pointer none]) Tryz.underlying179 Tryz.underlying179 rfl (by decide) rfl (by kernel_rfl) rfl rfl rfl (fun h => by cases h)
theorem tyfit180 : Fits Tryz.prog 180 ti180 := fits_mk (vs := [.nilFunc]) ⟨_, _, _, Tryz.underlying180⟩ Tryz.underlying180 rfl (by decide) rfl (by kernel_rfl) rfl rfl rfl (fun h => by cases h)
theorem tyfit181 : Fits Tryz.prog 181 ti181 := fits_mk (vs := [.nilFunc]) ⟨_, _, _, Tryz.underlying181⟩ Tryz.underlying181 rfl (by decide) rfl (by kernel_rfl) rfl rfl rfl (fun h => by cases h)
theorem tyfit182 : Fits Tryz.prog 182 ti182 := fits_mk (vs := [.nilFunc]) ⟨_, _, _, Tryz.underlying182⟩ Tryz.underlying182 rfl (by decide) rfl (by kernel_rfl) rfl rfl rfl (fun h => by cases h)
theorem tyfit184 : Fits Tryz.prog 184 ti184 := fits_mk (vs := [.int .u8 0, .int .u8 0]) ⟨_, Tryz.underlying184, rfl, by kernel_rfl⟩ Tryz.underlying184 rfl (by decide) rfl (by kernel_rfl) rfl rfl rfl (fun _ => ⟨by kernel_rfl, by kernel_rfl, by kernel_rfl⟩)
theorem tyfit185 : Fits Tryz.prog 185 ti185 := fits_mk (vs := [.int .u8 0, .int .u8 0]) ⟨_, Tryz.underlying185, rfl, by kernel_rfl⟩ Tryz.underlying185 rfl (by decide) rfl (by kernel_rfl) rfl rfl rfl (fun _ => ⟨by kernel_rfl, by kernel_rfl, by kernel_rfl⟩)
theorem tyfit186 : Fits Tryz.prog 186 ti186 := fits_mk (vs := [.int .u8 0, .int .u8 0, .int .u8 0, .int .u8 0, .int .u8 0, .int .u8 0, .int .u8 0, .int .u8 0, .int .u8 0, .int .u8 0, .int .u8 0, .int .u8 0, .int .u8 0, .int .u8 0, .int .u8 0, .int .u8 0, .int .u8 0, .int .u8 0, .int .u8 0, .int .u8 0, .int .u8 0, .int .u8 0, .int .u8 0, .int .u8 0, .int .u8 0, .int .u8 0, .int .u8 0, .int .u8 0, .int .u8 0, .int .u8 0, .int .u8 0, .int .u8 0]) Tryz.underlying186 Tryz.underlying186 rfl (by decide) rfl (by kernel_rfl) rfl rfl rfl (fun h => by cases h)
theorem tyfit187 : Fits Tryz.prog 187 ti187 := fits_mk (vs := [.nilFunc]) ⟨_, _, _, Tryz.underlying187⟩ Tryz.underlying187 rfl (by decide) rfl (by kernel_rfl) rfl rfl rfl (fun h => by cases h)
theorem tyfit188 : Fits Tryz.prog 188 ti188 := fits_mk (vs := [.nilFunc]) ⟨_, _, _, Tryz.underlying188⟩ Tryz.underlying188 rfl (by decide) rfl (by kernel_rfl) rfl rfl rfl (fun h => by cases h)
theorem tyfit189 : Fits Tryz.prog 189 ti189 := fits_mk (vs := [.nilFunc]) ⟨_, _, _, Tryz.underlying189⟩ Tryz.underlying189 rfl (by decide) rfl (by kernel_rfl) rfl rfl rfl (fun h => by cases h)
theorem tyfit190 : Fits Tryz.prog 190 ti190 := fits_mk (vs := [.string ByteArray.empty, .string ByteArray.empty, .nilIface]) ⟨_, Tryz.underlying190, rfl, by kernel_rfl⟩ Tryz.underlying190 rfl (by decide) rfl (by kernel_rfl) rfl rfl rfl (fun h => by cases h)
theorem tyfit191 : Fits Tryz.prog 191 ti191 := fits_mk (vs := [.string ByteArray.empty, .string ByteArray.empty, .nilIface]) ⟨_, Tryz.underlying191, rfl, by kernel_rfl⟩ Tryz.underlying191 rfl (by decide) rfl (by kernel_rfl) rfl rfl rfl (fun h => by cases h)
theorem tyfit192 : Fits Tryz.prog 192 ti192 := fits_mk (vs := [.nilFunc]) ⟨_, _, _, Tryz.underlying192⟩ Tryz.underlying192 rfl (by decide) rfl (by kernel_rfl) rfl rfl rfl (fun h => by cases h)
theorem tyfit193 : Fits Tryz.prog 193 ti193 := fits_mk (vs := [.int .u8 0, .int .u8 0, .int .u8 0, .int .u8 0, .int .u8 0, .int .u8 0, .int .u8 0, .int .u8 0, .int .u8 0, .int .u8 0, .int .u8 0, .int .u8 0, .int .u8 0, .int .u8 0, .int .u8 0, .int .u8 0, .int .u8 0, .int .u8 0, .int .u8 0, .int .u8 0, .int .u8 0, .int .u8 0, .int .u8 0, .int .u8 0, .int .u8 0, .int .u8 0, .int .u8 0, .int .u8 0, .int .u8 0, .int .u8 0, .int .u8 0, .int .u8 0]) Tryz.underlying193 Tryz.underlying193 rfl (by decide) rfl (by kernel_rfl) rfl rfl rfl (fun h => by cases h)
theorem tyfit194 : Fits Tryz.prog 194 ti194 := fits_mk (vs := [.int .u8 0, .int .u8 0, .int .u8 0, .int .u8 0, .int .u8 0, .int .u8 0, .int .u8 0, .int .u8 0, .int .u8 0, .int .u8 0, .int .u8 0, .int .u8 0, .int .u8 0, .int .u8 0, .int .u8 0, .int .u8 0, .int .u8 0, .int .u8 0, .int .u8 0, .int .u8 0, .int .u8 0, .int .u8 0, .int .u8 0, .int .u8 0, .int .u8 0, .int .u8 0, .int .u8 0, .int .u8 0, .int .u8 0, .int .u8 0, .int .u8 0, .int .u8 0, .int .u8 0, .int .u8 0, .int .u8 0, .int .u8 0, .int .u8 0, .int .u8 0, .int .u8 0, .int .u8 0, .int .u8 0, .int .u8 0, .int .u8 0, .int .u8 0, .int .u8 0, .int .u8 0, .int .u8 0, .int .u8 0, .int .u8 0, .int .u8 0, .int .u8 0, .int .u8 0, .int .u8 0, .int .u8 0, .int .u8 0, .int .u8 0, .int .u8 0, .int .u8 0, .int .u8 0, .int .u8 0, .int .u8 0, .int .u8 0, .int .u8 0, .int .u8 0]) Tryz.underlying194 Tryz.underlying194 rfl (by decide) rfl (by kernel_rfl) rfl rfl rfl (fun h => by cases h)
theorem tyfit195 : Fits Tryz.prog 195 ti195 := fits_mk (vs := [.pointer none]) Tryz.underlying195 Tryz.underlying195 rfl (by decide) rfl (by kernel_rfl) rfl rfl rfl (fun h => by cases h)
theorem tyfit196 : Fits Tryz.prog 196 ti196 := fits_mk (vs := [.string ByteArray.empty]) ⟨_, Tryz.underlying196, rfl, by kernel_rfl⟩ Tryz.underlying196 rfl (by decide) rfl (by kernel_rfl) rfl rfl rfl (fun _ => ⟨by kernel_rfl, by kernel_rfl, by kernel_rfl⟩)
theorem tyfit197 : Fits Tryz.prog 197 ti197 := fits_mk (vs := [.string ByteArray.empty]) ⟨_, Tryz.underlying197, rfl, by kernel_rfl⟩ Tryz.underlying197 rfl (by decide) rfl (by kernel_rfl) rfl rfl rfl (fun _ => ⟨by kernel_rfl, by kernel_rfl, by kernel_rfl⟩)
theorem tyfit198 : Fits Tryz.prog 198 ti198 := fits_mk (vs := [.pointer none, .pointer none, .pointer none, .string ByteArray.empty]) ⟨_, Tryz.underlying198, rfl, by kernel_rfl⟩ Tryz.underlying198 rfl (by decide) rfl (by kernel_rfl) rfl rfl rfl (fun h => by cases h)
theorem tyfit199 : Fits Tryz.prog 199 ti199 := fits_mk (vs := [.pointer none, .pointer none, .pointer none, .string ByteArray.empty]) ⟨_, Tryz.underlying199, rfl, by kernel_rfl⟩ Tryz.underlying199 rfl (by decide) rfl (by kernel_rfl) rfl rfl rfl (fun h => by cases h)
theorem tyfit203 : Fits Tryz.prog 203 ti203 := fits_mk (vs := [.nilFunc]) ⟨_, _, _, Tryz.underlying203⟩ Tryz.underlying203 rfl (by decide) rfl (by kernel_rfl) rfl rfl rfl (fun h => by cases h)
theorem tyfit204 : Fits Tryz.prog 204 ti204 := fits_mk (vs := [.int .u8 0]) Tryz.underlying204 Tryz.underlying204 rfl (by decide) rfl (by kernel_rfl) rfl rfl rfl (fun h => by cases h)
theorem tyfit205 : Fits Tryz.prog 205 ti205 := fits_mk (vs := [.int .u8 0]) Tryz.underlying205 Tryz.underlying205 rfl (by decide) rfl (by kernel_rfl) rfl rfl rfl (fun h => by cases h)
theorem tyfit206 : Fits Tryz.prog 206 ti206 := fits_mk (vs := [.nilFunc]) ⟨_, _, _, Tryz.underlying206⟩ Tryz.underlying206 rfl (by decide) rfl (by kernel_rfl) rfl rfl rfl (fun h => by cases h)
theorem tyfit207 : Fits Tryz.prog 207 ti207 := fits_mk (vs := [.int .i32 0]) Tryz.underlying207 Tryz.underlying207 rfl (by decide) rfl (by kernel_rfl) rfl rfl rfl (fun h => by cases h)
theorem tyfit208 : Fits Tryz.prog 208 ti208 := fits_mk (vs := [.int .i32 0]) Tryz.underlying208 Tryz.underlying208 rfl (by decide) rfl (by kernel_rfl) rfl rfl rfl (fun h => by cases h)
theorem tyfit209 : Fits Tryz.prog 209 ti209 := fits_mk (vs := [.int .u64 0, .int .u64 0, .int .u32 0, .int .u8 0, .int .u8 0, .int .u8 0, .int .u8 0, .nilFunc, .pointer none, .int .i32 0, .int .i32 0]) ⟨_, Tryz.underlying209, rfl, by kernel_rfl⟩ Tryz.underlying209 rfl (by decide) rfl (by kernel_rfl) rfl rfl rfl (fun h => by cases h)
theorem tyfit210 : Fits Tryz.prog 210 ti210 := fits_mk (vs := [.int .u64 0, .int .u64 0, .int .u32 0, .int .u8 0, .int .u8 0, .int .u8 0, .int .u8 0, .nilFunc, .pointer none, .int .i32 0, .int .i32 0]) ⟨_, Tryz.underlying210, rfl, by kernel_rfl⟩ Tryz.underlying210 rfl (by decide) rfl (by kernel_rfl) rfl rfl rfl (fun h => by cases h)
theorem agrees : Agrees Tryz.prog tt := TTree.agrees (T := tree) ⟨tyfit101, ⟨tyfit47, ⟨tyfit23, ⟨tyfit12, ⟨tyfit6, ⟨tyfit3, ⟨tyfit2, ⟨tyfit1, trivial, trivial⟩, trivial⟩, ⟨tyfit5, ⟨tyfit4, trivial, trivial⟩, trivial⟩⟩, ⟨tyfit9, ⟨tyfit8, ⟨tyfit7, trivial, trivial⟩, trivial⟩, ⟨tyfit11, ⟨tyfit10, trivial, trivial⟩, trivial⟩⟩⟩, ⟨tyfit18, ⟨tyfit15, ⟨tyfit14, ⟨tyfit13, trivial, trivial⟩, trivial⟩, ⟨tyfit17, ⟨tyfit16, trivial, trivial⟩, trivial⟩⟩, ⟨tyfit21, ⟨tyfit20, ⟨tyfit19, trivial, trivial⟩, trivial⟩, ⟨tyfit22, trivial, trivial⟩⟩⟩⟩, ⟨tyfit36, ⟨tyfit29, ⟨tyfit26, ⟨tyfit25, ⟨tyfit24, trivial, trivial⟩, trivial⟩, ⟨tyfit28, ⟨tyfit27, trivial, trivial⟩, trivial⟩⟩, ⟨tyfit33, ⟨tyfit32, ⟨tyfit31, trivial, trivial⟩, trivial⟩, ⟨tyfit35, ⟨tyfit34, trivial, trivial⟩, trivial⟩⟩⟩, ⟨tyfit42, ⟨tyfit39, ⟨tyfit38, ⟨tyfit37, trivial, trivial⟩, trivial⟩, ⟨tyfit41, ⟨tyfit40, trivial, trivial⟩, trivial⟩⟩, ⟨tyfit45, ⟨tyfit44, ⟨tyfit43, trivial, trivial⟩, trivial⟩, ⟨tyfit46, trivial, trivial⟩⟩⟩⟩⟩, ⟨tyfit74, ⟨tyfit63, ⟨tyfit55, ⟨tyfit52, ⟨tyfit51, ⟨tyfit49, trivial, trivial⟩, trivial⟩, ⟨tyfit54, ⟨tyfit53, trivial, trivial⟩, trivial⟩⟩, ⟨tyfit60, ⟨tyfit58, ⟨tyfit56, trivial, trivial⟩, trivial⟩, ⟨tyfit62, ⟨tyfit61, trivial, trivial⟩, trivial⟩⟩⟩, ⟨tyfit69, ⟨tyfit66, ⟨tyfit65, ⟨tyfit64, trivial, trivial⟩, trivial⟩, ⟨tyfit68, ⟨tyfit67, trivial, trivial⟩, trivial⟩⟩, ⟨tyfit72, ⟨tyfit71, ⟨tyfit70, trivial, trivial⟩, trivial⟩, ⟨tyfit73, trivial, trivial⟩⟩⟩⟩, ⟨tyfit88, ⟨tyfit81, ⟨tyfit77, ⟨tyfit76, ⟨tyfit75, trivial, trivial⟩, trivial⟩, ⟨tyfit80, ⟨tyfit78, trivial, trivial⟩, trivial⟩⟩, ⟨tyfit84, ⟨tyfit83, ⟨tyfit82, trivial, trivial⟩, trivial⟩, ⟨tyfit87, ⟨tyfit86, trivial, trivial⟩, trivial⟩⟩⟩, ⟨tyfit96, ⟨tyfit92, ⟨tyfit91, ⟨tyfit89, trivial, trivial⟩, trivial⟩, ⟨tyfit95, ⟨tyfit94, trivial, trivial⟩, trivial⟩⟩, ⟨tyfit99, ⟨tyfit98, ⟨tyfit97, trivial, trivial⟩, trivial⟩, ⟨tyfit100, trivial, trivial⟩⟩⟩⟩⟩⟩, ⟨tyfit155, ⟨tyfit127, ⟨tyfit113, ⟨tyfit107, ⟨tyfit104, ⟨tyfit103, ⟨tyfit102, trivial, trivial⟩, trivial⟩, ⟨tyfit106, ⟨tyfit105, trivial, trivial⟩, trivial⟩⟩, ⟨tyfit110, ⟨tyfit109, ⟨tyfit108, trivial, trivial⟩, trivial⟩, ⟨tyfit112, ⟨tyfit111, trivial, trivial⟩, trivial⟩⟩⟩, ⟨tyfit121, ⟨tyfit117, ⟨tyfit116, ⟨tyfit115, trivial, trivial⟩, trivial⟩, ⟨tyfit120, ⟨tyfit119, trivial, trivial⟩, trivial⟩⟩, ⟨tyfit125, ⟨tyfit123, ⟨tyfit122, trivial, trivial⟩, trivial⟩, ⟨tyfit126, trivial, trivial⟩⟩⟩⟩, ⟨tyfit143, ⟨tyfit134, ⟨tyfit130, ⟨tyfit129, ⟨tyfit128, trivial, trivial⟩, trivial⟩, ⟨tyfit132, ⟨tyfit131, trivial, trivial⟩, trivial⟩⟩, ⟨tyfit137, ⟨tyfit136, ⟨tyfit135, trivial, trivial⟩, trivial⟩, ⟨tyfit142, ⟨tyfit141, trivial, trivial⟩, trivial⟩⟩⟩, ⟨tyfit150, ⟨tyfit147, ⟨tyfit145, ⟨tyfit144, trivial, trivial⟩, trivial⟩, ⟨tyfit149, ⟨tyfit148, trivial, trivial⟩, trivial⟩⟩, ⟨tyfit153, ⟨tyfit152, ⟨tyfit151, trivial, trivial⟩, trivial⟩, ⟨tyfit154, trivial, trivial⟩⟩⟩⟩⟩, ⟨tyfit185, ⟨tyfit170, ⟨tyfit163, ⟨tyfit160, ⟨tyfit158, ⟨tyfit157, trivial, trivial⟩, trivial⟩, ⟨tyfit162, ⟨tyfit161, trivial, trivial⟩, trivial⟩⟩, ⟨tyfit166, ⟨tyfit165, ⟨tyfit164, trivial, trivial⟩, trivial⟩, ⟨tyfit169, ⟨tyfit168, trivial, trivial⟩, trivial⟩⟩⟩, ⟨tyfit179, ⟨tyfit175, ⟨tyfit174, ⟨tyfit172, trivial, trivial⟩, trivial⟩, ⟨tyfit178, ⟨tyfit176, trivial, trivial⟩, trivial⟩⟩, ⟨tyfit182, ⟨tyfit181, ⟨tyfit180, trivial, trivial⟩, trivial⟩, ⟨tyfit184, trivial, trivial⟩⟩⟩⟩, ⟨tyfit197, ⟨tyfit191, ⟨tyfit188, ⟨tyfit187, ⟨tyfit186, trivial, trivial⟩, trivial⟩, ⟨tyfit190, ⟨tyfit189, trivial, trivial⟩, trivial⟩⟩, ⟨tyfit194, ⟨tyfit193, ⟨tyfit192, trivial, trivial⟩, trivial⟩, ⟨tyfit196, ⟨tyfit195, trivial, trivial⟩, trivial⟩⟩⟩, ⟨tyfit206, ⟨tyfit203, ⟨tyfit199, ⟨tyfit198, trivial, trivial⟩, trivial⟩, ⟨tyfit205, ⟨tyfit204, trivial, trivial⟩, trivial⟩⟩, ⟨tyfit209, ⟨tyfit208, ⟨tyfit207, trivial, trivial⟩, trivial⟩, ⟨tyfit210, trivial, trivial⟩⟩⟩⟩⟩⟩⟩
end Go.Proofs.YtpeehenohdlfdaaGreatDoor
