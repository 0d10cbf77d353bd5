/- The seat's types as a table, and that the program has them so. Printed by a program (mktt.py). -/
import Derived.Test.YtpfghndflegbaaaDoorVcJ
import Derived.Test.YtpfghndflegbaaaDoorRows
namespace Go.Proofs.YtpfghndflegbaaaDoor
open Go.Vc
def ti1 : TI := ⟨.func, .any, 1, 8, [.v (.nilFunc)], false, false⟩
def ti2 : TI := ⟨.int .i64, (.int .i64), 1, 8, [.v (.int .i64 0)], false, false⟩
def ti3 : TI := ⟨.int .i64, (.int .i64), 1, 8, [.v (.int .i64 0)], false, false⟩
def ti4 : TI := ⟨.bool, .bool, 1, 1, [.v (.bool false)], false, false⟩
def ti5 : TI := ⟨.int .u8, (.int .u8), 1, 1, [.v (.int .u8 0)], false, false⟩
def ti6 : TI := ⟨.int .u8, (.int .u8), 1, 1, [.v (.int .u8 0)], false, false⟩
def ti7 : TI := ⟨.struct [(0, 2), (1, 3), (2, 4), (3, 6)], (.st (.pair (.int .i64) (.pair (.int .i64) (.pair .bool (.int .u8))))), 4, 24, [.v (.int .i64 0), .v (.int .i64 0), .v (.bool false), .v (.int .u8 0)], true, false⟩
def ti8 : TI := ⟨.struct [(0, 2), (1, 3), (2, 4), (3, 6)], (.st (.pair (.int .i64) (.pair (.int .i64) (.pair .bool (.int .u8))))), 4, 24, [.v (.int .i64 0), .v (.int .i64 0), .v (.bool false), .v (.int .u8 0)], false, false⟩
def ti9 : TI := ⟨.str, .str, 1, 16, [.v (.string ByteArray.empty)], false, false⟩
def ti10 : TI := ⟨.str, .str, 1, 16, [.v (.string ByteArray.empty)], false, false⟩
def ti11 : TI := ⟨.str, .str, 1, 16, [.v (.string ByteArray.empty)], false, false⟩
def ti12 : TI := ⟨.int .u64, (.int .u64), 1, 8, [.v (.int .u64 0)], false, false⟩
def ti13 : TI := ⟨.struct [(0, 9), (1, 12)], (.st (.pair .str (.int .u64))), 2, 24, [.v (.string ByteArray.empty), .v (.int .u64 0)], false, false⟩
def ti14 : TI := ⟨.struct [(0, 9), (1, 12)], (.st (.pair .str (.int .u64))), 2, 24, [.v (.string ByteArray.empty), .v (.int .u64 0)], false, false⟩
def ti15 : TI := ⟨.ptr 146, .any, 1, 8, [.v (.pointer none)], false, false⟩
def ti16 : TI := ⟨.ptr 149, .any, 1, 8, [.v (.pointer none)], false, false⟩
def ti17 : TI := ⟨.ptr 157, .any, 1, 8, [.v (.pointer none)], false, false⟩
def ti18 : TI := ⟨.struct [(0, 17)], (.st .any), 1, 8, [.v (.pointer none)], false, false⟩
def ti19 : TI := ⟨.struct [(0, 17)], (.st .any), 1, 8, [.v (.pointer none)], false, false⟩
def ti20 : TI := ⟨.iface, .any, 1, 16, [.v (.nilIface)], false, false⟩
def ti21 : TI := ⟨.int .i32, (.int .i32), 1, 4, [.v (.int .i32 0)], false, false⟩
def ti22 : TI := ⟨.slice 56, .slice, 1, 24, [.v (.slice none 0 0)], false, false⟩
def ti23 : TI := ⟨.func, .any, 1, 8, [.v (.nilFunc)], false, false⟩
def ti24 : TI := ⟨.slice 3, .slice, 1, 24, [.v (.slice none 0 0)], false, false⟩
def ti25 : TI := ⟨.int .i64, (.int .i64), 1, 8, [.v (.int .i64 0)], false, false⟩
def ti27 : TI := ⟨.func, .any, 1, 8, [.v (.nilFunc)], false, false⟩
def ti28 : TI := ⟨.struct [], (.st .unit), 0, 0, [], true, false⟩
def ti29 : TI := ⟨.struct [], (.st .unit), 0, 0, [], true, false⟩
def ti30 : TI := ⟨.func, .any, 1, 8, [.v (.nilFunc)], false, false⟩
def ti31 : TI := ⟨.func, .any, 1, 8, [.v (.nilFunc)], false, false⟩
def ti32 : TI := ⟨.func, .any, 1, 8, [.v (.nilFunc)], false, false⟩
def ti34 : TI := ⟨.func, .any, 1, 8, [.v (.nilFunc)], false, false⟩
def ti35 : TI := ⟨.func, .any, 1, 8, [.v (.nilFunc)], false, false⟩
def ti36 : TI := ⟨.func, .any, 1, 8, [.v (.nilFunc)], false, false⟩
def ti38 : TI := ⟨.func, .any, 1, 8, [.v (.nilFunc)], false, false⟩
def ti39 : TI := ⟨.func, .any, 1, 8, [.v (.nilFunc)], false, false⟩
def ti40 : TI := ⟨.slice 47, .slice, 1, 24, [.v (.slice none 0 0)], false, false⟩
def ti41 : TI := ⟨.func, .any, 1, 8, [.v (.nilFunc)], false, false⟩
def ti42 : TI := ⟨.func, .any, 1, 8, [.v (.nilFunc)], false, false⟩
def ti43 : TI := ⟨.int .i8, (.int .i8), 1, 1, [.v (.int .i8 0)], false, false⟩
def ti44 : TI := ⟨.func, .any, 1, 8, [.v (.nilFunc)], false, false⟩
def ti45 : TI := ⟨.array 4 9, (.st (.pair .str (.pair .str (.pair .str .str)))), 4, 64, [.v (.string ByteArray.empty), .v (.string ByteArray.empty), .v (.string ByteArray.empty), .v (.string ByteArray.empty)], false, false⟩
def ti46 : TI := ⟨.struct [(0, 5), (1, 5), (2, 5), (3, 43), (4, 43)], (.st (.pair (.int .u8) (.pair (.int .u8) (.pair (.int .u8) (.pair (.int .i8) (.int .i8)))))), 5, 5, [.v (.int .u8 0), .v (.int .u8 0), .v (.int .u8 0), .v (.int .i8 0), .v (.int .i8 0)], true, false⟩
def ti47 : TI := ⟨.struct [(0, 5), (1, 5), (2, 5), (3, 43), (4, 43)], (.st (.pair (.int .u8) (.pair (.int .u8) (.pair (.int .u8) (.pair (.int .i8) (.int .i8)))))), 5, 5, [.v (.int .u8 0), .v (.int .u8 0), .v (.int .u8 0), .v (.int .i8 0), .v (.int .i8 0)], true, false⟩
def ti48 : TI := ⟨.slice 2, .slice, 1, 24, [.v (.slice none 0 0)], false, false⟩
def ti49 : TI := ⟨.struct [(0, 9), (1, 48)], (.st (.pair .str .slice)), 2, 40, [.v (.string ByteArray.empty), .v (.slice none 0 0)], false, false⟩
def ti50 : TI := ⟨.struct [(0, 9), (1, 48)], (.st (.pair .str .slice)), 2, 40, [.v (.string ByteArray.empty), .v (.slice none 0 0)], false, false⟩
def ti51 : TI := ⟨.struct [(0, 25), (1, 2)], (.st (.pair (.int .i64) (.int .i64))), 2, 16, [.v (.int .i64 0), .v (.int .i64 0)], true, false⟩
def ti52 : TI := ⟨.struct [(0, 25), (1, 2)], (.st (.pair (.int .i64) (.int .i64))), 2, 16, [.v (.int .i64 0), .v (.int .i64 0)], true, false⟩
def ti54 : TI := ⟨.func, .any, 1, 8, [.v (.nilFunc)], false, false⟩
def ti55 : TI := ⟨.struct [(0, 3), (1, 3), (2, 3), (3, 50), (5, 52)], (.st (.pair (.int .i64) (.pair (.int .i64) (.pair (.int .i64) (.pair (.st (.pair .str .slice)) (.st (.pair (.int .i64) (.int .i64)))))))), 7, 80, [.v (.int .i64 0), .v (.int .i64 0), .v (.int .i64 0), .v (.string ByteArray.empty), .v (.slice none 0 0), .v (.int .i64 0), .v (.int .i64 0)], false, false⟩
def ti56 : TI := ⟨.struct [(0, 3), (1, 3), (2, 3), (3, 50), (5, 52)], (.st (.pair (.int .i64) (.pair (.int .i64) (.pair (.int .i64) (.pair (.st (.pair .str .slice)) (.st (.pair (.int .i64) (.int .i64)))))))), 7, 80, [.v (.int .i64 0), .v (.int .i64 0), .v (.int .i64 0), .v (.string ByteArray.empty), .v (.slice none 0 0), .v (.int .i64 0), .v (.int .i64 0)], false, false⟩
def ti57 : TI := ⟨.func, .any, 1, 8, [.v (.nilFunc)], false, false⟩
def ti58 : TI := ⟨.func, .any, 1, 8, [.v (.nilFunc)], false, false⟩
def ti59 : TI := ⟨.func, .any, 1, 8, [.v (.nilFunc)], false, false⟩
def ti60 : TI := ⟨.func, .any, 1, 8, [.v (.nilFunc)], false, false⟩
def ti61 : TI := ⟨.func, .any, 1, 8, [.v (.nilFunc)], false, false⟩
def ti62 : TI := ⟨.func, .any, 1, 8, [.v (.nilFunc)], false, false⟩
def ti63 : TI := ⟨.iface, .any, 1, 16, [.v (.nilIface)], false, false⟩
def ti64 : TI := ⟨.iface, .any, 1, 16, [.v (.nilIface)], false, false⟩
def ti65 : TI := ⟨.func, .any, 1, 8, [.v (.nilFunc)], false, false⟩
def ti66 : TI := ⟨.func, .any, 1, 8, [.v (.nilFunc)], false, false⟩
def ti67 : TI := ⟨.array 9 3, (.st (.pair (.int .i64) (.pair (.int .i64) (.pair (.int .i64) (.pair (.int .i64) (.pair (.int .i64) (.pair (.int .i64) (.pair (.int .i64) (.pair (.int .i64) (.int .i64)))))))))), 9, 72, [.v (.int .i64 0), .v (.int .i64 0), .v (.int .i64 0), .v (.int .i64 0), .v (.int .i64 0), .v (.int .i64 0), .v (.int .i64 0), .v (.int .i64 0), .v (.int .i64 0)], false, false⟩
def ti68 : TI := ⟨.array 9 4, (.st (.pair .bool (.pair .bool (.pair .bool (.pair .bool (.pair .bool (.pair .bool (.pair .bool (.pair .bool .bool))))))))), 9, 9, [.v (.bool false), .v (.bool false), .v (.bool false), .v (.bool false), .v (.bool false), .v (.bool false), .v (.bool false), .v (.bool false), .v (.bool false)], false, false⟩
def ti69 : TI := ⟨.func, .any, 1, 8, [.v (.nilFunc)], false, false⟩
def ti70 : TI := ⟨.map 3 101, .map, 1, 8, [.v (.map none)], false, false⟩
def ti71 : TI := ⟨.func, .any, 1, 8, [.v (.nilFunc)], false, false⟩
def ti72 : TI := ⟨.array 4 3, (.st (.pair (.int .i64) (.pair (.int .i64) (.pair (.int .i64) (.int .i64))))), 4, 32, [.v (.int .i64 0), .v (.int .i64 0), .v (.int .i64 0), .v (.int .i64 0)], false, false⟩
def ti73 : TI := ⟨.array 4 50, (.st (.pair (.st (.pair .str .slice)) (.pair (.st (.pair .str .slice)) (.pair (.st (.pair .str .slice)) (.st (.pair .str .slice)))))), 8, 160, [.v (.string ByteArray.empty), .v (.slice none 0 0), .v (.string ByteArray.empty), .v (.slice none 0 0), .v (.string ByteArray.empty), .v (.slice none 0 0), .v (.string ByteArray.empty), .v (.slice none 0 0)], false, false⟩
def ti74 : TI := ⟨.array 4 52, (.st (.pair (.st (.pair (.int .i64) (.int .i64))) (.pair (.st (.pair (.int .i64) (.int .i64))) (.pair (.st (.pair (.int .i64) (.int .i64))) (.st (.pair (.int .i64) (.int .i64))))))), 8, 64, [.v (.int .i64 0), .v (.int .i64 0), .v (.int .i64 0), .v (.int .i64 0), .v (.int .i64 0), .v (.int .i64 0), .v (.int .i64 0), .v (.int .i64 0)], false, false⟩
def ti75 : TI := ⟨.array 4 4, (.st (.pair .bool (.pair .bool (.pair .bool .bool)))), 4, 4, [.v (.bool false), .v (.bool false), .v (.bool false), .v (.bool false)], false, false⟩
def ti76 : TI := ⟨.iface, .any, 1, 16, [.v (.nilIface)], false, false⟩
def ti77 : TI := ⟨.iface, .any, 1, 16, [.v (.nilIface)], false, false⟩
def ti79 : TI := ⟨.func, .any, 1, 8, [.v (.nilFunc)], false, false⟩
def ti81 : TI := ⟨.func, .any, 1, 8, [.v (.nilFunc)], false, false⟩
def ti82 : TI := ⟨.func, .any, 1, 8, [.v (.nilFunc)], false, false⟩
def ti83 : TI := ⟨.ptr 88, .any, 1, 8, [.v (.pointer none)], false, false⟩
def ti84 : TI := ⟨.slice 92, .slice, 1, 24, [.v (.slice none 0 0)], false, false⟩
def ti85 : TI := ⟨.func, .any, 1, 8, [.v (.nilFunc)], false, false⟩
def ti86 : TI := ⟨.map 107 4, .map, 1, 8, [.v (.map none)], false, false⟩
def ti87 : TI := ⟨.struct [(0, 64), (1, 84), (2, 86)], (.st (.pair .any (.pair .slice .map))), 3, 48, [.v (.nilIface), .v (.slice none 0 0), .v (.map none)], false, false⟩
def ti88 : TI := ⟨.struct [(0, 64), (1, 84), (2, 86)], (.st (.pair .any (.pair .slice .map))), 3, 48, [.v (.nilIface), .v (.slice none 0 0), .v (.map none)], false, false⟩
def ti89 : TI := ⟨.slice 4, .slice, 1, 24, [.v (.slice none 0 0)], false, false⟩
def ti90 : TI := ⟨.func, .any, 1, 8, [.v (.nilFunc)], false, false⟩
def ti91 : TI := ⟨.struct [(0, 3), (1, 3), (2, 50), (4, 4), (5, 52)], (.st (.pair (.int .i64) (.pair (.int .i64) (.pair (.st (.pair .str .slice)) (.pair .bool (.st (.pair (.int .i64) (.int .i64)))))))), 7, 80, [.v (.int .i64 0), .v (.int .i64 0), .v (.string ByteArray.empty), .v (.slice none 0 0), .v (.bool false), .v (.int .i64 0), .v (.int .i64 0)], false, false⟩
def ti92 : TI := ⟨.struct [(0, 3), (1, 3), (2, 50), (4, 4), (5, 52)], (.st (.pair (.int .i64) (.pair (.int .i64) (.pair (.st (.pair .str .slice)) (.pair .bool (.st (.pair (.int .i64) (.int .i64)))))))), 7, 80, [.v (.int .i64 0), .v (.int .i64 0), .v (.string ByteArray.empty), .v (.slice none 0 0), .v (.bool false), .v (.int .i64 0), .v (.int .i64 0)], false, false⟩
def ti93 : TI := ⟨.func, .any, 1, 8, [.v (.nilFunc)], false, false⟩
def ti94 : TI := ⟨.func, .any, 1, 8, [.v (.nilFunc)], false, false⟩
def ti95 : TI := ⟨.func, .any, 1, 8, [.v (.nilFunc)], false, false⟩
def ti96 : TI := ⟨.func, .any, 1, 8, [.v (.nilFunc)], false, false⟩
def ti98 : TI := ⟨.func, .any, 1, 8, [.v (.nilFunc)], false, false⟩
def ti99 : TI := ⟨.func, .any, 1, 8, [.v (.nilFunc)], false, false⟩
def ti100 : TI := ⟨.struct [(0, 4), (1, 4), (2, 3)], (.st (.pair .bool (.pair .bool (.int .i64)))), 3, 16, [.v (.bool false), .v (.bool false), .v (.int .i64 0)], true, false⟩
def ti101 : TI := ⟨.struct [(0, 4), (1, 4), (2, 3)], (.st (.pair .bool (.pair .bool (.int .i64)))), 3, 16, [.v (.bool false), .v (.bool false), .v (.int .i64 0)], true, false⟩
def ti102 : TI := ⟨.func, .any, 1, 8, [.v (.nilFunc)], false, false⟩
def ti103 : TI := ⟨.array 2 2, (.st (.pair (.int .i64) (.int .i64))), 2, 16, [.v (.int .i64 0), .v (.int .i64 0)], false, false⟩
def ti104 : TI := ⟨.map 3 3, .map, 1, 8, [.v (.map none)], false, false⟩
def ti105 : TI := ⟨.ptr 92, .any, 1, 8, [.v (.pointer none)], false, false⟩
def ti106 : TI := ⟨.struct [(0, 9), (1, 9)], (.st (.pair .str .str)), 2, 32, [.v (.string ByteArray.empty), .v (.string ByteArray.empty)], true, false⟩
def ti107 : TI := ⟨.struct [(0, 9), (1, 9)], (.st (.pair .str .str)), 2, 32, [.v (.string ByteArray.empty), .v (.string ByteArray.empty)], true, false⟩
def ti108 : TI := ⟨.func, .any, 1, 8, [.v (.nilFunc)], false, false⟩
def ti109 : TI := ⟨.func, .any, 1, 8, [.v (.nilFunc)], false, false⟩
def ti110 : TI := ⟨.func, .any, 1, 8, [.v (.nilFunc)], false, false⟩
def ti111 : TI := ⟨.int .i64, (.int .i64), 1, 8, [.v (.int .i64 0)], false, false⟩
def ti112 : TI := ⟨.int .u64, (.int .u64), 1, 8, [.v (.int .u64 0)], false, false⟩
def ti114 : TI := ⟨.func, .any, 1, 8, [.v (.nilFunc)], false, false⟩
def ti115 : TI := ⟨.int .u64, (.int .u64), 1, 8, [.v (.int .u64 0)], false, false⟩
def ti116 : TI := ⟨.ptr 129, .any, 1, 8, [.v (.pointer none)], false, false⟩
def ti117 : TI := ⟨.func, .any, 1, 8, [.v (.nilFunc)], false, false⟩
def ti118 : TI := ⟨.func, .any, 1, 8, [.v (.nilFunc)], false, false⟩
def ti119 : TI := ⟨.array 24 5, (.st (.pair (.int .u8) (.pair (.int .u8) (.pair (.int .u8) (.pair (.int .u8) (.pair (.int .u8) (.pair (.int .u8) (.pair (.int .u8) (.pair (.int .u8) (.pair (.int .u8) (.pair (.int .u8) (.pair (.int .u8) (.pair (.int .u8) (.pair (.int .u8) (.pair (.int .u8) (.pair (.int .u8) (.pair (.int .u8) (.pair (.int .u8) (.pair (.int .u8) (.pair (.int .u8) (.pair (.int .u8) (.pair (.int .u8) (.pair (.int .u8) (.pair (.int .u8) (.int .u8))))))))))))))))))))))))), 24, 24, [.v (.int .u8 0), .v (.int .u8 0), .v (.int .u8 0), .v (.int .u8 0), .v (.int .u8 0), .v (.int .u8 0), .v (.int .u8 0), .v (.int .u8 0), .v (.int .u8 0), .v (.int .u8 0), .v (.int .u8 0), .v (.int .u8 0), .v (.int .u8 0), .v (.int .u8 0), .v (.int .u8 0), .v (.int .u8 0), .v (.int .u8 0), .v (.int .u8 0), .v (.int .u8 0), .v (.int .u8 0), .v (.int .u8 0), .v (.int .u8 0), .v (.int .u8 0), .v (.int .u8 0)], false, false⟩
def ti120 : TI := ⟨.func, .any, 1, 8, [.v (.nilFunc)], false, false⟩
def ti121 : TI := ⟨.func, .any, 1, 8, [.v (.nilFunc)], false, false⟩
def ti122 : TI := ⟨.slice 5, .slice, 1, 24, [.v (.slice none 0 0)], false, false⟩
def ti124 : TI := ⟨.func, .any, 1, 8, [.v (.nilFunc)], false, false⟩
def ti125 : TI := ⟨.func, .any, 1, 8, [.v (.nilFunc)], false, false⟩
def ti126 : TI := ⟨.func, .any, 1, 8, [.v (.nilFunc)], false, false⟩
def ti127 : TI := ⟨.func, .any, 1, 8, [.v (.nilFunc)], false, false⟩
def ti128 : TI := ⟨.struct [(0, 9), (1, 9), (2, 77)], (.st (.pair .str (.pair .str .any))), 3, 48, [.v (.string ByteArray.empty), .v (.string ByteArray.empty), .v (.nilIface)], false, false⟩
def ti129 : TI := ⟨.struct [(0, 9), (1, 9), (2, 77)], (.st (.pair .str (.pair .str .any))), 3, 48, [.v (.string ByteArray.empty), .v (.string ByteArray.empty), .v (.nilIface)], false, false⟩
def ti130 : TI := ⟨.func, .any, 1, 8, [.v (.nilFunc)], false, false⟩
def ti131 : TI := ⟨.func, .any, 1, 8, [.v (.nilFunc)], false, false⟩
def ti132 : TI := ⟨.func, .any, 1, 8, [.v (.nilFunc)], false, false⟩
def ti133 : TI := ⟨.array 20 112, (.st (.pair (.int .u64) (.pair (.int .u64) (.pair (.int .u64) (.pair (.int .u64) (.pair (.int .u64) (.pair (.int .u64) (.pair (.int .u64) (.pair (.int .u64) (.pair (.int .u64) (.pair (.int .u64) (.pair (.int .u64) (.pair (.int .u64) (.pair (.int .u64) (.pair (.int .u64) (.pair (.int .u64) (.pair (.int .u64) (.pair (.int .u64) (.pair (.int .u64) (.pair (.int .u64) (.int .u64))))))))))))))))))))), 20, 160, [.v (.int .u64 0), .v (.int .u64 0), .v (.int .u64 0), .v (.int .u64 0), .v (.int .u64 0), .v (.int .u64 0), .v (.int .u64 0), .v (.int .u64 0), .v (.int .u64 0), .v (.int .u64 0), .v (.int .u64 0), .v (.int .u64 0), .v (.int .u64 0), .v (.int .u64 0), .v (.int .u64 0), .v (.int .u64 0), .v (.int .u64 0), .v (.int .u64 0), .v (.int .u64 0), .v (.int .u64 0)], false, false⟩
def ti134 : TI := ⟨.int .u32, (.int .u32), 1, 4, [.v (.int .u32 0)], false, false⟩
def ti136 : TI := ⟨.func, .any, 1, 8, [.v (.nilFunc)], false, false⟩
def ti137 : TI := ⟨.func, .any, 1, 8, [.v (.nilFunc)], false, false⟩
def ti138 : TI := ⟨.ptr 5, .any, 1, 8, [.v (.pointer none)], false, false⟩
def ti139 : TI := ⟨.ptr 141, .any, 1, 8, [.v (.pointer none)], false, false⟩
def ti140 : TI := ⟨.struct [(0, 9)], (.st .str), 1, 16, [.v (.string ByteArray.empty)], true, false⟩
def ti141 : TI := ⟨.struct [(0, 9)], (.st .str), 1, 16, [.v (.string ByteArray.empty)], true, false⟩
def ti142 : TI := ⟨.func, .any, 1, 8, [.v (.nilFunc)], false, false⟩
def ti143 : TI := ⟨.array 32 5, (.st (.pair (.int .u8) (.pair (.int .u8) (.pair (.int .u8) (.pair (.int .u8) (.pair (.int .u8) (.pair (.int .u8) (.pair (.int .u8) (.pair (.int .u8) (.pair (.int .u8) (.pair (.int .u8) (.pair (.int .u8) (.pair (.int .u8) (.pair (.int .u8) (.pair (.int .u8) (.pair (.int .u8) (.pair (.int .u8) (.pair (.int .u8) (.pair (.int .u8) (.pair (.int .u8) (.pair (.int .u8) (.pair (.int .u8) (.pair (.int .u8) (.pair (.int .u8) (.pair (.int .u8) (.pair (.int .u8) (.pair (.int .u8) (.pair (.int .u8) (.pair (.int .u8) (.pair (.int .u8) (.pair (.int .u8) (.pair (.int .u8) (.int .u8))))))))))))))))))))))))))))))))), 32, 32, [.v (.int .u8 0), .v (.int .u8 0), .v (.int .u8 0), .v (.int .u8 0), .v (.int .u8 0), .v (.int .u8 0), .v (.int .u8 0), .v (.int .u8 0), .v (.int .u8 0), .v (.int .u8 0), .v (.int .u8 0), .v (.int .u8 0), .v (.int .u8 0), .v (.int .u8 0), .v (.int .u8 0), .v (.int .u8 0), .v (.int .u8 0), .v (.int .u8 0), .v (.int .u8 0), .v (.int .u8 0), .v (.int .u8 0), .v (.int .u8 0), .v (.int .u8 0), .v (.int .u8 0), .v (.int .u8 0), .v (.int .u8 0), .v (.int .u8 0), .v (.int .u8 0), .v (.int .u8 0), .v (.int .u8 0), .v (.int .u8 0), .v (.int .u8 0)], false, false⟩
def ti145 : TI := ⟨.struct [(0, 17), (1, 17), (2, 17), (3, 9)], (.st (.pair .any (.pair .any (.pair .any .str)))), 4, 40, [.v (.pointer none), .v (.pointer none), .v (.pointer none), .v (.string ByteArray.empty)], false, false⟩
def ti146 : TI := ⟨.struct [(0, 17), (1, 17), (2, 17), (3, 9)], (.st (.pair .any (.pair .any (.pair .any .str)))), 4, 40, [.v (.pointer none), .v (.pointer none), .v (.pointer none), .v (.string ByteArray.empty)], false, false⟩
def ti150 : TI := ⟨.func, .any, 1, 8, [.v (.nilFunc)], false, false⟩
def ti151 : TI := ⟨.int .u8, (.int .u8), 1, 1, [.v (.int .u8 0)], false, false⟩
def ti152 : TI := ⟨.int .u8, (.int .u8), 1, 1, [.v (.int .u8 0)], false, false⟩
def ti153 : TI := ⟨.func, .any, 1, 8, [.v (.nilFunc)], false, false⟩
def ti154 : TI := ⟨.int .i32, (.int .i32), 1, 4, [.v (.int .i32 0)], false, false⟩
def ti155 : TI := ⟨.int .i32, (.int .i32), 1, 4, [.v (.int .i32 0)], false, false⟩
def ti156 : TI := ⟨.struct [(0, 12), (1, 12), (2, 134), (3, 151), (4, 5), (5, 5), (6, 152), (7, 153), (8, 138), (9, 154), (10, 155)], (.st (.pair (.int .u64) (.pair (.int .u64) (.pair (.int .u32) (.pair (.int .u8) (.pair (.int .u8) (.pair (.int .u8) (.pair (.int .u8) (.pair .any (.pair .any (.pair (.int .i32) (.int .i32)))))))))))), 11, 48, [.v (.int .u64 0), .v (.int .u64 0), .v (.int .u32 0), .v (.int .u8 0), .v (.int .u8 0), .v (.int .u8 0), .v (.int .u8 0), .v (.nilFunc), .v (.pointer none), .v (.int .i32 0), .v (.int .i32 0)], false, false⟩
def ti157 : TI := ⟨.struct [(0, 12), (1, 12), (2, 134), (3, 151), (4, 5), (5, 5), (6, 152), (7, 153), (8, 138), (9, 154), (10, 155)], (.st (.pair (.int .u64) (.pair (.int .u64) (.pair (.int .u32) (.pair (.int .u8) (.pair (.int .u8) (.pair (.int .u8) (.pair (.int .u8) (.pair .any (.pair .any (.pair (.int .i32) (.int .i32)))))))))))), 11, 48, [.v (.int .u64 0), .v (.int .u64 0), .v (.int .u32 0), .v (.int .u8 0), .v (.int .u8 0), .v (.int .u8 0), .v (.int .u8 0), .v (.nilFunc), .v (.pointer none), .v (.int .i32 0), .v (.int .i32 0)], false, false⟩
def tree : TTree := (.node 76 ti76 (.node 39 ti39 (.node 18 ti18 (.node 9 ti9 (.node 5 ti5 (.node 3 ti3 (.node 2 ti2 (.node 1 ti1 .leaf .leaf) .leaf) (.node 4 ti4 .leaf .leaf)) (.node 7 ti7 (.node 6 ti6 .leaf .leaf) (.node 8 ti8 .leaf .leaf))) (.node 14 ti14 (.node 12 ti12 (.node 11 ti11 (.node 10 ti10 .leaf .leaf) .leaf) (.node 13 ti13 .leaf .leaf)) (.node 16 ti16 (.node 15 ti15 .leaf .leaf) (.node 17 ti17 .leaf .leaf)))) (.node 28 ti28 (.node 23 ti23 (.node 21 ti21 (.node 20 ti20 (.node 19 ti19 .leaf .leaf) .leaf) (.node 22 ti22 .leaf .leaf)) (.node 25 ti25 (.node 24 ti24 .leaf .leaf) (.node 27 ti27 .leaf .leaf))) (.node 34 ti34 (.node 31 ti31 (.node 30 ti30 (.node 29 ti29 .leaf .leaf) .leaf) (.node 32 ti32 .leaf .leaf)) (.node 36 ti36 (.node 35 ti35 .leaf .leaf) (.node 38 ti38 .leaf .leaf))))) (.node 58 ti58 (.node 48 ti48 (.node 44 ti44 (.node 42 ti42 (.node 41 ti41 (.node 40 ti40 .leaf .leaf) .leaf) (.node 43 ti43 .leaf .leaf)) (.node 46 ti46 (.node 45 ti45 .leaf .leaf) (.node 47 ti47 .leaf .leaf))) (.node 54 ti54 (.node 51 ti51 (.node 50 ti50 (.node 49 ti49 .leaf .leaf) .leaf) (.node 52 ti52 .leaf .leaf)) (.node 56 ti56 (.node 55 ti55 .leaf .leaf) (.node 57 ti57 .leaf .leaf)))) (.node 67 ti67 (.node 63 ti63 (.node 61 ti61 (.node 60 ti60 (.node 59 ti59 .leaf .leaf) .leaf) (.node 62 ti62 .leaf .leaf)) (.node 65 ti65 (.node 64 ti64 .leaf .leaf) (.node 66 ti66 .leaf .leaf))) (.node 72 ti72 (.node 70 ti70 (.node 69 ti69 (.node 68 ti68 .leaf .leaf) .leaf) (.node 71 ti71 .leaf .leaf)) (.node 74 ti74 (.node 73 ti73 .leaf .leaf) (.node 75 ti75 .leaf .leaf)))))) (.node 116 ti116 (.node 96 ti96 (.node 87 ti87 (.node 83 ti83 (.node 81 ti81 (.node 79 ti79 (.node 77 ti77 .leaf .leaf) .leaf) (.node 82 ti82 .leaf .leaf)) (.node 85 ti85 (.node 84 ti84 .leaf .leaf) (.node 86 ti86 .leaf .leaf))) (.node 92 ti92 (.node 90 ti90 (.node 89 ti89 (.node 88 ti88 .leaf .leaf) .leaf) (.node 91 ti91 .leaf .leaf)) (.node 94 ti94 (.node 93 ti93 .leaf .leaf) (.node 95 ti95 .leaf .leaf)))) (.node 106 ti106 (.node 102 ti102 (.node 100 ti100 (.node 99 ti99 (.node 98 ti98 .leaf .leaf) .leaf) (.node 101 ti101 .leaf .leaf)) (.node 104 ti104 (.node 103 ti103 .leaf .leaf) (.node 105 ti105 .leaf .leaf))) (.node 111 ti111 (.node 109 ti109 (.node 108 ti108 (.node 107 ti107 .leaf .leaf) .leaf) (.node 110 ti110 .leaf .leaf)) (.node 114 ti114 (.node 112 ti112 .leaf .leaf) (.node 115 ti115 .leaf .leaf))))) (.node 136 ti136 (.node 126 ti126 (.node 121 ti121 (.node 119 ti119 (.node 118 ti118 (.node 117 ti117 .leaf .leaf) .leaf) (.node 120 ti120 .leaf .leaf)) (.node 124 ti124 (.node 122 ti122 .leaf .leaf) (.node 125 ti125 .leaf .leaf))) (.node 131 ti131 (.node 129 ti129 (.node 128 ti128 (.node 127 ti127 .leaf .leaf) .leaf) (.node 130 ti130 .leaf .leaf)) (.node 133 ti133 (.node 132 ti132 .leaf .leaf) (.node 134 ti134 .leaf .leaf)))) (.node 146 ti146 (.node 141 ti141 (.node 139 ti139 (.node 138 ti138 (.node 137 ti137 .leaf .leaf) .leaf) (.node 140 ti140 .leaf .leaf)) (.node 143 ti143 (.node 142 ti142 .leaf .leaf) (.node 145 ti145 .leaf .leaf))) (.node 154 ti154 (.node 152 ti152 (.node 151 ti151 (.node 150 ti150 .leaf .leaf) .leaf) (.node 153 ti153 .leaf .leaf)) (.node 156 ti156 (.node 155 ti155 .leaf .leaf) (.node 157 ti157 .leaf .leaf)))))))
def tt : Nat → Option TI := tree.look
theorem tyfit1 : Fits Tryd.prog 1 ti1 := fits_mk (vs := [.nilFunc]) ⟨_, _, _, Tryd.underlying1⟩ Tryd.underlying1 rfl (by decide) rfl (by kernel_rfl) rfl rfl rfl (fun h => by cases h)
theorem tyfit2 : Fits Tryd.prog 2 ti2 := fits_mk (vs := [.int .i64 0]) Tryd.underlying2 Tryd.underlying2 rfl (by decide) rfl (by kernel_rfl) rfl rfl rfl (fun h => by cases h)
theorem tyfit3 : Fits Tryd.prog 3 ti3 := fits_mk (vs := [.int .i64 0]) Tryd.underlying3 Tryd.underlying3 rfl (by decide) rfl (by kernel_rfl) rfl rfl rfl (fun h => by cases h)
theorem tyfit4 : Fits Tryd.prog 4 ti4 := fits_mk (vs := [.bool false]) Tryd.underlying4 Tryd.underlying4 rfl (by decide) rfl (by kernel_rfl) rfl rfl rfl (fun h => by cases h)
theorem tyfit5 : Fits Tryd.prog 5 ti5 := fits_mk (vs := [.int .u8 0]) Tryd.underlying5 Tryd.underlying5 rfl (by decide) rfl (by kernel_rfl) rfl rfl rfl (fun h => by cases h)
theorem tyfit6 : Fits Tryd.prog 6 ti6 := fits_mk (vs := [.int .u8 0]) Tryd.underlying6 Tryd.underlying6 rfl (by decide) rfl (by kernel_rfl) rfl rfl rfl (fun h => by cases h)
theorem tyfit7 : Fits Tryd.prog 7 ti7 := fits_mk (vs := [.int .i64 0, .int .i64 0, .bool false, .int .u8 0]) ⟨_, Tryd.underlying7, rfl, by kernel_rfl⟩ Tryd.underlying7 rfl (by decide) rfl (by kernel_rfl) rfl rfl rfl (fun _ => ⟨by kernel_rfl, by kernel_rfl, by kernel_rfl⟩)
theorem tyfit8 : Fits Tryd.prog 8 ti8 := fits_mk (vs := [.int .i64 0, .int .i64 0, .bool false, .int .u8 0]) ⟨_, Tryd.underlying8, rfl, by kernel_rfl⟩ Tryd.underlying8 rfl (by decide) rfl (by kernel_rfl) rfl rfl rfl (fun h => by cases h)
theorem tyfit9 : Fits Tryd.prog 9 ti9 := fits_mk (vs := [.string ByteArray.empty]) Tryd.underlying9 Tryd.underlying9 rfl (by decide) rfl (by kernel_rfl) rfl rfl rfl (fun h => by cases h)
theorem tyfit10 : Fits Tryd.prog 10 ti10 := fits_mk (vs := [.string ByteArray.empty]) Tryd.underlying10 Tryd.underlying10 rfl (by decide) rfl (by kernel_rfl) rfl rfl rfl (fun h => by cases h)
theorem tyfit11 : Fits Tryd.prog 11 ti11 := fits_mk (vs := [.string ByteArray.empty]) Tryd.underlying11 Tryd.underlying11 rfl (by decide) rfl (by kernel_rfl) rfl rfl rfl (fun h => by cases h)
theorem tyfit12 : Fits Tryd.prog 12 ti12 := fits_mk (vs := [.int .u64 0]) Tryd.underlying12 Tryd.underlying12 rfl (by decide) rfl (by kernel_rfl) rfl rfl rfl (fun h => by cases h)
theorem tyfit13 : Fits Tryd.prog 13 ti13 := fits_mk (vs := [.string ByteArray.empty, .int .u64 0]) ⟨_, Tryd.underlying13, rfl, by kernel_rfl⟩ Tryd.underlying13 rfl (by decide) rfl (by kernel_rfl) rfl rfl rfl (fun h => by cases h)
theorem tyfit14 : Fits Tryd.prog 14 ti14 := fits_mk (vs := [.string ByteArray.empty, .int .u64 0]) ⟨_, Tryd.underlying14, rfl, by kernel_rfl⟩ Tryd.underlying14 rfl (by decide) rfl (by kernel_rfl) rfl rfl rfl (fun h => by cases h)
theorem tyfit15 : Fits Tryd.prog 15 ti15 := fits_mk (vs := [.pointer none]) Tryd.underlying15 Tryd.underlying15 rfl (by decide) rfl (by kernel_rfl) rfl rfl rfl (fun h => by cases h)
theorem tyfit16 : Fits Tryd.prog 16 ti16 := fits_mk (vs := [.pointer none]) Tryd.underlying16 Tryd.underlying16 rfl (by decide) rfl (by kernel_rfl) rfl rfl rfl (fun h => by cases h)
theorem tyfit17 : Fits Tryd.prog 17 ti17 := fits_mk (vs := [.pointer none]) Tryd.underlying17 Tryd.underlying17 rfl (by decide) rfl (by kernel_rfl) rfl rfl rfl (fun h => by cases h)
theorem tyfit18 : Fits Tryd.prog 18 ti18 := fits_mk (vs := [.pointer none]) ⟨_, Tryd.underlying18, rfl, by kernel_rfl⟩ Tryd.underlying18 rfl (by decide) rfl (by kernel_rfl) rfl rfl rfl (fun h => by cases h)
theorem tyfit19 : Fits Tryd.prog 19 ti19 := fits_mk (vs := [.pointer none]) ⟨_, Tryd.underlying19, rfl, by kernel_rfl⟩ Tryd.underlying19 rfl (by decide) rfl (by kernel_rfl) rfl rfl rfl (fun h => by cases h)
theorem tyfit20 : Fits Tryd.prog 20 ti20 := fits_mk (vs := [.nilIface]) ⟨_, Tryd.underlying20⟩ Tryd.underlying20 rfl (by decide) rfl (by kernel_rfl) rfl rfl rfl (fun h => by cases h)
theorem tyfit21 : Fits Tryd.prog 21 ti21 := fits_mk (vs := [.int .i32 0]) Tryd.underlying21 Tryd.underlying21 rfl (by decide) rfl (by kernel_rfl) rfl rfl rfl (fun h => by cases h)
theorem tyfit22 : Fits Tryd.prog 22 ti22 := fits_mk (vs := [.slice none 0 0]) Tryd.underlying22 Tryd.underlying22 rfl (by decide) rfl (by kernel_rfl) rfl rfl rfl (fun h => by cases h)
theorem tyfit23 : Fits Tryd.prog 23 ti23 := fits_mk (vs := [.nilFunc]) ⟨_, _, _, Tryd.underlying23⟩ Tryd.underlying23 rfl (by decide) rfl (by kernel_rfl) rfl rfl rfl (fun h => by cases h)
theorem tyfit24 : Fits Tryd.prog 24 ti24 := fits_mk (vs := [.slice none 0 0]) Tryd.underlying24 Tryd.underlying24 rfl (by decide) rfl (by kernel_rfl) rfl rfl rfl (fun h => by cases h)
theorem tyfit25 : Fits Tryd.prog 25 ti25 := fits_mk (vs := [.int .i64 0]) Tryd.underlying25 Tryd.underlying25 rfl (by decide) rfl (by kernel_rfl) rfl rfl rfl (fun h => by cases h)
theorem tyfit27 : Fits Tryd.prog 27 ti27 := fits_mk (vs := [.nilFunc]) ⟨_, _, _, Tryd.underlying27⟩ Tryd.underlying27 rfl (by decide) rfl (by kernel_rfl) rfl rfl rfl (fun h => by cases h)
theorem tyfit28 : Fits Tryd.prog 28 ti28 := fits_mk (vs := []) ⟨_, Tryd.underlying28, rfl, by kernel_rfl⟩ Tryd.underlying28 rfl (by decide) rfl (by kernel_rfl) rfl rfl rfl (fun _ => ⟨by kernel_rfl, by kernel_rfl, by kernel_rfl⟩)
theorem tyfit29 : Fits Tryd.prog 29 ti29 := fits_mk (vs := []) ⟨_, Tryd.underlying29, rfl, by kernel_rfl⟩ Tryd.underlying29 rfl (by decide) rfl (by kernel_rfl) rfl rfl rfl (fun _ => ⟨by kernel_rfl, by kernel_rfl, by kernel_rfl⟩)
theorem tyfit30 : Fits Tryd.prog 30 ti30 := fits_mk (vs := [.nilFunc]) ⟨_, _, _, Tryd.underlying30⟩ Tryd.underlying30 rfl (by decide) rfl (by kernel_rfl) rfl rfl rfl (fun h => by cases h)
theorem tyfit31 : Fits Tryd.prog 31 ti31 := fits_mk (vs := [.nilFunc]) ⟨_, _, _, Tryd.underlying31⟩ Tryd.underlying31 rfl (by decide) rfl (by kernel_rfl) rfl rfl rfl (fun h => by cases h)
theorem tyfit32 : Fits Tryd.prog 32 ti32 := fits_mk (vs := [.nilFunc]) ⟨_, _, _, Tryd.underlying32⟩ Tryd.underlying32 rfl (by decide) rfl (by kernel_rfl) rfl rfl rfl (fun h => by cases h)
theorem tyfit34 : Fits Tryd.prog 34 ti34 := fits_mk (vs := [.nilFunc]) ⟨_, _, _, Tryd.underlying34⟩ Tryd.underlying34 rfl (by decide) rfl (by kernel_rfl) rfl rfl rfl (fun h => by cases h)
theorem tyfit35 : Fits Tryd.prog 35 ti35 := fits_mk (vs := [.nilFunc]) ⟨_, _, _, Tryd.underlying35⟩ Tryd.underlying35 rfl (by decide) rfl (by kernel_rfl) rfl rfl rfl (fun h => by cases h)
theorem tyfit36 : Fits Tryd.prog 36 ti36 := fits_mk (vs := [.nilFunc]) ⟨_, _, _, Tryd.underlying36⟩ Tryd.underlying36 rfl (by decide) rfl (by kernel_rfl) rfl rfl rfl (fun h => by cases h)
theorem tyfit38 : Fits Tryd.prog 38 ti38 := fits_mk (vs := [.nilFunc]) ⟨_, _, _, Tryd.underlying38⟩ Tryd.underlying38 rfl (by decide) rfl (by kernel_rfl) rfl rfl rfl (fun h => by cases h)
theorem tyfit39 : Fits Tryd.prog 39 ti39 := fits_mk (vs := [.nilFunc]) ⟨_, _, _, Tryd.underlying39⟩ Tryd.underlying39 rfl (by decide) rfl (by kernel_rfl) rfl rfl rfl (fun h => by cases h)
theorem tyfit40 : Fits Tryd.prog 40 ti40 := fits_mk (vs := [.slice none 0 0]) Tryd.underlying40 Tryd.underlying40 rfl (by decide) rfl (by kernel_rfl) rfl rfl rfl (fun h => by cases h)
theorem tyfit41 : Fits Tryd.prog 41 ti41 := fits_mk (vs := [.nilFunc]) ⟨_, _, _, Tryd.underlying41⟩ Tryd.underlying41 rfl (by decide) rfl (by kernel_rfl) rfl rfl rfl (fun h => by cases h)
theorem tyfit42 : Fits Tryd.prog 42 ti42 := fits_mk (vs := [.nilFunc]) ⟨_, _, _, Tryd.underlying42⟩ Tryd.underlying42 rfl (by decide) rfl (by kernel_rfl) rfl rfl rfl (fun h => by cases h)
theorem tyfit43 : Fits Tryd.prog 43 ti43 := fits_mk (vs := [.int .i8 0]) Tryd.underlying43 Tryd.underlying43 rfl (by decide) rfl (by kernel_rfl) rfl rfl rfl (fun h => by cases h)
theorem tyfit44 : Fits Tryd.prog 44 ti44 := fits_mk (vs := [.nilFunc]) ⟨_, _, _, Tryd.underlying44⟩ Tryd.underlying44 rfl (by decide) rfl (by kernel_rfl) rfl rfl rfl (fun h => by cases h)
theorem tyfit45 : Fits Tryd.prog 45 ti45 := fits_mk (vs := [.string ByteArray.empty, .string ByteArray.empty, .string ByteArray.empty, .string ByteArray.empty]) Tryd.underlying45 Tryd.underlying45 rfl (by decide) rfl (by kernel_rfl) rfl rfl rfl (fun h => by cases h)
theorem tyfit46 : Fits Tryd.prog 46 ti46 := fits_mk (vs := [.int .u8 0, .int .u8 0, .int .u8 0, .int .i8 0, .int .i8 0]) ⟨_, Tryd.underlying46, rfl, by kernel_rfl⟩ Tryd.underlying46 rfl (by decide) rfl (by kernel_rfl) rfl rfl rfl (fun _ => ⟨by kernel_rfl, by kernel_rfl, by kernel_rfl⟩)
theorem tyfit47 : Fits Tryd.prog 47 ti47 := fits_mk (vs := [.int .u8 0, .int .u8 0, .int .u8 0, .int .i8 0, .int .i8 0]) ⟨_, Tryd.underlying47, rfl, by kernel_rfl⟩ Tryd.underlying47 rfl (by decide) rfl (by kernel_rfl) rfl rfl rfl (fun _ => ⟨by kernel_rfl, by kernel_rfl, by kernel_rfl⟩)
theorem tyfit48 : Fits Tryd.prog 48 ti48 := fits_mk (vs := [.slice none 0 0]) Tryd.underlying48 Tryd.underlying48 rfl (by decide) rfl (by kernel_rfl) rfl rfl rfl (fun h => by cases h)
theorem tyfit49 : Fits Tryd.prog 49 ti49 := fits_mk (vs := [.string ByteArray.empty, .slice none 0 0]) ⟨_, Tryd.underlying49, rfl, by kernel_rfl⟩ Tryd.underlying49 rfl (by decide) rfl (by kernel_rfl) rfl rfl rfl (fun h => by cases h)
theorem tyfit50 : Fits Tryd.prog 50 ti50 := fits_mk (vs := [.string ByteArray.empty, .slice none 0 0]) ⟨_, Tryd.underlying50, rfl, by kernel_rfl⟩ Tryd.underlying50 rfl (by decide) rfl (by kernel_rfl) rfl rfl rfl (fun h => by cases h)
theorem tyfit51 : Fits Tryd.prog 51 ti51 := fits_mk (vs := [.int .i64 0, .int .i64 0]) ⟨_, Tryd.underlying51, rfl, by kernel_rfl⟩ Tryd.underlying51 rfl (by decide) rfl (by kernel_rfl) rfl rfl rfl (fun _ => ⟨by kernel_rfl, by kernel_rfl, by kernel_rfl⟩)
theorem tyfit52 : Fits Tryd.prog 52 ti52 := fits_mk (vs := [.int .i64 0, .int .i64 0]) ⟨_, Tryd.underlying52, rfl, by kernel_rfl⟩ Tryd.underlying52 rfl (by decide) rfl (by kernel_rfl) rfl rfl rfl (fun _ => ⟨by kernel_rfl, by kernel_rfl, by kernel_rfl⟩)
theorem tyfit54 : Fits Tryd.prog 54 ti54 := fits_mk (vs := [.nilFunc]) ⟨_, _, _, Tryd.underlying54⟩ Tryd.underlying54 rfl (by decide) rfl (by kernel_rfl) rfl rfl rfl (fun h => by cases h)
theorem tyfit55 : Fits Tryd.prog 55 ti55 := fits_mk (vs := [.int .i64 0, .int .i64 0, .int .i64 0, .string ByteArray.empty, .slice none 0 0, .int .i64 0, .int .i64 0]) ⟨_, Tryd.underlying55, rfl, by kernel_rfl⟩ Tryd.underlying55 rfl (by decide) rfl (by kernel_rfl) rfl rfl rfl (fun h => by cases h)
theorem tyfit56 : Fits Tryd.prog 56 ti56 := fits_mk (vs := [.int .i64 0, .int .i64 0, .int .i64 0, .string ByteArray.empty, .slice none 0 0, .int .i64 0, .int .i64 0]) ⟨_, Tryd.underlying56, rfl, by kernel_rfl⟩ Tryd.underlying56 rfl (by decide) rfl (by kernel_rfl) rfl rfl rfl (fun h => by cases h)
theorem tyfit57 : Fits Tryd.prog 57 ti57 := fits_mk (vs := [.nilFunc]) ⟨_, _, _, Tryd.underlying57⟩ Tryd.underlying57 rfl (by decide) rfl (by kernel_rfl) rfl rfl rfl (fun h => by cases h)
theorem tyfit58 : Fits Tryd.prog 58 ti58 := fits_mk (vs := [.nilFunc]) ⟨_, _, _, Tryd.underlying58⟩ Tryd.underlying58 rfl (by decide) rfl (by kernel_rfl) rfl rfl rfl (fun h => by cases h)
theorem tyfit59 : Fits Tryd.prog 59 ti59 := fits_mk (vs := [.nilFunc]) ⟨_, _, _, Tryd.underlying59⟩ Tryd.underlying59 rfl (by decide) rfl (by kernel_rfl) rfl rfl rfl (fun h => by cases h)
theorem tyfit60 : Fits Tryd.prog 60 ti60 := fits_mk (vs := [.nilFunc]) ⟨_, _, _, Tryd.underlying60⟩ Tryd.underlying60 rfl (by decide) rfl (by kernel_rfl) rfl rfl rfl (fun h => by cases h)
theorem tyfit61 : Fits Tryd.prog 61 ti61 := fits_mk (vs := [.nilFunc]) ⟨_, _, _, Tryd.underlying61⟩ Tryd.underlying61 rfl (by decide) rfl (by kernel_rfl) rfl rfl rfl (fun h => by cases h)
theorem tyfit62 : Fits Tryd.prog 62 ti62 := fits_mk (vs := [.nilFunc]) ⟨_, _, _, Tryd.underlying62⟩ Tryd.underlying62 rfl (by decide) rfl (by kernel_rfl) rfl rfl rfl (fun h => by cases h)
theorem tyfit63 : Fits Tryd.prog 63 ti63 := fits_mk (vs := [.nilIface]) ⟨_, Tryd.underlying63⟩ Tryd.underlying63 rfl (by decide) rfl (by kernel_rfl) rfl rfl rfl (fun h => by cases h)
theorem tyfit64 : Fits Tryd.prog 64 ti64 := fits_mk (vs := [.nilIface]) ⟨_, Tryd.underlying64⟩ Tryd.underlying64 rfl (by decide) rfl (by kernel_rfl) rfl rfl rfl (fun h => by cases h)
theorem tyfit65 : Fits Tryd.prog 65 ti65 := fits_mk (vs := [.nilFunc]) ⟨_, _, _, Tryd.underlying65⟩ Tryd.underlying65 rfl (by decide) rfl (by kernel_rfl) rfl rfl rfl (fun h => by cases h)
theorem tyfit66 : Fits Tryd.prog 66 ti66 := fits_mk (vs := [.nilFunc]) ⟨_, _, _, Tryd.underlying66⟩ Tryd.underlying66 rfl (by decide) rfl (by kernel_rfl) rfl rfl rfl (fun h => by cases h)
theorem tyfit67 : Fits Tryd.prog 67 ti67 := fits_mk (vs := [.int .i64 0, .int .i64 0, .int .i64 0, .int .i64 0, .int .i64 0, .int .i64 0, .int .i64 0, .int .i64 0, .int .i64 0]) Tryd.underlying67 Tryd.underlying67 rfl (by decide) rfl (by kernel_rfl) rfl rfl rfl (fun h => by cases h)
theorem tyfit68 : Fits Tryd.prog 68 ti68 := fits_mk (vs := [.bool false, .bool false, .bool false, .bool false, .bool false, .bool false, .bool false, .bool false, .bool false]) Tryd.underlying68 Tryd.underlying68 rfl (by decide) rfl (by kernel_rfl) rfl rfl rfl (fun h => by cases h)
theorem tyfit69 : Fits Tryd.prog 69 ti69 := fits_mk (vs := [.nilFunc]) ⟨_, _, _, Tryd.underlying69⟩ Tryd.underlying69 rfl (by decide) rfl (by kernel_rfl) rfl rfl rfl (fun h => by cases h)
theorem tyfit70 : Fits Tryd.prog 70 ti70 := fits_mk (vs := [.map none]) Tryd.underlying70 Tryd.underlying70 rfl (by decide) rfl (by kernel_rfl) rfl rfl rfl (fun h => by cases h)
theorem tyfit71 : Fits Tryd.prog 71 ti71 := fits_mk (vs := [.nilFunc]) ⟨_, _, _, Tryd.underlying71⟩ Tryd.underlying71 rfl (by decide) rfl (by kernel_rfl) rfl rfl rfl (fun h => by cases h)
theorem tyfit72 : Fits Tryd.prog 72 ti72 := fits_mk (vs := [.int .i64 0, .int .i64 0, .int .i64 0, .int .i64 0]) Tryd.underlying72 Tryd.underlying72 rfl (by decide) rfl (by kernel_rfl) rfl rfl rfl (fun h => by cases h)
theorem tyfit73 : Fits Tryd.prog 73 ti73 := fits_mk (vs := [.string ByteArray.empty, .slice none 0 0, .string ByteArray.empty, .slice none 0 0, .string ByteArray.empty, .slice none 0 0, .string ByteArray.empty, .slice none 0 0]) Tryd.underlying73 Tryd.underlying73 rfl (by decide) rfl (by kernel_rfl) rfl rfl rfl (fun h => by cases h)
theorem tyfit74 : Fits Tryd.prog 74 ti74 := fits_mk (vs := [.int .i64 0, .int .i64 0, .int .i64 0, .int .i64 0, .int .i64 0, .int .i64 0, .int .i64 0, .int .i64 0]) Tryd.underlying74 Tryd.underlying74 rfl (by decide) rfl (by kernel_rfl) rfl rfl rfl (fun h => by cases h)
theorem tyfit75 : Fits Tryd.prog 75 ti75 := fits_mk (vs := [.bool false, .bool false, .bool false, .bool false]) Tryd.underlying75 Tryd.underlying75 rfl (by decide) rfl (by kernel_rfl) rfl rfl rfl (fun h => by cases h)
theorem tyfit76 : Fits Tryd.prog 76 ti76 := fits_mk (vs := [.nilIface]) ⟨_, Tryd.underlying76⟩ Tryd.underlying76 rfl (by decide) rfl (by kernel_rfl) rfl rfl rfl (fun h => by cases h)
theorem tyfit77 : Fits Tryd.prog 77 ti77 := fits_mk (vs := [.nilIface]) ⟨_, Tryd.underlying77⟩ Tryd.underlying77 rfl (by decide) rfl (by kernel_rfl) rfl rfl rfl (fun h => by cases h)
theorem tyfit79 : Fits Tryd.prog 79 ti79 := fits_mk (vs := [.nilFunc]) ⟨_, _, _, Tryd.underlying79⟩ Tryd.underlying79 rfl (by decide) rfl (by kernel_rfl) rfl rfl rfl (fun h => by cases h)
theorem tyfit81 : Fits Tryd.prog 81 ti81 := fits_mk (vs := [.nilFunc]) ⟨_, _, _, Tryd.underlying81⟩ Tryd.underlying81 rfl (by decide) rfl (by kernel_rfl) rfl rfl rfl (fun h => by cases h)
theorem tyfit82 : Fits Tryd.prog 82 ti82 := fits_mk (vs := [.nilFunc]) ⟨_, _, _, Tryd.underlying82⟩ Tryd.underlying82 rfl (by decide) rfl (by kernel_rfl) rfl rfl rfl (fun h => by cases h)
theorem tyfit83 : Fits Tryd.prog 83 ti83 := fits_mk (vs := [.pointer none]) Tryd.underlying83 Tryd.underlying83 rfl (by decide) rfl (by kernel_rfl) rfl rfl rfl (fun h => by cases h)
theorem tyfit84 : Fits Tryd.prog 84 ti84 := fits_mk (vs := [.slice none 0 0]) Tryd.underlying84 Tryd.underlying84 rfl (by decide) rfl (by kernel_rfl) rfl rfl rfl (fun h => by cases h)
theorem tyfit85 : Fits Tryd.prog 85 ti85 := fits_mk (vs := [.nilFunc]) ⟨_, _, _, Tryd.underlying85⟩ Tryd.underlying85 rfl (by decide) rfl (by kernel_rfl) rfl rfl rfl (fun h => by cases h)
theorem tyfit86 : Fits Tryd.prog 86 ti86 := fits_mk (vs := [.map none]) Tryd.underlying86 Tryd.underlying86 rfl (by decide) rfl (by kernel_rfl) rfl rfl rfl (fun h => by cases h)
theorem tyfit87 : Fits Tryd.prog 87 ti87 := fits_mk (vs := [.nilIface, .slice none 0 0, .map none]) ⟨_, Tryd.underlying87, rfl, by kernel_rfl⟩ Tryd.underlying87 rfl (by decide) rfl (by kernel_rfl) rfl rfl rfl (fun h => by cases h)
theorem tyfit88 : Fits Tryd.prog 88 ti88 := fits_mk (vs := [.nilIface, .slice none 0 0, .map none]) ⟨_, Tryd.underlying88, rfl, by kernel_rfl⟩ Tryd.underlying88 rfl (by decide) rfl (by kernel_rfl) rfl rfl rfl (fun h => by cases h)
theorem tyfit89 : Fits Tryd.prog 89 ti89 := fits_mk (vs := [.slice none 0 0]) Tryd.underlying89 Tryd.underlying89 rfl (by decide) rfl (by kernel_rfl) rfl rfl rfl (fun h => by cases h)
theorem tyfit90 : Fits Tryd.prog 90 ti90 := fits_mk (vs := [.nilFunc]) ⟨_, _, _, Tryd.underlying90⟩ Tryd.underlying90 rfl (by decide) rfl (by kernel_rfl) rfl rfl rfl (fun h => by cases h)
theorem tyfit91 : Fits Tryd.prog 91 ti91 := fits_mk (vs := [.int .i64 0, .int .i64 0, .string ByteArray.empty, .slice none 0 0, .bool false, .int .i64 0, .int .i64 0]) ⟨_, Tryd.underlying91, rfl, by kernel_rfl⟩ Tryd.underlying91 rfl (by decide) rfl (by kernel_rfl) rfl rfl rfl (fun h => by cases h)
theorem tyfit92 : Fits Tryd.prog 92 ti92 := fits_mk (vs := [.int .i64 0, .int .i64 0, .string ByteArray.empty, .slice none 0 0, .bool false, .int .i64 0, .int .i64 0]) ⟨_, Tryd.underlying92, rfl, by kernel_rfl⟩ Tryd.underlying92 rfl (by decide) rfl (by kernel_rfl) rfl rfl rfl (fun h => by cases h)
theorem tyfit93 : Fits Tryd.prog 93 ti93 := fits_mk (vs := [.nilFunc]) ⟨_, _, _, Tryd.underlying93⟩ Tryd.underlying93 rfl (by decide) rfl (by kernel_rfl) rfl rfl rfl (fun h => by cases h)
theorem tyfit94 : Fits Tryd.prog 94 ti94 := fits_mk (vs := [.nilFunc]) ⟨_, _, _, Tryd.underlying94⟩ Tryd.underlying94 rfl (by decide) rfl (by kernel_rfl) rfl rfl rfl (fun h => by cases h)
theorem tyfit95 : Fits Tryd.prog 95 ti95 := fits_mk (vs := [.nilFunc]) ⟨_, _, _, Tryd.underlying95⟩ Tryd.underlying95 rfl (by decide) rfl (by kernel_rfl) rfl rfl rfl (fun h => by cases h)
theorem tyfit96 : Fits Tryd.prog 96 ti96 := fits_mk (vs := [.nilFunc]) ⟨_, _, _, Tryd.underlying96⟩ Tryd.underlying96 rfl (by decide) rfl (by kernel_rfl) rfl rfl rfl (fun h => by cases h)
theorem tyfit98 : Fits Tryd.prog 98 ti98 := fits_mk (vs := [.nilFunc]) ⟨_, _, _, Tryd.underlying98⟩ Tryd.underlying98 rfl (by decide) rfl (by kernel_rfl) rfl rfl rfl (fun h => by cases h)
theorem tyfit99 : Fits Tryd.prog 99 ti99 := fits_mk (vs := [.nilFunc]) ⟨_, _, _, Tryd.underlying99⟩ Tryd.underlying99 rfl (by decide) rfl (by kernel_rfl) rfl rfl rfl (fun h => by cases h)
theorem tyfit100 : Fits Tryd.prog 100 ti100 := fits_mk (vs := [.bool false, .bool false, .int .i64 0]) ⟨_, Tryd.underlying100, rfl, by kernel_rfl⟩ Tryd.underlying100 rfl (by decide) rfl (by kernel_rfl) rfl rfl rfl (fun _ => ⟨by kernel_rfl, by kernel_rfl, by kernel_rfl⟩)
theorem tyfit101 : Fits Tryd.prog 101 ti101 := fits_mk (vs := [.bool false, .bool false, .int .i64 0]) ⟨_, Tryd.underlying101, rfl, by kernel_rfl⟩ Tryd.underlying101 rfl (by decide) rfl (by kernel_rfl) rfl rfl rfl (fun _ => ⟨by kernel_rfl, by kernel_rfl, by kernel_rfl⟩)
theorem tyfit102 : Fits Tryd.prog 102 ti102 := fits_mk (vs := [.nilFunc]) ⟨_, _, _, Tryd.underlying102⟩ Tryd.underlying102 rfl (by decide) rfl (by kernel_rfl) rfl rfl rfl (fun h => by cases h)
theorem tyfit103 : Fits Tryd.prog 103 ti103 := fits_mk (vs := [.int .i64 0, .int .i64 0]) Tryd.underlying103 Tryd.underlying103 rfl (by decide) rfl (by kernel_rfl) rfl rfl rfl (fun h => by cases h)
theorem tyfit104 : Fits Tryd.prog 104 ti104 := fits_mk (vs := [.map none]) Tryd.underlying104 Tryd.underlying104 rfl (by decide) rfl (by kernel_rfl) rfl rfl rfl (fun h => by cases h)
theorem tyfit105 : Fits Tryd.prog 105 ti105 := fits_mk (vs := [.pointer none]) Tryd.underlying105 Tryd.underlying105 rfl (by decide) rfl (by kernel_rfl) rfl rfl rfl (fun h => by cases h)
theorem tyfit106 : Fits Tryd.prog 106 ti106 := fits_mk (vs := [.string ByteArray.empty, .string ByteArray.empty]) ⟨_, Tryd.underlying106, rfl, by kernel_rfl⟩ Tryd.underlying106 rfl (by decide) rfl (by kernel_rfl) rfl rfl rfl (fun _ => ⟨by kernel_rfl, by kernel_rfl, by kernel_rfl⟩)
theorem tyfit107 : Fits Tryd.prog 107 ti107 := fits_mk (vs := [.string ByteArray.empty, .string ByteArray.empty]) ⟨_, Tryd.underlying107, rfl, by kernel_rfl⟩ Tryd.underlying107 rfl (by decide) rfl (by kernel_rfl) rfl rfl rfl (fun _ => ⟨by kernel_rfl, by kernel_rfl, by kernel_rfl⟩)
theorem tyfit108 : Fits Tryd.prog 108 ti108 := fits_mk (vs := [.nilFunc]) ⟨_, _, _, Tryd.underlying108⟩ Tryd.underlying108 rfl (by decide) rfl (by kernel_rfl) rfl rfl rfl (fun h => by cases h)
theorem tyfit109 : Fits Tryd.prog 109 ti109 := fits_mk (vs := [.nilFunc]) ⟨_, _, _, Tryd.underlying109⟩ Tryd.underlying109 rfl (by decide) rfl (by kernel_rfl) rfl rfl rfl (fun h => by cases h)
theorem tyfit110 : Fits Tryd.prog 110 ti110 := fits_mk (vs := [.nilFunc]) ⟨_, _, _, Tryd.underlying110⟩ Tryd.underlying110 rfl (by decide) rfl (by kernel_rfl) rfl rfl rfl (fun h => by cases h)
theorem tyfit111 : Fits Tryd.prog 111 ti111 := fits_mk (vs := [.int .i64 0]) Tryd.underlying111 Tryd.underlying111 rfl (by decide) rfl (by kernel_rfl) rfl rfl rfl (fun h => by cases h)
theorem tyfit112 : Fits Tryd.prog 112 ti112 := fits_mk (vs := [.int .u64 0]) Tryd.underlying112 Tryd.underlying112 rfl (by decide) rfl (by kernel_rfl) rfl rfl rfl (fun h => by cases h)
theorem tyfit114 : Fits Tryd.prog 114 ti114 := fits_mk (vs := [.nilFunc]) ⟨_, _, _, Tryd.underlying114⟩ Tryd.underlying114 rfl (by decide) rfl (by kernel_rfl) rfl rfl rfl (fun h => by cases h)
theorem tyfit115 : Fits Tryd.prog 115 ti115 := fits_mk (vs := [.int .u64 0]) Tryd.underlying115 Tryd.underlying115 rfl (by decide) rfl (by kernel_rfl) rfl rfl rfl (fun h => by cases h)
theorem tyfit116 : Fits Tryd.prog 116 ti116 := fits_mk (vs := [.pointer none]) Tryd.underlying116 Tryd.underlying116 rfl (by decide) rfl (by kernel_rfl) rfl rfl rfl (fun h => by cases h)
theorem tyfit117 : Fits Tryd.prog 117 ti117 := fits_mk (vs := [.nilFunc]) ⟨_, _, _, Tryd.underlying117⟩ Tryd.underlying117 rfl (by decide) rfl (by kernel_rfl) rfl rfl rfl (fun h => by cases h)
theorem tyfit118 : Fits Tryd.prog 118 ti118 := fits_mk (vs := [.nilFunc]) ⟨_, _, _, Tryd.underlying118⟩ Tryd.underlying118 rfl (by decide) rfl (by kernel_rfl) rfl rfl rfl (fun h => by cases h)
theorem tyfit119 : Fits Tryd.prog 119 ti119 := fits_mk (vs := [.int .u8 0, .int .u8 0, .int .u8 0, .int .u8 0, .int .u8 0, .int .u8 0, .int .u8 0, .int .u8 0, .int .u8 0, .int .u8 0, .int .u8 0, .int .u8 0, .int .u8 0, .int .u8 0, .int .u8 0, .int .u8 0, .int .u8 0, .int .u8 0, .int .u8 0, .int .u8 0, .int .u8 0, .int .u8 0, .int .u8 0, .int .u8 0]) Tryd.underlying119 Tryd.underlying119 rfl (by decide) rfl (by kernel_rfl) rfl rfl rfl (fun h => by cases h)
theorem tyfit120 : Fits Tryd.prog 120 ti120 := fits_mk (vs := [.nilFunc]) ⟨_, _, _, Tryd.underlying120⟩ Tryd.underlying120 rfl (by decide) rfl (by kernel_rfl) rfl rfl rfl (fun h => by cases h)
theorem tyfit121 : Fits Tryd.prog 121 ti121 := fits_mk (vs := [.nilFunc]) ⟨_, _, _, Tryd.underlying121⟩ Tryd.underlying121 rfl (by decide) rfl (by kernel_rfl) rfl rfl rfl (fun h => by cases h)
theorem tyfit122 : Fits Tryd.prog 122 ti122 := fits_mk (vs := [.slice none 0 0]) Tryd.underlying122 Tryd.underlying122 rfl (by decide) rfl (by kernel_rfl) rfl rfl rfl (fun h => by cases h)
theorem tyfit124 : Fits Tryd.prog 124 ti124 := fits_mk (vs := [.nilFunc]) ⟨_, _, _, Tryd.underlying124⟩ Tryd.underlying124 rfl (by decide) rfl (by kernel_rfl) rfl rfl rfl (fun h => by cases h)
theorem tyfit125 : Fits Tryd.prog 125 ti125 := fits_mk (vs := [.nilFunc]) ⟨_, _, _, Tryd.underlying125⟩ Tryd.underlying125 rfl (by decide) rfl (by kernel_rfl) rfl rfl rfl (fun h => by cases h)
theorem tyfit126 : Fits Tryd.prog 126 ti126 := fits_mk (vs := [.nilFunc]) ⟨_, _, _, Tryd.underlying126⟩ Tryd.underlying126 rfl (by decide) rfl (by kernel_rfl) rfl rfl rfl (fun h => by cases h)
theorem tyfit127 : Fits Tryd.prog 127 ti127 := fits_mk (vs := [.nilFunc]) ⟨_, _, _, Tryd.underlying127⟩ Tryd.underlying127 rfl (by decide) rfl (by kernel_rfl) rfl rfl rfl (fun h => by cases h)
theorem tyfit128 : Fits Tryd.prog 128 ti128 := fits_mk (vs := [.string ByteArray.empty, .string ByteArray.empty, .nilIface]) ⟨_, Tryd.underlying128, rfl, by kernel_rfl⟩ Tryd.underlying128 rfl (by decide) rfl (by kernel_rfl) rfl rfl rfl (fun h => by cases h)
theorem tyfit129 : Fits Tryd.prog 129 ti129 := fits_mk (vs := [.string ByteArray.empty, .string ByteArray.empty, .nilIface]) ⟨_, Tryd.underlying129, rfl, by kernel_rfl⟩ Tryd.underlying129 rfl (by decide) rfl (by kernel_rfl) rfl rfl rfl (fun h => by cases h)
theorem tyfit130 : Fits Tryd.prog 130 ti130 := fits_mk (vs := [.nilFunc]) ⟨_, _, _, Tryd.underlying130⟩ Tryd.underlying130 rfl (by decide) rfl (by kernel_rfl) rfl rfl rfl (fun h => by cases h)
theorem tyfit131 : Fits Tryd.prog 131 ti131 := fits_mk (vs := [.nilFunc]) ⟨_, _, _, Tryd.underlying131⟩ Tryd.underlying131 rfl (by decide) rfl (by kernel_rfl) rfl rfl rfl (fun h => by cases h)
theorem tyfit132 : Fits Tryd.prog 132 ti132 := fits_mk (vs := [.nilFunc]) ⟨_, _, _, Tryd.underlying132⟩ Tryd.underlying132 rfl (by decide) rfl (by kernel_rfl) rfl rfl rfl (fun h => by cases h)
theorem tyfit133 : Fits Tryd.prog 133 ti133 := fits_mk (vs := [.int .u64 0, .int .u64 0, .int .u64 0, .int .u64 0, .int .u64 0, .int .u64 0, .int .u64 0, .int .u64 0, .int .u64 0, .int .u64 0, .int .u64 0, .int .u64 0, .int .u64 0, .int .u64 0, .int .u64 0, .int .u64 0, .int .u64 0, .int .u64 0, .int .u64 0, .int .u64 0]) Tryd.underlying133 Tryd.underlying133 rfl (by decide) rfl (by kernel_rfl) rfl rfl rfl (fun h => by cases h)
theorem tyfit134 : Fits Tryd.prog 134 ti134 := fits_mk (vs := [.int .u32 0]) Tryd.underlying134 Tryd.underlying134 rfl (by decide) rfl (by kernel_rfl) rfl rfl rfl (fun h => by cases h)
theorem tyfit136 : Fits Tryd.prog 136 ti136 := fits_mk (vs := [.nilFunc]) ⟨_, _, _, Tryd.underlying136⟩ Tryd.underlying136 rfl (by decide) rfl (by kernel_rfl) rfl rfl rfl (fun h => by cases h)
theorem tyfit137 : Fits Tryd.prog 137 ti137 := fits_mk (vs := [.nilFunc]) ⟨_, _, _, Tryd.underlying137⟩ Tryd.underlying137 rfl (by decide) rfl (by kernel_rfl) rfl rfl rfl (fun h => by cases h)
theorem tyfit138 : Fits Tryd.prog 138 ti138 := fits_mk (vs := [.pointer none]) Tryd.underlying138 Tryd.underlying138 rfl (by decide) rfl (by kernel_rfl) rfl rfl rfl (fun h => by cases h)
theorem tyfit139 : Fits Tryd.prog 139 ti139 := fits_mk (vs := [.pointer none]) Tryd.underlying139 Tryd.underlying139 rfl (by decide) rfl (by kernel_rfl) rfl rfl rfl (fun h => by cases h)
theorem tyfit140 : Fits Tryd.prog 140 ti140 := fits_mk (vs := [.string ByteArray.empty]) ⟨_, Tryd.underlying140, rfl, by kernel_rfl⟩ Tryd.underlying140 rfl (by decide) rfl (by kernel_rfl) rfl rfl rfl (fun _ => ⟨by kernel_rfl, by kernel_rfl, by kernel_rfl⟩)
theorem tyfit141 : Fits Tryd.prog 141 ti141 := fits_mk (vs := [.string ByteArray.empty]) ⟨_, Tryd.underlying141, rfl, by kernel_rfl⟩ Tryd.underlying141 rfl (by decide) rfl (by kernel_rfl) rfl rfl rfl (fun _ => ⟨by kernel_rfl, by kernel_rfl, by kernel_rfl⟩)
theorem tyfit142 : Fits Tryd.prog 142 ti142 := fits_mk (vs := [.nilFunc]) ⟨_, _, _, Tryd.underlying142⟩ Tryd.underlying142 rfl (by decide) rfl (by kernel_rfl) rfl rfl rfl (fun h => by cases h)
theorem tyfit143 : Fits Tryd.prog 143 ti143 := fits_mk (vs := [.int .u8 0, .int .u8 0, .int .u8 0, .int .u8 0, .int .u8 0, .int .u8 0, .int .u8 0, .int .u8 0, .int .u8 0, .int .u8 0, .int .u8 0, .int .u8 0, .int .u8 0, .int .u8 0, .int .u8 0, .int .u8 0, .int .u8 0, .int .u8 0, .int .u8 0, .int .u8 0, .int .u8 0, .int .u8 0, .int .u8 0, .int .u8 0, .int .u8 0, .int .u8 0, .int .u8 0, .int .u8 0, .int .u8 0, .int .u8 0, .int .u8 0, .int .u8 0]) Tryd.underlying143 Tryd.underlying143 rfl (by decide) rfl (by kernel_rfl) rfl rfl rfl (fun h => by cases h)
theorem tyfit145 : Fits Tryd.prog 145 ti145 := fits_mk (vs := [.pointer none, .pointer none, .pointer none, .string ByteArray.empty]) ⟨_, Tryd.underlying145, rfl, by kernel_rfl⟩ Tryd.underlying145 rfl (by decide) rfl (by kernel_rfl) rfl rfl rfl (fun h => by cases h)
theorem tyfit146 : Fits Tryd.prog 146 ti146 := fits_mk (vs := [.pointer none, .pointer none, .pointer none, .string ByteArray.empty]) ⟨_, Tryd.underlying146, rfl, by kernel_rfl⟩ Tryd.underlying146 rfl (by decide) rfl (by kernel_rfl) rfl rfl rfl (fun h => by cases h)
theorem tyfit150 : Fits Tryd.prog 150 ti150 := fits_mk (vs := [.nilFunc]) ⟨_, _, _, Tryd.underlying150⟩ Tryd.underlying150 rfl (by decide) rfl (by kernel_rfl) rfl rfl rfl (fun h => by cases h)
theorem tyfit151 : Fits Tryd.prog 151 ti151 := fits_mk (vs := [.int .u8 0]) Tryd.underlying151 Tryd.underlying151 rfl (by decide) rfl (by kernel_rfl) rfl rfl rfl (fun h => by cases h)
theorem tyfit152 : Fits Tryd.prog 152 ti152 := fits_mk (vs := [.int .u8 0]) Tryd.underlying152 Tryd.underlying152 rfl (by decide) rfl (by kernel_rfl) rfl rfl rfl (fun h => by cases h)
theorem tyfit153 : Fits Tryd.prog 153 ti153 := fits_mk (vs := [.nilFunc]) ⟨_, _, _, Tryd.underlying153⟩ Tryd.underlying153 rfl (by decide) rfl (by kernel_rfl) rfl rfl rfl (fun h => by cases h)
theorem tyfit154 : Fits Tryd.prog 154 ti154 := fits_mk (vs := [.int .i32 0]) Tryd.underlying154 Tryd.underlying154 rfl (by decide) rfl (by kernel_rfl) rfl rfl rfl (fun h => by cases h)
theorem tyfit155 : Fits Tryd.prog 155 ti155 := fits_mk (vs := [.int .i32 0]) Tryd.underlying155 Tryd.underlying155 rfl (by decide) rfl (by kernel_rfl) rfl rfl rfl (fun h => by cases h)
theorem tyfit156 : Fits Tryd.prog 156 ti156 := fits_mk (vs := [.int .u64 0, .int .u64 0, .int .u32 0, .int .u8 0, .int .u8 0, .int .u8 0, .int .u8 0, .nilFunc, .pointer none, .int .i32 0, .int .i32 0]) ⟨_, Tryd.underlying156, rfl, by kernel_rfl⟩ Tryd.underlying156 rfl (by decide) rfl (by kernel_rfl) rfl rfl rfl (fun h => by cases h)
theorem tyfit157 : Fits Tryd.prog 157 ti157 := fits_mk (vs := [.int .u64 0, .int .u64 0, .int .u32 0, .int .u8 0, .int .u8 0, .int .u8 0, .int .u8 0, .nilFunc, .pointer none, .int .i32 0, .int .i32 0]) ⟨_, Tryd.underlying157, rfl, by kernel_rfl⟩ Tryd.underlying157 rfl (by decide) rfl (by kernel_rfl) rfl rfl rfl (fun h => by cases h)
theorem agrees : Agrees Tryd.prog tt := TTree.agrees (T := tree) ⟨tyfit76, ⟨tyfit39, ⟨tyfit18, ⟨tyfit9, ⟨tyfit5, ⟨tyfit3, ⟨tyfit2, ⟨tyfit1, trivial, trivial⟩, trivial⟩, ⟨tyfit4, trivial, trivial⟩⟩, ⟨tyfit7, ⟨tyfit6, trivial, trivial⟩, ⟨tyfit8, trivial, trivial⟩⟩⟩, ⟨tyfit14, ⟨tyfit12, ⟨tyfit11, ⟨tyfit10, trivial, trivial⟩, trivial⟩, ⟨tyfit13, trivial, trivial⟩⟩, ⟨tyfit16, ⟨tyfit15, trivial, trivial⟩, ⟨tyfit17, trivial, trivial⟩⟩⟩⟩, ⟨tyfit28, ⟨tyfit23, ⟨tyfit21, ⟨tyfit20, ⟨tyfit19, trivial, trivial⟩, trivial⟩, ⟨tyfit22, trivial, trivial⟩⟩, ⟨tyfit25, ⟨tyfit24, trivial, trivial⟩, ⟨tyfit27, trivial, trivial⟩⟩⟩, ⟨tyfit34, ⟨tyfit31, ⟨tyfit30, ⟨tyfit29, trivial, trivial⟩, trivial⟩, ⟨tyfit32, trivial, trivial⟩⟩, ⟨tyfit36, ⟨tyfit35, trivial, trivial⟩, ⟨tyfit38, trivial, trivial⟩⟩⟩⟩⟩, ⟨tyfit58, ⟨tyfit48, ⟨tyfit44, ⟨tyfit42, ⟨tyfit41, ⟨tyfit40, trivial, trivial⟩, trivial⟩, ⟨tyfit43, trivial, trivial⟩⟩, ⟨tyfit46, ⟨tyfit45, trivial, trivial⟩, ⟨tyfit47, trivial, trivial⟩⟩⟩, ⟨tyfit54, ⟨tyfit51, ⟨tyfit50, ⟨tyfit49, trivial, trivial⟩, trivial⟩, ⟨tyfit52, trivial, trivial⟩⟩, ⟨tyfit56, ⟨tyfit55, trivial, trivial⟩, ⟨tyfit57, trivial, trivial⟩⟩⟩⟩, ⟨tyfit67, ⟨tyfit63, ⟨tyfit61, ⟨tyfit60, ⟨tyfit59, trivial, trivial⟩, trivial⟩, ⟨tyfit62, trivial, trivial⟩⟩, ⟨tyfit65, ⟨tyfit64, trivial, trivial⟩, ⟨tyfit66, trivial, trivial⟩⟩⟩, ⟨tyfit72, ⟨tyfit70, ⟨tyfit69, ⟨tyfit68, trivial, trivial⟩, trivial⟩, ⟨tyfit71, trivial, trivial⟩⟩, ⟨tyfit74, ⟨tyfit73, trivial, trivial⟩, ⟨tyfit75, trivial, trivial⟩⟩⟩⟩⟩⟩, ⟨tyfit116, ⟨tyfit96, ⟨tyfit87, ⟨tyfit83, ⟨tyfit81, ⟨tyfit79, ⟨tyfit77, trivial, trivial⟩, trivial⟩, ⟨tyfit82, trivial, trivial⟩⟩, ⟨tyfit85, ⟨tyfit84, trivial, trivial⟩, ⟨tyfit86, trivial, trivial⟩⟩⟩, ⟨tyfit92, ⟨tyfit90, ⟨tyfit89, ⟨tyfit88, trivial, trivial⟩, trivial⟩, ⟨tyfit91, trivial, trivial⟩⟩, ⟨tyfit94, ⟨tyfit93, trivial, trivial⟩, ⟨tyfit95, trivial, trivial⟩⟩⟩⟩, ⟨tyfit106, ⟨tyfit102, ⟨tyfit100, ⟨tyfit99, ⟨tyfit98, trivial, trivial⟩, trivial⟩, ⟨tyfit101, trivial, trivial⟩⟩, ⟨tyfit104, ⟨tyfit103, trivial, trivial⟩, ⟨tyfit105, trivial, trivial⟩⟩⟩, ⟨tyfit111, ⟨tyfit109, ⟨tyfit108, ⟨tyfit107, trivial, trivial⟩, trivial⟩, ⟨tyfit110, trivial, trivial⟩⟩, ⟨tyfit114, ⟨tyfit112, trivial, trivial⟩, ⟨tyfit115, trivial, trivial⟩⟩⟩⟩⟩, ⟨tyfit136, ⟨tyfit126, ⟨tyfit121, ⟨tyfit119, ⟨tyfit118, ⟨tyfit117, trivial, trivial⟩, trivial⟩, ⟨tyfit120, trivial, trivial⟩⟩, ⟨tyfit124, ⟨tyfit122, trivial, trivial⟩, ⟨tyfit125, trivial, trivial⟩⟩⟩, ⟨tyfit131, ⟨tyfit129, ⟨tyfit128, ⟨tyfit127, trivial, trivial⟩, trivial⟩, ⟨tyfit130, trivial, trivial⟩⟩, ⟨tyfit133, ⟨tyfit132, trivial, trivial⟩, ⟨tyfit134, trivial, trivial⟩⟩⟩⟩, ⟨tyfit146, ⟨tyfit141, ⟨tyfit139, ⟨tyfit138, ⟨tyfit137, trivial, trivial⟩, trivial⟩, ⟨tyfit140, trivial, trivial⟩⟩, ⟨tyfit143, ⟨tyfit142, trivial, trivial⟩, ⟨tyfit145, trivial, trivial⟩⟩⟩, ⟨tyfit154, ⟨tyfit152, ⟨tyfit151, ⟨tyfit150, trivial, trivial⟩, trivial⟩, ⟨tyfit153, trivial, trivial⟩⟩, ⟨tyfit156, ⟨tyfit155, trivial, trivial⟩, ⟨tyfit157, trivial, trivial⟩⟩⟩⟩⟩⟩⟩
end Go.Proofs.YtpfghndflegbaaaDoor
