/- The seat's types as a table, and that the program has them so. Printed by a program (mktt.py). -/
import Derived.Test.YtapblcfbmaikjaaGreatDoorVcJ
import Derived.Test.YtapblcfbmaikjaaGreatDoorRows
namespace Go.Proofs.YtapblcfbmaikjaaGreatDoor
open Go.Vc
def ti1 : TI := ⟨.func, .any, 1, 8, [.v (.nilFunc)], false, false⟩
def ti2 : TI := ⟨.int .i64, (.int .i64), 1, 8, [.v (.int .i64 0)], false, false⟩
def ti3 : TI := ⟨.int .i64, (.int .i64), 1, 8, [.v (.int .i64 0)], false, false⟩
def ti4 : TI := ⟨.bool, .bool, 1, 1, [.v (.bool false)], false, false⟩
def ti5 : TI := ⟨.int .u8, (.int .u8), 1, 1, [.v (.int .u8 0)], false, false⟩
def ti6 : TI := ⟨.int .u8, (.int .u8), 1, 1, [.v (.int .u8 0)], false, false⟩
def ti7 : TI := ⟨.struct [(0, 2), (1, 3), (2, 4), (3, 6)], (.st (.pair (.int .i64) (.pair (.int .i64) (.pair .bool (.int .u8))))), 4, 24, [.v (.int .i64 0), .v (.int .i64 0), .v (.bool false), .v (.int .u8 0)], true, false⟩
def ti8 : TI := ⟨.struct [(0, 2), (1, 3), (2, 4), (3, 6)], (.st (.pair (.int .i64) (.pair (.int .i64) (.pair .bool (.int .u8))))), 4, 24, [.v (.int .i64 0), .v (.int .i64 0), .v (.bool false), .v (.int .u8 0)], false, false⟩
def ti9 : TI := ⟨.str, .str, 1, 16, [.v (.string ByteArray.empty)], false, false⟩
def ti10 : TI := ⟨.str, .str, 1, 16, [.v (.string ByteArray.empty)], false, false⟩
def ti11 : TI := ⟨.str, .str, 1, 16, [.v (.string ByteArray.empty)], false, false⟩
def ti12 : TI := ⟨.int .u64, (.int .u64), 1, 8, [.v (.int .u64 0)], false, false⟩
def ti13 : TI := ⟨.struct [(0, 9), (1, 12)], (.st (.pair .str (.int .u64))), 2, 24, [.v (.string ByteArray.empty), .v (.int .u64 0)], false, false⟩
def ti14 : TI := ⟨.struct [(0, 9), (1, 12)], (.st (.pair .str (.int .u64))), 2, 24, [.v (.string ByteArray.empty), .v (.int .u64 0)], false, false⟩
def ti15 : TI := ⟨.ptr 278, .any, 1, 8, [.v (.pointer none)], false, false⟩
def ti16 : TI := ⟨.ptr 281, .any, 1, 8, [.v (.pointer none)], false, false⟩
def ti17 : TI := ⟨.ptr 288, .any, 1, 8, [.v (.pointer none)], false, false⟩
def ti18 : TI := ⟨.struct [(0, 17)], (.st .any), 1, 8, [.v (.pointer none)], false, false⟩
def ti19 : TI := ⟨.struct [(0, 17)], (.st .any), 1, 8, [.v (.pointer none)], false, false⟩
def ti20 : TI := ⟨.iface, .any, 1, 16, [.v (.nilIface)], false, false⟩
def ti21 : TI := ⟨.int .i32, (.int .i32), 1, 4, [.v (.int .i32 0)], false, false⟩
def ti22 : TI := ⟨.slice 35, .slice, 1, 24, [.v (.slice none 0 0)], false, false⟩
def ti23 : TI := ⟨.slice 30, .slice, 1, 24, [.v (.slice none 0 0)], false, false⟩
def ti24 : TI := ⟨.struct [(0, 22), (1, 23)], (.st (.pair .slice .slice)), 2, 48, [.v (.slice none 0 0), .v (.slice none 0 0)], false, false⟩
def ti25 : TI := ⟨.struct [(0, 22), (1, 23)], (.st (.pair .slice .slice)), 2, 48, [.v (.slice none 0 0), .v (.slice none 0 0)], false, false⟩
def ti26 : TI := ⟨.func, .any, 1, 8, [.v (.nilFunc)], false, false⟩
def ti27 : TI := ⟨.func, .any, 1, 8, [.v (.nilFunc)], false, false⟩
def ti28 : TI := ⟨.int .i64, (.int .i64), 1, 8, [.v (.int .i64 0)], false, false⟩
def ti29 : TI := ⟨.func, .any, 1, 8, [.v (.nilFunc)], false, false⟩
def ti30 : TI := ⟨.slice 37, .slice, 1, 24, [.v (.slice none 0 0)], false, false⟩
def ti31 : TI := ⟨.func, .any, 1, 8, [.v (.nilFunc)], false, false⟩
def ti32 : TI := ⟨.int .i64, (.int .i64), 1, 8, [.v (.int .i64 0)], false, false⟩
def ti33 : TI := ⟨.int .u32, (.int .u32), 1, 4, [.v (.int .u32 0)], false, false⟩
def ti34 : TI := ⟨.struct [(0, 2), (1, 33), (2, 33)], (.st (.pair (.int .i64) (.pair (.int .u32) (.int .u32)))), 3, 16, [.v (.int .i64 0), .v (.int .u32 0), .v (.int .u32 0)], true, false⟩
def ti35 : TI := ⟨.struct [(0, 2), (1, 33), (2, 33)], (.st (.pair (.int .i64) (.pair (.int .u32) (.int .u32)))), 3, 16, [.v (.int .i64 0), .v (.int .u32 0), .v (.int .u32 0)], true, false⟩
def ti36 : TI := ⟨.struct [(0, 3), (1, 32), (2, 35), (5, 35)], (.st (.pair (.int .i64) (.pair (.int .i64) (.pair (.st (.pair (.int .i64) (.pair (.int .u32) (.int .u32)))) (.st (.pair (.int .i64) (.pair (.int .u32) (.int .u32)))))))), 8, 48, [.v (.int .i64 0), .v (.int .i64 0), .v (.int .i64 0), .v (.int .u32 0), .v (.int .u32 0), .v (.int .i64 0), .v (.int .u32 0), .v (.int .u32 0)], true, false⟩
def ti37 : TI := ⟨.struct [(0, 3), (1, 32), (2, 35), (5, 35)], (.st (.pair (.int .i64) (.pair (.int .i64) (.pair (.st (.pair (.int .i64) (.pair (.int .u32) (.int .u32)))) (.st (.pair (.int .i64) (.pair (.int .u32) (.int .u32)))))))), 8, 48, [.v (.int .i64 0), .v (.int .i64 0), .v (.int .i64 0), .v (.int .u32 0), .v (.int .u32 0), .v (.int .i64 0), .v (.int .u32 0), .v (.int .u32 0)], true, false⟩
def ti38 : TI := ⟨.slice 9, .slice, 1, 24, [.v (.slice none 0 0)], false, false⟩
def ti40 : TI := ⟨.func, .any, 1, 8, [.v (.nilFunc)], false, false⟩
def ti41 : TI := ⟨.func, .any, 1, 8, [.v (.nilFunc)], false, false⟩
def ti42 : TI := ⟨.func, .any, 1, 8, [.v (.nilFunc)], false, false⟩
def ti43 : TI := ⟨.func, .any, 1, 8, [.v (.nilFunc)], false, false⟩
def ti44 : TI := ⟨.func, .any, 1, 8, [.v (.nilFunc)], false, false⟩
def ti46 : TI := ⟨.func, .any, 1, 8, [.v (.nilFunc)], false, false⟩
def ti47 : TI := ⟨.struct [(0, 22), (1, 23)], (.st (.pair .slice .slice)), 2, 48, [.v (.slice none 0 0), .v (.slice none 0 0)], false, false⟩
def ti48 : TI := ⟨.func, .any, 1, 8, [.v (.nilFunc)], false, false⟩
def ti49 : TI := ⟨.func, .any, 1, 8, [.v (.nilFunc)], false, false⟩
def ti50 : TI := ⟨.slice 58, .slice, 1, 24, [.v (.slice none 0 0)], false, false⟩
def ti52 : TI := ⟨.func, .any, 1, 8, [.v (.nilFunc)], false, false⟩
def ti53 : TI := ⟨.func, .any, 1, 8, [.v (.nilFunc)], false, false⟩
def ti54 : TI := ⟨.func, .any, 1, 8, [.v (.nilFunc)], false, false⟩
def ti55 : TI := ⟨.func, .any, 1, 8, [.v (.nilFunc)], false, false⟩
def ti56 : TI := ⟨.func, .any, 1, 8, [.v (.nilFunc)], false, false⟩
def ti57 : TI := ⟨.struct [(0, 3), (1, 3), (2, 3)], (.st (.pair (.int .i64) (.pair (.int .i64) (.int .i64)))), 3, 24, [.v (.int .i64 0), .v (.int .i64 0), .v (.int .i64 0)], true, false⟩
def ti58 : TI := ⟨.struct [(0, 3), (1, 3), (2, 3)], (.st (.pair (.int .i64) (.pair (.int .i64) (.int .i64)))), 3, 24, [.v (.int .i64 0), .v (.int .i64 0), .v (.int .i64 0)], true, false⟩
def ti59 : TI := ⟨.func, .any, 1, 8, [.v (.nilFunc)], false, false⟩
def ti60 : TI := ⟨.func, .any, 1, 8, [.v (.nilFunc)], false, false⟩
def ti61 : TI := ⟨.func, .any, 1, 8, [.v (.nilFunc)], false, false⟩
def ti62 : TI := ⟨.map 9 4, .map, 1, 8, [.v (.map none)], false, false⟩
def ti63 : TI := ⟨.slice 153, .slice, 1, 24, [.v (.slice none 0 0)], false, false⟩
def ti64 : TI := ⟨.slice 159, .slice, 1, 24, [.v (.slice none 0 0)], false, false⟩
def ti65 : TI := ⟨.struct [(0, 63), (1, 64)], (.st (.pair .slice .slice)), 2, 48, [.v (.slice none 0 0), .v (.slice none 0 0)], false, false⟩
def ti66 : TI := ⟨.struct [(0, 63), (1, 64)], (.st (.pair .slice .slice)), 2, 48, [.v (.slice none 0 0), .v (.slice none 0 0)], false, false⟩
def ti67 : TI := ⟨.slice 197, .slice, 1, 24, [.v (.slice none 0 0)], false, false⟩
def ti68 : TI := ⟨.map 3 193, .map, 1, 8, [.v (.map none)], false, false⟩
def ti69 : TI := ⟨.struct [(0, 22), (1, 67), (2, 68)], (.st (.pair .slice (.pair .slice .map))), 3, 56, [.v (.slice none 0 0), .v (.slice none 0 0), .v (.map none)], false, false⟩
def ti70 : TI := ⟨.struct [(0, 22), (1, 67), (2, 68)], (.st (.pair .slice (.pair .slice .map))), 3, 56, [.v (.slice none 0 0), .v (.slice none 0 0), .v (.map none)], false, false⟩
def ti71 : TI := ⟨.slice 3, .slice, 1, 24, [.v (.slice none 0 0)], false, false⟩
def ti72 : TI := ⟨.struct [(0, 66), (2, 70), (5, 71), (6, 3)], (.st (.pair (.st (.pair .slice .slice)) (.pair (.st (.pair .slice (.pair .slice .map))) (.pair .slice (.int .i64))))), 7, 136, [.v (.slice none 0 0), .v (.slice none 0 0), .v (.slice none 0 0), .v (.slice none 0 0), .v (.map none), .v (.slice none 0 0), .v (.int .i64 0)], false, false⟩
def ti73 : TI := ⟨.struct [(0, 66), (2, 70), (5, 71), (6, 3)], (.st (.pair (.st (.pair .slice .slice)) (.pair (.st (.pair .slice (.pair .slice .map))) (.pair .slice (.int .i64))))), 7, 136, [.v (.slice none 0 0), .v (.slice none 0 0), .v (.slice none 0 0), .v (.slice none 0 0), .v (.map none), .v (.slice none 0 0), .v (.int .i64 0)], false, false⟩
def ti74 : TI := ⟨.slice 4, .slice, 1, 24, [.v (.slice none 0 0)], false, false⟩
def ti75 : TI := ⟨.slice 38, .slice, 1, 24, [.v (.slice none 0 0)], false, false⟩
def ti76 : TI := ⟨.struct [(0, 25), (2, 73), (9, 71), (10, 74), (11, 75)], (.st (.pair (.st (.pair .slice .slice)) (.pair (.st (.pair (.st (.pair .slice .slice)) (.pair (.st (.pair .slice (.pair .slice .map))) (.pair .slice (.int .i64))))) (.pair .slice (.pair .slice .slice))))), 12, 256, [.v (.slice none 0 0), .v (.slice none 0 0), .v (.slice none 0 0), .v (.slice none 0 0), .v (.slice none 0 0), .v (.slice none 0 0), .v (.map none), .v (.slice none 0 0), .v (.int .i64 0), .v (.slice none 0 0), .v (.slice none 0 0), .v (.slice none 0 0)], false, false⟩
def ti77 : TI := ⟨.struct [(0, 25), (2, 73), (9, 71), (10, 74), (11, 75)], (.st (.pair (.st (.pair .slice .slice)) (.pair (.st (.pair (.st (.pair .slice .slice)) (.pair (.st (.pair .slice (.pair .slice .map))) (.pair .slice (.int .i64))))) (.pair .slice (.pair .slice .slice))))), 12, 256, [.v (.slice none 0 0), .v (.slice none 0 0), .v (.slice none 0 0), .v (.slice none 0 0), .v (.slice none 0 0), .v (.slice none 0 0), .v (.map none), .v (.slice none 0 0), .v (.int .i64 0), .v (.slice none 0 0), .v (.slice none 0 0), .v (.slice none 0 0)], false, false⟩
def ti78 : TI := ⟨.func, .any, 1, 8, [.v (.nilFunc)], false, false⟩
def ti79 : TI := ⟨.func, .any, 1, 8, [.v (.nilFunc)], false, false⟩
def ti80 : TI := ⟨.func, .any, 1, 8, [.v (.nilFunc)], false, false⟩
def ti81 : TI := ⟨.func, .any, 1, 8, [.v (.nilFunc)], false, false⟩
def ti82 : TI := ⟨.func, .any, 1, 8, [.v (.nilFunc)], false, false⟩
def ti83 : TI := ⟨.func, .any, 1, 8, [.v (.nilFunc)], false, false⟩
def ti84 : TI := ⟨.func, .any, 1, 8, [.v (.nilFunc)], false, false⟩
def ti85 : TI := ⟨.slice 88, .slice, 1, 24, [.v (.slice none 0 0)], false, false⟩
def ti86 : TI := ⟨.func, .any, 1, 8, [.v (.nilFunc)], false, false⟩
def ti87 : TI := ⟨.struct [(0, 9), (1, 23)], (.st (.pair .str .slice)), 2, 40, [.v (.string ByteArray.empty), .v (.slice none 0 0)], false, false⟩
def ti88 : TI := ⟨.struct [(0, 9), (1, 23)], (.st (.pair .str .slice)), 2, 40, [.v (.string ByteArray.empty), .v (.slice none 0 0)], false, false⟩
def ti89 : TI := ⟨.func, .any, 1, 8, [.v (.nilFunc)], false, false⟩
def ti90 : TI := ⟨.func, .any, 1, 8, [.v (.nilFunc)], false, false⟩
def ti91 : TI := ⟨.func, .any, 1, 8, [.v (.nilFunc)], false, false⟩
def ti92 : TI := ⟨.func, .any, 1, 8, [.v (.nilFunc)], false, false⟩
def ti94 : TI := ⟨.func, .any, 1, 8, [.v (.nilFunc)], false, false⟩
def ti95 : TI := ⟨.slice 22, .slice, 1, 24, [.v (.slice none 0 0)], false, false⟩
def ti96 : TI := ⟨.func, .any, 1, 8, [.v (.nilFunc)], false, false⟩
def ti97 : TI := ⟨.struct [(0, 35), (3, 4)], (.st (.pair (.st (.pair (.int .i64) (.pair (.int .u32) (.int .u32)))) .bool)), 4, 24, [.v (.int .i64 0), .v (.int .u32 0), .v (.int .u32 0), .v (.bool false)], true, false⟩
def ti98 : TI := ⟨.struct [(0, 35), (3, 4)], (.st (.pair (.st (.pair (.int .i64) (.pair (.int .u32) (.int .u32)))) .bool)), 4, 24, [.v (.int .i64 0), .v (.int .u32 0), .v (.int .u32 0), .v (.bool false)], true, false⟩
def ti100 : TI := ⟨.func, .any, 1, 8, [.v (.nilFunc)], false, false⟩
def ti101 : TI := ⟨.func, .any, 1, 8, [.v (.nilFunc)], false, false⟩
def ti102 : TI := ⟨.func, .any, 1, 8, [.v (.nilFunc)], false, false⟩
def ti103 : TI := ⟨.func, .any, 1, 8, [.v (.nilFunc)], false, false⟩
def ti104 : TI := ⟨.func, .any, 1, 8, [.v (.nilFunc)], false, false⟩
def ti105 : TI := ⟨.slice 71, .slice, 1, 24, [.v (.slice none 0 0)], false, false⟩
def ti106 : TI := ⟨.slice 204, .slice, 1, 24, [.v (.slice none 0 0)], false, false⟩
def ti107 : TI := ⟨.struct [(0, 105), (1, 106)], (.st (.pair .slice .slice)), 2, 48, [.v (.slice none 0 0), .v (.slice none 0 0)], false, false⟩
def ti108 : TI := ⟨.struct [(0, 105), (1, 106)], (.st (.pair .slice .slice)), 2, 48, [.v (.slice none 0 0), .v (.slice none 0 0)], false, false⟩
def ti109 : TI := ⟨.struct [(0, 108), (2, 71), (3, 95)], (.st (.pair (.st (.pair .slice .slice)) (.pair .slice .slice))), 4, 96, [.v (.slice none 0 0), .v (.slice none 0 0), .v (.slice none 0 0), .v (.slice none 0 0)], false, false⟩
def ti110 : TI := ⟨.struct [(0, 108), (2, 71), (3, 95)], (.st (.pair (.st (.pair .slice .slice)) (.pair .slice .slice))), 4, 96, [.v (.slice none 0 0), .v (.slice none 0 0), .v (.slice none 0 0), .v (.slice none 0 0)], false, false⟩
def ti111 : TI := ⟨.func, .any, 1, 8, [.v (.nilFunc)], false, false⟩
def ti112 : TI := ⟨.func, .any, 1, 8, [.v (.nilFunc)], false, false⟩
def ti114 : TI := ⟨.func, .any, 1, 8, [.v (.nilFunc)], false, false⟩
def ti115 : TI := ⟨.func, .any, 1, 8, [.v (.nilFunc)], false, false⟩
def ti116 : TI := ⟨.func, .any, 1, 8, [.v (.nilFunc)], false, false⟩
def ti117 : TI := ⟨.func, .any, 1, 8, [.v (.nilFunc)], false, false⟩
def ti118 : TI := ⟨.func, .any, 1, 8, [.v (.nilFunc)], false, false⟩
def ti119 : TI := ⟨.func, .any, 1, 8, [.v (.nilFunc)], false, false⟩
def ti120 : TI := ⟨.func, .any, 1, 8, [.v (.nilFunc)], false, false⟩
def ti121 : TI := ⟨.func, .any, 1, 8, [.v (.nilFunc)], false, false⟩
def ti122 : TI := ⟨.func, .any, 1, 8, [.v (.nilFunc)], false, false⟩
def ti123 : TI := ⟨.func, .any, 1, 8, [.v (.nilFunc)], false, false⟩
def ti124 : TI := ⟨.func, .any, 1, 8, [.v (.nilFunc)], false, false⟩
def ti125 : TI := ⟨.func, .any, 1, 8, [.v (.nilFunc)], false, false⟩
def ti126 : TI := ⟨.func, .any, 1, 8, [.v (.nilFunc)], false, false⟩
def ti127 : TI := ⟨.func, .any, 1, 8, [.v (.nilFunc)], false, false⟩
def ti128 : TI := ⟨.func, .any, 1, 8, [.v (.nilFunc)], false, false⟩
def ti130 : TI := ⟨.func, .any, 1, 8, [.v (.nilFunc)], false, false⟩
def ti132 : TI := ⟨.func, .any, 1, 8, [.v (.nilFunc)], false, false⟩
def ti134 : TI := ⟨.func, .any, 1, 8, [.v (.nilFunc)], false, false⟩
def ti135 : TI := ⟨.func, .any, 1, 8, [.v (.nilFunc)], false, false⟩
def ti136 : TI := ⟨.func, .any, 1, 8, [.v (.nilFunc)], false, false⟩
def ti138 : TI := ⟨.func, .any, 1, 8, [.v (.nilFunc)], false, false⟩
def ti139 : TI := ⟨.func, .any, 1, 8, [.v (.nilFunc)], false, false⟩
def ti140 : TI := ⟨.func, .any, 1, 8, [.v (.nilFunc)], false, false⟩
def ti141 : TI := ⟨.func, .any, 1, 8, [.v (.nilFunc)], false, false⟩
def ti143 : TI := ⟨.func, .any, 1, 8, [.v (.nilFunc)], false, false⟩
def ti144 : TI := ⟨.func, .any, 1, 8, [.v (.nilFunc)], false, false⟩
def ti145 : TI := ⟨.func, .any, 1, 8, [.v (.nilFunc)], false, false⟩
def ti146 : TI := ⟨.func, .any, 1, 8, [.v (.nilFunc)], false, false⟩
def ti147 : TI := ⟨.func, .any, 1, 8, [.v (.nilFunc)], false, false⟩
def ti149 : TI := ⟨.func, .any, 1, 8, [.v (.nilFunc)], false, false⟩
def ti150 : TI := ⟨.func, .any, 1, 8, [.v (.nilFunc)], false, false⟩
def ti151 : TI := ⟨.slice 224, .slice, 1, 24, [.v (.slice none 0 0)], false, false⟩
def ti152 : TI := ⟨.struct [(0, 151)], (.st .slice), 1, 24, [.v (.slice none 0 0)], false, false⟩
def ti153 : TI := ⟨.struct [(0, 151)], (.st .slice), 1, 24, [.v (.slice none 0 0)], false, false⟩
def ti155 : TI := ⟨.func, .any, 1, 8, [.v (.nilFunc)], false, false⟩
def ti156 : TI := ⟨.func, .any, 1, 8, [.v (.nilFunc)], false, false⟩
def ti157 : TI := ⟨.map 32 3, .map, 1, 8, [.v (.map none)], false, false⟩
def ti158 : TI := ⟨.struct [(0, 157)], (.st .map), 1, 8, [.v (.map none)], false, false⟩
def ti159 : TI := ⟨.struct [(0, 157)], (.st .map), 1, 8, [.v (.map none)], false, false⟩
def ti160 : TI := ⟨.func, .any, 1, 8, [.v (.nilFunc)], false, false⟩
def ti161 : TI := ⟨.func, .any, 1, 8, [.v (.nilFunc)], false, false⟩
def ti162 : TI := ⟨.func, .any, 1, 8, [.v (.nilFunc)], false, false⟩
def ti163 : TI := ⟨.func, .any, 1, 8, [.v (.nilFunc)], false, false⟩
def ti164 : TI := ⟨.func, .any, 1, 8, [.v (.nilFunc)], false, false⟩
def ti165 : TI := ⟨.int .u64, (.int .u64), 1, 8, [.v (.int .u64 0)], false, false⟩
def ti166 : TI := ⟨.func, .any, 1, 8, [.v (.nilFunc)], false, false⟩
def ti167 : TI := ⟨.func, .any, 1, 8, [.v (.nilFunc)], false, false⟩
def ti168 : TI := ⟨.func, .any, 1, 8, [.v (.nilFunc)], false, false⟩
def ti169 : TI := ⟨.func, .any, 1, 8, [.v (.nilFunc)], false, false⟩
def ti170 : TI := ⟨.int .u64, (.int .u64), 1, 8, [.v (.int .u64 0)], false, false⟩
def ti171 : TI := ⟨.func, .any, 1, 8, [.v (.nilFunc)], false, false⟩
def ti172 : TI := ⟨.func, .any, 1, 8, [.v (.nilFunc)], false, false⟩
def ti173 : TI := ⟨.ptr 176, .any, 1, 8, [.v (.pointer none)], false, false⟩
def ti174 : TI := ⟨.slice 5, .slice, 1, 24, [.v (.slice none 0 0)], false, false⟩
def ti175 : TI := ⟨.struct [(0, 173), (1, 174)], (.st (.pair .any .slice)), 2, 32, [.v (.pointer none), .v (.slice none 0 0)], false, false⟩
def ti176 : TI := ⟨.struct [(0, 173), (1, 174)], (.st (.pair .any .slice)), 2, 32, [.v (.pointer none), .v (.slice none 0 0)], false, true⟩
def ti177 : TI := ⟨.func, .any, 1, 8, [.v (.nilFunc)], false, false⟩
def ti178 : TI := ⟨.iface, .any, 1, 16, [.v (.nilIface)], false, false⟩
def ti179 : TI := ⟨.iface, .any, 1, 16, [.v (.nilIface)], false, false⟩
def ti181 : TI := ⟨.func, .any, 1, 8, [.v (.nilFunc)], false, false⟩
def ti182 : TI := ⟨.func, .any, 1, 8, [.v (.nilFunc)], false, false⟩
def ti183 : TI := ⟨.func, .any, 1, 8, [.v (.nilFunc)], false, false⟩
def ti184 : TI := ⟨.func, .any, 1, 8, [.v (.nilFunc)], false, false⟩
def ti185 : TI := ⟨.func, .any, 1, 8, [.v (.nilFunc)], false, false⟩
def ti186 : TI := ⟨.func, .any, 1, 8, [.v (.nilFunc)], false, false⟩
def ti188 : TI := ⟨.func, .any, 1, 8, [.v (.nilFunc)], false, false⟩
def ti189 : TI := ⟨.func, .any, 1, 8, [.v (.nilFunc)], false, false⟩
def ti190 : TI := ⟨.func, .any, 1, 8, [.v (.nilFunc)], false, false⟩
def ti191 : TI := ⟨.func, .any, 1, 8, [.v (.nilFunc)], false, false⟩
def ti192 : TI := ⟨.map 3 3, .map, 1, 8, [.v (.map none)], false, false⟩
def ti193 : TI := ⟨.map 3 3, .map, 1, 8, [.v (.map none)], false, false⟩
def ti194 : TI := ⟨.func, .any, 1, 8, [.v (.nilFunc)], false, false⟩
def ti195 : TI := ⟨.slice 226, .slice, 1, 24, [.v (.slice none 0 0)], false, false⟩
def ti196 : TI := ⟨.struct [(0, 195), (1, 3)], (.st (.pair .slice (.int .i64))), 2, 32, [.v (.slice none 0 0), .v (.int .i64 0)], false, false⟩
def ti197 : TI := ⟨.struct [(0, 195), (1, 3)], (.st (.pair .slice (.int .i64))), 2, 32, [.v (.slice none 0 0), .v (.int .i64 0)], false, false⟩
def ti198 : TI := ⟨.func, .any, 1, 8, [.v (.nilFunc)], false, false⟩
def ti199 : TI := ⟨.func, .any, 1, 8, [.v (.nilFunc)], false, false⟩
def ti201 : TI := ⟨.func, .any, 1, 8, [.v (.nilFunc)], false, false⟩
def ti202 : TI := ⟨.func, .any, 1, 8, [.v (.nilFunc)], false, false⟩
def ti203 : TI := ⟨.func, .any, 1, 8, [.v (.nilFunc)], false, false⟩
def ti204 : TI := ⟨.slice 208, .slice, 1, 24, [.v (.slice none 0 0)], false, false⟩
def ti206 : TI := ⟨.func, .any, 1, 8, [.v (.nilFunc)], false, false⟩
def ti207 : TI := ⟨.struct [(0, 35), (3, 71)], (.st (.pair (.st (.pair (.int .i64) (.pair (.int .u32) (.int .u32)))) .slice)), 4, 40, [.v (.int .i64 0), .v (.int .u32 0), .v (.int .u32 0), .v (.slice none 0 0)], false, false⟩
def ti208 : TI := ⟨.struct [(0, 35), (3, 71)], (.st (.pair (.st (.pair (.int .i64) (.pair (.int .u32) (.int .u32)))) .slice)), 4, 40, [.v (.int .i64 0), .v (.int .u32 0), .v (.int .u32 0), .v (.slice none 0 0)], false, false⟩
def ti209 : TI := ⟨.func, .any, 1, 8, [.v (.nilFunc)], false, false⟩
def ti210 : TI := ⟨.int .i64, (.int .i64), 1, 8, [.v (.int .i64 0)], false, false⟩
def ti212 : TI := ⟨.func, .any, 1, 8, [.v (.nilFunc)], false, false⟩
def ti213 : TI := ⟨.func, .any, 1, 8, [.v (.nilFunc)], false, false⟩
def ti214 : TI := ⟨.func, .any, 1, 8, [.v (.nilFunc)], false, false⟩
def ti215 : TI := ⟨.func, .any, 1, 8, [.v (.nilFunc)], false, false⟩
def ti217 : TI := ⟨.func, .any, 1, 8, [.v (.nilFunc)], false, false⟩
def ti218 : TI := ⟨.func, .any, 1, 8, [.v (.nilFunc)], false, false⟩
def ti219 : TI := ⟨.func, .any, 1, 8, [.v (.nilFunc)], false, false⟩
def ti221 : TI := ⟨.func, .any, 1, 8, [.v (.nilFunc)], false, false⟩
def ti222 : TI := ⟨.ptr 5, .any, 1, 8, [.v (.pointer none)], false, false⟩
def ti223 : TI := ⟨.struct [(0, 35), (3, 3), (4, 159)], (.st (.pair (.st (.pair (.int .i64) (.pair (.int .u32) (.int .u32)))) (.pair (.int .i64) (.st .map)))), 5, 32, [.v (.int .i64 0), .v (.int .u32 0), .v (.int .u32 0), .v (.int .i64 0), .v (.map none)], false, false⟩
def ti224 : TI := ⟨.struct [(0, 35), (3, 3), (4, 159)], (.st (.pair (.st (.pair (.int .i64) (.pair (.int .u32) (.int .u32)))) (.pair (.int .i64) (.st .map)))), 5, 32, [.v (.int .i64 0), .v (.int .u32 0), .v (.int .u32 0), .v (.int .i64 0), .v (.map none)], false, false⟩
def ti225 : TI := ⟨.struct [(0, 32), (1, 35)], (.st (.pair (.int .i64) (.st (.pair (.int .i64) (.pair (.int .u32) (.int .u32)))))), 4, 24, [.v (.int .i64 0), .v (.int .i64 0), .v (.int .u32 0), .v (.int .u32 0)], true, false⟩
def ti226 : TI := ⟨.struct [(0, 32), (1, 35)], (.st (.pair (.int .i64) (.st (.pair (.int .i64) (.pair (.int .u32) (.int .u32)))))), 4, 24, [.v (.int .i64 0), .v (.int .i64 0), .v (.int .u32 0), .v (.int .u32 0)], true, false⟩
def ti227 : TI := ⟨.func, .any, 1, 8, [.v (.nilFunc)], false, false⟩
def ti228 : TI := ⟨.func, .any, 1, 8, [.v (.nilFunc)], false, false⟩
def ti229 : TI := ⟨.ptr 197, .any, 1, 8, [.v (.pointer none)], false, false⟩
def ti230 : TI := ⟨.func, .any, 1, 8, [.v (.nilFunc)], false, false⟩
def ti231 : TI := ⟨.func, .any, 1, 8, [.v (.nilFunc)], false, false⟩
def ti232 : TI := ⟨.func, .any, 1, 8, [.v (.nilFunc)], false, false⟩
def ti233 : TI := ⟨.func, .any, 1, 8, [.v (.nilFunc)], false, false⟩
def ti234 : TI := ⟨.int .i64, (.int .i64), 1, 8, [.v (.int .i64 0)], false, false⟩
def ti235 : TI := ⟨.func, .any, 1, 8, [.v (.nilFunc)], false, false⟩
def ti237 : TI := ⟨.func, .any, 1, 8, [.v (.nilFunc)], false, false⟩
def ti238 : TI := ⟨.func, .any, 1, 8, [.v (.nilFunc)], false, false⟩
def ti239 : TI := ⟨.func, .any, 1, 8, [.v (.nilFunc)], false, false⟩
def ti240 : TI := ⟨.func, .any, 1, 8, [.v (.nilFunc)], false, false⟩
def ti241 : TI := ⟨.int .u64, (.int .u64), 1, 8, [.v (.int .u64 0)], false, false⟩
def ti242 : TI := ⟨.func, .any, 1, 8, [.v (.nilFunc)], false, false⟩
def ti243 : TI := ⟨.func, .any, 1, 8, [.v (.nilFunc)], false, false⟩
def ti244 : TI := ⟨.func, .any, 1, 8, [.v (.nilFunc)], false, false⟩
def ti245 : TI := ⟨.ptr 3, .any, 1, 8, [.v (.pointer none)], false, false⟩
def ti246 : TI := ⟨.func, .any, 1, 8, [.v (.nilFunc)], false, false⟩
def ti247 : TI := ⟨.array 24 5, (.st (.pair (.int .u8) (.pair (.int .u8) (.pair (.int .u8) (.pair (.int .u8) (.pair (.int .u8) (.pair (.int .u8) (.pair (.int .u8) (.pair (.int .u8) (.pair (.int .u8) (.pair (.int .u8) (.pair (.int .u8) (.pair (.int .u8) (.pair (.int .u8) (.pair (.int .u8) (.pair (.int .u8) (.pair (.int .u8) (.pair (.int .u8) (.pair (.int .u8) (.pair (.int .u8) (.pair (.int .u8) (.pair (.int .u8) (.pair (.int .u8) (.pair (.int .u8) (.int .u8))))))))))))))))))))))))), 24, 24, [.v (.int .u8 0), .v (.int .u8 0), .v (.int .u8 0), .v (.int .u8 0), .v (.int .u8 0), .v (.int .u8 0), .v (.int .u8 0), .v (.int .u8 0), .v (.int .u8 0), .v (.int .u8 0), .v (.int .u8 0), .v (.int .u8 0), .v (.int .u8 0), .v (.int .u8 0), .v (.int .u8 0), .v (.int .u8 0), .v (.int .u8 0), .v (.int .u8 0), .v (.int .u8 0), .v (.int .u8 0), .v (.int .u8 0), .v (.int .u8 0), .v (.int .u8 0), .v (.int .u8 0)], false, false⟩
def ti248 : TI := ⟨.func, .any, 1, 8, [.v (.nilFunc)], false, false⟩
def ti250 : TI := ⟨.func, .any, 1, 8, [.v (.nilFunc)], false, false⟩
def ti252 : TI := ⟨.func, .any, 1, 8, [.v (.nilFunc)], false, false⟩
def ti253 : TI := ⟨.func, .any, 1, 8, [.v (.nilFunc)], false, false⟩
def ti254 : TI := ⟨.func, .any, 1, 8, [.v (.nilFunc)], false, false⟩
def ti255 : TI := ⟨.func, .any, 1, 8, [.v (.nilFunc)], false, false⟩
def ti256 : TI := ⟨.func, .any, 1, 8, [.v (.nilFunc)], false, false⟩
def ti258 : TI := ⟨.func, .any, 1, 8, [.v (.nilFunc)], false, false⟩
def ti260 : TI := ⟨.func, .any, 1, 8, [.v (.nilFunc)], false, false⟩
def ti261 : TI := ⟨.func, .any, 1, 8, [.v (.nilFunc)], false, false⟩
def ti262 : TI := ⟨.func, .any, 1, 8, [.v (.nilFunc)], false, false⟩
def ti263 : TI := ⟨.func, .any, 1, 8, [.v (.nilFunc)], false, false⟩
def ti264 : TI := ⟨.func, .any, 1, 8, [.v (.nilFunc)], false, false⟩
def ti265 : TI := ⟨.func, .any, 1, 8, [.v (.nilFunc)], false, false⟩
def ti266 : TI := ⟨.ptr 241, .any, 1, 8, [.v (.pointer none)], false, false⟩
def ti267 : TI := ⟨.func, .any, 1, 8, [.v (.nilFunc)], false, false⟩
def ti268 : TI := ⟨.func, .any, 1, 8, [.v (.nilFunc)], false, false⟩
def ti269 : TI := ⟨.func, .any, 1, 8, [.v (.nilFunc)], false, false⟩
def ti270 : TI := ⟨.array 20 170, (.st (.pair (.int .u64) (.pair (.int .u64) (.pair (.int .u64) (.pair (.int .u64) (.pair (.int .u64) (.pair (.int .u64) (.pair (.int .u64) (.pair (.int .u64) (.pair (.int .u64) (.pair (.int .u64) (.pair (.int .u64) (.pair (.int .u64) (.pair (.int .u64) (.pair (.int .u64) (.pair (.int .u64) (.pair (.int .u64) (.pair (.int .u64) (.pair (.int .u64) (.pair (.int .u64) (.int .u64))))))))))))))))))))), 20, 160, [.v (.int .u64 0), .v (.int .u64 0), .v (.int .u64 0), .v (.int .u64 0), .v (.int .u64 0), .v (.int .u64 0), .v (.int .u64 0), .v (.int .u64 0), .v (.int .u64 0), .v (.int .u64 0), .v (.int .u64 0), .v (.int .u64 0), .v (.int .u64 0), .v (.int .u64 0), .v (.int .u64 0), .v (.int .u64 0), .v (.int .u64 0), .v (.int .u64 0), .v (.int .u64 0), .v (.int .u64 0)], false, false⟩
def ti272 : TI := ⟨.func, .any, 1, 8, [.v (.nilFunc)], false, false⟩
def ti273 : TI := ⟨.func, .any, 1, 8, [.v (.nilFunc)], false, false⟩
def ti274 : TI := ⟨.func, .any, 1, 8, [.v (.nilFunc)], false, false⟩
def ti275 : TI := ⟨.array 32 5, (.st (.pair (.int .u8) (.pair (.int .u8) (.pair (.int .u8) (.pair (.int .u8) (.pair (.int .u8) (.pair (.int .u8) (.pair (.int .u8) (.pair (.int .u8) (.pair (.int .u8) (.pair (.int .u8) (.pair (.int .u8) (.pair (.int .u8) (.pair (.int .u8) (.pair (.int .u8) (.pair (.int .u8) (.pair (.int .u8) (.pair (.int .u8) (.pair (.int .u8) (.pair (.int .u8) (.pair (.int .u8) (.pair (.int .u8) (.pair (.int .u8) (.pair (.int .u8) (.pair (.int .u8) (.pair (.int .u8) (.pair (.int .u8) (.pair (.int .u8) (.pair (.int .u8) (.pair (.int .u8) (.pair (.int .u8) (.pair (.int .u8) (.int .u8))))))))))))))))))))))))))))))))), 32, 32, [.v (.int .u8 0), .v (.int .u8 0), .v (.int .u8 0), .v (.int .u8 0), .v (.int .u8 0), .v (.int .u8 0), .v (.int .u8 0), .v (.int .u8 0), .v (.int .u8 0), .v (.int .u8 0), .v (.int .u8 0), .v (.int .u8 0), .v (.int .u8 0), .v (.int .u8 0), .v (.int .u8 0), .v (.int .u8 0), .v (.int .u8 0), .v (.int .u8 0), .v (.int .u8 0), .v (.int .u8 0), .v (.int .u8 0), .v (.int .u8 0), .v (.int .u8 0), .v (.int .u8 0), .v (.int .u8 0), .v (.int .u8 0), .v (.int .u8 0), .v (.int .u8 0), .v (.int .u8 0), .v (.int .u8 0), .v (.int .u8 0), .v (.int .u8 0)], false, false⟩
def ti276 : TI := ⟨.array 64 5, (.st (.pair (.int .u8) (.pair (.int .u8) (.pair (.int .u8) (.pair (.int .u8) (.pair (.int .u8) (.pair (.int .u8) (.pair (.int .u8) (.pair (.int .u8) (.pair (.int .u8) (.pair (.int .u8) (.pair (.int .u8) (.pair (.int .u8) (.pair (.int .u8) (.pair (.int .u8) (.pair (.int .u8) (.pair (.int .u8) (.pair (.int .u8) (.pair (.int .u8) (.pair (.int .u8) (.pair (.int .u8) (.pair (.int .u8) (.pair (.int .u8) (.pair (.int .u8) (.pair (.int .u8) (.pair (.int .u8) (.pair (.int .u8) (.pair (.int .u8) (.pair (.int .u8) (.pair (.int .u8) (.pair (.int .u8) (.pair (.int .u8) (.pair (.int .u8) (.pair (.int .u8) (.pair (.int .u8) (.pair (.int .u8) (.pair (.int .u8) (.pair (.int .u8) (.pair (.int .u8) (.pair (.int .u8) (.pair (.int .u8) (.pair (.int .u8) (.pair (.int .u8) (.pair (.int .u8) (.pair (.int .u8) (.pair (.int .u8) (.pair (.int .u8) (.pair (.int .u8) (.pair (.int .u8) (.pair (.int .u8) (.pair (.int .u8) (.pair (.int .u8) (.pair (.int .u8) (.pair (.int .u8) (.pair (.int .u8) (.pair (.int .u8) (.pair (.int .u8) (.pair (.int .u8) (.pair (.int .u8) (.pair (.int .u8) (.pair (.int .u8) (.pair (.int .u8) (.pair (.int .u8) (.pair (.int .u8) (.int .u8))))))))))))))))))))))))))))))))))))))))))))))))))))))))))))))))), 64, 64, [.v (.int .u8 0), .v (.int .u8 0), .v (.int .u8 0), .v (.int .u8 0), .v (.int .u8 0), .v (.int .u8 0), .v (.int .u8 0), .v (.int .u8 0), .v (.int .u8 0), .v (.int .u8 0), .v (.int .u8 0), .v (.int .u8 0), .v (.int .u8 0), .v (.int .u8 0), .v (.int .u8 0), .v (.int .u8 0), .v (.int .u8 0), .v (.int .u8 0), .v (.int .u8 0), .v (.int .u8 0), .v (.int .u8 0), .v (.int .u8 0), .v (.int .u8 0), .v (.int .u8 0), .v (.int .u8 0), .v (.int .u8 0), .v (.int .u8 0), .v (.int .u8 0), .v (.int .u8 0), .v (.int .u8 0), .v (.int .u8 0), .v (.int .u8 0), .v (.int .u8 0), .v (.int .u8 0), .v (.int .u8 0), .v (.int .u8 0), .v (.int .u8 0), .v (.int .u8 0), .v (.int .u8 0), .v (.int .u8 0), .v (.int .u8 0), .v (.int .u8 0), .v (.int .u8 0), .v (.int .u8 0), .v (.int .u8 0), .v (.int .u8 0), .v (.int .u8 0), .v (.int .u8 0), .v (.int .u8 0), .v (.int .u8 0), .v (.int .u8 0), .v (.int .u8 0), .v (.int .u8 0), .v (.int .u8 0), .v (.int .u8 0), .v (.int .u8 0), .v (.int .u8 0), .v (.int .u8 0), .v (.int .u8 0), .v (.int .u8 0), .v (.int .u8 0), .v (.int .u8 0), .v (.int .u8 0), .v (.int .u8 0)], false, false⟩
def ti277 : TI := ⟨.struct [(0, 17), (1, 17), (2, 17), (3, 9)], (.st (.pair .any (.pair .any (.pair .any .str)))), 4, 40, [.v (.pointer none), .v (.pointer none), .v (.pointer none), .v (.string ByteArray.empty)], false, false⟩
def ti278 : TI := ⟨.struct [(0, 17), (1, 17), (2, 17), (3, 9)], (.st (.pair .any (.pair .any (.pair .any .str)))), 4, 40, [.v (.pointer none), .v (.pointer none), .v (.pointer none), .v (.string ByteArray.empty)], false, false⟩
def ti282 : TI := ⟨.int .u8, (.int .u8), 1, 1, [.v (.int .u8 0)], false, false⟩
def ti283 : TI := ⟨.int .u8, (.int .u8), 1, 1, [.v (.int .u8 0)], false, false⟩
def ti284 : TI := ⟨.func, .any, 1, 8, [.v (.nilFunc)], false, false⟩
def ti285 : TI := ⟨.int .i32, (.int .i32), 1, 4, [.v (.int .i32 0)], false, false⟩
def ti286 : TI := ⟨.int .i32, (.int .i32), 1, 4, [.v (.int .i32 0)], false, false⟩
def ti287 : TI := ⟨.struct [(0, 12), (1, 12), (2, 33), (3, 282), (4, 5), (5, 5), (6, 283), (7, 284), (8, 222), (9, 285), (10, 286)], (.st (.pair (.int .u64) (.pair (.int .u64) (.pair (.int .u32) (.pair (.int .u8) (.pair (.int .u8) (.pair (.int .u8) (.pair (.int .u8) (.pair .any (.pair .any (.pair (.int .i32) (.int .i32)))))))))))), 11, 48, [.v (.int .u64 0), .v (.int .u64 0), .v (.int .u32 0), .v (.int .u8 0), .v (.int .u8 0), .v (.int .u8 0), .v (.int .u8 0), .v (.nilFunc), .v (.pointer none), .v (.int .i32 0), .v (.int .i32 0)], false, false⟩
def ti288 : TI := ⟨.struct [(0, 12), (1, 12), (2, 33), (3, 282), (4, 5), (5, 5), (6, 283), (7, 284), (8, 222), (9, 285), (10, 286)], (.st (.pair (.int .u64) (.pair (.int .u64) (.pair (.int .u32) (.pair (.int .u8) (.pair (.int .u8) (.pair (.int .u8) (.pair (.int .u8) (.pair .any (.pair .any (.pair (.int .i32) (.int .i32)))))))))))), 11, 48, [.v (.int .u64 0), .v (.int .u64 0), .v (.int .u32 0), .v (.int .u8 0), .v (.int .u8 0), .v (.int .u8 0), .v (.int .u8 0), .v (.nilFunc), .v (.pointer none), .v (.int .i32 0), .v (.int .i32 0)], false, false⟩
def ti289 : TI := ⟨.func, .any, 1, 8, [.v (.nilFunc)], false, false⟩
def ti290 : TI := ⟨.func, .any, 1, 8, [.v (.nilFunc)], false, false⟩
def ti291 : TI := ⟨.slice 32, .slice, 1, 24, [.v (.slice none 0 0)], false, false⟩
def tree : TTree := (.node 143 ti143 (.node 69 ti69 (.node 33 ti33 (.node 17 ti17 (.node 9 ti9 (.node 5 ti5 (.node 3 ti3 (.node 2 ti2 (.node 1 ti1 .leaf .leaf) .leaf) (.node 4 ti4 .leaf .leaf)) (.node 7 ti7 (.node 6 ti6 .leaf .leaf) (.node 8 ti8 .leaf .leaf))) (.node 13 ti13 (.node 11 ti11 (.node 10 ti10 .leaf .leaf) (.node 12 ti12 .leaf .leaf)) (.node 15 ti15 (.node 14 ti14 .leaf .leaf) (.node 16 ti16 .leaf .leaf)))) (.node 25 ti25 (.node 21 ti21 (.node 19 ti19 (.node 18 ti18 .leaf .leaf) (.node 20 ti20 .leaf .leaf)) (.node 23 ti23 (.node 22 ti22 .leaf .leaf) (.node 24 ti24 .leaf .leaf))) (.node 29 ti29 (.node 27 ti27 (.node 26 ti26 .leaf .leaf) (.node 28 ti28 .leaf .leaf)) (.node 31 ti31 (.node 30 ti30 .leaf .leaf) (.node 32 ti32 .leaf .leaf))))) (.node 53 ti53 (.node 43 ti43 (.node 38 ti38 (.node 36 ti36 (.node 35 ti35 (.node 34 ti34 .leaf .leaf) .leaf) (.node 37 ti37 .leaf .leaf)) (.node 41 ti41 (.node 40 ti40 .leaf .leaf) (.node 42 ti42 .leaf .leaf))) (.node 48 ti48 (.node 46 ti46 (.node 44 ti44 .leaf .leaf) (.node 47 ti47 .leaf .leaf)) (.node 50 ti50 (.node 49 ti49 .leaf .leaf) (.node 52 ti52 .leaf .leaf)))) (.node 61 ti61 (.node 57 ti57 (.node 55 ti55 (.node 54 ti54 .leaf .leaf) (.node 56 ti56 .leaf .leaf)) (.node 59 ti59 (.node 58 ti58 .leaf .leaf) (.node 60 ti60 .leaf .leaf))) (.node 65 ti65 (.node 63 ti63 (.node 62 ti62 .leaf .leaf) (.node 64 ti64 .leaf .leaf)) (.node 67 ti67 (.node 66 ti66 .leaf .leaf) (.node 68 ti68 .leaf .leaf)))))) (.node 104 ti104 (.node 86 ti86 (.node 78 ti78 (.node 74 ti74 (.node 72 ti72 (.node 71 ti71 (.node 70 ti70 .leaf .leaf) .leaf) (.node 73 ti73 .leaf .leaf)) (.node 76 ti76 (.node 75 ti75 .leaf .leaf) (.node 77 ti77 .leaf .leaf))) (.node 82 ti82 (.node 80 ti80 (.node 79 ti79 .leaf .leaf) (.node 81 ti81 .leaf .leaf)) (.node 84 ti84 (.node 83 ti83 .leaf .leaf) (.node 85 ti85 .leaf .leaf)))) (.node 95 ti95 (.node 90 ti90 (.node 88 ti88 (.node 87 ti87 .leaf .leaf) (.node 89 ti89 .leaf .leaf)) (.node 92 ti92 (.node 91 ti91 .leaf .leaf) (.node 94 ti94 .leaf .leaf))) (.node 100 ti100 (.node 97 ti97 (.node 96 ti96 .leaf .leaf) (.node 98 ti98 .leaf .leaf)) (.node 102 ti102 (.node 101 ti101 .leaf .leaf) (.node 103 ti103 .leaf .leaf))))) (.node 122 ti122 (.node 114 ti114 (.node 109 ti109 (.node 107 ti107 (.node 106 ti106 (.node 105 ti105 .leaf .leaf) .leaf) (.node 108 ti108 .leaf .leaf)) (.node 111 ti111 (.node 110 ti110 .leaf .leaf) (.node 112 ti112 .leaf .leaf))) (.node 118 ti118 (.node 116 ti116 (.node 115 ti115 .leaf .leaf) (.node 117 ti117 .leaf .leaf)) (.node 120 ti120 (.node 119 ti119 .leaf .leaf) (.node 121 ti121 .leaf .leaf)))) (.node 132 ti132 (.node 126 ti126 (.node 124 ti124 (.node 123 ti123 .leaf .leaf) (.node 125 ti125 .leaf .leaf)) (.node 128 ti128 (.node 127 ti127 .leaf .leaf) (.node 130 ti130 .leaf .leaf))) (.node 138 ti138 (.node 135 ti135 (.node 134 ti134 .leaf .leaf) (.node 136 ti136 .leaf .leaf)) (.node 140 ti140 (.node 139 ti139 .leaf .leaf) (.node 141 ti141 .leaf .leaf))))))) (.node 217 ti217 (.node 178 ti178 (.node 162 ti162 (.node 153 ti153 (.node 149 ti149 (.node 146 ti146 (.node 145 ti145 (.node 144 ti144 .leaf .leaf) .leaf) (.node 147 ti147 .leaf .leaf)) (.node 151 ti151 (.node 150 ti150 .leaf .leaf) (.node 152 ti152 .leaf .leaf))) (.node 158 ti158 (.node 156 ti156 (.node 155 ti155 .leaf .leaf) (.node 157 ti157 .leaf .leaf)) (.node 160 ti160 (.node 159 ti159 .leaf .leaf) (.node 161 ti161 .leaf .leaf)))) (.node 170 ti170 (.node 166 ti166 (.node 164 ti164 (.node 163 ti163 .leaf .leaf) (.node 165 ti165 .leaf .leaf)) (.node 168 ti168 (.node 167 ti167 .leaf .leaf) (.node 169 ti169 .leaf .leaf))) (.node 174 ti174 (.node 172 ti172 (.node 171 ti171 .leaf .leaf) (.node 173 ti173 .leaf .leaf)) (.node 176 ti176 (.node 175 ti175 .leaf .leaf) (.node 177 ti177 .leaf .leaf))))) (.node 197 ti197 (.node 189 ti189 (.node 184 ti184 (.node 182 ti182 (.node 181 ti181 (.node 179 ti179 .leaf .leaf) .leaf) (.node 183 ti183 .leaf .leaf)) (.node 186 ti186 (.node 185 ti185 .leaf .leaf) (.node 188 ti188 .leaf .leaf))) (.node 193 ti193 (.node 191 ti191 (.node 190 ti190 .leaf .leaf) (.node 192 ti192 .leaf .leaf)) (.node 195 ti195 (.node 194 ti194 .leaf .leaf) (.node 196 ti196 .leaf .leaf)))) (.node 207 ti207 (.node 202 ti202 (.node 199 ti199 (.node 198 ti198 .leaf .leaf) (.node 201 ti201 .leaf .leaf)) (.node 204 ti204 (.node 203 ti203 .leaf .leaf) (.node 206 ti206 .leaf .leaf))) (.node 212 ti212 (.node 209 ti209 (.node 208 ti208 .leaf .leaf) (.node 210 ti210 .leaf .leaf)) (.node 214 ti214 (.node 213 ti213 .leaf .leaf) (.node 215 ti215 .leaf .leaf)))))) (.node 254 ti254 (.node 235 ti235 (.node 227 ti227 (.node 223 ti223 (.node 221 ti221 (.node 219 ti219 (.node 218 ti218 .leaf .leaf) .leaf) (.node 222 ti222 .leaf .leaf)) (.node 225 ti225 (.node 224 ti224 .leaf .leaf) (.node 226 ti226 .leaf .leaf))) (.node 231 ti231 (.node 229 ti229 (.node 228 ti228 .leaf .leaf) (.node 230 ti230 .leaf .leaf)) (.node 233 ti233 (.node 232 ti232 .leaf .leaf) (.node 234 ti234 .leaf .leaf)))) (.node 244 ti244 (.node 240 ti240 (.node 238 ti238 (.node 237 ti237 .leaf .leaf) (.node 239 ti239 .leaf .leaf)) (.node 242 ti242 (.node 241 ti241 .leaf .leaf) (.node 243 ti243 .leaf .leaf))) (.node 248 ti248 (.node 246 ti246 (.node 245 ti245 .leaf .leaf) (.node 247 ti247 .leaf .leaf)) (.node 252 ti252 (.node 250 ti250 .leaf .leaf) (.node 253 ti253 .leaf .leaf))))) (.node 273 ti273 (.node 264 ti264 (.node 260 ti260 (.node 256 ti256 (.node 255 ti255 .leaf .leaf) (.node 258 ti258 .leaf .leaf)) (.node 262 ti262 (.node 261 ti261 .leaf .leaf) (.node 263 ti263 .leaf .leaf))) (.node 268 ti268 (.node 266 ti266 (.node 265 ti265 .leaf .leaf) (.node 267 ti267 .leaf .leaf)) (.node 270 ti270 (.node 269 ti269 .leaf .leaf) (.node 272 ti272 .leaf .leaf)))) (.node 284 ti284 (.node 277 ti277 (.node 275 ti275 (.node 274 ti274 .leaf .leaf) (.node 276 ti276 .leaf .leaf)) (.node 282 ti282 (.node 278 ti278 .leaf .leaf) (.node 283 ti283 .leaf .leaf))) (.node 288 ti288 (.node 286 ti286 (.node 285 ti285 .leaf .leaf) (.node 287 ti287 .leaf .leaf)) (.node 290 ti290 (.node 289 ti289 .leaf .leaf) (.node 291 ti291 .leaf .leaf))))))))
def tt : Nat → Option TI := tree.look
theorem tyfit1 : Fits Tryz.prog 1 ti1 := fits_mk (vs := [.nilFunc]) ⟨_, _, _, Tryz.underlying1⟩ Tryz.underlying1 rfl (by decide) rfl (by kernel_rfl) rfl rfl rfl (fun h => by cases h)
theorem tyfit2 : Fits Tryz.prog 2 ti2 := fits_mk (vs := [.int .i64 0]) Tryz.underlying2 Tryz.underlying2 rfl (by decide) rfl (by kernel_rfl) rfl rfl rfl (fun h => by cases h)
theorem tyfit3 : Fits Tryz.prog 3 ti3 := fits_mk (vs := [.int .i64 0]) Tryz.underlying3 Tryz.underlying3 rfl (by decide) rfl (by kernel_rfl) rfl rfl rfl (fun h => by cases h)
theorem tyfit4 : Fits Tryz.prog 4 ti4 := fits_mk (vs := [.bool false]) Tryz.underlying4 Tryz.underlying4 rfl (by decide) rfl (by kernel_rfl) rfl rfl rfl (fun h => by cases h)
theorem tyfit5 : Fits Tryz.prog 5 ti5 := fits_mk (vs := [.int .u8 0]) Tryz.underlying5 Tryz.underlying5 rfl (by decide) rfl (by kernel_rfl) rfl rfl rfl (fun h => by cases h)
theorem tyfit6 : Fits Tryz.prog 6 ti6 := fits_mk (vs := [.int .u8 0]) Tryz.underlying6 Tryz.underlying6 rfl (by decide) rfl (by kernel_rfl) rfl rfl rfl (fun h => by cases h)
theorem tyfit7 : Fits Tryz.prog 7 ti7 := fits_mk (vs := [.int .i64 0, .int .i64 0, .bool false, .int .u8 0]) ⟨_, Tryz.underlying7, rfl, by kernel_rfl⟩ Tryz.underlying7 rfl (by decide) rfl (by kernel_rfl) rfl rfl rfl (fun _ => ⟨by kernel_rfl, by kernel_rfl, by kernel_rfl⟩)
theorem tyfit8 : Fits Tryz.prog 8 ti8 := fits_mk (vs := [.int .i64 0, .int .i64 0, .bool false, .int .u8 0]) ⟨_, Tryz.underlying8, rfl, by kernel_rfl⟩ Tryz.underlying8 rfl (by decide) rfl (by kernel_rfl) rfl rfl rfl (fun h => by cases h)
theorem tyfit9 : Fits Tryz.prog 9 ti9 := fits_mk (vs := [.string ByteArray.empty]) Tryz.underlying9 Tryz.underlying9 rfl (by decide) rfl (by kernel_rfl) rfl rfl rfl (fun h => by cases h)
theorem tyfit10 : Fits Tryz.prog 10 ti10 := fits_mk (vs := [.string ByteArray.empty]) Tryz.underlying10 Tryz.underlying10 rfl (by decide) rfl (by kernel_rfl) rfl rfl rfl (fun h => by cases h)
theorem tyfit11 : Fits Tryz.prog 11 ti11 := fits_mk (vs := [.string ByteArray.empty]) Tryz.underlying11 Tryz.underlying11 rfl (by decide) rfl (by kernel_rfl) rfl rfl rfl (fun h => by cases h)
theorem tyfit12 : Fits Tryz.prog 12 ti12 := fits_mk (vs := [.int .u64 0]) Tryz.underlying12 Tryz.underlying12 rfl (by decide) rfl (by kernel_rfl) rfl rfl rfl (fun h => by cases h)
theorem tyfit13 : Fits Tryz.prog 13 ti13 := fits_mk (vs := [.string ByteArray.empty, .int .u64 0]) ⟨_, Tryz.underlying13, rfl, by kernel_rfl⟩ Tryz.underlying13 rfl (by decide) rfl (by kernel_rfl) rfl rfl rfl (fun h => by cases h)
theorem tyfit14 : Fits Tryz.prog 14 ti14 := fits_mk (vs := [.string ByteArray.empty, .int .u64 0]) ⟨_, Tryz.underlying14, rfl, by kernel_rfl⟩ Tryz.underlying14 rfl (by decide) rfl (by kernel_rfl) rfl rfl rfl (fun h => by cases h)
theorem tyfit15 : Fits Tryz.prog 15 ti15 := fits_mk (vs := [.pointer none]) Tryz.underlying15 Tryz.underlying15 rfl (by decide) rfl (by kernel_rfl) rfl rfl rfl (fun h => by cases h)
theorem tyfit16 : Fits Tryz.prog 16 ti16 := fits_mk (vs := [.pointer none]) Tryz.underlying16 Tryz.underlying16 rfl (by decide) rfl (by kernel_rfl) rfl rfl rfl (fun h => by cases h)
theorem tyfit17 : Fits Tryz.prog 17 ti17 := fits_mk (vs := [.pointer none]) Tryz.underlying17 Tryz.underlying17 rfl (by decide) rfl (by kernel_rfl) rfl rfl rfl (fun h => by cases h)
theorem tyfit18 : Fits Tryz.prog 18 ti18 := fits_mk (vs := [.pointer none]) ⟨_, Tryz.underlying18, rfl, by kernel_rfl⟩ Tryz.underlying18 rfl (by decide) rfl (by kernel_rfl) rfl rfl rfl (fun h => by cases h)
theorem tyfit19 : Fits Tryz.prog 19 ti19 := fits_mk (vs := [.pointer none]) ⟨_, Tryz.underlying19, rfl, by kernel_rfl⟩ Tryz.underlying19 rfl (by decide) rfl (by kernel_rfl) rfl rfl rfl (fun h => by cases h)
theorem tyfit20 : Fits Tryz.prog 20 ti20 := fits_mk (vs := [.nilIface]) ⟨_, Tryz.underlying20⟩ Tryz.underlying20 rfl (by decide) rfl (by kernel_rfl) rfl rfl rfl (fun h => by cases h)
theorem tyfit21 : Fits Tryz.prog 21 ti21 := fits_mk (vs := [.int .i32 0]) Tryz.underlying21 Tryz.underlying21 rfl (by decide) rfl (by kernel_rfl) rfl rfl rfl (fun h => by cases h)
theorem tyfit22 : Fits Tryz.prog 22 ti22 := fits_mk (vs := [.slice none 0 0]) Tryz.underlying22 Tryz.underlying22 rfl (by decide) rfl (by kernel_rfl) rfl rfl rfl (fun h => by cases h)
theorem tyfit23 : Fits Tryz.prog 23 ti23 := fits_mk (vs := [.slice none 0 0]) Tryz.underlying23 Tryz.underlying23 rfl (by decide) rfl (by kernel_rfl) rfl rfl rfl (fun h => by cases h)
theorem tyfit24 : Fits Tryz.prog 24 ti24 := fits_mk (vs := [.slice none 0 0, .slice none 0 0]) ⟨_, Tryz.underlying24, rfl, by kernel_rfl⟩ Tryz.underlying24 rfl (by decide) rfl (by kernel_rfl) rfl rfl rfl (fun h => by cases h)
theorem tyfit25 : Fits Tryz.prog 25 ti25 := fits_mk (vs := [.slice none 0 0, .slice none 0 0]) ⟨_, Tryz.underlying25, rfl, by kernel_rfl⟩ Tryz.underlying25 rfl (by decide) rfl (by kernel_rfl) rfl rfl rfl (fun h => by cases h)
theorem tyfit26 : Fits Tryz.prog 26 ti26 := fits_mk (vs := [.nilFunc]) ⟨_, _, _, Tryz.underlying26⟩ Tryz.underlying26 rfl (by decide) rfl (by kernel_rfl) rfl rfl rfl (fun h => by cases h)
theorem tyfit27 : Fits Tryz.prog 27 ti27 := fits_mk (vs := [.nilFunc]) ⟨_, _, _, Tryz.underlying27⟩ Tryz.underlying27 rfl (by decide) rfl (by kernel_rfl) rfl rfl rfl (fun h => by cases h)
theorem tyfit28 : Fits Tryz.prog 28 ti28 := fits_mk (vs := [.int .i64 0]) Tryz.underlying28 Tryz.underlying28 rfl (by decide) rfl (by kernel_rfl) rfl rfl rfl (fun h => by cases h)
theorem tyfit29 : Fits Tryz.prog 29 ti29 := fits_mk (vs := [.nilFunc]) ⟨_, _, _, Tryz.underlying29⟩ Tryz.underlying29 rfl (by decide) rfl (by kernel_rfl) rfl rfl rfl (fun h => by cases h)
theorem tyfit30 : Fits Tryz.prog 30 ti30 := fits_mk (vs := [.slice none 0 0]) Tryz.underlying30 Tryz.underlying30 rfl (by decide) rfl (by kernel_rfl) rfl rfl rfl (fun h => by cases h)
theorem tyfit31 : Fits Tryz.prog 31 ti31 := fits_mk (vs := [.nilFunc]) ⟨_, _, _, Tryz.underlying31⟩ Tryz.underlying31 rfl (by decide) rfl (by kernel_rfl) rfl rfl rfl (fun h => by cases h)
theorem tyfit32 : Fits Tryz.prog 32 ti32 := fits_mk (vs := [.int .i64 0]) Tryz.underlying32 Tryz.underlying32 rfl (by decide) rfl (by kernel_rfl) rfl rfl rfl (fun h => by cases h)
theorem tyfit33 : Fits Tryz.prog 33 ti33 := fits_mk (vs := [.int .u32 0]) Tryz.underlying33 Tryz.underlying33 rfl (by decide) rfl (by kernel_rfl) rfl rfl rfl (fun h => by cases h)
theorem tyfit34 : Fits Tryz.prog 34 ti34 := fits_mk (vs := [.int .i64 0, .int .u32 0, .int .u32 0]) ⟨_, Tryz.underlying34, rfl, by kernel_rfl⟩ Tryz.underlying34 rfl (by decide) rfl (by kernel_rfl) rfl rfl rfl (fun _ => ⟨by kernel_rfl, by kernel_rfl, by kernel_rfl⟩)
theorem tyfit35 : Fits Tryz.prog 35 ti35 := fits_mk (vs := [.int .i64 0, .int .u32 0, .int .u32 0]) ⟨_, Tryz.underlying35, rfl, by kernel_rfl⟩ Tryz.underlying35 rfl (by decide) rfl (by kernel_rfl) rfl rfl rfl (fun _ => ⟨by kernel_rfl, by kernel_rfl, by kernel_rfl⟩)
theorem tyfit36 : Fits Tryz.prog 36 ti36 := fits_mk (vs := [.int .i64 0, .int .i64 0, .int .i64 0, .int .u32 0, .int .u32 0, .int .i64 0, .int .u32 0, .int .u32 0]) ⟨_, Tryz.underlying36, rfl, by kernel_rfl⟩ Tryz.underlying36 rfl (by decide) rfl (by kernel_rfl) rfl rfl rfl (fun _ => ⟨by kernel_rfl, by kernel_rfl, by kernel_rfl⟩)
theorem tyfit37 : Fits Tryz.prog 37 ti37 := fits_mk (vs := [.int .i64 0, .int .i64 0, .int .i64 0, .int .u32 0, .int .u32 0, .int .i64 0, .int .u32 0, .int .u32 0]) ⟨_, Tryz.underlying37, rfl, by kernel_rfl⟩ Tryz.underlying37 rfl (by decide) rfl (by kernel_rfl) rfl rfl rfl (fun _ => ⟨by kernel_rfl, by kernel_rfl, by kernel_rfl⟩)
theorem tyfit38 : Fits Tryz.prog 38 ti38 := fits_mk (vs := [.slice none 0 0]) Tryz.underlying38 Tryz.underlying38 rfl (by decide) rfl (by kernel_rfl) rfl rfl rfl (fun h => by cases h)
theorem tyfit40 : Fits Tryz.prog 40 ti40 := fits_mk (vs := [.nilFunc]) ⟨_, _, _, Tryz.underlying40⟩ Tryz.underlying40 rfl (by decide) rfl (by kernel_rfl) rfl rfl rfl (fun h => by cases h)
theorem tyfit41 : Fits Tryz.prog 41 ti41 := fits_mk (vs := [.nilFunc]) ⟨_, _, _, Tryz.underlying41⟩ Tryz.underlying41 rfl (by decide) rfl (by kernel_rfl) rfl rfl rfl (fun h => by cases h)
theorem tyfit42 : Fits Tryz.prog 42 ti42 := fits_mk (vs := [.nilFunc]) ⟨_, _, _, Tryz.underlying42⟩ Tryz.underlying42 rfl (by decide) rfl (by kernel_rfl) rfl rfl rfl (fun h => by cases h)
theorem tyfit43 : Fits Tryz.prog 43 ti43 := fits_mk (vs := [.nilFunc]) ⟨_, _, _, Tryz.underlying43⟩ Tryz.underlying43 rfl (by decide) rfl (by kernel_rfl) rfl rfl rfl (fun h => by cases h)
theorem tyfit44 : Fits Tryz.prog 44 ti44 := fits_mk (vs := [.nilFunc]) ⟨_, _, _, Tryz.underlying44⟩ Tryz.underlying44 rfl (by decide) rfl (by kernel_rfl) rfl rfl rfl (fun h => by cases h)
theorem tyfit46 : Fits Tryz.prog 46 ti46 := fits_mk (vs := [.nilFunc]) ⟨_, _, _, Tryz.underlying46⟩ Tryz.underlying46 rfl (by decide) rfl (by kernel_rfl) rfl rfl rfl (fun h => by cases h)
theorem tyfit47 : Fits Tryz.prog 47 ti47 := fits_mk (vs := [.slice none 0 0, .slice none 0 0]) ⟨_, Tryz.underlying47, rfl, by kernel_rfl⟩ Tryz.underlying47 rfl (by decide) rfl (by kernel_rfl) rfl rfl rfl (fun h => by cases h)
theorem tyfit48 : Fits Tryz.prog 48 ti48 := fits_mk (vs := [.nilFunc]) ⟨_, _, _, Tryz.underlying48⟩ Tryz.underlying48 rfl (by decide) rfl (by kernel_rfl) rfl rfl rfl (fun h => by cases h)
theorem tyfit49 : Fits Tryz.prog 49 ti49 := fits_mk (vs := [.nilFunc]) ⟨_, _, _, Tryz.underlying49⟩ Tryz.underlying49 rfl (by decide) rfl (by kernel_rfl) rfl rfl rfl (fun h => by cases h)
theorem tyfit50 : Fits Tryz.prog 50 ti50 := fits_mk (vs := [.slice none 0 0]) Tryz.underlying50 Tryz.underlying50 rfl (by decide) rfl (by kernel_rfl) rfl rfl rfl (fun h => by cases h)
theorem tyfit52 : Fits Tryz.prog 52 ti52 := fits_mk (vs := [.nilFunc]) ⟨_, _, _, Tryz.underlying52⟩ Tryz.underlying52 rfl (by decide) rfl (by kernel_rfl) rfl rfl rfl (fun h => by cases h)
theorem tyfit53 : Fits Tryz.prog 53 ti53 := fits_mk (vs := [.nilFunc]) ⟨_, _, _, Tryz.underlying53⟩ Tryz.underlying53 rfl (by decide) rfl (by kernel_rfl) rfl rfl rfl (fun h => by cases h)
theorem tyfit54 : Fits Tryz.prog 54 ti54 := fits_mk (vs := [.nilFunc]) ⟨_, _, _, Tryz.underlying54⟩ Tryz.underlying54 rfl (by decide) rfl (by kernel_rfl) rfl rfl rfl (fun h => by cases h)
theorem tyfit55 : Fits Tryz.prog 55 ti55 := fits_mk (vs := [.nilFunc]) ⟨_, _, _, Tryz.underlying55⟩ Tryz.underlying55 rfl (by decide) rfl (by kernel_rfl) rfl rfl rfl (fun h => by cases h)
theorem tyfit56 : Fits Tryz.prog 56 ti56 := fits_mk (vs := [.nilFunc]) ⟨_, _, _, Tryz.underlying56⟩ Tryz.underlying56 rfl (by decide) rfl (by kernel_rfl) rfl rfl rfl (fun h => by cases h)
theorem tyfit57 : Fits Tryz.prog 57 ti57 := fits_mk (vs := [.int .i64 0, .int .i64 0, .int .i64 0]) ⟨_, Tryz.underlying57, rfl, by kernel_rfl⟩ Tryz.underlying57 rfl (by decide) rfl (by kernel_rfl) rfl rfl rfl (fun _ => ⟨by kernel_rfl, by kernel_rfl, by kernel_rfl⟩)
theorem tyfit58 : Fits Tryz.prog 58 ti58 := fits_mk (vs := [.int .i64 0, .int .i64 0, .int .i64 0]) ⟨_, Tryz.underlying58, rfl, by kernel_rfl⟩ Tryz.underlying58 rfl (by decide) rfl (by kernel_rfl) rfl rfl rfl (fun _ => ⟨by kernel_rfl, by kernel_rfl, by kernel_rfl⟩)
theorem tyfit59 : Fits Tryz.prog 59 ti59 := fits_mk (vs := [.nilFunc]) ⟨_, _, _, Tryz.underlying59⟩ Tryz.underlying59 rfl (by decide) rfl (by kernel_rfl) rfl rfl rfl (fun h => by cases h)
theorem tyfit60 : Fits Tryz.prog 60 ti60 := fits_mk (vs := [.nilFunc]) ⟨_, _, _, Tryz.underlying60⟩ Tryz.underlying60 rfl (by decide) rfl (by kernel_rfl) rfl rfl rfl (fun h => by cases h)
theorem tyfit61 : Fits Tryz.prog 61 ti61 := fits_mk (vs := [.nilFunc]) ⟨_, _, _, Tryz.underlying61⟩ Tryz.underlying61 rfl (by decide) rfl (by kernel_rfl) rfl rfl rfl (fun h => by cases h)
theorem tyfit62 : Fits Tryz.prog 62 ti62 := fits_mk (vs := [.map none]) Tryz.underlying62 Tryz.underlying62 rfl (by decide) rfl (by kernel_rfl) rfl rfl rfl (fun h => by cases h)
theorem tyfit63 : Fits Tryz.prog 63 ti63 := fits_mk (vs := [.slice none 0 0]) Tryz.underlying63 Tryz.underlying63 rfl (by decide) rfl (by kernel_rfl) rfl rfl rfl (fun h => by cases h)
theorem tyfit64 : Fits Tryz.prog 64 ti64 := fits_mk (vs := [.slice none 0 0]) Tryz.underlying64 Tryz.underlying64 rfl (by decide) rfl (by kernel_rfl) rfl rfl rfl (fun h => by cases h)
theorem tyfit65 : Fits Tryz.prog 65 ti65 := fits_mk (vs := [.slice none 0 0, .slice none 0 0]) ⟨_, Tryz.underlying65, rfl, by kernel_rfl⟩ Tryz.underlying65 rfl (by decide) rfl (by kernel_rfl) rfl rfl rfl (fun h => by cases h)
theorem tyfit66 : Fits Tryz.prog 66 ti66 := fits_mk (vs := [.slice none 0 0, .slice none 0 0]) ⟨_, Tryz.underlying66, rfl, by kernel_rfl⟩ Tryz.underlying66 rfl (by decide) rfl (by kernel_rfl) rfl rfl rfl (fun h => by cases h)
theorem tyfit67 : Fits Tryz.prog 67 ti67 := fits_mk (vs := [.slice none 0 0]) Tryz.underlying67 Tryz.underlying67 rfl (by decide) rfl (by kernel_rfl) rfl rfl rfl (fun h => by cases h)
theorem tyfit68 : Fits Tryz.prog 68 ti68 := fits_mk (vs := [.map none]) Tryz.underlying68 Tryz.underlying68 rfl (by decide) rfl (by kernel_rfl) rfl rfl rfl (fun h => by cases h)
theorem tyfit69 : Fits Tryz.prog 69 ti69 := fits_mk (vs := [.slice none 0 0, .slice none 0 0, .map none]) ⟨_, Tryz.underlying69, rfl, by kernel_rfl⟩ Tryz.underlying69 rfl (by decide) rfl (by kernel_rfl) rfl rfl rfl (fun h => by cases h)
theorem tyfit70 : Fits Tryz.prog 70 ti70 := fits_mk (vs := [.slice none 0 0, .slice none 0 0, .map none]) ⟨_, Tryz.underlying70, rfl, by kernel_rfl⟩ Tryz.underlying70 rfl (by decide) rfl (by kernel_rfl) rfl rfl rfl (fun h => by cases h)
theorem tyfit71 : Fits Tryz.prog 71 ti71 := fits_mk (vs := [.slice none 0 0]) Tryz.underlying71 Tryz.underlying71 rfl (by decide) rfl (by kernel_rfl) rfl rfl rfl (fun h => by cases h)
theorem tyfit72 : Fits Tryz.prog 72 ti72 := fits_mk (vs := [.slice none 0 0, .slice none 0 0, .slice none 0 0, .slice none 0 0, .map none, .slice none 0 0, .int .i64 0]) ⟨_, Tryz.underlying72, rfl, by kernel_rfl⟩ Tryz.underlying72 rfl (by decide) rfl (by kernel_rfl) rfl rfl rfl (fun h => by cases h)
theorem tyfit73 : Fits Tryz.prog 73 ti73 := fits_mk (vs := [.slice none 0 0, .slice none 0 0, .slice none 0 0, .slice none 0 0, .map none, .slice none 0 0, .int .i64 0]) ⟨_, Tryz.underlying73, rfl, by kernel_rfl⟩ Tryz.underlying73 rfl (by decide) rfl (by kernel_rfl) rfl rfl rfl (fun h => by cases h)
theorem tyfit74 : Fits Tryz.prog 74 ti74 := fits_mk (vs := [.slice none 0 0]) Tryz.underlying74 Tryz.underlying74 rfl (by decide) rfl (by kernel_rfl) rfl rfl rfl (fun h => by cases h)
theorem tyfit75 : Fits Tryz.prog 75 ti75 := fits_mk (vs := [.slice none 0 0]) Tryz.underlying75 Tryz.underlying75 rfl (by decide) rfl (by kernel_rfl) rfl rfl rfl (fun h => by cases h)
theorem tyfit76 : Fits Tryz.prog 76 ti76 := fits_mk (vs := [.slice none 0 0, .slice none 0 0, .slice none 0 0, .slice none 0 0, .slice none 0 0, .slice none 0 0, .map none, .slice none 0 0, .int .i64 0, .slice none 0 0, .slice none 0 0, .slice none 0 0]) ⟨_, Tryz.underlying76, rfl, by kernel_rfl⟩ Tryz.underlying76 rfl (by decide) rfl (by kernel_rfl) rfl rfl rfl (fun h => by cases h)
theorem tyfit77 : Fits Tryz.prog 77 ti77 := fits_mk (vs := [.slice none 0 0, .slice none 0 0, .slice none 0 0, .slice none 0 0, .slice none 0 0, .slice none 0 0, .map none, .slice none 0 0, .int .i64 0, .slice none 0 0, .slice none 0 0, .slice none 0 0]) ⟨_, Tryz.underlying77, rfl, by kernel_rfl⟩ Tryz.underlying77 rfl (by decide) rfl (by kernel_rfl) rfl rfl rfl (fun h => by cases h)
theorem tyfit78 : Fits Tryz.prog 78 ti78 := fits_mk (vs := [.nilFunc]) ⟨_, _, _, Tryz.underlying78⟩ Tryz.underlying78 rfl (by decide) rfl (by kernel_rfl) rfl rfl rfl (fun h => by cases h)
theorem tyfit79 : Fits Tryz.prog 79 ti79 := fits_mk (vs := [.nilFunc]) ⟨_, _, _, Tryz.underlying79⟩ Tryz.underlying79 rfl (by decide) rfl (by kernel_rfl) rfl rfl rfl (fun h => by cases h)
theorem tyfit80 : Fits Tryz.prog 80 ti80 := fits_mk (vs := [.nilFunc]) ⟨_, _, _, Tryz.underlying80⟩ Tryz.underlying80 rfl (by decide) rfl (by kernel_rfl) rfl rfl rfl (fun h => by cases h)
theorem tyfit81 : Fits Tryz.prog 81 ti81 := fits_mk (vs := [.nilFunc]) ⟨_, _, _, Tryz.underlying81⟩ Tryz.underlying81 rfl (by decide) rfl (by kernel_rfl) rfl rfl rfl (fun h => by cases h)
theorem tyfit82 : Fits Tryz.prog 82 ti82 := fits_mk (vs := [.nilFunc]) ⟨_, _, _, Tryz.underlying82⟩ Tryz.underlying82 rfl (by decide) rfl (by kernel_rfl) rfl rfl rfl (fun h => by cases h)
theorem tyfit83 : Fits Tryz.prog 83 ti83 := fits_mk (vs := [.nilFunc]) ⟨_, _, _, Tryz.underlying83⟩ Tryz.underlying83 rfl (by decide) rfl (by kernel_rfl) rfl rfl rfl (fun h => by cases h)
theorem tyfit84 : Fits Tryz.prog 84 ti84 := fits_mk (vs := [.nilFunc]) ⟨_, _, _, Tryz.underlying84⟩ Tryz.underlying84 rfl (by decide) rfl (by kernel_rfl) rfl rfl rfl (fun h => by cases h)
theorem tyfit85 : Fits Tryz.prog 85 ti85 := fits_mk (vs := [.slice none 0 0]) Tryz.underlying85 Tryz.underlying85 rfl (by decide) rfl (by kernel_rfl) rfl rfl rfl (fun h => by cases h)
theorem tyfit86 : Fits Tryz.prog 86 ti86 := fits_mk (vs := [.nilFunc]) ⟨_, _, _, Tryz.underlying86⟩ Tryz.underlying86 rfl (by decide) rfl (by kernel_rfl) rfl rfl rfl (fun h => by cases h)
theorem tyfit87 : Fits Tryz.prog 87 ti87 := fits_mk (vs := [.string ByteArray.empty, .slice none 0 0]) ⟨_, Tryz.underlying87, rfl, by kernel_rfl⟩ Tryz.underlying87 rfl (by decide) rfl (by kernel_rfl) rfl rfl rfl (fun h => by cases h)
theorem tyfit88 : Fits Tryz.prog 88 ti88 := fits_mk (vs := [.string ByteArray.empty, .slice none 0 0]) ⟨_, Tryz.underlying88, rfl, by kernel_rfl⟩ Tryz.underlying88 rfl (by decide) rfl (by kernel_rfl) rfl rfl rfl (fun h => by cases h)
theorem tyfit89 : Fits Tryz.prog 89 ti89 := fits_mk (vs := [.nilFunc]) ⟨_, _, _, Tryz.underlying89⟩ Tryz.underlying89 rfl (by decide) rfl (by kernel_rfl) rfl rfl rfl (fun h => by cases h)
theorem tyfit90 : Fits Tryz.prog 90 ti90 := fits_mk (vs := [.nilFunc]) ⟨_, _, _, Tryz.underlying90⟩ Tryz.underlying90 rfl (by decide) rfl (by kernel_rfl) rfl rfl rfl (fun h => by cases h)
theorem tyfit91 : Fits Tryz.prog 91 ti91 := fits_mk (vs := [.nilFunc]) ⟨_, _, _, Tryz.underlying91⟩ Tryz.underlying91 rfl (by decide) rfl (by kernel_rfl) rfl rfl rfl (fun h => by cases h)
theorem tyfit92 : Fits Tryz.prog 92 ti92 := fits_mk (vs := [.nilFunc]) ⟨_, _, _, Tryz.underlying92⟩ Tryz.underlying92 rfl (by decide) rfl (by kernel_rfl) rfl rfl rfl (fun h => by cases h)
theorem tyfit94 : Fits Tryz.prog 94 ti94 := fits_mk (vs := [.nilFunc]) ⟨_, _, _, Tryz.underlying94⟩ Tryz.underlying94 rfl (by decide) rfl (by kernel_rfl) rfl rfl rfl (fun h => by cases h)
theorem tyfit95 : Fits Tryz.prog 95 ti95 := fits_mk (vs := [.slice none 0 0]) Tryz.underlying95 Tryz.underlying95 rfl (by decide) rfl (by kernel_rfl) rfl rfl rfl (fun h => by cases h)
theorem tyfit96 : Fits Tryz.prog 96 ti96 := fits_mk (vs := [.nilFunc]) ⟨_, _, _, Tryz.underlying96⟩ Tryz.underlying96 rfl (by decide) rfl (by kernel_rfl) rfl rfl rfl (fun h => by cases h)
theorem tyfit97 : Fits Tryz.prog 97 ti97 := fits_mk (vs := [.int .i64 0, .int .u32 0, .int .u32 0, .bool false]) ⟨_, Tryz.underlying97, rfl, by kernel_rfl⟩ Tryz.underlying97 rfl (by decide) rfl (by kernel_rfl) rfl rfl rfl (fun _ => ⟨by kernel_rfl, by kernel_rfl, by kernel_rfl⟩)
theorem tyfit98 : Fits Tryz.prog 98 ti98 := fits_mk (vs := [.int .i64 0, .int .u32 0, .int .u32 0, .bool false]) ⟨_, Tryz.underlying98, rfl, by kernel_rfl⟩ Tryz.underlying98 rfl (by decide) rfl (by kernel_rfl) rfl rfl rfl (fun _ => ⟨by kernel_rfl, by kernel_rfl, by kernel_rfl⟩)
theorem tyfit100 : Fits Tryz.prog 100 ti100 := fits_mk (vs := [.nilFunc]) ⟨_, _, _, Tryz.underlying100⟩ Tryz.underlying100 rfl (by decide) rfl (by kernel_rfl) rfl rfl rfl (fun h => by cases h)
theorem tyfit101 : Fits Tryz.prog 101 ti101 := fits_mk (vs := [.nilFunc]) ⟨_, _, _, Tryz.underlying101⟩ Tryz.underlying101 rfl (by decide) rfl (by kernel_rfl) rfl rfl rfl (fun h => by cases h)
theorem tyfit102 : Fits Tryz.prog 102 ti102 := fits_mk (vs := [.nilFunc]) ⟨_, _, _, Tryz.underlying102⟩ Tryz.underlying102 rfl (by decide) rfl (by kernel_rfl) rfl rfl rfl (fun h => by cases h)
theorem tyfit103 : Fits Tryz.prog 103 ti103 := fits_mk (vs := [.nilFunc]) ⟨_, _, _, Tryz.underlying103⟩ Tryz.underlying103 rfl (by decide) rfl (by kernel_rfl) rfl rfl rfl (fun h => by cases h)
theorem tyfit104 : Fits Tryz.prog 104 ti104 := fits_mk (vs := [.nilFunc]) ⟨_, _, _, Tryz.underlying104⟩ Tryz.underlying104 rfl (by decide) rfl (by kernel_rfl) rfl rfl rfl (fun h => by cases h)
theorem tyfit105 : Fits Tryz.prog 105 ti105 := fits_mk (vs := [.slice none 0 0]) Tryz.underlying105 Tryz.underlying105 rfl (by decide) rfl (by kernel_rfl) rfl rfl rfl (fun h => by cases h)
theorem tyfit106 : Fits Tryz.prog 106 ti106 := fits_mk (vs := [.slice none 0 0]) Tryz.underlying106 Tryz.underlying106 rfl (by decide) rfl (by kernel_rfl) rfl rfl rfl (fun h => by cases h)
theorem tyfit107 : Fits Tryz.prog 107 ti107 := fits_mk (vs := [.slice none 0 0, .slice none 0 0]) ⟨_, Tryz.underlying107, rfl, by kernel_rfl⟩ Tryz.underlying107 rfl (by decide) rfl (by kernel_rfl) rfl rfl rfl (fun h => by cases h)
theorem tyfit108 : Fits Tryz.prog 108 ti108 := fits_mk (vs := [.slice none 0 0, .slice none 0 0]) ⟨_, Tryz.underlying108, rfl, by kernel_rfl⟩ Tryz.underlying108 rfl (by decide) rfl (by kernel_rfl) rfl rfl rfl (fun h => by cases h)
theorem tyfit109 : Fits Tryz.prog 109 ti109 := fits_mk (vs := [.slice none 0 0, .slice none 0 0, .slice none 0 0, .slice none 0 0]) ⟨_, Tryz.underlying109, rfl, by kernel_rfl⟩ Tryz.underlying109 rfl (by decide) rfl (by kernel_rfl) rfl rfl rfl (fun h => by cases h)
theorem tyfit110 : Fits Tryz.prog 110 ti110 := fits_mk (vs := [.slice none 0 0, .slice none 0 0, .slice none 0 0, .slice none 0 0]) ⟨_, Tryz.underlying110, rfl, by kernel_rfl⟩ Tryz.underlying110 rfl (by decide) rfl (by kernel_rfl) rfl rfl rfl (fun h => by cases h)
theorem tyfit111 : Fits Tryz.prog 111 ti111 := fits_mk (vs := [.nilFunc]) ⟨_, _, _, Tryz.underlying111⟩ Tryz.underlying111 rfl (by decide) rfl (by kernel_rfl) rfl rfl rfl (fun h => by cases h)
theorem tyfit112 : Fits Tryz.prog 112 ti112 := fits_mk (vs := [.nilFunc]) ⟨_, _, _, Tryz.underlying112⟩ Tryz.underlying112 rfl (by decide) rfl (by kernel_rfl) rfl rfl rfl (fun h => by cases h)
theorem tyfit114 : Fits Tryz.prog 114 ti114 := fits_mk (vs := [.nilFunc]) ⟨_, _, _, Tryz.underlying114⟩ Tryz.underlying114 rfl (by decide) rfl (by kernel_rfl) rfl rfl rfl (fun h => by cases h)
theorem tyfit115 : Fits Tryz.prog 115 ti115 := fits_mk (vs := [.nilFunc]) ⟨_, _, _, Tryz.underlying115⟩ Tryz.underlying115 rfl (by decide) rfl (by kernel_rfl) rfl rfl rfl (fun h => by cases h)
theorem tyfit116 : Fits Tryz.prog 116 ti116 := fits_mk (vs := [.nilFunc]) ⟨_, _, _, Tryz.underlying116⟩ Tryz.underlying116 rfl (by decide) rfl (by kernel_rfl) rfl rfl rfl (fun h => by cases h)
theorem tyfit117 : Fits Tryz.prog 117 ti117 := fits_mk (vs := [.nilFunc]) ⟨_, _, _, Tryz.underlying117⟩ Tryz.underlying117 rfl (by decide) rfl (by kernel_rfl) rfl rfl rfl (fun h => by cases h)
theorem tyfit118 : Fits Tryz.prog 118 ti118 := fits_mk (vs := [.nilFunc]) ⟨_, _, _, Tryz.underlying118⟩ Tryz.underlying118 rfl (by decide) rfl (by kernel_rfl) rfl rfl rfl (fun h => by cases h)
theorem tyfit119 : Fits Tryz.prog 119 ti119 := fits_mk (vs := [.nilFunc]) ⟨_, _, _, Tryz.underlying119⟩ Tryz.underlying119 rfl (by decide) rfl (by kernel_rfl) rfl rfl rfl (fun h => by cases h)
theorem tyfit120 : Fits Tryz.prog 120 ti120 := fits_mk (vs := [.nilFunc]) ⟨_, _, _, Tryz.underlying120⟩ Tryz.underlying120 rfl (by decide) rfl (by kernel_rfl) rfl rfl rfl (fun h => by cases h)
theorem tyfit121 : Fits Tryz.prog 121 ti121 := fits_mk (vs := [.nilFunc]) ⟨_, _, _, Tryz.underlying121⟩ Tryz.underlying121 rfl (by decide) rfl (by kernel_rfl) rfl rfl rfl (fun h => by cases h)
theorem tyfit122 : Fits Tryz.prog 122 ti122 := fits_mk (vs := [.nilFunc]) ⟨_, _, _, Tryz.underlying122⟩ Tryz.underlying122 rfl (by decide) rfl (by kernel_rfl) rfl rfl rfl (fun h => by cases h)
theorem tyfit123 : Fits Tryz.prog 123 ti123 := fits_mk (vs := [.nilFunc]) ⟨_, _, _, Tryz.underlying123⟩ Tryz.underlying123 rfl (by decide) rfl (by kernel_rfl) rfl rfl rfl (fun h => by cases h)
theorem tyfit124 : Fits Tryz.prog 124 ti124 := fits_mk (vs := [.nilFunc]) ⟨_, _, _, Tryz.underlying124⟩ Tryz.underlying124 rfl (by decide) rfl (by kernel_rfl) rfl rfl rfl (fun h => by cases h)
theorem tyfit125 : Fits Tryz.prog 125 ti125 := fits_mk (vs := [.nilFunc]) ⟨_, _, _, Tryz.underlying125⟩ Tryz.underlying125 rfl (by decide) rfl (by kernel_rfl) rfl rfl rfl (fun h => by cases h)
theorem tyfit126 : Fits Tryz.prog 126 ti126 := fits_mk (vs := [.nilFunc]) ⟨_, _, _, Tryz.underlying126⟩ Tryz.underlying126 rfl (by decide) rfl (by kernel_rfl) rfl rfl rfl (fun h => by cases h)
theorem tyfit127 : Fits Tryz.prog 127 ti127 := fits_mk (vs := [.nilFunc]) ⟨_, _, _, Tryz.underlying127⟩ Tryz.underlying127 rfl (by decide) rfl (by kernel_rfl) rfl rfl rfl (fun h => by cases h)
theorem tyfit128 : Fits Tryz.prog 128 ti128 := fits_mk (vs := [.nilFunc]) ⟨_, _, _, Tryz.underlying128⟩ Tryz.underlying128 rfl (by decide) rfl (by kernel_rfl) rfl rfl rfl (fun h => by cases h)
theorem tyfit130 : Fits Tryz.prog 130 ti130 := fits_mk (vs := [.nilFunc]) ⟨_, _, _, Tryz.underlying130⟩ Tryz.underlying130 rfl (by decide) rfl (by kernel_rfl) rfl rfl rfl (fun h => by cases h)
theorem tyfit132 : Fits Tryz.prog 132 ti132 := fits_mk (vs := [.nilFunc]) ⟨_, _, _, Tryz.underlying132⟩ Tryz.underlying132 rfl (by decide) rfl (by kernel_rfl) rfl rfl rfl (fun h => by cases h)
theorem tyfit134 : Fits Tryz.prog 134 ti134 := fits_mk (vs := [.nilFunc]) ⟨_, _, _, Tryz.underlying134⟩ Tryz.underlying134 rfl (by decide) rfl (by kernel_rfl) rfl rfl rfl (fun h => by cases h)
theorem tyfit135 : Fits Tryz.prog 135 ti135 := fits_mk (vs := [.nilFunc]) ⟨_, _, _, Tryz.underlying135⟩ Tryz.underlying135 rfl (by decide) rfl (by kernel_rfl) rfl rfl rfl (fun h => by cases h)
theorem tyfit136 : Fits Tryz.prog 136 ti136 := fits_mk (vs := [.nilFunc]) ⟨_, _, _, Tryz.underlying136⟩ Tryz.underlying136 rfl (by decide) rfl (by kernel_rfl) rfl rfl rfl (fun h => by cases h)
theorem tyfit138 : Fits Tryz.prog 138 ti138 := fits_mk (vs := [.nilFunc]) ⟨_, _, _, Tryz.underlying138⟩ Tryz.underlying138 rfl (by decide) rfl (by kernel_rfl) rfl rfl rfl (fun h => by cases h)
theorem tyfit139 : Fits Tryz.prog 139 ti139 := fits_mk (vs := [.nilFunc]) ⟨_, _, _, Tryz.underlying139⟩ Tryz.underlying139 rfl (by decide) rfl (by kernel_rfl) rfl rfl rfl (fun h => by cases h)
theorem tyfit140 : Fits Tryz.prog 140 ti140 := fits_mk (vs := [.nilFunc]) ⟨_, _, _, Tryz.underlying140⟩ Tryz.underlying140 rfl (by decide) rfl (by kernel_rfl) rfl rfl rfl (fun h => by cases h)
theorem tyfit141 : Fits Tryz.prog 141 ti141 := fits_mk (vs := [.nilFunc]) ⟨_, _, _, Tryz.underlying141⟩ Tryz.underlying141 rfl (by decide) rfl (by kernel_rfl) rfl rfl rfl (fun h => by cases h)
theorem tyfit143 : Fits Tryz.prog 143 ti143 := fits_mk (vs := [.nilFunc]) ⟨_, _, _, Tryz.underlying143⟩ Tryz.underlying143 rfl (by decide) rfl (by kernel_rfl) rfl rfl rfl (fun h => by cases h)
theorem tyfit144 : Fits Tryz.prog 144 ti144 := fits_mk (vs := [.nilFunc]) ⟨_, _, _, Tryz.underlying144⟩ Tryz.underlying144 rfl (by decide) rfl (by kernel_rfl) rfl rfl rfl (fun h => by cases h)
theorem tyfit145 : Fits Tryz.prog 145 ti145 := fits_mk (vs := [.nilFunc]) ⟨_, _, _, Tryz.underlying145⟩ Tryz.underlying145 rfl (by decide) rfl (by kernel_rfl) rfl rfl rfl (fun h => by cases h)
theorem tyfit146 : Fits Tryz.prog 146 ti146 := fits_mk (vs := [.nilFunc]) ⟨_, _, _, Tryz.underlying146⟩ Tryz.underlying146 rfl (by decide) rfl (by kernel_rfl) rfl rfl rfl (fun h => by cases h)
theorem tyfit147 : Fits Tryz.prog 147 ti147 := fits_mk (vs := [.nilFunc]) ⟨_, _, _, Tryz.underlying147⟩ Tryz.underlying147 rfl (by decide) rfl (by kernel_rfl) rfl rfl rfl (fun h => by cases h)
theorem tyfit149 : Fits Tryz.prog 149 ti149 := fits_mk (vs := [.nilFunc]) ⟨_, _, _, Tryz.underlying149⟩ Tryz.underlying149 rfl (by decide) rfl (by kernel_rfl) rfl rfl rfl (fun h => by cases h)
theorem tyfit150 : Fits Tryz.prog 150 ti150 := fits_mk (vs := [.nilFunc]) ⟨_, _, _, Tryz.underlying150⟩ Tryz.underlying150 rfl (by decide) rfl (by kernel_rfl) rfl rfl rfl (fun h => by cases h)
theorem tyfit151 : Fits Tryz.prog 151 ti151 := fits_mk (vs := [.slice none 0 0]) Tryz.underlying151 Tryz.underlying151 rfl (by decide) rfl (by kernel_rfl) rfl rfl rfl (fun h => by cases h)
theorem tyfit152 : Fits Tryz.prog 152 ti152 := fits_mk (vs := [.slice none 0 0]) ⟨_, Tryz.underlying152, rfl, by kernel_rfl⟩ Tryz.underlying152 rfl (by decide) rfl (by kernel_rfl) rfl rfl rfl (fun h => by cases h)
theorem tyfit153 : Fits Tryz.prog 153 ti153 := fits_mk (vs := [.slice none 0 0]) ⟨_, Tryz.underlying153, rfl, by kernel_rfl⟩ Tryz.underlying153 rfl (by decide) rfl (by kernel_rfl) rfl rfl rfl (fun h => by cases h)
theorem tyfit155 : Fits Tryz.prog 155 ti155 := fits_mk (vs := [.nilFunc]) ⟨_, _, _, Tryz.underlying155⟩ Tryz.underlying155 rfl (by decide) rfl (by kernel_rfl) rfl rfl rfl (fun h => by cases h)
theorem tyfit156 : Fits Tryz.prog 156 ti156 := fits_mk (vs := [.nilFunc]) ⟨_, _, _, Tryz.underlying156⟩ Tryz.underlying156 rfl (by decide) rfl (by kernel_rfl) rfl rfl rfl (fun h => by cases h)
theorem tyfit157 : Fits Tryz.prog 157 ti157 := fits_mk (vs := [.map none]) Tryz.underlying157 Tryz.underlying157 rfl (by decide) rfl (by kernel_rfl) rfl rfl rfl (fun h => by cases h)
theorem tyfit158 : Fits Tryz.prog 158 ti158 := fits_mk (vs := [.map none]) ⟨_, Tryz.underlying158, rfl, by kernel_rfl⟩ Tryz.underlying158 rfl (by decide) rfl (by kernel_rfl) rfl rfl rfl (fun h => by cases h)
theorem tyfit159 : Fits Tryz.prog 159 ti159 := fits_mk (vs := [.map none]) ⟨_, Tryz.underlying159, rfl, by kernel_rfl⟩ Tryz.underlying159 rfl (by decide) rfl (by kernel_rfl) rfl rfl rfl (fun h => by cases h)
theorem tyfit160 : Fits Tryz.prog 160 ti160 := fits_mk (vs := [.nilFunc]) ⟨_, _, _, Tryz.underlying160⟩ Tryz.underlying160 rfl (by decide) rfl (by kernel_rfl) rfl rfl rfl (fun h => by cases h)
theorem tyfit161 : Fits Tryz.prog 161 ti161 := fits_mk (vs := [.nilFunc]) ⟨_, _, _, Tryz.underlying161⟩ Tryz.underlying161 rfl (by decide) rfl (by kernel_rfl) rfl rfl rfl (fun h => by cases h)
theorem tyfit162 : Fits Tryz.prog 162 ti162 := fits_mk (vs := [.nilFunc]) ⟨_, _, _, Tryz.underlying162⟩ Tryz.underlying162 rfl (by decide) rfl (by kernel_rfl) rfl rfl rfl (fun h => by cases h)
theorem tyfit163 : Fits Tryz.prog 163 ti163 := fits_mk (vs := [.nilFunc]) ⟨_, _, _, Tryz.underlying163⟩ Tryz.underlying163 rfl (by decide) rfl (by kernel_rfl) rfl rfl rfl (fun h => by cases h)
theorem tyfit164 : Fits Tryz.prog 164 ti164 := fits_mk (vs := [.nilFunc]) ⟨_, _, _, Tryz.underlying164⟩ Tryz.underlying164 rfl (by decide) rfl (by kernel_rfl) rfl rfl rfl (fun h => by cases h)
theorem tyfit165 : Fits Tryz.prog 165 ti165 := fits_mk (vs := [.int .u64 0]) Tryz.underlying165 Tryz.underlying165 rfl (by decide) rfl (by kernel_rfl) rfl rfl rfl (fun h => by cases h)
theorem tyfit166 : Fits Tryz.prog 166 ti166 := fits_mk (vs := [.nilFunc]) ⟨_, _, _, Tryz.underlying166⟩ Tryz.underlying166 rfl (by decide) rfl (by kernel_rfl) rfl rfl rfl (fun h => by cases h)
theorem tyfit167 : Fits Tryz.prog 167 ti167 := fits_mk (vs := [.nilFunc]) ⟨_, _, _, Tryz.underlying167⟩ Tryz.underlying167 rfl (by decide) rfl (by kernel_rfl) rfl rfl rfl (fun h => by cases h)
theorem tyfit168 : Fits Tryz.prog 168 ti168 := fits_mk (vs := [.nilFunc]) ⟨_, _, _, Tryz.underlying168⟩ Tryz.underlying168 rfl (by decide) rfl (by kernel_rfl) rfl rfl rfl (fun h => by cases h)
theorem tyfit169 : Fits Tryz.prog 169 ti169 := fits_mk (vs := [.nilFunc]) ⟨_, _, _, Tryz.underlying169⟩ Tryz.underlying169 rfl (by decide) rfl (by kernel_rfl) rfl rfl rfl (fun h => by cases h)
theorem tyfit170 : Fits Tryz.prog 170 ti170 := fits_mk (vs := [.int .u64 0]) Tryz.underlying170 Tryz.underlying170 rfl (by decide) rfl (by kernel_rfl) rfl rfl rfl (fun h => by cases h)
theorem tyfit171 : Fits Tryz.prog 171 ti171 := fits_mk (vs := [.nilFunc]) ⟨_, _, _, Tryz.underlying171⟩ Tryz.underlying171 rfl (by decide) rfl (by kernel_rfl) rfl rfl rfl (fun h => by cases h)
theorem tyfit172 : Fits Tryz.prog 172 ti172 := fits_mk (vs := [.nilFunc]) ⟨_, _, _, Tryz.underlying172⟩ Tryz.underlying172 rfl (by decide) rfl (by kernel_rfl) rfl rfl rfl (fun h => by cases h)
theorem tyfit173 : Fits Tryz.prog 173 ti173 := fits_mk (vs := [.pointer none]) Tryz.underlying173 Tryz.underlying173 rfl (by decide) rfl (by kernel_rfl) rfl rfl rfl (fun h => by cases h)
theorem tyfit174 : Fits Tryz.prog 174 ti174 := fits_mk (vs := [.slice none 0 0]) Tryz.underlying174 Tryz.underlying174 rfl (by decide) rfl (by kernel_rfl) rfl rfl rfl (fun h => by cases h)
theorem tyfit175 : Fits Tryz.prog 175 ti175 := fits_mk (vs := [.pointer none, .slice none 0 0]) ⟨_, Tryz.underlying175, rfl, by kernel_rfl⟩ Tryz.underlying175 rfl (by decide) rfl (by kernel_rfl) rfl rfl rfl (fun h => by cases h)
theorem tyfit176 : Fits Tryz.prog 176 ti176 := fits_mk (vs := [.pointer none, .slice none 0 0]) ⟨_, Tryz.underlying176, rfl, by kernel_rfl⟩ Tryz.underlying176 rfl (by decide) rfl (by kernel_rfl) rfl rfl rfl (fun h => by cases h)
theorem tyfit177 : Fits Tryz.prog 177 ti177 := fits_mk (vs := [.nilFunc]) ⟨_, _, _, Tryz.underlying177⟩ Tryz.underlying177 rfl (by decide) rfl (by kernel_rfl) rfl rfl rfl (fun h => by cases h)
theorem tyfit178 : Fits Tryz.prog 178 ti178 := fits_mk (vs := [.nilIface]) ⟨_, Tryz.underlying178⟩ Tryz.underlying178 rfl (by decide) rfl (by kernel_rfl) rfl rfl rfl (fun h => by cases h)
theorem tyfit179 : Fits Tryz.prog 179 ti179 := fits_mk (vs := [.nilIface]) ⟨_, Tryz.underlying179⟩ Tryz.underlying179 rfl (by decide) rfl (by kernel_rfl) rfl rfl rfl (fun h => by cases h)
theorem tyfit181 : Fits Tryz.prog 181 ti181 := fits_mk (vs := [.nilFunc]) ⟨_, _, _, Tryz.underlying181⟩ Tryz.underlying181 rfl (by decide) rfl (by kernel_rfl) rfl rfl rfl (fun h => by cases h)
theorem tyfit182 : Fits Tryz.prog 182 ti182 := fits_mk (vs := [.nilFunc]) ⟨_, _, _, Tryz.underlying182⟩ Tryz.underlying182 rfl (by decide) rfl (by kernel_rfl) rfl rfl rfl (fun h => by cases h)
theorem tyfit183 : Fits Tryz.prog 183 ti183 := fits_mk (vs := [.nilFunc]) ⟨_, _, _, Tryz.underlying183⟩ Tryz.underlying183 rfl (by decide) rfl (by kernel_rfl) rfl rfl rfl (fun h => by cases h)
theorem tyfit184 : Fits Tryz.prog 184 ti184 := fits_mk (vs := [.nilFunc]) ⟨_, _, _, Tryz.underlying184⟩ Tryz.underlying184 rfl (by decide) rfl (by kernel_rfl) rfl rfl rfl (fun h => by cases h)
theorem tyfit185 : Fits Tryz.prog 185 ti185 := fits_mk (vs := [.nilFunc]) ⟨_, _, _, Tryz.underlying185⟩ Tryz.underlying185 rfl (by decide) rfl (by kernel_rfl) rfl rfl rfl (fun h => by cases h)
theorem tyfit186 : Fits Tryz.prog 186 ti186 := fits_mk (vs := [.nilFunc]) ⟨_, _, _, Tryz.underlying186⟩ Tryz.underlying186 rfl (by decide) rfl (by kernel_rfl) rfl rfl rfl (fun h => by cases h)
theorem tyfit188 : Fits Tryz.prog 188 ti188 := fits_mk (vs := [.nilFunc]) ⟨_, _, _, Tryz.underlying188⟩ Tryz.underlying188 rfl (by decide) rfl (by kernel_rfl) rfl rfl rfl (fun h => by cases h)
theorem tyfit189 : Fits Tryz.prog 189 ti189 := fits_mk (vs := [.nilFunc]) ⟨_, _, _, Tryz.underlying189⟩ Tryz.underlying189 rfl (by decide) rfl (by kernel_rfl) rfl rfl rfl (fun h => by cases h)
theorem tyfit190 : Fits Tryz.prog 190 ti190 := fits_mk (vs := [.nilFunc]) ⟨_, _, _, Tryz.underlying190⟩ Tryz.underlying190 rfl (by decide) rfl (by kernel_rfl) rfl rfl rfl (fun h => by cases h)
theorem tyfit191 : Fits Tryz.prog 191 ti191 := fits_mk (vs := [.nilFunc]) ⟨_, _, _, Tryz.underlying191⟩ Tryz.underlying191 rfl (by decide) rfl (by kernel_rfl) rfl rfl rfl (fun h => by cases h)
theorem tyfit192 : Fits Tryz.prog 192 ti192 := fits_mk (vs := [.map none]) Tryz.underlying192 Tryz.underlying192 rfl (by decide) rfl (by kernel_rfl) rfl rfl rfl (fun h => by cases h)
theorem tyfit193 : Fits Tryz.prog 193 ti193 := fits_mk (vs := [.map none]) Tryz.underlying193 Tryz.underlying193 rfl (by decide) rfl (by kernel_rfl) rfl rfl rfl (fun h => by cases h)
theorem tyfit194 : Fits Tryz.prog 194 ti194 := fits_mk (vs := [.nilFunc]) ⟨_, _, _, Tryz.underlying194⟩ Tryz.underlying194 rfl (by decide) rfl (by kernel_rfl) rfl rfl rfl (fun h => by cases h)
theorem tyfit195 : Fits Tryz.prog 195 ti195 := fits_mk (vs := [.slice none 0 0]) Tryz.underlying195 Tryz.underlying195 rfl (by decide) rfl (by kernel_rfl) rfl rfl rfl (fun h => by cases h)
theorem tyfit196 : Fits Tryz.prog 196 ti196 := fits_mk (vs := [.slice none 0 0, .int .i64 0]) ⟨_, Tryz.underlying196, rfl, by kernel_rfl⟩ Tryz.underlying196 rfl (by decide) rfl (by kernel_rfl) rfl rfl rfl (fun h => by cases h)
theorem tyfit197 : Fits Tryz.prog 197 ti197 := fits_mk (vs := [.slice none 0 0, .int .i64 0]) ⟨_, Tryz.underlying197, rfl, by kernel_rfl⟩ Tryz.underlying197 rfl (by decide) rfl (by kernel_rfl) rfl rfl rfl (fun h => by cases h)
theorem tyfit198 : Fits Tryz.prog 198 ti198 := fits_mk (vs := [.nilFunc]) ⟨_, _, _, Tryz.underlying198⟩ Tryz.underlying198 rfl (by decide) rfl (by kernel_rfl) rfl rfl rfl (fun h => by cases h)
theorem tyfit199 : Fits Tryz.prog 199 ti199 := fits_mk (vs := [.nilFunc]) ⟨_, _, _, Tryz.underlying199⟩ Tryz.underlying199 rfl (by decide) rfl (by kernel_rfl) rfl rfl rfl (fun h => by cases h)
theorem tyfit201 : Fits Tryz.prog 201 ti201 := fits_mk (vs := [.nilFunc]) ⟨_, _, _, Tryz.underlying201⟩ Tryz.underlying201 rfl (by decide) rfl (by kernel_rfl) rfl rfl rfl (fun h => by cases h)
theorem tyfit202 : Fits Tryz.prog 202 ti202 := fits_mk (vs := [.nilFunc]) ⟨_, _, _, Tryz.underlying202⟩ Tryz.underlying202 rfl (by decide) rfl (by kernel_rfl) rfl rfl rfl (fun h => by cases h)
theorem tyfit203 : Fits Tryz.prog 203 ti203 := fits_mk (vs := [.nilFunc]) ⟨_, _, _, Tryz.underlying203⟩ Tryz.underlying203 rfl (by decide) rfl (by kernel_rfl) rfl rfl rfl (fun h => by cases h)
theorem tyfit204 : Fits Tryz.prog 204 ti204 := fits_mk (vs := [.slice none 0 0]) Tryz.underlying204 Tryz.underlying204 rfl (by decide) rfl (by kernel_rfl) rfl rfl rfl (fun h => by cases h)
theorem tyfit206 : Fits Tryz.prog 206 ti206 := fits_mk (vs := [.nilFunc]) ⟨_, _, _, Tryz.underlying206⟩ Tryz.underlying206 rfl (by decide) rfl (by kernel_rfl) rfl rfl rfl (fun h => by cases h)
theorem tyfit207 : Fits Tryz.prog 207 ti207 := fits_mk (vs := [.int .i64 0, .int .u32 0, .int .u32 0, .slice none 0 0]) ⟨_, Tryz.underlying207, rfl, by kernel_rfl⟩ Tryz.underlying207 rfl (by decide) rfl (by kernel_rfl) rfl rfl rfl (fun h => by cases h)
theorem tyfit208 : Fits Tryz.prog 208 ti208 := fits_mk (vs := [.int .i64 0, .int .u32 0, .int .u32 0, .slice none 0 0]) ⟨_, Tryz.underlying208, rfl, by kernel_rfl⟩ Tryz.underlying208 rfl (by decide) rfl (by kernel_rfl) rfl rfl rfl (fun h => by cases h)
theorem tyfit209 : Fits Tryz.prog 209 ti209 := fits_mk (vs := [.nilFunc]) ⟨_, _, _, Tryz.underlying209⟩ Tryz.underlying209 rfl (by decide) rfl (by kernel_rfl) rfl rfl rfl (fun h => by cases h)
theorem tyfit210 : Fits Tryz.prog 210 ti210 := fits_mk (vs := [.int .i64 0]) Tryz.underlying210 Tryz.underlying210 rfl (by decide) rfl (by kernel_rfl) rfl rfl rfl (fun h => by cases h)
theorem tyfit212 : Fits Tryz.prog 212 ti212 := fits_mk (vs := [.nilFunc]) ⟨_, _, _, Tryz.underlying212⟩ Tryz.underlying212 rfl (by decide) rfl (by kernel_rfl) rfl rfl rfl (fun h => by cases h)
theorem tyfit213 : Fits Tryz.prog 213 ti213 := fits_mk (vs := [.nilFunc]) ⟨_, _, _, Tryz.underlying213⟩ Tryz.underlying213 rfl (by decide) rfl (by kernel_rfl) rfl rfl rfl (fun h => by cases h)
theorem tyfit214 : Fits Tryz.prog 214 ti214 := fits_mk (vs := [.nilFunc]) ⟨_, _, _, Tryz.underlying214⟩ Tryz.underlying214 rfl (by decide) rfl (by kernel_rfl) rfl rfl rfl (fun h => by cases h)
theorem tyfit215 : Fits Tryz.prog 215 ti215 := fits_mk (vs := [.nilFunc]) ⟨_, _, _, Tryz.underlying215⟩ Tryz.underlying215 rfl (by decide) rfl (by kernel_rfl) rfl rfl rfl (fun h => by cases h)
theorem tyfit217 : Fits Tryz.prog 217 ti217 := fits_mk (vs := [.nilFunc]) ⟨_, _, _, Tryz.underlying217⟩ Tryz.underlying217 rfl (by decide) rfl (by kernel_rfl) rfl rfl rfl (fun h => by cases h)
theorem tyfit218 : Fits Tryz.prog 218 ti218 := fits_mk (vs := [.nilFunc]) ⟨_, _, _, Tryz.underlying218⟩ Tryz.underlying218 rfl (by decide) rfl (by kernel_rfl) rfl rfl rfl (fun h => by cases h)
theorem tyfit219 : Fits Tryz.prog 219 ti219 := fits_mk (vs := [.nilFunc]) ⟨_, _, _, Tryz.underlying219⟩ Tryz.underlying219 rfl (by decide) rfl (by kernel_rfl) rfl rfl rfl (fun h => by cases h)
theorem tyfit221 : Fits Tryz.prog 221 ti221 := fits_mk (vs := [.nilFunc]) ⟨_, _, _, Tryz.underlying221⟩ Tryz.underlying221 rfl (by decide) rfl (by kernel_rfl) rfl rfl rfl (fun h => by cases h)
theorem tyfit222 : Fits Tryz.prog 222 ti222 := fits_mk (vs := [.pointer none]) Tryz.underlying222 Tryz.underlying222 rfl (by decide) rfl (by kernel_rfl) rfl rfl rfl (fun h => by cases h)
theorem tyfit223 : Fits Tryz.prog 223 ti223 := fits_mk (vs := [.int .i64 0, .int .u32 0, .int .u32 0, .int .i64 0, .map none]) ⟨_, Tryz.underlying223, rfl, by kernel_rfl⟩ Tryz.underlying223 rfl (by decide) rfl (by kernel_rfl) rfl rfl rfl (fun h => by cases h)
theorem tyfit224 : Fits Tryz.prog 224 ti224 := fits_mk (vs := [.int .i64 0, .int .u32 0, .int .u32 0, .int .i64 0, .map none]) ⟨_, Tryz.underlying224, rfl, by kernel_rfl⟩ Tryz.underlying224 rfl (by decide) rfl (by kernel_rfl) rfl rfl rfl (fun h => by cases h)
theorem tyfit225 : Fits Tryz.prog 225 ti225 := fits_mk (vs := [.int .i64 0, .int .i64 0, .int .u32 0, .int .u32 0]) ⟨_, Tryz.underlying225, rfl, by kernel_rfl⟩ Tryz.underlying225 rfl (by decide) rfl (by kernel_rfl) rfl rfl rfl (fun _ => ⟨by kernel_rfl, by kernel_rfl, by kernel_rfl⟩)
theorem tyfit226 : Fits Tryz.prog 226 ti226 := fits_mk (vs := [.int .i64 0, .int .i64 0, .int .u32 0, .int .u32 0]) ⟨_, Tryz.underlying226, rfl, by kernel_rfl⟩ Tryz.underlying226 rfl (by decide) rfl (by kernel_rfl) rfl rfl rfl (fun _ => ⟨by kernel_rfl, by kernel_rfl, by kernel_rfl⟩)
theorem tyfit227 : Fits Tryz.prog 227 ti227 := fits_mk (vs := [.nilFunc]) ⟨_, _, _, Tryz.underlying227⟩ Tryz.underlying227 rfl (by decide) rfl (by kernel_rfl) rfl rfl rfl (fun h => by cases h)
theorem tyfit228 : Fits Tryz.prog 228 ti228 := fits_mk (vs := [.nilFunc]) ⟨_, _, _, Tryz.underlying228⟩ Tryz.underlying228 rfl (by decide) rfl (by kernel_rfl) rfl rfl rfl (fun h => by cases h)
theorem tyfit229 : Fits Tryz.prog 229 ti229 := fits_mk (vs := [.pointer none]) Tryz.underlying229 Tryz.underlying229 rfl (by decide) rfl (by kernel_rfl) rfl rfl rfl (fun h => by cases h)
theorem tyfit230 : Fits Tryz.prog 230 ti230 := fits_mk (vs := [.nilFunc]) ⟨_, _, _, Tryz.underlying230⟩ Tryz.underlying230 rfl (by decide) rfl (by kernel_rfl) rfl rfl rfl (fun h => by cases h)
theorem tyfit231 : Fits Tryz.prog 231 ti231 := fits_mk (vs := [.nilFunc]) ⟨_, _, _, Tryz.underlying231⟩ Tryz.underlying231 rfl (by decide) rfl (by kernel_rfl) rfl rfl rfl (fun h => by cases h)
theorem tyfit232 : Fits Tryz.prog 232 ti232 := fits_mk (vs := [.nilFunc]) ⟨_, _, _, Tryz.underlying232⟩ Tryz.underlying232 rfl (by decide) rfl (by kernel_rfl) rfl rfl rfl (fun h => by cases h)
theorem tyfit233 : Fits Tryz.prog 233 ti233 := fits_mk (vs := [.nilFunc]) ⟨_, _, _, Tryz.underlying233⟩ Tryz.underlying233 rfl (by decide) rfl (by kernel_rfl) rfl rfl rfl (fun h => by cases h)
theorem tyfit234 : Fits Tryz.prog 234 ti234 := fits_mk (vs := [.int .i64 0]) Tryz.underlying234 Tryz.underlying234 rfl (by decide) rfl (by kernel_rfl) rfl rfl rfl (fun h => by cases h)
theorem tyfit235 : Fits Tryz.prog 235 ti235 := fits_mk (vs := [.nilFunc]) ⟨_, _, _, Tryz.underlying235⟩ Tryz.underlying235 rfl (by decide) rfl (by kernel_rfl) rfl rfl rfl (fun h => by cases h)
theorem tyfit237 : Fits Tryz.prog 237 ti237 := fits_mk (vs := [.nilFunc]) ⟨_, _, _, Tryz.underlying237⟩ Tryz.underlying237 rfl (by decide) rfl (by kernel_rfl) rfl rfl rfl (fun h => by cases h)
theorem tyfit238 : Fits Tryz.prog 238 ti238 := fits_mk (vs := [.nilFunc]) ⟨_, _, _, Tryz.underlying238⟩ Tryz.underlying238 rfl (by decide) rfl (by kernel_rfl) rfl rfl rfl (fun h => by cases h)
theorem tyfit239 : Fits Tryz.prog 239 ti239 := fits_mk (vs := [.nilFunc]) ⟨_, _, _, Tryz.underlying239⟩ Tryz.underlying239 rfl (by decide) rfl (by kernel_rfl) rfl rfl rfl (fun h => by cases h)
theorem tyfit240 : Fits Tryz.prog 240 ti240 := fits_mk (vs := [.nilFunc]) ⟨_, _, _, Tryz.underlying240⟩ Tryz.underlying240 rfl (by decide) rfl (by kernel_rfl) rfl rfl rfl (fun h => by cases h)
theorem tyfit241 : Fits Tryz.prog 241 ti241 := fits_mk (vs := [.int .u64 0]) Tryz.underlying241 Tryz.underlying241 rfl (by decide) rfl (by kernel_rfl) rfl rfl rfl (fun h => by cases h)
theorem tyfit242 : Fits Tryz.prog 242 ti242 := fits_mk (vs := [.nilFunc]) ⟨_, _, _, Tryz.underlying242⟩ Tryz.underlying242 rfl (by decide) rfl (by kernel_rfl) rfl rfl rfl (fun h => by cases h)
theorem tyfit243 : Fits Tryz.prog 243 ti243 := fits_mk (vs := [.nilFunc]) ⟨_, _, _, Tryz.underlying243⟩ Tryz.underlying243 rfl (by decide) rfl (by kernel_rfl) rfl rfl rfl (fun h => by cases h)
theorem tyfit244 : Fits Tryz.prog 244 ti244 := fits_mk (vs := [.nilFunc]) ⟨_, _, _, Tryz.underlying244⟩ Tryz.underlying244 rfl (by decide) rfl (by kernel_rfl) rfl rfl rfl (fun h => by cases h)
theorem tyfit245 : Fits Tryz.prog 245 ti245 := fits_mk (vs := [.pointer none]) Tryz.underlying245 Tryz.underlying245 rfl (by decide) rfl (by kernel_rfl) rfl rfl rfl (fun h => by cases h)
theorem tyfit246 : Fits Tryz.prog 246 ti246 := fits_mk (vs := [.nilFunc]) ⟨_, _, _, Tryz.underlying246⟩ Tryz.underlying246 rfl (by decide) rfl (by kernel_rfl) rfl rfl rfl (fun h => by cases h)
theorem tyfit247 : Fits Tryz.prog 247 ti247 := fits_mk (vs := [.int .u8 0, .int .u8 0, .int .u8 0, .int .u8 0, .int .u8 0, .int .u8 0, .int .u8 0, .int .u8 0, .int .u8 0, .int .u8 0, .int .u8 0, .int .u8 0, .int .u8 0, .int .u8 0, .int .u8 0, .int .u8 0, .int .u8 0, .int .u8 0, .int .u8 0, .int .u8 0, .int .u8 0, .int .u8 0, .int .u8 0, .int .u8 0]) Tryz.underlying247 Tryz.underlying247 rfl (by decide) rfl (by kernel_rfl) rfl rfl rfl (fun h => by cases h)
theorem tyfit248 : Fits Tryz.prog 248 ti248 := fits_mk (vs := [.nilFunc]) ⟨_, _, _, Tryz.underlying248⟩ Tryz.underlying248 rfl (by decide) rfl (by kernel_rfl) rfl rfl rfl (fun h => by cases h)
theorem tyfit250 : Fits Tryz.prog 250 ti250 := fits_mk (vs := [.nilFunc]) ⟨_, _, _, Tryz.underlying250⟩ Tryz.underlying250 rfl (by decide) rfl (by kernel_rfl) rfl rfl rfl (fun h => by cases h)
theorem tyfit252 : Fits Tryz.prog 252 ti252 := fits_mk (vs := [.nilFunc]) ⟨_, _, _, Tryz.underlying252⟩ Tryz.underlying252 rfl (by decide) rfl (by kernel_rfl) rfl rfl rfl (fun h => by cases h)
theorem tyfit253 : Fits Tryz.prog 253 ti253 := fits_mk (vs := [.nilFunc]) ⟨_, _, _, Tryz.underlying253⟩ Tryz.underlying253 rfl (by decide) rfl (by kernel_rfl) rfl rfl rfl (fun h => by cases h)
theorem tyfit254 : Fits Tryz.prog 254 ti254 := fits_mk (vs := [.nilFunc]) ⟨_, _, _, Tryz.underlying254⟩ Tryz.underlying254 rfl (by decide) rfl (by kernel_rfl) rfl rfl rfl (fun h => by cases h)
theorem tyfit255 : Fits Tryz.prog 255 ti255 := fits_mk (vs := [.nilFunc]) ⟨_, _, _, Tryz.underlying255⟩ Tryz.underlying255 rfl (by decide) rfl (by kernel_rfl) rfl rfl rfl (fun h => by cases h)
theorem tyfit256 : Fits Tryz.prog 256 ti256 := fits_mk (vs := [.nilFunc]) ⟨_, _, _, Tryz.underlying256⟩ Tryz.underlying256 rfl (by decide) rfl (by kernel_rfl) rfl rfl rfl (fun h => by cases h)
theorem tyfit258 : Fits Tryz.prog 258 ti258 := fits_mk (vs := [.nilFunc]) ⟨_, _, _, Tryz.underlying258⟩ Tryz.underlying258 rfl (by decide) rfl (by kernel_rfl) rfl rfl rfl (fun h => by cases h)
theorem tyfit260 : Fits Tryz.prog 260 ti260 := fits_mk (vs := [.nilFunc]) ⟨_, _, _, Tryz.underlying260⟩ Tryz.underlying260 rfl (by decide) rfl (by kernel_rfl) rfl rfl rfl (fun h => by cases h)
theorem tyfit261 : Fits Tryz.prog 261 ti261 := fits_mk (vs := [.nilFunc]) ⟨_, _, _, Tryz.underlying261⟩ Tryz.underlying261 rfl (by decide) rfl (by kernel_rfl) rfl rfl rfl (fun h => by cases h)
theorem tyfit262 : Fits Tryz.prog 262 ti262 := fits_mk (vs := [.nilFunc]) ⟨_, _, _, Tryz.underlying262⟩ Tryz.underlying262 rfl (by decide) rfl (by kernel_rfl) rfl rfl rfl (fun h => by cases h)
theorem tyfit263 : Fits Tryz.prog 263 ti263 := fits_mk (vs := [.nilFunc]) ⟨_, _, _, Tryz.underlying263⟩ Tryz.underlying263 rfl (by decide) rfl (by kernel_rfl) rfl rfl rfl (fun h => by cases h)
theorem tyfit264 : Fits Tryz.prog 264 ti264 := fits_mk (vs := [.nilFunc]) ⟨_, _, _, Tryz.underlying264⟩ Tryz.underlying264 rfl (by decide) rfl (by kernel_rfl) rfl rfl rfl (fun h => by cases h)
theorem tyfit265 : Fits Tryz.prog 265 ti265 := fits_mk (vs := [.nilFunc]) ⟨_, _, _, Tryz.underlying265⟩ Tryz.underlying265 rfl (by decide) rfl (by kernel_rfl) rfl rfl rfl (fun h => by cases h)
theorem tyfit266 : Fits Tryz.prog 266 ti266 := fits_mk (vs := [.pointer none]) Tryz.underlying266 Tryz.underlying266 rfl (by decide) rfl (by kernel_rfl) rfl rfl rfl (fun h => by cases h)
theorem tyfit267 : Fits Tryz.prog 267 ti267 := fits_mk (vs := [.nilFunc]) ⟨_, _, _, Tryz.underlying267⟩ Tryz.underlying267 rfl (by decide) rfl (by kernel_rfl) rfl rfl rfl (fun h => by cases h)
theorem tyfit268 : Fits Tryz.prog 268 ti268 := fits_mk (vs := [.nilFunc]) ⟨_, _, _, Tryz.underlying268⟩ Tryz.underlying268 rfl (by decide) rfl (by kernel_rfl) rfl rfl rfl (fun h => by cases h)
theorem tyfit269 : Fits Tryz.prog 269 ti269 := fits_mk (vs := [.nilFunc]) ⟨_, _, _, Tryz.underlying269⟩ Tryz.underlying269 rfl (by decide) rfl (by kernel_rfl) rfl rfl rfl (fun h => by cases h)
theorem tyfit270 : Fits Tryz.prog 270 ti270 := fits_mk (vs := [.int .u64 0, .int .u64 0, .int .u64 0, .int .u64 0, .int .u64 0, .int .u64 0, .int .u64 0, .int .u64 0, .int .u64 0, .int .u64 0, .int .u64 0, .int .u64 0, .int .u64 0, .int .u64 0, .int .u64 0, .int .u64 0, .int .u64 0, .int .u64 0, .int .u64 0, .int .u64 0]) Tryz.underlying270 Tryz.underlying270 rfl (by decide) rfl (by kernel_rfl) rfl rfl rfl (fun h => by cases h)
theorem tyfit272 : Fits Tryz.prog 272 ti272 := fits_mk (vs := [.nilFunc]) ⟨_, _, _, Tryz.underlying272⟩ Tryz.underlying272 rfl (by decide) rfl (by kernel_rfl) rfl rfl rfl (fun h => by cases h)
theorem tyfit273 : Fits Tryz.prog 273 ti273 := fits_mk (vs := [.nilFunc]) ⟨_, _, _, Tryz.underlying273⟩ Tryz.underlying273 rfl (by decide) rfl (by kernel_rfl) rfl rfl rfl (fun h => by cases h)
theorem tyfit274 : Fits Tryz.prog 274 ti274 := fits_mk (vs := [.nilFunc]) ⟨_, _, _, Tryz.underlying274⟩ Tryz.underlying274 rfl (by decide) rfl (by kernel_rfl) rfl rfl rfl (fun h => by cases h)
theorem tyfit275 : Fits Tryz.prog 275 ti275 := fits_mk (vs := [.int .u8 0, .int .u8 0, .int .u8 0, .int .u8 0, .int .u8 0, .int .u8 0, .int .u8 0, .int .u8 0, .int .u8 0, .int .u8 0, .int .u8 0, .int .u8 0, .int .u8 0, .int .u8 0, .int .u8 0, .int .u8 0, .int .u8 0, .int .u8 0, .int .u8 0, .int .u8 0, .int .u8 0, .int .u8 0, .int .u8 0, .int .u8 0, .int .u8 0, .int .u8 0, .int .u8 0, .int .u8 0, .int .u8 0, .int .u8 0, .int .u8 0, .int .u8 0]) Tryz.underlying275 Tryz.underlying275 rfl (by decide) rfl (by kernel_rfl) rfl rfl rfl (fun h => by cases h)
theorem tyfit276 : Fits Tryz.prog 276 ti276 := fits_mk (vs := [.int .u8 0, .int .u8 0, .int .u8 0, .int .u8 0, .int .u8 0, .int .u8 0, .int .u8 0, .int .u8 0, .int .u8 0, .int .u8 0, .int .u8 0, .int .u8 0, .int .u8 0, .int .u8 0, .int .u8 0, .int .u8 0, .int .u8 0, .int .u8 0, .int .u8 0, .int .u8 0, .int .u8 0, .int .u8 0, .int .u8 0, .int .u8 0, .int .u8 0, .int .u8 0, .int .u8 0, .int .u8 0, .int .u8 0, .int .u8 0, .int .u8 0, .int .u8 0, .int .u8 0, .int .u8 0, .int .u8 0, .int .u8 0, .int .u8 0, .int .u8 0, .int .u8 0, .int .u8 0, .int .u8 0, .int .u8 0, .int .u8 0, .int .u8 0, .int .u8 0, .int .u8 0, .int .u8 0, .int .u8 0, .int .u8 0, .int .u8 0, .int .u8 0, .int .u8 0, .int .u8 0, .int .u8 0, .int .u8 0, .int .u8 0, .int .u8 0, .int .u8 0, .int .u8 0, .int .u8 0, .int .u8 0, .int .u8 0, .int .u8 0, .int .u8 0]) Tryz.underlying276 Tryz.underlying276 rfl (by decide) rfl (by kernel_rfl) rfl rfl rfl (fun h => by cases h)
theorem tyfit277 : Fits Tryz.prog 277 ti277 := fits_mk (vs := [.pointer none, .pointer none, .pointer none, .string ByteArray.empty]) ⟨_, Tryz.underlying277, rfl, by kernel_rfl⟩ Tryz.underlying277 rfl (by decide) rfl (by kernel_rfl) rfl rfl rfl (fun h => by cases h)
theorem tyfit278 : Fits Tryz.prog 278 ti278 := fits_mk (vs := [.pointer none, .pointer none, .pointer none, .string ByteArray.empty]) ⟨_, Tryz.underlying278, rfl, by kernel_rfl⟩ Tryz.underlying278 rfl (by decide) rfl (by kernel_rfl) rfl rfl rfl (fun h => by cases h)
theorem tyfit282 : Fits Tryz.prog 282 ti282 := fits_mk (vs := [.int .u8 0]) Tryz.underlying282 Tryz.underlying282 rfl (by decide) rfl (by kernel_rfl) rfl rfl rfl (fun h => by cases h)
theorem tyfit283 : Fits Tryz.prog 283 ti283 := fits_mk (vs := [.int .u8 0]) Tryz.underlying283 Tryz.underlying283 rfl (by decide) rfl (by kernel_rfl) rfl rfl rfl (fun h => by cases h)
theorem tyfit284 : Fits Tryz.prog 284 ti284 := fits_mk (vs := [.nilFunc]) ⟨_, _, _, Tryz.underlying284⟩ Tryz.underlying284 rfl (by decide) rfl (by kernel_rfl) rfl rfl rfl (fun h => by cases h)
theorem tyfit285 : Fits Tryz.prog 285 ti285 := fits_mk (vs := [.int .i32 0]) Tryz.underlying285 Tryz.underlying285 rfl (by decide) rfl (by kernel_rfl) rfl rfl rfl (fun h => by cases h)
theorem tyfit286 : Fits Tryz.prog 286 ti286 := fits_mk (vs := [.int .i32 0]) Tryz.underlying286 Tryz.underlying286 rfl (by decide) rfl (by kernel_rfl) rfl rfl rfl (fun h => by cases h)
theorem tyfit287 : Fits Tryz.prog 287 ti287 := fits_mk (vs := [.int .u64 0, .int .u64 0, .int .u32 0, .int .u8 0, .int .u8 0, .int .u8 0, .int .u8 0, .nilFunc, .pointer none, .int .i32 0, .int .i32 0]) ⟨_, Tryz.underlying287, rfl, by kernel_rfl⟩ Tryz.underlying287 rfl (by decide) rfl (by kernel_rfl) rfl rfl rfl (fun h => by cases h)
theorem tyfit288 : Fits Tryz.prog 288 ti288 := fits_mk (vs := [.int .u64 0, .int .u64 0, .int .u32 0, .int .u8 0, .int .u8 0, .int .u8 0, .int .u8 0, .nilFunc, .pointer none, .int .i32 0, .int .i32 0]) ⟨_, Tryz.underlying288, rfl, by kernel_rfl⟩ Tryz.underlying288 rfl (by decide) rfl (by kernel_rfl) rfl rfl rfl (fun h => by cases h)
theorem tyfit289 : Fits Tryz.prog 289 ti289 := fits_mk (vs := [.nilFunc]) ⟨_, _, _, Tryz.underlying289⟩ Tryz.underlying289 rfl (by decide) rfl (by kernel_rfl) rfl rfl rfl (fun h => by cases h)
theorem tyfit290 : Fits Tryz.prog 290 ti290 := fits_mk (vs := [.nilFunc]) ⟨_, _, _, Tryz.underlying290⟩ Tryz.underlying290 rfl (by decide) rfl (by kernel_rfl) rfl rfl rfl (fun h => by cases h)
theorem tyfit291 : Fits Tryz.prog 291 ti291 := fits_mk (vs := [.slice none 0 0]) Tryz.underlying291 Tryz.underlying291 rfl (by decide) rfl (by kernel_rfl) rfl rfl rfl (fun h => by cases h)
theorem agrees : Agrees Tryz.prog tt := TTree.agrees (T := tree) ⟨tyfit143, ⟨tyfit69, ⟨tyfit33, ⟨tyfit17, ⟨tyfit9, ⟨tyfit5, ⟨tyfit3, ⟨tyfit2, ⟨tyfit1, trivial, trivial⟩, trivial⟩, ⟨tyfit4, trivial, trivial⟩⟩, ⟨tyfit7, ⟨tyfit6, trivial, trivial⟩, ⟨tyfit8, trivial, trivial⟩⟩⟩, ⟨tyfit13, ⟨tyfit11, ⟨tyfit10, trivial, trivial⟩, ⟨tyfit12, trivial, trivial⟩⟩, ⟨tyfit15, ⟨tyfit14, trivial, trivial⟩, ⟨tyfit16, trivial, trivial⟩⟩⟩⟩, ⟨tyfit25, ⟨tyfit21, ⟨tyfit19, ⟨tyfit18, trivial, trivial⟩, ⟨tyfit20, trivial, trivial⟩⟩, ⟨tyfit23, ⟨tyfit22, trivial, trivial⟩, ⟨tyfit24, trivial, trivial⟩⟩⟩, ⟨tyfit29, ⟨tyfit27, ⟨tyfit26, trivial, trivial⟩, ⟨tyfit28, trivial, trivial⟩⟩, ⟨tyfit31, ⟨tyfit30, trivial, trivial⟩, ⟨tyfit32, trivial, trivial⟩⟩⟩⟩⟩, ⟨tyfit53, ⟨tyfit43, ⟨tyfit38, ⟨tyfit36, ⟨tyfit35, ⟨tyfit34, trivial, trivial⟩, trivial⟩, ⟨tyfit37, trivial, trivial⟩⟩, ⟨tyfit41, ⟨tyfit40, trivial, trivial⟩, ⟨tyfit42, trivial, trivial⟩⟩⟩, ⟨tyfit48, ⟨tyfit46, ⟨tyfit44, trivial, trivial⟩, ⟨tyfit47, trivial, trivial⟩⟩, ⟨tyfit50, ⟨tyfit49, trivial, trivial⟩, ⟨tyfit52, trivial, trivial⟩⟩⟩⟩, ⟨tyfit61, ⟨tyfit57, ⟨tyfit55, ⟨tyfit54, trivial, trivial⟩, ⟨tyfit56, trivial, trivial⟩⟩, ⟨tyfit59, ⟨tyfit58, trivial, trivial⟩, ⟨tyfit60, trivial, trivial⟩⟩⟩, ⟨tyfit65, ⟨tyfit63, ⟨tyfit62, trivial, trivial⟩, ⟨tyfit64, trivial, trivial⟩⟩, ⟨tyfit67, ⟨tyfit66, trivial, trivial⟩, ⟨tyfit68, trivial, trivial⟩⟩⟩⟩⟩⟩, ⟨tyfit104, ⟨tyfit86, ⟨tyfit78, ⟨tyfit74, ⟨tyfit72, ⟨tyfit71, ⟨tyfit70, trivial, trivial⟩, trivial⟩, ⟨tyfit73, trivial, trivial⟩⟩, ⟨tyfit76, ⟨tyfit75, trivial, trivial⟩, ⟨tyfit77, trivial, trivial⟩⟩⟩, ⟨tyfit82, ⟨tyfit80, ⟨tyfit79, trivial, trivial⟩, ⟨tyfit81, trivial, trivial⟩⟩, ⟨tyfit84, ⟨tyfit83, trivial, trivial⟩, ⟨tyfit85, trivial, trivial⟩⟩⟩⟩, ⟨tyfit95, ⟨tyfit90, ⟨tyfit88, ⟨tyfit87, trivial, trivial⟩, ⟨tyfit89, trivial, trivial⟩⟩, ⟨tyfit92, ⟨tyfit91, trivial, trivial⟩, ⟨tyfit94, trivial, trivial⟩⟩⟩, ⟨tyfit100, ⟨tyfit97, ⟨tyfit96, trivial, trivial⟩, ⟨tyfit98, trivial, trivial⟩⟩, ⟨tyfit102, ⟨tyfit101, trivial, trivial⟩, ⟨tyfit103, trivial, trivial⟩⟩⟩⟩⟩, ⟨tyfit122, ⟨tyfit114, ⟨tyfit109, ⟨tyfit107, ⟨tyfit106, ⟨tyfit105, trivial, trivial⟩, trivial⟩, ⟨tyfit108, trivial, trivial⟩⟩, ⟨tyfit111, ⟨tyfit110, trivial, trivial⟩, ⟨tyfit112, trivial, trivial⟩⟩⟩, ⟨tyfit118, ⟨tyfit116, ⟨tyfit115, trivial, trivial⟩, ⟨tyfit117, trivial, trivial⟩⟩, ⟨tyfit120, ⟨tyfit119, trivial, trivial⟩, ⟨tyfit121, trivial, trivial⟩⟩⟩⟩, ⟨tyfit132, ⟨tyfit126, ⟨tyfit124, ⟨tyfit123, trivial, trivial⟩, ⟨tyfit125, trivial, trivial⟩⟩, ⟨tyfit128, ⟨tyfit127, trivial, trivial⟩, ⟨tyfit130, trivial, trivial⟩⟩⟩, ⟨tyfit138, ⟨tyfit135, ⟨tyfit134, trivial, trivial⟩, ⟨tyfit136, trivial, trivial⟩⟩, ⟨tyfit140, ⟨tyfit139, trivial, trivial⟩, ⟨tyfit141, trivial, trivial⟩⟩⟩⟩⟩⟩⟩, ⟨tyfit217, ⟨tyfit178, ⟨tyfit162, ⟨tyfit153, ⟨tyfit149, ⟨tyfit146, ⟨tyfit145, ⟨tyfit144, trivial, trivial⟩, trivial⟩, ⟨tyfit147, trivial, trivial⟩⟩, ⟨tyfit151, ⟨tyfit150, trivial, trivial⟩, ⟨tyfit152, trivial, trivial⟩⟩⟩, ⟨tyfit158, ⟨tyfit156, ⟨tyfit155, trivial, trivial⟩, ⟨tyfit157, trivial, trivial⟩⟩, ⟨tyfit160, ⟨tyfit159, trivial, trivial⟩, ⟨tyfit161, trivial, trivial⟩⟩⟩⟩, ⟨tyfit170, ⟨tyfit166, ⟨tyfit164, ⟨tyfit163, trivial, trivial⟩, ⟨tyfit165, trivial, trivial⟩⟩, ⟨tyfit168, ⟨tyfit167, trivial, trivial⟩, ⟨tyfit169, trivial, trivial⟩⟩⟩, ⟨tyfit174, ⟨tyfit172, ⟨tyfit171, trivial, trivial⟩, ⟨tyfit173, trivial, trivial⟩⟩, ⟨tyfit176, ⟨tyfit175, trivial, trivial⟩, ⟨tyfit177, trivial, trivial⟩⟩⟩⟩⟩, ⟨tyfit197, ⟨tyfit189, ⟨tyfit184, ⟨tyfit182, ⟨tyfit181, ⟨tyfit179, trivial, trivial⟩, trivial⟩, ⟨tyfit183, trivial, trivial⟩⟩, ⟨tyfit186, ⟨tyfit185, trivial, trivial⟩, ⟨tyfit188, trivial, trivial⟩⟩⟩, ⟨tyfit193, ⟨tyfit191, ⟨tyfit190, trivial, trivial⟩, ⟨tyfit192, trivial, trivial⟩⟩, ⟨tyfit195, ⟨tyfit194, trivial, trivial⟩, ⟨tyfit196, trivial, trivial⟩⟩⟩⟩, ⟨tyfit207, ⟨tyfit202, ⟨tyfit199, ⟨tyfit198, trivial, trivial⟩, ⟨tyfit201, trivial, trivial⟩⟩, ⟨tyfit204, ⟨tyfit203, trivial, trivial⟩, ⟨tyfit206, trivial, trivial⟩⟩⟩, ⟨tyfit212, ⟨tyfit209, ⟨tyfit208, trivial, trivial⟩, ⟨tyfit210, trivial, trivial⟩⟩, ⟨tyfit214, ⟨tyfit213, trivial, trivial⟩, ⟨tyfit215, trivial, trivial⟩⟩⟩⟩⟩⟩, ⟨tyfit254, ⟨tyfit235, ⟨tyfit227, ⟨tyfit223, ⟨tyfit221, ⟨tyfit219, ⟨tyfit218, trivial, trivial⟩, trivial⟩, ⟨tyfit222, trivial, trivial⟩⟩, ⟨tyfit225, ⟨tyfit224, trivial, trivial⟩, ⟨tyfit226, trivial, trivial⟩⟩⟩, ⟨tyfit231, ⟨tyfit229, ⟨tyfit228, trivial, trivial⟩, ⟨tyfit230, trivial, trivial⟩⟩, ⟨tyfit233, ⟨tyfit232, trivial, trivial⟩, ⟨tyfit234, trivial, trivial⟩⟩⟩⟩, ⟨tyfit244, ⟨tyfit240, ⟨tyfit238, ⟨tyfit237, trivial, trivial⟩, ⟨tyfit239, trivial, trivial⟩⟩, ⟨tyfit242, ⟨tyfit241, trivial, trivial⟩, ⟨tyfit243, trivial, trivial⟩⟩⟩, ⟨tyfit248, ⟨tyfit246, ⟨tyfit245, trivial, trivial⟩, ⟨tyfit247, trivial, trivial⟩⟩, ⟨tyfit252, ⟨tyfit250, trivial, trivial⟩, ⟨tyfit253, trivial, trivial⟩⟩⟩⟩⟩, ⟨tyfit273, ⟨tyfit264, ⟨tyfit260, ⟨tyfit256, ⟨tyfit255, trivial, trivial⟩, ⟨tyfit258, trivial, trivial⟩⟩, ⟨tyfit262, ⟨tyfit261, trivial, trivial⟩, ⟨tyfit263, trivial, trivial⟩⟩⟩, ⟨tyfit268, ⟨tyfit266, ⟨tyfit265, trivial, trivial⟩, ⟨tyfit267, trivial, trivial⟩⟩, ⟨tyfit270, ⟨tyfit269, trivial, trivial⟩, ⟨tyfit272, trivial, trivial⟩⟩⟩⟩, ⟨tyfit284, ⟨tyfit277, ⟨tyfit275, ⟨tyfit274, trivial, trivial⟩, ⟨tyfit276, trivial, trivial⟩⟩, ⟨tyfit282, ⟨tyfit278, trivial, trivial⟩, ⟨tyfit283, trivial, trivial⟩⟩⟩, ⟨tyfit288, ⟨tyfit286, ⟨tyfit285, trivial, trivial⟩, ⟨tyfit287, trivial, trivial⟩⟩, ⟨tyfit290, ⟨tyfit289, trivial, trivial⟩, ⟨tyfit291, trivial, trivial⟩⟩⟩⟩⟩⟩⟩⟩
end Go.Proofs.YtapblcfbmaikjaaGreatDoor
