/- law57: basics. -/
import Derived.Test.YtpeehenohdlfdaaGreatDoorTt
import Derived.Test.YtpeehenohdlfdaaGreatDoorVcN
import Derived.Test.YtpeehenohdlfdaaGreatDoorOr
import Derived.Test.YtpeehenohdlfdaaGreatDoorPb
import Derived.Test.YtpeehenohdlfdaaGreatDoorPc
namespace Go.Proofs.YtpeehenohdlfdaaGreatDoor
open Go Go.Vc
set_option maxRecDepth 100000

@[reducible] def shI : Shape := .int .i64
/-- An event: kind, thread, number, (name, arguments), (error, value). -/
@[reducible] def shE : Shape := .st (.pair (.int .i64) (.pair (.int .i64) (.pair (.int .i64) (.pair (.st (.pair .str .slice)) (.st (.pair (.int .i64) (.int .i64)))))))
@[reducible] def shA : Shape := .st (.pair (.int .u8) (.pair (.int .i64) (.pair (.int .i64) (.pair (.st (.pair .str .slice)) (.st (.pair (.int .i64) (.int .i64)))))))
@[reducible] def shO : Shape := .st (.pair (.int .i64) .bool)
@[reducible] def rB (b : Bool) : SV := .c (.v (.bool b))
@[reducible] def rI (n : Int) : SV := .c (.v (.int .i64 n))
abbrev Hd := Option Addr × Nat × Nat
@[reducible] def slV (p : Hd) : Value := .slice p.1 p.2.1 p.2.2
/-- An event as the program holds it. -/
abbrev Ex := Int × Int × Int × (ByteArray × Hd) × Int × Int
@[reducible] def vE (x : Ex) : Value := .agg #[.int .i64 x.1, .int .i64 x.2.1, .int .i64 x.2.2.1, .string x.2.2.2.1.1, slV x.2.2.2.1.2, .int .i64 x.2.2.2.2.1, .int .i64 x.2.2.2.2.2]
@[reducible] def rE (x : Ex) : SV := .agg [.v (.int .i64 x.1), .v (.int .i64 x.2.1), .v (.int .i64 x.2.2.1), .v (.string x.2.2.2.1.1), .v (slV x.2.2.2.1.2), .v (.int .i64 x.2.2.2.2.1), .v (.int .i64 x.2.2.2.2.2)]
/-- A history as the program holds it. -/
abbrev Hx := Hd × Option Nat × Option Nat
@[reducible] def vH (x : Hx) : Value := .agg #[slV x.1, .map x.2.1, .map x.2.2]
@[reducible] def cH (x : Hx) : Bool × List C := (true, [.v (slV x.1), .v (.map x.2.1), .v (.map x.2.2)])
@[reducible] def rH (x : Hx) : SV := .agg [.v (slV x.1), .v (.map x.2.1), .v (.map x.2.2)]
theorem onE {b : Bool} {p q : Prop} (hb : b = true) (h : p) : (b = true → p) ∧ (b = false → q) := ⟨fun _ => h, fun e => (by rw [hb] at e; cases e)⟩
theorem offE {b : Bool} {p q : Prop} (hb : b = false) (h : q) : (b = true → p) ∧ (b = false → q) := ⟨fun e => (by rw [hb] at e; cases e), fun _ => h⟩
def inI64 (x : Int) : Prop := -9223372036854775808 ≤ x ∧ x ≤ 9223372036854775807
theorem in64_iff {x : Int} : Sc.in64 x = true ↔ inI64 x := by unfold Sc.in64 inI64; simp
end Go.Proofs.YtpeehenohdlfdaaGreatDoor
