/- law63: basics. -/
import Derived.Test.YtikpdgjdeikinaaGreatDoorTt
import Derived.Test.YtikpdgjdeikinaaGreatDoorVcN
import Derived.Test.YtikpdgjdeikinaaGreatDoorOr
import Derived.Test.YtikpdgjdeikinaaGreatDoorPc
namespace Go.Proofs.YtikpdgjdeikinaaGreatDoor
open Go Go.Vc
set_option maxRecDepth 100000

@[reducible] def shI : Shape := .int .i64
@[reducible] def shC : Shape := .st (.pair (.int .i64) (.pair (.int .i64) (.pair .slice .slice)))
@[reducible] def shS : Shape := .st (.pair .str (.pair .slice (.pair (.int .i64) (.int .i64))))
@[reducible] def rB (b : Bool) : SV := .c (.v (.bool b))
@[reducible] def rI (n : Int) : SV := .c (.v (.int .i64 n))
abbrev Hd := Option Addr × Nat × Nat
@[reducible] def slV (p : Hd) : Value := .slice p.1 p.2.1 p.2.2
/-- A command as the program holds it. -/
abbrev Cx := Int × Int × Hd × Hd
@[reducible] def vC (x : Cx) : Value := .agg #[.int .i64 x.1, .int .i64 x.2.1, slV x.2.2.1, slV x.2.2.2]
theorem onE {b : Bool} {p q : Prop} (hb : b = true) (h : p) : (b = true → p) ∧ (b = false → q) := ⟨fun _ => h, fun e => (by rw [hb] at e; cases e)⟩
theorem offE {b : Bool} {p q : Prop} (hb : b = false) (h : q) : (b = true → p) ∧ (b = false → q) := ⟨fun e => (by rw [hb] at e; cases e), fun _ => h⟩
def inI64 (x : Int) : Prop := -9223372036854775808 ≤ x ∧ x ≤ 9223372036854775807
theorem in64_iff {x : Int} : Sc.in64 x = true ↔ inI64 x := by unfold Sc.in64 inI64; simp
end Go.Proofs.YtikpdgjdeikinaaGreatDoor
