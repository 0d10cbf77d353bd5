/- law54: what comes in, read as data: for the statements. -/
import Derived.Test.YtfchicmekieclaaTt
import Derived.Test.YtfchicmekieclaaVcN
import Derived.ProofKit
namespace Go.Proofs.Ytfchicmekieclaa
open Go Go.Vc Go.ChangeShapes Go.WideShapes Go.ChangeAt Go.RowKit
set_option maxRecDepth 100000
theorem Try.own : ownKnob Try.prog.godebug = none := by kernel_rfl
theorem Try.kids : Kids Try.prog (· < Try.prog.types.size) := kids_rows (by kernel_rfl) (by kernel_rfl)
theorem Try.full : ∀ t e, t < Try.prog.types.size → Try.prog.underlying t = some (.slice e) → 0 < Try.prog.cellsOf e := slices_full_of Try.prog (by kernel_rfl)

theorem fit2 : Fits Try.prog 2 ti2 := agrees 2 ti2 (by rfl)
theorem fit3 : Fits Try.prog 3 ti3 := agrees 3 ti3 (by rfl)
theorem fit5 : Fits Try.prog 5 ti5 := agrees 5 ti5 (by rfl)
theorem fit22 : Fits Try.prog 22 ti22 := agrees 22 ti22 (by rfl)
theorem fit23 : Fits Try.prog 23 ti23 := agrees 23 ti23 (by rfl)
theorem fit33 : Fits Try.prog 33 ti33 := agrees 33 ti33 (by rfl)
theorem fit45 : Fits Try.prog 45 ti45 := agrees 45 ti45 (by rfl)
def inI64 (x : Int) : Prop := IntKind.i64.min ≤ x ∧ x ≤ IntKind.i64.max
def opIn (o : Int × Int × Int) : Prop := inI64 o.1 ∧ inI64 o.2.1 ∧ inI64 o.2.2
theorem reads2 {H : Type} {enc : TypeId × Value → H} {W : World} : Reads enc Try.prog W 2 (.int .i64) inI64 := reads_int fit2.kind
theorem reads3 {H : Type} {enc : TypeId × Value → H} {W : World} : Reads enc Try.prog W 3 (.int .i64) inI64 := reads_int fit3.kind
theorem reads5 {H : Type} {enc : TypeId × Value → H} {W : World} : Reads enc Try.prog W 5 (.int .u8) (fun x => IntKind.u8.min ≤ x ∧ x ≤ IntKind.u8.max) := reads_int fit5.kind
theorem reads33 {H : Type} {enc : TypeId × Value → H} {W : World} : Reads enc Try.prog W 33 (.st (.pair (.int .i64) (.pair (.int .i64) (.int .i64)))) opIn :=
  reads_struct fit33 rfl rfl (readsF_cons reads3 (cellsOf_fits fit3) rfl (readsF_cons reads2 (cellsOf_fits fit2) rfl (readsF_one reads2 (cellsOf_fits fit2))))
theorem reads23 {H : Type} {enc : TypeId × Value → H} {W : World} : Reads enc Try.prog W 23 .slice (fun x => x.2.1 ≤ x.2.2 ∧ x.2.2 ≤ maxLen ∧ ∃ xs : List (Int × Int × Int), xs.length = x.2.1 ∧ RowRd (Store.of W) x.1 (.st (.pair (.int .i64) (.pair (.int .i64) (.int .i64)))) xs ∧ ∀ y ∈ xs, opIn y) :=
  reads_slice (sh := .st (.pair (.int .i64) (.pair (.int .i64) (.int .i64)))) fit23.kind (cellsOf_fits fit33) (by decide) reads33
theorem reads22 {H : Type} {enc : TypeId × Value → H} {W : World} : Reads enc Try.prog W 22 .map (fun b => ∃ es : List (Int × Int), MapRd (Store.of W) b (.int .i64) (.int .i64) es ∧ keysOnce (k := .int .i64) es ∧ (∀ p ∈ es, IntKind.i64.min ≤ p.1 ∧ p.1 ≤ IntKind.i64.max ∧ inI64 p.2)) :=
  reads_map (ti := ti2) fit22.kind fit2.kind fit2 rfl reads2
end Go.Proofs.Ytfchicmekieclaa
