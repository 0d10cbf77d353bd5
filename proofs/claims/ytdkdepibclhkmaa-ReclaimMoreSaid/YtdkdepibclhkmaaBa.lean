/- law15: what comes in, read as data: for the statements. -/
import Derived.Test.YtdkdepibclhkmaaTt
import Derived.Test.YtdkdepibclhkmaaVcN
import Derived.ProofKit
namespace Go.Proofs.Ytdkdepibclhkmaa
open Go Go.Vc Go.ChangeShapes Go.WideShapes Go.ChangeAt Go.RowKit
set_option maxRecDepth 100000
theorem Try.own : ownKnob Try.prog.godebug = none := by kernel_rfl
theorem Try.kids : Kids Try.prog (· < Try.prog.types.size) := kids_rows (by kernel_rfl) (by kernel_rfl)
theorem Try.full : ∀ t e, t < Try.prog.types.size → Try.prog.underlying t = some (.slice e) → 0 < Try.prog.cellsOf e := slices_full_of Try.prog (by kernel_rfl)

theorem fit2 : Fits Try.prog 2 ti2 := agrees 2 ti2 (by rfl)
theorem fit3 : Fits Try.prog 3 ti3 := agrees 3 ti3 (by rfl)
theorem fit22 : Fits Try.prog 22 ti22 := agrees 22 ti22 (by rfl)
theorem fit29 : Fits Try.prog 29 ti29 := agrees 29 ti29 (by rfl)
theorem fit37 : Fits Try.prog 37 ti37 := agrees 37 ti37 (by rfl)
def inI64 (x : Int) : Prop := IntKind.i64.min ≤ x ∧ x ≤ IntKind.i64.max
theorem reads2 {H : Type} {enc : TypeId × Value → H} {W : World} : Reads enc Try.prog W 2 (.int .i64) inI64 := reads_int fit2.kind
theorem reads3 {H : Type} {enc : TypeId × Value → H} {W : World} : Reads enc Try.prog W 3 (.int .i64) inI64 := reads_int fit3.kind
theorem reads29 {H : Type} {enc : TypeId × Value → H} {W : World} : Reads enc Try.prog W 29 (.st (.pair (.int .i64) (.pair (.int .i64) (.int .i64)))) (fun o => inI64 o.1 ∧ inI64 o.2.1 ∧ inI64 o.2.2) :=
  reads_struct fit29 rfl rfl (readsF_cons reads3 (cellsOf_fits fit3) rfl (readsF_cons reads2 (cellsOf_fits fit2) rfl (readsF_one reads2 (cellsOf_fits fit2))))
theorem reads22 {H : Type} {enc : TypeId × Value → H} {W : World} : Reads enc Try.prog W 22 .slice (fun x => x.2.1 ≤ x.2.2 ∧ x.2.2 ≤ maxLen ∧ ∃ xs : List (Int × Int × Int), xs.length = x.2.1 ∧ RowRd (Store.of W) x.1 (.st (.pair (.int .i64) (.pair (.int .i64) (.int .i64)))) xs ∧ ∀ y ∈ xs, inI64 y.1 ∧ inI64 y.2.1 ∧ inI64 y.2.2) :=
  reads_slice (sh := .st (.pair (.int .i64) (.pair (.int .i64) (.int .i64)))) fit22.kind (cellsOf_fits fit29) (by decide) reads29
theorem reads37 {H : Type} {enc : TypeId × Value → H} {W : World} : Reads enc Try.prog W 37 .slice (fun x => x.2.1 ≤ x.2.2 ∧ x.2.2 ≤ maxLen ∧ ∃ xs : List Int, xs.length = x.2.1 ∧ RowRd (Store.of W) x.1 (.int .i64) xs ∧ ∀ y ∈ xs, inI64 y) :=
  reads_slice (sh := .int .i64) fit37.kind (cellsOf_fits fit2) (by decide) reads2
end Go.Proofs.Ytdkdepibclhkmaa
