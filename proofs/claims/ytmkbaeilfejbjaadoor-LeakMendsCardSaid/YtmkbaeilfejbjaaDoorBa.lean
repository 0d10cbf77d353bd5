/- law16, LeakMends: what comes in, read as data: for the statement. -/
import Derived.Test.YtmkbaeilfejbjaaDoorTt
import Derived.Test.YtmkbaeilfejbjaaDoorVcN
import Derived.ProofKit
import Derived.LaidMore
import Derived.Lib.LaidTab
import Derived.Stop.Joined
namespace Go.Proofs.YtmkbaeilfejbjaaDoor
open Go Go.Vc Go.ChangeShapes Go.WideShapes Go.ChangeAt Go.RowKit
set_option maxRecDepth 100000
theorem Tryd.own : ownKnob Tryd.prog.godebug = none := by kernel_rfl
theorem Tryd.kids : Kids Tryd.prog (· < Tryd.prog.types.size) := kids_rows (by kernel_rfl) (by kernel_rfl)
theorem Tryd.full : ∀ t e, t < Tryd.prog.types.size → Tryd.prog.underlying t = some (.slice e) → 0 < Tryd.prog.cellsOf e := slices_full_of Tryd.prog (by kernel_rfl)
theorem Tryd.gS : Tryd.prog.globalNamed "simulcast/layout.sizes" = some 0 := by kernel_rfl
theorem Tryd.tS : (Tryd.prog.globals[0]?).map (·.type) = some 63 := by kernel_rfl
theorem Tryd.c63 : Tryd.prog.cellsOf 63 = 7 := by kernel_rfl
theorem Tryd.c3 : Tryd.prog.cellsOf 3 = 1 := by kernel_rfl

theorem fit3 : Fits Tryd.prog 3 ti3 := agrees 3 ti3 (by rfl)
theorem fit5 : Fits Tryd.prog 5 ti5 := agrees 5 ti5 (by rfl)
theorem fit22 : Fits Tryd.prog 22 ti22 := agrees 22 ti22 (by rfl)
def inI64 (x : Int) : Prop := IntKind.i64.min ≤ x ∧ x ≤ IntKind.i64.max
def inU8 (x : Int) : Prop := IntKind.u8.min ≤ x ∧ x ≤ IntKind.u8.max
theorem reads3 {H : Type} {enc : TypeId × Value → H} {W : World} : Reads enc Tryd.prog W 3 (.int .i64) inI64 := reads_int fit3.kind
theorem reads5 {H : Type} {enc : TypeId × Value → H} {W : World} : Reads enc Tryd.prog W 5 (.int .u8) inU8 := reads_int fit5.kind
theorem reads22 {H : Type} {enc : TypeId × Value → H} {W : World} : Reads enc Tryd.prog W 22 .slice (fun x => x.2.1 ≤ x.2.2 ∧ x.2.2 ≤ maxLen ∧ ∃ xs : List Int, xs.length = x.2.1 ∧ RowRd (Store.of W) x.1 (.int .i64) xs ∧ ∀ y ∈ xs, inI64 y) :=
  reads_slice (sh := .int .i64) fit22.kind (cellsOf_fits fit3) (by decide) reads3

def sizesZ : List Int := [8, 8, 8, 1, 104, 0, 32]
/-- What the condition gives: the table's cells. -/
theorem of_laid {W : World} (h : laidMetH Tryd.prog Rows.leakMendsRow.laid W) : (Store.of W).rd 0 0 [.int .i64 8, .int .i64 8, .int .i64 8, .int .i64 1, .int .i64 104, .int .i64 0, .int .i64 32] := by
  rw [MakeChecks.laidMetH_plain _ _ _ (by kernel_rfl)] at h
  have hT := Lib.tabIs_of_head (k := .i64) (zs := sizesZ) (rest := []) Tryd.gS Tryd.tS Tryd.underlying63 Tryd.underlying3 Tryd.c3 Tryd.c63 h
  intro j x hj
  have hlt : j < 7 := by
    have := (List.getElem?_eq_some_iff.1 hj).1
    simpa using this
  show W.cell? ⟨0, 0 + j, none⟩ = some x
  rw [Nat.zero_add, hT.cell Tryd.gS j hlt]
  have : j = 0 ∨ j = 1 ∨ j = 2 ∨ j = 3 ∨ j = 4 ∨ j = 5 ∨ j = 6 := by omega
  rcases this with rfl | rfl | rfl | rfl | rfl | rfl | rfl <;> exact hj

/-- The door's own heap meets the condition. -/
theorem door_met (os : Os) (args : Array Value) : laidMetH Tryd.prog Rows.leakMendsRow.laid ((World.doorLaid Tryd.prog 400 os).forCall (fun _ _ => 0) ⟨#[], args, []⟩).memory :=
  laidMetH_of_parts3 (fuel := 8) (laidMet_of_run' 8 (by kernel_rfl) (by kernel_rfl)) (by kernel_rfl) (by kernel_rfl)
end Go.Proofs.YtmkbaeilfejbjaaDoor
