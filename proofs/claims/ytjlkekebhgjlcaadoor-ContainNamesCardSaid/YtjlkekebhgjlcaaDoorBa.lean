/- law29: what comes in, read as data: for the statements. -/
import Derived.Test.YtjlkekebhgjlcaaDoorFa
import Derived.ProofKit
import Derived.LaidMore
import Derived.Lib.LaidTab
import Derived.SizedLaws
import Derived.ChangeMaps5
import Derived.Stop.Joined
import Derived.Stop.LaidErr
namespace Go.Proofs.YtjlkekebhgjlcaaDoor
open Go Go.Vc Go.ChangeShapes Go.WideShapes Go.ChangeAt Go.RowKit
set_option maxRecDepth 100000
theorem Tryd.own : ownKnob Tryd.prog.godebug = none := by kernel_rfl
theorem Tryd.kids : Kids Tryd.prog (· < Tryd.prog.types.size) := kids_rows (by kernel_rfl) (by kernel_rfl)
theorem Tryd.full : ∀ t e, t < Tryd.prog.types.size → Tryd.prog.underlying t = some (.slice e) → 0 < Tryd.prog.cellsOf e := slices_full_of Tryd.prog (by kernel_rfl)
theorem Tryd.tS : (Tryd.prog.globals[0]?).map (·.type) = some 89 := by kernel_rfl
theorem Tryd.c89 : Tryd.prog.cellsOf 89 = 20 := by kernel_rfl
theorem Tryd.c72 : Tryd.prog.cellsOf 72 = 1 := by kernel_rfl

theorem fit2 : Fits Tryd.prog 2 ti2 := agrees 2 ti2 (by rfl)
theorem fit5 : Fits Tryd.prog 5 ti5 := agrees 5 ti5 (by rfl)
theorem fit34 : Fits Tryd.prog 34 ti34 := agrees 34 ti34 (by rfl)
def inK64 (x : Int) : Prop := IntKind.i64.min ≤ x ∧ x ≤ IntKind.i64.max
def inU8 (x : Int) : Prop := IntKind.u8.min ≤ x ∧ x ≤ IntKind.u8.max
theorem reads2 {H : Type} {enc : TypeId × Value → H} {W : World} : Reads enc Tryd.prog W 2 (.int .i64) inK64 := reads_int fit2.kind
theorem reads5 {H : Type} {enc : TypeId × Value → H} {W : World} : Reads enc Tryd.prog W 5 (.int .u8) inU8 := reads_int fit5.kind
theorem reads34 {H : Type} {enc : TypeId × Value → H} {W : World} : Reads enc Tryd.prog W 34 .slice (fun x => x.2.1 ≤ x.2.2 ∧ x.2.2 ≤ maxLen ∧ ∃ xs : List Int, xs.length = x.2.1 ∧ RowRd (Store.of W) x.1 (.int .i64) xs ∧ ∀ y ∈ xs, inK64 y) :=
  reads_slice (sh := .int .i64) fit34.kind (cellsOf_fits fit2) (by decide) reads2
theorem small_of {n : Nat} (h : n ≤ reachBytes) : n ≤ 1000000000000000 := Nat.le_of_lt (Nat.lt_of_le_of_lt h (Nat.lt_of_lt_of_le reachBytes_lt (by decide)))

/-- What the condition gives: the table of powers of ten. -/
theorem tab_of {W : World} {l : List (String × DataW Unit)} (hl : l = [("math/bits.deBruijn32tab", Rows.laid_math_bits_deBruijn32tab), ("math/bits.deBruijn64tab", Rows.laid_math_bits_deBruijn64tab), ("internal/strconv.uint64pow10", Rows.laid_internal_strconv_uint64pow10)])
    (h : laidMetH Tryd.prog l W) : Tab (Store.of W) := by
  subst hl
  rw [MakeChecks.laidMetH_plain _ _ _ (by kernel_rfl)] at h
  have hT := Lib.tabIs_of_head (k := .u64) (zs := Lib.pow10Tab) (rest := []) gPow Tryd.tS Tryd.underlying89 Tryd.underlying72 Tryd.c72 Tryd.c89 (laidMet.tail (laidMet.tail h))
  unfold Lib.TabIs World.var? at hT
  rw [gPow] at hT
  simp only [Option.bind_some] at hT
  split at hT
  · rename_i cs T z hb
    simp only [Option.some.injEq] at hT
    subst hT
    exact ⟨T, z, hb⟩
  · cases hT

/-- The door's own heap meets the condition. -/
theorem door_met (os : Os) (args : Array Value) : laidMetH Tryd.prog Rows.containCallsRow.laid ((World.doorLaid Tryd.prog 400 os).forCall (fun _ _ => 0) ⟨#[], args, []⟩).memory :=
  laidMetH_of_parts3 (fuel := 8) (laidMet_of_run' 8 (by kernel_rfl) (by kernel_rfl)) (by kernel_rfl) (by kernel_rfl)
end Go.Proofs.YtjlkekebhgjlcaaDoor
