/- law16: what comes in, read as data: for the statements. -/
import Derived.Test.YtmkbaeilfejbjaaTt
import Derived.Test.YtmkbaeilfejbjaaVcN
import Derived.ProofKit
namespace Go.Proofs.Ytmkbaeilfejbjaa
open Go Go.Vc Go.ChangeShapes Go.WideShapes Go.ChangeAt Go.RowKit
set_option maxRecDepth 100000
theorem Try.own : ownKnob Try.prog.godebug = none := by kernel_rfl
theorem Try.kids : Kids Try.prog (· < Try.prog.types.size) := kids_rows (by kernel_rfl) (by kernel_rfl)
theorem Try.full : ∀ t e, t < Try.prog.types.size → Try.prog.underlying t = some (.slice e) → 0 < Try.prog.cellsOf e := slices_full_of Try.prog (by kernel_rfl)

theorem fit3 : Fits Try.prog 3 ti3 := agrees 3 ti3 (by rfl)
theorem fit22 : Fits Try.prog 22 ti22 := agrees 22 ti22 (by rfl)
theorem fit23 : Fits Try.prog 23 ti23 := agrees 23 ti23 (by rfl)
def isRow (W : World) (x : Option Addr × Nat × Nat) : Prop := x.2.1 ≤ x.2.2 ∧ x.2.2 ≤ maxLen ∧ ∃ xs : List Int, xs.length = x.2.1 ∧ RowRd (Store.of W) x.1 (.int .i64) xs ∧ ∀ y ∈ xs, IntKind.i64.min ≤ y ∧ y ≤ IntKind.i64.max
theorem reads3 {H : Type} {enc : TypeId × Value → H} {W : World} : Reads enc Try.prog W 3 (.int .i64) (fun x => IntKind.i64.min ≤ x ∧ x ≤ IntKind.i64.max) := reads_int fit3.kind
theorem reads22 {H : Type} {enc : TypeId × Value → H} {W : World} : Reads enc Try.prog W 22 .slice (isRow W) :=
  reads_slice (sh := .int .i64) fit22.kind (cellsOf_fits fit3) (by decide) reads3
theorem reads23 {H : Type} {enc : TypeId × Value → H} {W : World} : Reads enc Try.prog W 23 .slice (fun x => x.2.1 ≤ x.2.2 ∧ x.2.2 ≤ maxLen ∧ ∃ xs : List (Option Addr × Nat × Nat), xs.length = x.2.1 ∧ RowRd (Store.of W) x.1 .slice xs ∧ ∀ y ∈ xs, isRow W y) :=
  reads_slice (sh := .slice) fit23.kind (cellsOf_fits fit22) (by decide) reads22
theorem rows_of {W : World} : ∀ {hs : List (Option Addr × Nat × Nat)}, (∀ y ∈ hs, isRow W y) → ∃ next : List (List Int), RowsRd (Store.of W) (.int .i64) hs next
  | [], _ => ⟨[], trivial⟩
  | h :: hs, hy => by
    obtain ⟨next, hn⟩ := rows_of (hs := hs) fun y hm => hy y (List.mem_cons_of_mem _ hm)
    obtain ⟨_, _, xs, h1, h2, _⟩ := hy h (by simp)
    exact ⟨xs :: next, ⟨h1.symm, h2⟩, hn⟩
end Go.Proofs.Ytmkbaeilfejbjaa
