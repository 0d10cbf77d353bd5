/-
  No cell of these rows narrows 'for every input' (looked for: loops, veiled, ifaces, maps, wideKeys, modest, calm, conditions, laid).
  DERIVED. THE GIVEN ROWS OF THIS SEAT. 7 by the template 'for every input the law returns true; each argument reads behind the call as it read before'; 0 by the template 'total and deterministic' (their statements: YtjcbbmibcbiedaaTotals.lean).
  GIVEN WITH THE SEED: the statements are not yours to turn. If you find one false, say at which input.
  Laid BY PROGRAM, IN A SANDBOX (cutbox-rows.mjs): the forced cells as the released guide's own fill.sh prints them over the translation 47826540b1c16038… (all of the seat's roots in one cut). By AI agents, Wed Nov 11 2026. No macro, syntax, notation, axiom, sorry.
-/
import Derived.Test.YtjcbbmibcbiedaaChecked
import GoSem.Claim
import GoSem.ClaimJoined
import GoSem.ClaimMapViews
import Derived.JoinedTies
import Derived.KernelRfl
namespace Go.Proofs.Ytjcbbmibcbiedaa
/- THE CELL 'sum', in the pinned program and in every row, IS THE sha256 OF THE DUMP (.gsa) THAT YtjcbbmibcbiedaaProg.lean LOADS. Nothing in Lean hashes anything: it is a label: what it is worth is what the hold of that sum in a sandbox is worth. -/
noncomputable def Try.pinned : Pinned := { name := "ytjcbbmibcbiedaa", sum := "47826540b1c1603866e7b2319329f9efc49f27f95762a7cd2674cc95dd6c3beb", checked := Try.checked }
namespace Rows
def none {H : Type} : Left H := { results := [], args := [] }

/-- 'simulcastlaw02.ViewTells': WHATEVER THE INPUT: true; the input reads as it did. -/
def viewTellsSpec : ChangeSpec := { name := "viewTells", fn := fun _ => fun
  | [d1, d2] => { results := [.lit (.bool true)], args := [d1, d2] }
  | _ => none }
def viewTellsRow : OpenClaim := { program := "ytjcbbmibcbiedaa", sum := "47826540b1c1603866e7b2319329f9efc49f27f95762a7cd2674cc95dd6c3beb", func := "simulcast/simulcastlaw02.ViewTells", spec := "viewTells", inPlace := ["maps.clone"], unfollowed := true, recurses := true, apart := false }
def ViewTellsSaid : Prop := viewTellsRow.holds Try.pinned (OpenSpec.ofChange viewTellsSpec)

/-- ITS FALSE NEIGHBOUR: 'it returns false'. Refute it at one input. -/
def viewTellsWrong : ChangeSpec := { name := "viewTells", fn := fun _ => fun
  | [d1, d2] => { results := [.lit (.bool false)], args := [d1, d2] }
  | _ => none }
def ViewTellsWrongFalsely : Prop := viewTellsRow.holds Try.pinned (OpenSpec.ofChange viewTellsWrong)

/-- 'simulcastlaw02.ViewAdds': WHATEVER THE INPUT: true; the input reads as it did. -/
def viewAddsSpec : ChangeSpec := { name := "viewAdds", fn := fun _ => fun
  | [d1, d2, d3] => { results := [.lit (.bool true)], args := [d1, d2, d3] }
  | _ => none }
def viewAddsRow : OpenClaim := { program := "ytjcbbmibcbiedaa", sum := "47826540b1c1603866e7b2319329f9efc49f27f95762a7cd2674cc95dd6c3beb", func := "simulcast/simulcastlaw02.ViewAdds", spec := "viewAdds", inPlace := ["maps.clone"], unfollowed := true, recurses := true, apart := false }
def ViewAddsSaid : Prop := viewAddsRow.holds Try.pinned (OpenSpec.ofChange viewAddsSpec)

/-- ITS FALSE NEIGHBOUR: 'it returns false'. Refute it at one input. -/
def viewAddsWrong : ChangeSpec := { name := "viewAdds", fn := fun _ => fun
  | [d1, d2, d3] => { results := [.lit (.bool false)], args := [d1, d2, d3] }
  | _ => none }
def ViewAddsWrongFalsely : Prop := viewAddsRow.holds Try.pinned (OpenSpec.ofChange viewAddsWrong)

/-- 'simulcastlaw02.ViewJoins': WHATEVER THE INPUT: true; the input reads as it did. -/
def viewJoinsSpec : ChangeSpec := { name := "viewJoins", fn := fun _ => fun
  | [d1, d2] => { results := [.lit (.bool true)], args := [d1, d2] }
  | _ => none }
def viewJoinsRow : OpenClaim := { program := "ytjcbbmibcbiedaa", sum := "47826540b1c1603866e7b2319329f9efc49f27f95762a7cd2674cc95dd6c3beb", func := "simulcast/simulcastlaw02.ViewJoins", spec := "viewJoins", inPlace := ["maps.clone"], unfollowed := true, recurses := true, apart := false }
def ViewJoinsSaid : Prop := viewJoinsRow.holds Try.pinned (OpenSpec.ofChange viewJoinsSpec)

/-- ITS FALSE NEIGHBOUR: 'it returns false'. Refute it at one input. -/
def viewJoinsWrong : ChangeSpec := { name := "viewJoins", fn := fun _ => fun
  | [d1, d2] => { results := [.lit (.bool false)], args := [d1, d2] }
  | _ => none }
def ViewJoinsWrongFalsely : Prop := viewJoinsRow.holds Try.pinned (OpenSpec.ofChange viewJoinsWrong)

/-- 'simulcastlaw02.ViewLattice': WHATEVER THE INPUT: true; the input reads as it did. -/
def viewLatticeSpec : ChangeSpec := { name := "viewLattice", fn := fun _ => fun
  | [d1, d2, d3] => { results := [.lit (.bool true)], args := [d1, d2, d3] }
  | _ => none }
def viewLatticeRow : OpenClaim := { program := "ytjcbbmibcbiedaa", sum := "47826540b1c1603866e7b2319329f9efc49f27f95762a7cd2674cc95dd6c3beb", func := "simulcast/simulcastlaw02.ViewLattice", spec := "viewLattice", inPlace := ["maps.clone"], unfollowed := true, recurses := true, apart := false }
def ViewLatticeSaid : Prop := viewLatticeRow.holds Try.pinned (OpenSpec.ofChange viewLatticeSpec)

/-- ITS FALSE NEIGHBOUR: 'it returns false'. Refute it at one input. -/
def viewLatticeWrong : ChangeSpec := { name := "viewLattice", fn := fun _ => fun
  | [d1, d2, d3] => { results := [.lit (.bool false)], args := [d1, d2, d3] }
  | _ => none }
def ViewLatticeWrongFalsely : Prop := viewLatticeRow.holds Try.pinned (OpenSpec.ofChange viewLatticeWrong)

/-- 'simulcastlaw02.ViewOrder': WHATEVER THE INPUT: true; the input reads as it did. -/
def viewOrderSpec : ChangeSpec := { name := "viewOrder", fn := fun _ => fun
  | [d1, d2, d3] => { results := [.lit (.bool true)], args := [d1, d2, d3] }
  | _ => none }
def viewOrderRow : OpenClaim := { program := "ytjcbbmibcbiedaa", sum := "47826540b1c1603866e7b2319329f9efc49f27f95762a7cd2674cc95dd6c3beb", func := "simulcast/simulcastlaw02.ViewOrder", spec := "viewOrder", inPlace := ["maps.clone"], unfollowed := true, recurses := true, apart := false }
def ViewOrderSaid : Prop := viewOrderRow.holds Try.pinned (OpenSpec.ofChange viewOrderSpec)

/-- ITS FALSE NEIGHBOUR: 'it returns false'. Refute it at one input. -/
def viewOrderWrong : ChangeSpec := { name := "viewOrder", fn := fun _ => fun
  | [d1, d2, d3] => { results := [.lit (.bool false)], args := [d1, d2, d3] }
  | _ => none }
def ViewOrderWrongFalsely : Prop := viewOrderRow.holds Try.pinned (OpenSpec.ofChange viewOrderWrong)

/-- 'simulcastlaw02.ViewOutside': WHATEVER THE INPUT: true; the input reads as it did. -/
def viewOutsideSpec : ChangeSpec := { name := "viewOutside", fn := fun _ => fun
  | [d1, d2, d3] => { results := [.lit (.bool true)], args := [d1, d2, d3] }
  | _ => none }
def viewOutsideRow : OpenClaim := { program := "ytjcbbmibcbiedaa", sum := "47826540b1c1603866e7b2319329f9efc49f27f95762a7cd2674cc95dd6c3beb", func := "simulcast/simulcastlaw02.ViewOutside", spec := "viewOutside", inPlace := ["maps.clone"], unfollowed := true, recurses := true, apart := false }
def ViewOutsideSaid : Prop := viewOutsideRow.holds Try.pinned (OpenSpec.ofChange viewOutsideSpec)

/-- ITS FALSE NEIGHBOUR: 'it returns false'. Refute it at one input. -/
def viewOutsideWrong : ChangeSpec := { name := "viewOutside", fn := fun _ => fun
  | [d1, d2, d3] => { results := [.lit (.bool false)], args := [d1, d2, d3] }
  | _ => none }
def ViewOutsideWrongFalsely : Prop := viewOutsideRow.holds Try.pinned (OpenSpec.ofChange viewOutsideWrong)

/-- 'simulcastlaw02.ViewRebuild': WHATEVER THE INPUT: true; the input reads as it did. -/
def viewRebuildSpec : ChangeSpec := { name := "viewRebuild", fn := fun _ => fun
  | [d] => { results := [.lit (.bool true)], args := [d] }
  | _ => none }
def viewRebuildRow : OpenClaim := { program := "ytjcbbmibcbiedaa", sum := "47826540b1c1603866e7b2319329f9efc49f27f95762a7cd2674cc95dd6c3beb", func := "simulcast/simulcastlaw02.ViewRebuild", spec := "viewRebuild", inPlace := ["maps.clone"], unfollowed := true, recurses := true, apart := false }
def ViewRebuildSaid : Prop := viewRebuildRow.holds Try.pinned (OpenSpec.ofChange viewRebuildSpec)

/-- ITS FALSE NEIGHBOUR: 'it returns false'. Refute it at one input. -/
def viewRebuildWrong : ChangeSpec := { name := "viewRebuild", fn := fun _ => fun
  | [d] => { results := [.lit (.bool false)], args := [d] }
  | _ => none }
def ViewRebuildWrongFalsely : Prop := viewRebuildRow.holds Try.pinned (OpenSpec.ofChange viewRebuildWrong)

/- THE SECOND FORM. 'bulk': how many values and letters a reading holds, each counted each time it is reached (what is shared counts as often as it is met; a slice's spare places count too). A statement '..UptoSaid' is the law's where the arguments, and the package variables that the reading takes, are together of bulk at most 1048576: NARROWER than '..Said'. Prove '..Said' where nothing that the law and all that it calls make is longer than what came in: it says more and counts as full. Else prove '..UptoSaid'. A law counts once. -/
mutual
def uptoBulk {H : Type} : DataW H → Nat
  | .lit (.string bytes) => bytes.length + 1
  | .lit _ => 1
  | .nil => 1
  | .ptr d => uptoBulk d + 1
  | .slice elems spare => uptoBulkAll elems + uptoBulkAll spare + 1
  | .agg parts => uptoBulkAll parts + 1
  | .iface _ d => uptoBulk d + 1
  | .map entries => uptoBulkEntries entries + 1
  | .held _ => 1
def uptoBulkAll {H : Type} : List (DataW H) → Nat
  | [] => 0
  | d :: r => uptoBulk d + uptoBulkAll r
def uptoBulkEntries {H : Type} : List (Lit × DataW H) → Nat
  | [] => 0
  | x :: r => uptoBulkEntry x + uptoBulkEntries r
def uptoBulkEntry {H : Type} : Lit × DataW H → Nat
  | (.string bytes, d) => bytes.length + uptoBulk d + 1
  | (_, d) => uptoBulk d + 1
 end
def uptoSmall : (H : Type) → List (DataW H) → Bool := fun _ ds => decide (uptoBulkAll ds ≤ 1048576)
def OpenSpec.upto (s : _root_.Go.ChangeSpec) : _root_.Go.OpenSpec := { _root_.Go.OpenSpec.ofChange s with cond := some uptoSmall }

/-- 'simulcastlaw02.ViewTells', WHERE WHAT IT READS IS OF BULK AT MOST 1048576: true; the input reads as it did. -/
def viewTellsUptoRow : OpenClaim := { program := "ytjcbbmibcbiedaa", sum := "47826540b1c1603866e7b2319329f9efc49f27f95762a7cd2674cc95dd6c3beb", func := "simulcast/simulcastlaw02.ViewTells", spec := "viewTells", inPlace := ["maps.clone"], unfollowed := true, recurses := true, apart := false, narrowed := true }
def ViewTellsUptoSaid : Prop := viewTellsUptoRow.holds Try.pinned (OpenSpec.upto viewTellsSpec)

/-- 'simulcastlaw02.ViewAdds', WHERE WHAT IT READS IS OF BULK AT MOST 1048576: true; the input reads as it did. -/
def viewAddsUptoRow : OpenClaim := { program := "ytjcbbmibcbiedaa", sum := "47826540b1c1603866e7b2319329f9efc49f27f95762a7cd2674cc95dd6c3beb", func := "simulcast/simulcastlaw02.ViewAdds", spec := "viewAdds", inPlace := ["maps.clone"], unfollowed := true, recurses := true, apart := false, narrowed := true }
def ViewAddsUptoSaid : Prop := viewAddsUptoRow.holds Try.pinned (OpenSpec.upto viewAddsSpec)

/-- 'simulcastlaw02.ViewJoins', WHERE WHAT IT READS IS OF BULK AT MOST 1048576: true; the input reads as it did. -/
def viewJoinsUptoRow : OpenClaim := { program := "ytjcbbmibcbiedaa", sum := "47826540b1c1603866e7b2319329f9efc49f27f95762a7cd2674cc95dd6c3beb", func := "simulcast/simulcastlaw02.ViewJoins", spec := "viewJoins", inPlace := ["maps.clone"], unfollowed := true, recurses := true, apart := false, narrowed := true }
def ViewJoinsUptoSaid : Prop := viewJoinsUptoRow.holds Try.pinned (OpenSpec.upto viewJoinsSpec)

/-- 'simulcastlaw02.ViewLattice', WHERE WHAT IT READS IS OF BULK AT MOST 1048576: true; the input reads as it did. -/
def viewLatticeUptoRow : OpenClaim := { program := "ytjcbbmibcbiedaa", sum := "47826540b1c1603866e7b2319329f9efc49f27f95762a7cd2674cc95dd6c3beb", func := "simulcast/simulcastlaw02.ViewLattice", spec := "viewLattice", inPlace := ["maps.clone"], unfollowed := true, recurses := true, apart := false, narrowed := true }
def ViewLatticeUptoSaid : Prop := viewLatticeUptoRow.holds Try.pinned (OpenSpec.upto viewLatticeSpec)

/-- 'simulcastlaw02.ViewOrder', WHERE WHAT IT READS IS OF BULK AT MOST 1048576: true; the input reads as it did. -/
def viewOrderUptoRow : OpenClaim := { program := "ytjcbbmibcbiedaa", sum := "47826540b1c1603866e7b2319329f9efc49f27f95762a7cd2674cc95dd6c3beb", func := "simulcast/simulcastlaw02.ViewOrder", spec := "viewOrder", inPlace := ["maps.clone"], unfollowed := true, recurses := true, apart := false, narrowed := true }
def ViewOrderUptoSaid : Prop := viewOrderUptoRow.holds Try.pinned (OpenSpec.upto viewOrderSpec)

/-- 'simulcastlaw02.ViewOutside', WHERE WHAT IT READS IS OF BULK AT MOST 1048576: true; the input reads as it did. -/
def viewOutsideUptoRow : OpenClaim := { program := "ytjcbbmibcbiedaa", sum := "47826540b1c1603866e7b2319329f9efc49f27f95762a7cd2674cc95dd6c3beb", func := "simulcast/simulcastlaw02.ViewOutside", spec := "viewOutside", inPlace := ["maps.clone"], unfollowed := true, recurses := true, apart := false, narrowed := true }
def ViewOutsideUptoSaid : Prop := viewOutsideUptoRow.holds Try.pinned (OpenSpec.upto viewOutsideSpec)

/-- 'simulcastlaw02.ViewRebuild', WHERE WHAT IT READS IS OF BULK AT MOST 1048576: true; the input reads as it did. -/
def viewRebuildUptoRow : OpenClaim := { program := "ytjcbbmibcbiedaa", sum := "47826540b1c1603866e7b2319329f9efc49f27f95762a7cd2674cc95dd6c3beb", func := "simulcast/simulcastlaw02.ViewRebuild", spec := "viewRebuild", inPlace := ["maps.clone"], unfollowed := true, recurses := true, apart := false, narrowed := true }
def ViewRebuildUptoSaid : Prop := viewRebuildUptoRow.holds Try.pinned (OpenSpec.upto viewRebuildSpec)

end Rows
end Go.Proofs.Ytjcbbmibcbiedaa
