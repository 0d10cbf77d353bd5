/-
  NARROWER THAN 'FOR EVERY INPUT', by the rows' own cells (each row's printed sentence says how): BatchesTell: maps · BatchesBatch: maps · BatchesMerge: maps · BatchesRuns: maps · BatchesSplit: maps.
  DERIVED. THE GIVEN ROWS OF THIS SEAT. 6 by the template 'for every input the law returns true; each argument reads behind the call as it read before'; 0 by the template 'total and deterministic' (their statements: YtfchicmekieclaaTotals.lean).
  GIVEN WITH THE SEED: the statements are not yours to turn. If you find one false, say at which input.
  Laid BY PROGRAM, IN A SANDBOX (cutbox-rows.mjs): the forced cells as the released guide's own fill.sh prints them over the translation 8d89b8f3d3a65126… (all of the seat's roots in one cut). By AI agents, Wed Nov 11 2026. No macro, syntax, notation, axiom, sorry.
-/
import Derived.Test.YtfchicmekieclaaChecked
import GoSem.Claim
import GoSem.ClaimJoined
import GoSem.ClaimMapViews
import Derived.JoinedTies
import Derived.KernelRfl
namespace Go.Proofs.Ytfchicmekieclaa
/- THE CELL 'sum', in the pinned program and in every row, IS THE sha256 OF THE DUMP (.gsa) THAT YtfchicmekieclaaProg.lean LOADS. Nothing in Lean hashes anything: it is a label: what it is worth is what the hold of that sum in a sandbox is worth. -/
noncomputable def Try.pinned : Pinned := { name := "ytfchicmekieclaa", sum := "8d89b8f3d3a6512669f6680fad3d57e883514266f36975460671675445ff074b", checked := Try.checked }
namespace Rows
def none {H : Type} : Left H := { results := [], args := [] }

/-- 'simulcastlaw54.BatchesTell': WHATEVER THE INPUT: true; the input reads as it did. -/
def batchesTellSpec : ChangeSpec := { name := "batchesTell", fn := fun _ => fun
  | [d1, d2] => { results := [.lit (.bool true)], args := [d1, d2] }
  | _ => none }
def batchesTellRow : OpenClaim := { program := "ytfchicmekieclaa", sum := "8d89b8f3d3a6512669f6680fad3d57e883514266f36975460671675445ff074b", func := "simulcast/simulcastlaw54.BatchesTell", spec := "batchesTell", unfollowed := true, recurses := true, maps := true, apart := false }
def BatchesTellSaid : Prop := batchesTellRow.holds Try.pinned (OpenSpec.ofChange batchesTellSpec)

/-- ITS FALSE NEIGHBOUR: 'it returns false'. Refute it at one input. -/
def batchesTellWrong : ChangeSpec := { name := "batchesTell", fn := fun _ => fun
  | [d1, d2] => { results := [.lit (.bool false)], args := [d1, d2] }
  | _ => none }
def BatchesTellWrongFalsely : Prop := batchesTellRow.holds Try.pinned (OpenSpec.ofChange batchesTellWrong)

/-- 'simulcastlaw54.BatchesBatch': WHATEVER THE INPUT: true; the input reads as it did. -/
def batchesBatchSpec : ChangeSpec := { name := "batchesBatch", fn := fun _ => fun
  | [d1, d2] => { results := [.lit (.bool true)], args := [d1, d2] }
  | _ => none }
def batchesBatchRow : OpenClaim := { program := "ytfchicmekieclaa", sum := "8d89b8f3d3a6512669f6680fad3d57e883514266f36975460671675445ff074b", func := "simulcast/simulcastlaw54.BatchesBatch", spec := "batchesBatch", unfollowed := true, recurses := true, maps := true, apart := false }
def BatchesBatchSaid : Prop := batchesBatchRow.holds Try.pinned (OpenSpec.ofChange batchesBatchSpec)

/-- ITS FALSE NEIGHBOUR: 'it returns false'. Refute it at one input. -/
def batchesBatchWrong : ChangeSpec := { name := "batchesBatch", fn := fun _ => fun
  | [d1, d2] => { results := [.lit (.bool false)], args := [d1, d2] }
  | _ => none }
def BatchesBatchWrongFalsely : Prop := batchesBatchRow.holds Try.pinned (OpenSpec.ofChange batchesBatchWrong)

/-- 'simulcastlaw54.BatchesCommute': WHATEVER THE INPUT: true; the input reads as it did. -/
def batchesCommuteSpec : ChangeSpec := { name := "batchesCommute", fn := fun _ => fun
  | [d1, d2, d3] => { results := [.lit (.bool true)], args := [d1, d2, d3] }
  | _ => none }
def batchesCommuteRow : OpenClaim := { program := "ytfchicmekieclaa", sum := "8d89b8f3d3a6512669f6680fad3d57e883514266f36975460671675445ff074b", func := "simulcast/simulcastlaw54.BatchesCommute", spec := "batchesCommute", unfollowed := true, recurses := true, apart := false }
def BatchesCommuteSaid : Prop := batchesCommuteRow.holds Try.pinned (OpenSpec.ofChange batchesCommuteSpec)

/-- ITS FALSE NEIGHBOUR: 'it returns false'. Refute it at one input. -/
def batchesCommuteWrong : ChangeSpec := { name := "batchesCommute", fn := fun _ => fun
  | [d1, d2, d3] => { results := [.lit (.bool false)], args := [d1, d2, d3] }
  | _ => none }
def BatchesCommuteWrongFalsely : Prop := batchesCommuteRow.holds Try.pinned (OpenSpec.ofChange batchesCommuteWrong)

/-- 'simulcastlaw54.BatchesMerge': WHATEVER THE INPUT: true; the input reads as it did. -/
def batchesMergeSpec : ChangeSpec := { name := "batchesMerge", fn := fun _ => fun
  | [d1, d2] => { results := [.lit (.bool true)], args := [d1, d2] }
  | _ => none }
def batchesMergeRow : OpenClaim := { program := "ytfchicmekieclaa", sum := "8d89b8f3d3a6512669f6680fad3d57e883514266f36975460671675445ff074b", func := "simulcast/simulcastlaw54.BatchesMerge", spec := "batchesMerge", unfollowed := true, recurses := true, maps := true, apart := false }
def BatchesMergeSaid : Prop := batchesMergeRow.holds Try.pinned (OpenSpec.ofChange batchesMergeSpec)

/-- ITS FALSE NEIGHBOUR: 'it returns false'. Refute it at one input. -/
def batchesMergeWrong : ChangeSpec := { name := "batchesMerge", fn := fun _ => fun
  | [d1, d2] => { results := [.lit (.bool false)], args := [d1, d2] }
  | _ => none }
def BatchesMergeWrongFalsely : Prop := batchesMergeRow.holds Try.pinned (OpenSpec.ofChange batchesMergeWrong)

/-- 'simulcastlaw54.BatchesRuns': WHATEVER THE INPUT: true; the input reads as it did. -/
def batchesRunsSpec : ChangeSpec := { name := "batchesRuns", fn := fun _ => fun
  | [d1, d2] => { results := [.lit (.bool true)], args := [d1, d2] }
  | _ => none }
def batchesRunsRow : OpenClaim := { program := "ytfchicmekieclaa", sum := "8d89b8f3d3a6512669f6680fad3d57e883514266f36975460671675445ff074b", func := "simulcast/simulcastlaw54.BatchesRuns", spec := "batchesRuns", unfollowed := true, recurses := true, maps := true, apart := false }
def BatchesRunsSaid : Prop := batchesRunsRow.holds Try.pinned (OpenSpec.ofChange batchesRunsSpec)

/-- ITS FALSE NEIGHBOUR: 'it returns false'. Refute it at one input. -/
def batchesRunsWrong : ChangeSpec := { name := "batchesRuns", fn := fun _ => fun
  | [d1, d2] => { results := [.lit (.bool false)], args := [d1, d2] }
  | _ => none }
def BatchesRunsWrongFalsely : Prop := batchesRunsRow.holds Try.pinned (OpenSpec.ofChange batchesRunsWrong)

/-- 'simulcastlaw54.BatchesSplit': WHATEVER THE INPUT: true; the input reads as it did. -/
def batchesSplitSpec : ChangeSpec := { name := "batchesSplit", fn := fun _ => fun
  | [d1, d2, d3] => { results := [.lit (.bool true)], args := [d1, d2, d3] }
  | _ => none }
def batchesSplitRow : OpenClaim := { program := "ytfchicmekieclaa", sum := "8d89b8f3d3a6512669f6680fad3d57e883514266f36975460671675445ff074b", func := "simulcast/simulcastlaw54.BatchesSplit", spec := "batchesSplit", unfollowed := true, recurses := true, maps := true, apart := false }
def BatchesSplitSaid : Prop := batchesSplitRow.holds Try.pinned (OpenSpec.ofChange batchesSplitSpec)

/-- ITS FALSE NEIGHBOUR: 'it returns false'. Refute it at one input. -/
def batchesSplitWrong : ChangeSpec := { name := "batchesSplit", fn := fun _ => fun
  | [d1, d2, d3] => { results := [.lit (.bool false)], args := [d1, d2, d3] }
  | _ => none }
def BatchesSplitWrongFalsely : Prop := batchesSplitRow.holds Try.pinned (OpenSpec.ofChange batchesSplitWrong)

/- THE SECOND FORM. 'bulk': how many values and letters a reading holds, each counted each time it is reached (what is shared counts as often as it is met; a slice's spare places count too). A statement '..UptoSaid' is the law's where the arguments, and the package variables that the reading takes, are together of bulk at most 1048576: NARROWER than '..Said'. Prove '..Said' where nothing that the law and all that it calls make is longer than what came in: it says more and counts as full. Else prove '..UptoSaid'. A law counts once. -/
mutual
def uptoBulk {H : Type} : DataW H → Nat
  | .lit (.string bytes) => bytes.length + 1
  | .lit _ => 1
  | .nil => 1
  | .ptr d => uptoBulk d + 1
  | .slice elems spare => uptoBulkAll elems + uptoBulkAll spare + 1
  | .agg parts => uptoBulkAll parts + 1
  | .iface _ d => uptoBulk d + 1
  | .map entries => uptoBulkEntries entries + 1
  | .held _ => 1
def uptoBulkAll {H : Type} : List (DataW H) → Nat
  | [] => 0
  | d :: r => uptoBulk d + uptoBulkAll r
def uptoBulkEntries {H : Type} : List (Lit × DataW H) → Nat
  | [] => 0
  | x :: r => uptoBulkEntry x + uptoBulkEntries r
def uptoBulkEntry {H : Type} : Lit × DataW H → Nat
  | (.string bytes, d) => bytes.length + uptoBulk d + 1
  | (_, d) => uptoBulk d + 1
 end
def uptoSmall : (H : Type) → List (DataW H) → Bool := fun _ ds => decide (uptoBulkAll ds ≤ 1048576)
def OpenSpec.upto (s : _root_.Go.ChangeSpec) : _root_.Go.OpenSpec := { _root_.Go.OpenSpec.ofChange s with cond := some uptoSmall }

/-- 'simulcastlaw54.BatchesTell', WHERE WHAT IT READS IS OF BULK AT MOST 1048576: true; the input reads as it did. -/
def batchesTellUptoRow : OpenClaim := { program := "ytfchicmekieclaa", sum := "8d89b8f3d3a6512669f6680fad3d57e883514266f36975460671675445ff074b", func := "simulcast/simulcastlaw54.BatchesTell", spec := "batchesTell", unfollowed := true, recurses := true, maps := true, apart := false, narrowed := true }
def BatchesTellUptoSaid : Prop := batchesTellUptoRow.holds Try.pinned (OpenSpec.upto batchesTellSpec)

/-- 'simulcastlaw54.BatchesBatch', WHERE WHAT IT READS IS OF BULK AT MOST 1048576: true; the input reads as it did. -/
def batchesBatchUptoRow : OpenClaim := { program := "ytfchicmekieclaa", sum := "8d89b8f3d3a6512669f6680fad3d57e883514266f36975460671675445ff074b", func := "simulcast/simulcastlaw54.BatchesBatch", spec := "batchesBatch", unfollowed := true, recurses := true, maps := true, apart := false, narrowed := true }
def BatchesBatchUptoSaid : Prop := batchesBatchUptoRow.holds Try.pinned (OpenSpec.upto batchesBatchSpec)

/-- 'simulcastlaw54.BatchesCommute', WHERE WHAT IT READS IS OF BULK AT MOST 1048576: true; the input reads as it did. -/
def batchesCommuteUptoRow : OpenClaim := { program := "ytfchicmekieclaa", sum := "8d89b8f3d3a6512669f6680fad3d57e883514266f36975460671675445ff074b", func := "simulcast/simulcastlaw54.BatchesCommute", spec := "batchesCommute", unfollowed := true, recurses := true, apart := false, narrowed := true }
def BatchesCommuteUptoSaid : Prop := batchesCommuteUptoRow.holds Try.pinned (OpenSpec.upto batchesCommuteSpec)

/-- 'simulcastlaw54.BatchesMerge', WHERE WHAT IT READS IS OF BULK AT MOST 1048576: true; the input reads as it did. -/
def batchesMergeUptoRow : OpenClaim := { program := "ytfchicmekieclaa", sum := "8d89b8f3d3a6512669f6680fad3d57e883514266f36975460671675445ff074b", func := "simulcast/simulcastlaw54.BatchesMerge", spec := "batchesMerge", unfollowed := true, recurses := true, maps := true, apart := false, narrowed := true }
def BatchesMergeUptoSaid : Prop := batchesMergeUptoRow.holds Try.pinned (OpenSpec.upto batchesMergeSpec)

/-- 'simulcastlaw54.BatchesRuns', WHERE WHAT IT READS IS OF BULK AT MOST 1048576: true; the input reads as it did. -/
def batchesRunsUptoRow : OpenClaim := { program := "ytfchicmekieclaa", sum := "8d89b8f3d3a6512669f6680fad3d57e883514266f36975460671675445ff074b", func := "simulcast/simulcastlaw54.BatchesRuns", spec := "batchesRuns", unfollowed := true, recurses := true, maps := true, apart := false, narrowed := true }
def BatchesRunsUptoSaid : Prop := batchesRunsUptoRow.holds Try.pinned (OpenSpec.upto batchesRunsSpec)

/-- 'simulcastlaw54.BatchesSplit', WHERE WHAT IT READS IS OF BULK AT MOST 1048576: true; the input reads as it did. -/
def batchesSplitUptoRow : OpenClaim := { program := "ytfchicmekieclaa", sum := "8d89b8f3d3a6512669f6680fad3d57e883514266f36975460671675445ff074b", func := "simulcast/simulcastlaw54.BatchesSplit", spec := "batchesSplit", unfollowed := true, recurses := true, maps := true, apart := false, narrowed := true }
def BatchesSplitUptoSaid : Prop := batchesSplitUptoRow.holds Try.pinned (OpenSpec.upto batchesSplitSpec)

end Rows
end Go.Proofs.Ytfchicmekieclaa
