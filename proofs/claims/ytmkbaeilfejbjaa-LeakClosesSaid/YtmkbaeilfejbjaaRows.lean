/-
  No cell of these rows narrows 'for every input' (looked for: loops, veiled, ifaces, maps, wideKeys, modest, calm, conditions, laid).
  DERIVED. THE GIVEN ROWS OF THIS SEAT. 4 by the template 'for every input the law returns true; each argument reads behind the call as it read before'; 0 by the template 'total and deterministic' (their statements: YtmkbaeilfejbjaaTotals.lean).
  GIVEN WITH THE SEED: the statements are not yours to turn. If you find one false, say at which input.
  Laid BY PROGRAM, IN A SANDBOX (cutbox-rows.mjs): the forced cells as the released guide's own fill.sh prints them over the translation 367f7bebc4dd7055… (all of the seat's roots in one cut). By AI agents, Wed Nov 11 2026. No macro, syntax, notation, axiom, sorry.
-/
import Derived.Test.YtmkbaeilfejbjaaChecked
import GoSem.Claim
import GoSem.ClaimJoined
import GoSem.ClaimMapViews
import Derived.JoinedTies
import Derived.KernelRfl
namespace Go.Proofs.Ytmkbaeilfejbjaa
/- THE CELL 'sum', in the pinned program and in every row, IS THE sha256 OF THE DUMP (.gsa) THAT YtmkbaeilfejbjaaProg.lean LOADS. Nothing in Lean hashes anything: it is a label: what it is worth is what the hold of that sum in a sandbox is worth. -/
noncomputable def Try.pinned : Pinned := { name := "ytmkbaeilfejbjaa", sum := "367f7bebc4dd705566f88e11d64db698aec3b294db6ccee4a5f2841deeac598b", checked := Try.checked }
namespace Rows
def none {H : Type} : Left H := { results := [], args := [] }

/-- 'simulcastlaw16.LeakReaches': WHATEVER THE INPUT: true; the input reads as it did. -/
def leakReachesSpec : ChangeSpec := { name := "leakReaches", fn := fun _ => fun
  | [d1, d2] => { results := [.lit (.bool true)], args := [d1, d2] }
  | _ => none }
def leakReachesRow : OpenClaim := { program := "ytmkbaeilfejbjaa", sum := "367f7bebc4dd705566f88e11d64db698aec3b294db6ccee4a5f2841deeac598b", func := "simulcast/simulcastlaw16.LeakReaches", spec := "leakReaches", unfollowed := true, recurses := true, apart := false }
def LeakReachesSaid : Prop := leakReachesRow.holds Try.pinned (OpenSpec.ofChange leakReachesSpec)

/-- ITS FALSE NEIGHBOUR: 'it returns false'. Refute it at one input. -/
def leakReachesWrong : ChangeSpec := { name := "leakReaches", fn := fun _ => fun
  | [d1, d2] => { results := [.lit (.bool false)], args := [d1, d2] }
  | _ => none }
def LeakReachesWrongFalsely : Prop := leakReachesRow.holds Try.pinned (OpenSpec.ofChange leakReachesWrong)

/-- 'simulcastlaw16.LeakCloses': WHATEVER THE INPUT: true; the input reads as it did. -/
def leakClosesSpec : ChangeSpec := { name := "leakCloses", fn := fun _ => fun
  | [d1, d2, d3] => { results := [.lit (.bool true)], args := [d1, d2, d3] }
  | _ => none }
def leakClosesRow : OpenClaim := { program := "ytmkbaeilfejbjaa", sum := "367f7bebc4dd705566f88e11d64db698aec3b294db6ccee4a5f2841deeac598b", func := "simulcast/simulcastlaw16.LeakCloses", spec := "leakCloses", unfollowed := true, recurses := true, apart := false }
def LeakClosesSaid : Prop := leakClosesRow.holds Try.pinned (OpenSpec.ofChange leakClosesSpec)

/-- ITS FALSE NEIGHBOUR: 'it returns false'. Refute it at one input. -/
def leakClosesWrong : ChangeSpec := { name := "leakCloses", fn := fun _ => fun
  | [d1, d2, d3] => { results := [.lit (.bool false)], args := [d1, d2, d3] }
  | _ => none }
def LeakClosesWrongFalsely : Prop := leakClosesRow.holds Try.pinned (OpenSpec.ofChange leakClosesWrong)

/-- 'simulcastlaw16.LeakTells': WHATEVER THE INPUT: true; the input reads as it did. -/
def leakTellsSpec : ChangeSpec := { name := "leakTells", fn := fun _ => fun
  | [d1, d2] => { results := [.lit (.bool true)], args := [d1, d2] }
  | _ => none }
def leakTellsRow : OpenClaim := { program := "ytmkbaeilfejbjaa", sum := "367f7bebc4dd705566f88e11d64db698aec3b294db6ccee4a5f2841deeac598b", func := "simulcast/simulcastlaw16.LeakTells", spec := "leakTells", unfollowed := true, recurses := true, apart := false }
def LeakTellsSaid : Prop := leakTellsRow.holds Try.pinned (OpenSpec.ofChange leakTellsSpec)

/-- ITS FALSE NEIGHBOUR: 'it returns false'. Refute it at one input. -/
def leakTellsWrong : ChangeSpec := { name := "leakTells", fn := fun _ => fun
  | [d1, d2] => { results := [.lit (.bool false)], args := [d1, d2] }
  | _ => none }
def LeakTellsWrongFalsely : Prop := leakTellsRow.holds Try.pinned (OpenSpec.ofChange leakTellsWrong)

/-- 'simulcastlaw16.LeakJoins': WHATEVER THE INPUT: true; the input reads as it did. -/
def leakJoinsSpec : ChangeSpec := { name := "leakJoins", fn := fun _ => fun
  | [d1, d2, d3] => { results := [.lit (.bool true)], args := [d1, d2, d3] }
  | _ => none }
def leakJoinsRow : OpenClaim := { program := "ytmkbaeilfejbjaa", sum := "367f7bebc4dd705566f88e11d64db698aec3b294db6ccee4a5f2841deeac598b", func := "simulcast/simulcastlaw16.LeakJoins", spec := "leakJoins", unfollowed := true, recurses := true, apart := false }
def LeakJoinsSaid : Prop := leakJoinsRow.holds Try.pinned (OpenSpec.ofChange leakJoinsSpec)

/-- ITS FALSE NEIGHBOUR: 'it returns false'. Refute it at one input. -/
def leakJoinsWrong : ChangeSpec := { name := "leakJoins", fn := fun _ => fun
  | [d1, d2, d3] => { results := [.lit (.bool false)], args := [d1, d2, d3] }
  | _ => none }
def LeakJoinsWrongFalsely : Prop := leakJoinsRow.holds Try.pinned (OpenSpec.ofChange leakJoinsWrong)

/- THE SECOND FORM. 'bulk': how many values and letters a reading holds, each counted each time it is reached (what is shared counts as often as it is met; a slice's spare places count too). A statement '..UptoSaid' is the law's where the arguments, and the package variables that the reading takes, are together of bulk at most 1048576: NARROWER than '..Said'. Prove '..Said' where nothing that the law and all that it calls make is longer than what came in: it says more and counts as full. Else prove '..UptoSaid'. A law counts once. -/
mutual
def uptoBulk {H : Type} : DataW H → Nat
  | .lit (.string bytes) => bytes.length + 1
  | .lit _ => 1
  | .nil => 1
  | .ptr d => uptoBulk d + 1
  | .slice elems spare => uptoBulkAll elems + uptoBulkAll spare + 1
  | .agg parts => uptoBulkAll parts + 1
  | .iface _ d => uptoBulk d + 1
  | .map entries => uptoBulkEntries entries + 1
  | .held _ => 1
def uptoBulkAll {H : Type} : List (DataW H) → Nat
  | [] => 0
  | d :: r => uptoBulk d + uptoBulkAll r
def uptoBulkEntries {H : Type} : List (Lit × DataW H) → Nat
  | [] => 0
  | x :: r => uptoBulkEntry x + uptoBulkEntries r
def uptoBulkEntry {H : Type} : Lit × DataW H → Nat
  | (.string bytes, d) => bytes.length + uptoBulk d + 1
  | (_, d) => uptoBulk d + 1
 end
def uptoSmall : (H : Type) → List (DataW H) → Bool := fun _ ds => decide (uptoBulkAll ds ≤ 1048576)
def OpenSpec.upto (s : _root_.Go.ChangeSpec) : _root_.Go.OpenSpec := { _root_.Go.OpenSpec.ofChange s with cond := some uptoSmall }

/-- 'simulcastlaw16.LeakReaches', WHERE WHAT IT READS IS OF BULK AT MOST 1048576: true; the input reads as it did. -/
def leakReachesUptoRow : OpenClaim := { program := "ytmkbaeilfejbjaa", sum := "367f7bebc4dd705566f88e11d64db698aec3b294db6ccee4a5f2841deeac598b", func := "simulcast/simulcastlaw16.LeakReaches", spec := "leakReaches", unfollowed := true, recurses := true, apart := false, narrowed := true }
def LeakReachesUptoSaid : Prop := leakReachesUptoRow.holds Try.pinned (OpenSpec.upto leakReachesSpec)

/-- 'simulcastlaw16.LeakCloses', WHERE WHAT IT READS IS OF BULK AT MOST 1048576: true; the input reads as it did. -/
def leakClosesUptoRow : OpenClaim := { program := "ytmkbaeilfejbjaa", sum := "367f7bebc4dd705566f88e11d64db698aec3b294db6ccee4a5f2841deeac598b", func := "simulcast/simulcastlaw16.LeakCloses", spec := "leakCloses", unfollowed := true, recurses := true, apart := false, narrowed := true }
def LeakClosesUptoSaid : Prop := leakClosesUptoRow.holds Try.pinned (OpenSpec.upto leakClosesSpec)

/-- 'simulcastlaw16.LeakTells', WHERE WHAT IT READS IS OF BULK AT MOST 1048576: true; the input reads as it did. -/
def leakTellsUptoRow : OpenClaim := { program := "ytmkbaeilfejbjaa", sum := "367f7bebc4dd705566f88e11d64db698aec3b294db6ccee4a5f2841deeac598b", func := "simulcast/simulcastlaw16.LeakTells", spec := "leakTells", unfollowed := true, recurses := true, apart := false, narrowed := true }
def LeakTellsUptoSaid : Prop := leakTellsUptoRow.holds Try.pinned (OpenSpec.upto leakTellsSpec)

/-- 'simulcastlaw16.LeakJoins', WHERE WHAT IT READS IS OF BULK AT MOST 1048576: true; the input reads as it did. -/
def leakJoinsUptoRow : OpenClaim := { program := "ytmkbaeilfejbjaa", sum := "367f7bebc4dd705566f88e11d64db698aec3b294db6ccee4a5f2841deeac598b", func := "simulcast/simulcastlaw16.LeakJoins", spec := "leakJoins", unfollowed := true, recurses := true, apart := false, narrowed := true }
def LeakJoinsUptoSaid : Prop := leakJoinsUptoRow.holds Try.pinned (OpenSpec.upto leakJoinsSpec)

end Rows
end Go.Proofs.Ytmkbaeilfejbjaa
