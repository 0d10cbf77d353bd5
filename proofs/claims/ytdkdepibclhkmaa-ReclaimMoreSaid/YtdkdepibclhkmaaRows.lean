/-
  No cell of these rows narrows 'for every input' (looked for: loops, veiled, ifaces, maps, wideKeys, modest, calm, conditions, laid).
  DERIVED. THE GIVEN ROWS OF THIS SEAT. 5 by the template 'for every input the law returns true; each argument reads behind the call as it read before'; 0 by the template 'total and deterministic' (their statements: YtdkdepibclhkmaaTotals.lean).
  GIVEN WITH THE SEED: the statements are not yours to turn. If you find one false, say at which input.
  Laid BY PROGRAM, IN A SANDBOX (cutbox-rows.mjs): the forced cells as the released guide's own fill.sh prints them over the translation 5a77e66d938b8af8… (all of the seat's roots in one cut). By AI agents, Wed Nov 11 2026. No macro, syntax, notation, axiom, sorry.
-/
import Derived.Test.YtdkdepibclhkmaaChecked
import GoSem.Claim
import GoSem.ClaimJoined
import GoSem.ClaimMapViews
import Derived.JoinedTies
import Derived.KernelRfl
namespace Go.Proofs.Ytdkdepibclhkmaa
/- THE CELL 'sum', in the pinned program and in every row, IS THE sha256 OF THE DUMP (.gsa) THAT YtdkdepibclhkmaaProg.lean LOADS. Nothing in Lean hashes anything: it is a label: what it is worth is what the hold of that sum in a sandbox is worth. -/
noncomputable def Try.pinned : Pinned := { name := "ytdkdepibclhkmaa", sum := "5a77e66d938b8af895ffa90a7f6c8c2705300e1aec1226cc8f0e7c2f95adfb7f", checked := Try.checked }
namespace Rows
def none {H : Type} : Left H := { results := [], args := [] }

/-- 'simulcastlaw15.ReclaimRetires': WHATEVER THE INPUT: true; the input reads as it did. -/
def reclaimRetiresSpec : ChangeSpec := { name := "reclaimRetires", fn := fun _ => fun
  | [d] => { results := [.lit (.bool true)], args := [d] }
  | _ => none }
def reclaimRetiresRow : OpenClaim := { program := "ytdkdepibclhkmaa", sum := "5a77e66d938b8af895ffa90a7f6c8c2705300e1aec1226cc8f0e7c2f95adfb7f", func := "simulcast/simulcastlaw15.ReclaimRetires", spec := "reclaimRetires", unfollowed := true, recurses := true, plainKeys := false, apart := false }
def ReclaimRetiresSaid : Prop := reclaimRetiresRow.holds Try.pinned (OpenSpec.ofChange reclaimRetiresSpec)

/-- ITS FALSE NEIGHBOUR: 'it returns false'. Refute it at one input. -/
def reclaimRetiresWrong : ChangeSpec := { name := "reclaimRetires", fn := fun _ => fun
  | [d] => { results := [.lit (.bool false)], args := [d] }
  | _ => none }
def ReclaimRetiresWrongFalsely : Prop := reclaimRetiresRow.holds Try.pinned (OpenSpec.ofChange reclaimRetiresWrong)

/-- 'simulcastlaw15.ReclaimSweeps': WHATEVER THE INPUT: true; the input reads as it did. -/
def reclaimSweepsSpec : ChangeSpec := { name := "reclaimSweeps", fn := fun _ => fun
  | [d1, d2, d3] => { results := [.lit (.bool true)], args := [d1, d2, d3] }
  | _ => none }
def reclaimSweepsRow : OpenClaim := { program := "ytdkdepibclhkmaa", sum := "5a77e66d938b8af895ffa90a7f6c8c2705300e1aec1226cc8f0e7c2f95adfb7f", func := "simulcast/simulcastlaw15.ReclaimSweeps", spec := "reclaimSweeps", unfollowed := true, recurses := true, plainKeys := false, apart := false }
def ReclaimSweepsSaid : Prop := reclaimSweepsRow.holds Try.pinned (OpenSpec.ofChange reclaimSweepsSpec)

/-- ITS FALSE NEIGHBOUR: 'it returns false'. Refute it at one input. -/
def reclaimSweepsWrong : ChangeSpec := { name := "reclaimSweeps", fn := fun _ => fun
  | [d1, d2, d3] => { results := [.lit (.bool false)], args := [d1, d2, d3] }
  | _ => none }
def ReclaimSweepsWrongFalsely : Prop := reclaimSweepsRow.holds Try.pinned (OpenSpec.ofChange reclaimSweepsWrong)

/-- 'simulcastlaw15.ReclaimSafe': WHATEVER THE INPUT: true; the input reads as it did. -/
def reclaimSafeSpec : ChangeSpec := { name := "reclaimSafe", fn := fun _ => fun
  | [d1, d2, d3] => { results := [.lit (.bool true)], args := [d1, d2, d3] }
  | _ => none }
def reclaimSafeRow : OpenClaim := { program := "ytdkdepibclhkmaa", sum := "5a77e66d938b8af895ffa90a7f6c8c2705300e1aec1226cc8f0e7c2f95adfb7f", func := "simulcast/simulcastlaw15.ReclaimSafe", spec := "reclaimSafe", unfollowed := true, recurses := true, plainKeys := false, apart := false }
def ReclaimSafeSaid : Prop := reclaimSafeRow.holds Try.pinned (OpenSpec.ofChange reclaimSafeSpec)

/-- ITS FALSE NEIGHBOUR: 'it returns false'. Refute it at one input. -/
def reclaimSafeWrong : ChangeSpec := { name := "reclaimSafe", fn := fun _ => fun
  | [d1, d2, d3] => { results := [.lit (.bool false)], args := [d1, d2, d3] }
  | _ => none }
def ReclaimSafeWrongFalsely : Prop := reclaimSafeRow.holds Try.pinned (OpenSpec.ofChange reclaimSafeWrong)

/-- 'simulcastlaw15.ReclaimBounds': WHATEVER THE INPUT: true; the input reads as it did. -/
def reclaimBoundsSpec : ChangeSpec := { name := "reclaimBounds", fn := fun _ => fun
  | [d1, d2, d3] => { results := [.lit (.bool true)], args := [d1, d2, d3] }
  | _ => none }
def reclaimBoundsRow : OpenClaim := { program := "ytdkdepibclhkmaa", sum := "5a77e66d938b8af895ffa90a7f6c8c2705300e1aec1226cc8f0e7c2f95adfb7f", func := "simulcast/simulcastlaw15.ReclaimBounds", spec := "reclaimBounds", unfollowed := true, recurses := true, plainKeys := false, apart := false }
def ReclaimBoundsSaid : Prop := reclaimBoundsRow.holds Try.pinned (OpenSpec.ofChange reclaimBoundsSpec)

/-- ITS FALSE NEIGHBOUR: 'it returns false'. Refute it at one input. -/
def reclaimBoundsWrong : ChangeSpec := { name := "reclaimBounds", fn := fun _ => fun
  | [d1, d2, d3] => { results := [.lit (.bool false)], args := [d1, d2, d3] }
  | _ => none }
def ReclaimBoundsWrongFalsely : Prop := reclaimBoundsRow.holds Try.pinned (OpenSpec.ofChange reclaimBoundsWrong)

/-- 'simulcastlaw15.ReclaimMore': WHATEVER THE INPUT: true; the input reads as it did. -/
def reclaimMoreSpec : ChangeSpec := { name := "reclaimMore", fn := fun _ => fun
  | [d1, d2, d3] => { results := [.lit (.bool true)], args := [d1, d2, d3] }
  | _ => none }
def reclaimMoreRow : OpenClaim := { program := "ytdkdepibclhkmaa", sum := "5a77e66d938b8af895ffa90a7f6c8c2705300e1aec1226cc8f0e7c2f95adfb7f", func := "simulcast/simulcastlaw15.ReclaimMore", spec := "reclaimMore", unfollowed := true, recurses := true, plainKeys := false, apart := false }
def ReclaimMoreSaid : Prop := reclaimMoreRow.holds Try.pinned (OpenSpec.ofChange reclaimMoreSpec)

/-- ITS FALSE NEIGHBOUR: 'it returns false'. Refute it at one input. -/
def reclaimMoreWrong : ChangeSpec := { name := "reclaimMore", fn := fun _ => fun
  | [d1, d2, d3] => { results := [.lit (.bool false)], args := [d1, d2, d3] }
  | _ => none }
def ReclaimMoreWrongFalsely : Prop := reclaimMoreRow.holds Try.pinned (OpenSpec.ofChange reclaimMoreWrong)

/- THE SECOND FORM. 'bulk': how many values and letters a reading holds, each counted each time it is reached (what is shared counts as often as it is met; a slice's spare places count too). A statement '..UptoSaid' is the law's where the arguments, and the package variables that the reading takes, are together of bulk at most 1048576: NARROWER than '..Said'. Prove '..Said' where nothing that the law and all that it calls make is longer than what came in: it says more and counts as full. Else prove '..UptoSaid'. A law counts once. -/
mutual
def uptoBulk {H : Type} : DataW H → Nat
  | .lit (.string bytes) => bytes.length + 1
  | .lit _ => 1
  | .nil => 1
  | .ptr d => uptoBulk d + 1
  | .slice elems spare => uptoBulkAll elems + uptoBulkAll spare + 1
  | .agg parts => uptoBulkAll parts + 1
  | .iface _ d => uptoBulk d + 1
  | .map entries => uptoBulkEntries entries + 1
  | .held _ => 1
def uptoBulkAll {H : Type} : List (DataW H) → Nat
  | [] => 0
  | d :: r => uptoBulk d + uptoBulkAll r
def uptoBulkEntries {H : Type} : List (Lit × DataW H) → Nat
  | [] => 0
  | x :: r => uptoBulkEntry x + uptoBulkEntries r
def uptoBulkEntry {H : Type} : Lit × DataW H → Nat
  | (.string bytes, d) => bytes.length + uptoBulk d + 1
  | (_, d) => uptoBulk d + 1
 end
def uptoSmall : (H : Type) → List (DataW H) → Bool := fun _ ds => decide (uptoBulkAll ds ≤ 1048576)
def OpenSpec.upto (s : _root_.Go.ChangeSpec) : _root_.Go.OpenSpec := { _root_.Go.OpenSpec.ofChange s with cond := some uptoSmall }

/-- 'simulcastlaw15.ReclaimRetires', WHERE WHAT IT READS IS OF BULK AT MOST 1048576: true; the input reads as it did. -/
def reclaimRetiresUptoRow : OpenClaim := { program := "ytdkdepibclhkmaa", sum := "5a77e66d938b8af895ffa90a7f6c8c2705300e1aec1226cc8f0e7c2f95adfb7f", func := "simulcast/simulcastlaw15.ReclaimRetires", spec := "reclaimRetires", unfollowed := true, recurses := true, plainKeys := false, apart := false, narrowed := true }
def ReclaimRetiresUptoSaid : Prop := reclaimRetiresUptoRow.holds Try.pinned (OpenSpec.upto reclaimRetiresSpec)

/-- 'simulcastlaw15.ReclaimSweeps', WHERE WHAT IT READS IS OF BULK AT MOST 1048576: true; the input reads as it did. -/
def reclaimSweepsUptoRow : OpenClaim := { program := "ytdkdepibclhkmaa", sum := "5a77e66d938b8af895ffa90a7f6c8c2705300e1aec1226cc8f0e7c2f95adfb7f", func := "simulcast/simulcastlaw15.ReclaimSweeps", spec := "reclaimSweeps", unfollowed := true, recurses := true, plainKeys := false, apart := false, narrowed := true }
def ReclaimSweepsUptoSaid : Prop := reclaimSweepsUptoRow.holds Try.pinned (OpenSpec.upto reclaimSweepsSpec)

/-- 'simulcastlaw15.ReclaimSafe', WHERE WHAT IT READS IS OF BULK AT MOST 1048576: true; the input reads as it did. -/
def reclaimSafeUptoRow : OpenClaim := { program := "ytdkdepibclhkmaa", sum := "5a77e66d938b8af895ffa90a7f6c8c2705300e1aec1226cc8f0e7c2f95adfb7f", func := "simulcast/simulcastlaw15.ReclaimSafe", spec := "reclaimSafe", unfollowed := true, recurses := true, plainKeys := false, apart := false, narrowed := true }
def ReclaimSafeUptoSaid : Prop := reclaimSafeUptoRow.holds Try.pinned (OpenSpec.upto reclaimSafeSpec)

/-- 'simulcastlaw15.ReclaimBounds', WHERE WHAT IT READS IS OF BULK AT MOST 1048576: true; the input reads as it did. -/
def reclaimBoundsUptoRow : OpenClaim := { program := "ytdkdepibclhkmaa", sum := "5a77e66d938b8af895ffa90a7f6c8c2705300e1aec1226cc8f0e7c2f95adfb7f", func := "simulcast/simulcastlaw15.ReclaimBounds", spec := "reclaimBounds", unfollowed := true, recurses := true, plainKeys := false, apart := false, narrowed := true }
def ReclaimBoundsUptoSaid : Prop := reclaimBoundsUptoRow.holds Try.pinned (OpenSpec.upto reclaimBoundsSpec)

/-- 'simulcastlaw15.ReclaimMore', WHERE WHAT IT READS IS OF BULK AT MOST 1048576: true; the input reads as it did. -/
def reclaimMoreUptoRow : OpenClaim := { program := "ytdkdepibclhkmaa", sum := "5a77e66d938b8af895ffa90a7f6c8c2705300e1aec1226cc8f0e7c2f95adfb7f", func := "simulcast/simulcastlaw15.ReclaimMore", spec := "reclaimMore", unfollowed := true, recurses := true, plainKeys := false, apart := false, narrowed := true }
def ReclaimMoreUptoSaid : Prop := reclaimMoreUptoRow.holds Try.pinned (OpenSpec.upto reclaimMoreSpec)

end Rows
end Go.Proofs.Ytdkdepibclhkmaa
