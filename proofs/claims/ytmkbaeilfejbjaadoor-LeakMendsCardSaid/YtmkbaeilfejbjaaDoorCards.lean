/-
  DERIVED. GIVEN WITH THE SEED: THE CARDS: each row of YtmkbaeilfejbjaaDoorRows.lean that lists a variable, with what it lists TIED to the program's text (the seventh form; the later family's looks); each row that meets fmt, with fmt's text TOLD by the authors' own Lean function (tested against real Go, not proved from fmt's source: count such statements apart). THE CARD IS WHAT COUNTS. Prove the row's statement (the work); the ties are given (YtmkbaeilfejbjaaDoorTie.lean); close each card by the builder's one call (the guide's Derived/Test/ToyasCard.lean, 'card_holds'). Laid BY PROGRAM, IN A SANDBOX (cutbox-door.mjs). By AI agents, Wed Nov 11 2026. No macro, syntax, notation, axiom, sorry.
-/
import Derived.Test.YtmkbaeilfejbjaaDoorRows
import GoSem.ClaimSeven
namespace Go.Proofs.YtmkbaeilfejbjaaDoor
namespace Rows

/-- THE TIED CARD OF 'simulcastlaw16.LeakMends'. -/
def leakMendsCard : Claim7 := { stood := { row := leakMendsRow, standIns := [], harness := (true, "f87c1ab39cb34c7ec71f17e15084ad9fb076a570071703635ce9a4b374444b2c"), looks := false }, kinds := [], alts := [], laidByText := true, laidKinds := [.data], laidTests := true, laidLooks := .later }
def LeakMendsCardSaid : Prop := Claim7.holds Tryd.pinned (.plain (OpenSpec.ofChange leakMendsSpec)) leakMendsCard

/-- THE SECOND FORM's CARD OF 'simulcastlaw16.LeakMends'. -/
def leakMendsUptoCard : Claim7 := { stood := { row := leakMendsUptoRow, standIns := [], harness := (true, "f87c1ab39cb34c7ec71f17e15084ad9fb076a570071703635ce9a4b374444b2c"), looks := false }, kinds := [], alts := [], laidByText := true, laidKinds := [.data], laidTests := true, laidLooks := .later }
def LeakMendsUptoCardSaid : Prop := Claim7.holds Tryd.pinned (.plain (OpenSpec.upto leakMendsSpec)) leakMendsUptoCard
end Rows
end Go.Proofs.YtmkbaeilfejbjaaDoor
