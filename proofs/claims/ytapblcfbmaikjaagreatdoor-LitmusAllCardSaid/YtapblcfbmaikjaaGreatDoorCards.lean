/-
  DERIVED. GIVEN WITH THE SEED: THE CARDS: each row of YtapblcfbmaikjaaGreatDoorRows.lean that lists a variable, with what it lists TIED to the program's text (the seventh form; the later family's looks); each row that meets fmt, with fmt's text TOLD by the authors' own Lean function (tested against real Go, not proved from fmt's source: count such statements apart). THE CARD IS WHAT COUNTS. Prove the row's statement (the work); the ties are given (YtapblcfbmaikjaaGreatDoorTie.lean); close each card by the builder's one call (the guide's Derived/Test/ToyasCard.lean, 'card_holds'). Laid BY PROGRAM, IN A SANDBOX (cutbox-door.mjs). By AI agents, Wed Nov 11 2026. No macro, syntax, notation, axiom, sorry.
-/
import Derived.Test.YtapblcfbmaikjaaGreatDoorRows
import GoSem.ClaimSeven
namespace Go.Proofs.YtapblcfbmaikjaaGreatDoor
namespace Rows

/-- THE TIED CARD OF 'simulcastlaw09.LitmusStronger'. -/
def litmusStrongerCard : Claim7 := { stood := { row := litmusStrongerRow, standIns := [], harness := (true, "3512bd29bc29c8638bd33a64d3eb67ad54230d5f2704f59c377931657cdf5a84"), looks := true }, kinds := [], alts := [], laidByText := true, laidKinds := [.data, .data, .data], laidTests := true, laidLooks := .later }
def LitmusStrongerCardSaid : Prop := Claim7.holds Tryz.pinned (.plain (OpenSpec.ofChange litmusStrongerSpec)) litmusStrongerCard

/-- THE TIED CARD OF 'simulcastlaw09.LitmusNamed'. -/
def litmusNamedCard : Claim7 := { stood := { row := litmusNamedRow, standIns := [], harness := (true, "3512bd29bc29c8638bd33a64d3eb67ad54230d5f2704f59c377931657cdf5a84"), looks := true }, kinds := [], alts := [], laidByText := true, laidKinds := [.data, .data, .data], laidTests := true, laidLooks := .later }
def LitmusNamedCardSaid : Prop := Claim7.holds Tryz.pinned (.plain (OpenSpec.ofChange litmusNamedSpec)) litmusNamedCard

/-- THE TIED CARD OF 'simulcastlaw09.LitmusRuns'. -/
def litmusRunsCard : Claim7 := { stood := { row := litmusRunsRow, standIns := [], harness := (true, "3512bd29bc29c8638bd33a64d3eb67ad54230d5f2704f59c377931657cdf5a84"), looks := true }, kinds := [], alts := [], laidByText := true, laidKinds := [.data, .data, .data], laidTests := true, laidLooks := .later }
def LitmusRunsCardSaid : Prop := Claim7.holds Tryz.pinned (.plain (OpenSpec.ofChange litmusRunsSpec)) litmusRunsCard

/-- THE TIED CARD OF 'simulcastlaw09.LitmusAll'. -/
def litmusAllCard : Claim7 := { stood := { row := litmusAllRow, standIns := [], harness := (true, "3512bd29bc29c8638bd33a64d3eb67ad54230d5f2704f59c377931657cdf5a84"), looks := true }, kinds := [], alts := [], laidByText := true, laidKinds := [.data, .data, .data], laidTests := true, laidLooks := .later }
def LitmusAllCardSaid : Prop := Claim7.holds Tryz.pinned (.plain (OpenSpec.ofChange litmusAllSpec)) litmusAllCard

/-- THE TIED CARD OF 'simulcastlaw09.LitmusForbids'. -/
def litmusForbidsCard : Claim7 := { stood := { row := litmusForbidsRow, standIns := [], harness := (true, "3512bd29bc29c8638bd33a64d3eb67ad54230d5f2704f59c377931657cdf5a84"), looks := true }, kinds := [], alts := [], laidByText := true, laidKinds := [.data, .data, .data], laidTests := true, laidLooks := .later }
def LitmusForbidsCardSaid : Prop := Claim7.holds Tryz.pinned (.plain (OpenSpec.ofChange litmusForbidsSpec)) litmusForbidsCard

/-- THE TIED CARD OF 'simulcastlaw09.LitmusPlain'. -/
def litmusPlainCard : Claim7 := { stood := { row := litmusPlainRow, standIns := [], harness := (true, "3512bd29bc29c8638bd33a64d3eb67ad54230d5f2704f59c377931657cdf5a84"), looks := true }, kinds := [], alts := [], laidByText := true, laidKinds := [.data, .data, .data], laidTests := true, laidLooks := .later }
def LitmusPlainCardSaid : Prop := Claim7.holds Tryz.pinned (.plain (OpenSpec.ofChange litmusPlainSpec)) litmusPlainCard

/-- THE SECOND FORM's CARD OF 'simulcastlaw09.LitmusStronger'. -/
def litmusStrongerUptoCard : Claim7 := { stood := { row := litmusStrongerUptoRow, standIns := [], harness := (true, "3512bd29bc29c8638bd33a64d3eb67ad54230d5f2704f59c377931657cdf5a84"), looks := true }, kinds := [], alts := [], laidByText := true, laidKinds := [.data, .data, .data], laidTests := true, laidLooks := .later }
def LitmusStrongerUptoCardSaid : Prop := Claim7.holds Tryz.pinned (.plain (OpenSpec.upto litmusStrongerSpec)) litmusStrongerUptoCard

/-- THE SECOND FORM's CARD OF 'simulcastlaw09.LitmusNamed'. -/
def litmusNamedUptoCard : Claim7 := { stood := { row := litmusNamedUptoRow, standIns := [], harness := (true, "3512bd29bc29c8638bd33a64d3eb67ad54230d5f2704f59c377931657cdf5a84"), looks := true }, kinds := [], alts := [], laidByText := true, laidKinds := [.data, .data, .data], laidTests := true, laidLooks := .later }
def LitmusNamedUptoCardSaid : Prop := Claim7.holds Tryz.pinned (.plain (OpenSpec.upto litmusNamedSpec)) litmusNamedUptoCard

/-- THE SECOND FORM's CARD OF 'simulcastlaw09.LitmusRuns'. -/
def litmusRunsUptoCard : Claim7 := { stood := { row := litmusRunsUptoRow, standIns := [], harness := (true, "3512bd29bc29c8638bd33a64d3eb67ad54230d5f2704f59c377931657cdf5a84"), looks := true }, kinds := [], alts := [], laidByText := true, laidKinds := [.data, .data, .data], laidTests := true, laidLooks := .later }
def LitmusRunsUptoCardSaid : Prop := Claim7.holds Tryz.pinned (.plain (OpenSpec.upto litmusRunsSpec)) litmusRunsUptoCard

/-- THE SECOND FORM's CARD OF 'simulcastlaw09.LitmusAll'. -/
def litmusAllUptoCard : Claim7 := { stood := { row := litmusAllUptoRow, standIns := [], harness := (true, "3512bd29bc29c8638bd33a64d3eb67ad54230d5f2704f59c377931657cdf5a84"), looks := true }, kinds := [], alts := [], laidByText := true, laidKinds := [.data, .data, .data], laidTests := true, laidLooks := .later }
def LitmusAllUptoCardSaid : Prop := Claim7.holds Tryz.pinned (.plain (OpenSpec.upto litmusAllSpec)) litmusAllUptoCard

/-- THE SECOND FORM's CARD OF 'simulcastlaw09.LitmusForbids'. -/
def litmusForbidsUptoCard : Claim7 := { stood := { row := litmusForbidsUptoRow, standIns := [], harness := (true, "3512bd29bc29c8638bd33a64d3eb67ad54230d5f2704f59c377931657cdf5a84"), looks := true }, kinds := [], alts := [], laidByText := true, laidKinds := [.data, .data, .data], laidTests := true, laidLooks := .later }
def LitmusForbidsUptoCardSaid : Prop := Claim7.holds Tryz.pinned (.plain (OpenSpec.upto litmusForbidsSpec)) litmusForbidsUptoCard

/-- THE SECOND FORM's CARD OF 'simulcastlaw09.LitmusPlain'. -/
def litmusPlainUptoCard : Claim7 := { stood := { row := litmusPlainUptoRow, standIns := [], harness := (true, "3512bd29bc29c8638bd33a64d3eb67ad54230d5f2704f59c377931657cdf5a84"), looks := true }, kinds := [], alts := [], laidByText := true, laidKinds := [.data, .data, .data], laidTests := true, laidLooks := .later }
def LitmusPlainUptoCardSaid : Prop := Claim7.holds Tryz.pinned (.plain (OpenSpec.upto litmusPlainSpec)) litmusPlainUptoCard
end Rows
end Go.Proofs.YtapblcfbmaikjaaGreatDoor
