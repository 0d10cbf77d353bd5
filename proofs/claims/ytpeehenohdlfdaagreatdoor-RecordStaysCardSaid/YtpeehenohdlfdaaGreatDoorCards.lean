/-
  DERIVED. GIVEN WITH THE SEED: THE CARDS: each row of YtpeehenohdlfdaaGreatDoorRows.lean that lists a variable, with what it lists TIED to the program's text (the seventh form; the later family's looks); each row that meets fmt, with fmt's text TOLD by the authors' own Lean function (tested against real Go, not proved from fmt's source: count such statements apart). THE CARD IS WHAT COUNTS. Prove the row's statement (the work); the ties are given (YtpeehenohdlfdaaGreatDoorTie.lean); close each card by the builder's one call (the guide's Derived/Test/ToyasCard.lean, 'card_holds'). Laid BY PROGRAM, IN A SANDBOX (cutbox-door.mjs). By AI agents, Wed Nov 11 2026. No macro, syntax, notation, axiom, sorry.
-/
import Derived.Test.YtpeehenohdlfdaaGreatDoorRows
import GoSem.ClaimSeven
namespace Go.Proofs.YtpeehenohdlfdaaGreatDoor
namespace Rows

/-- THE TIED CARD OF 'simulcastlaw57.RecordPlays'. -/
def recordPlaysCard : Claim7 := { stood := { row := recordPlaysRow, standIns := [], harness := (true, "96e10983a8fecc86f5a794457313bd2a3839c077cf052336e1790ed09984dcf1"), looks := true }, kinds := [], alts := [], laidByText := true, laidKinds := [.data, .data, .data, .data, .pinned], laidTests := true, laidLooks := .later }
def RecordPlaysCardSaid : Prop := Claim7.holds Tryz.pinned (.plain (OpenSpec.ofChange recordPlaysSpec)) recordPlaysCard

/-- THE TIED CARD OF 'simulcastlaw57.RecordTexts'. -/
def recordTextsCard : Claim7 := { stood := { row := recordTextsRow, standIns := [], harness := (true, "96e10983a8fecc86f5a794457313bd2a3839c077cf052336e1790ed09984dcf1"), looks := true }, kinds := [], alts := [], laidByText := true, laidKinds := [.data, .data, .data, .data, .pinned], laidTests := true, laidLooks := .later }
def RecordTextsCardSaid : Prop := Claim7.holds Tryz.pinned (.plain (OpenSpec.ofChange recordTextsSpec)) recordTextsCard

/-- THE TIED CARD OF 'simulcastlaw57.RecordTurns'. -/
def recordTurnsCard : Claim7 := { stood := { row := recordTurnsRow, standIns := [], harness := (true, "96e10983a8fecc86f5a794457313bd2a3839c077cf052336e1790ed09984dcf1"), looks := true }, kinds := [], alts := [], laidByText := true, laidKinds := [.data, .data, .data, .data, .pinned], laidTests := true, laidLooks := .later }
def RecordTurnsCardSaid : Prop := Claim7.holds Tryz.pinned (.plain (OpenSpec.ofChange recordTurnsSpec)) recordTurnsCard

/-- THE TIED CARD OF 'simulcastlaw57.RecordStays'. -/
def recordStaysCard : Claim7 := { stood := { row := recordStaysRow, standIns := [], harness := (true, "96e10983a8fecc86f5a794457313bd2a3839c077cf052336e1790ed09984dcf1"), looks := true }, kinds := [], alts := [], laidByText := true, laidKinds := [.data, .data, .data, .data, .pinned], laidTests := true, laidLooks := .later }
def RecordStaysCardSaid : Prop := Claim7.holds Tryz.pinned (.plain (OpenSpec.ofChange recordStaysSpec)) recordStaysCard

/-- THE TIED CARD OF 'simulcastlaw57.RecordFull'. -/
def recordFullCard : Claim7 := { stood := { row := recordFullRow, standIns := [], harness := (true, "96e10983a8fecc86f5a794457313bd2a3839c077cf052336e1790ed09984dcf1"), looks := true }, kinds := [], alts := [], laidByText := true, laidKinds := [.data, .data, .data, .data, .pinned], laidTests := true, laidLooks := .later }
def RecordFullCardSaid : Prop := Claim7.holds Tryz.pinned (.plain (OpenSpec.ofChange recordFullSpec)) recordFullCard

/-- THE TIED CARD OF 'simulcastlaw57.RecordParses'. -/
def recordParsesCard : Claim7 := { stood := { row := recordParsesRow, standIns := [], harness := (true, "96e10983a8fecc86f5a794457313bd2a3839c077cf052336e1790ed09984dcf1"), looks := true }, kinds := [], alts := [], laidByText := true, laidKinds := [.data, .data, .data, .data, .sentinel, .sentinel, .pinned], laidTests := true, laidLooks := .later }
def RecordParsesCardSaid : Prop := Claim7.holds Tryz.pinned (.plain (OpenSpec.ofChange recordParsesSpec)) recordParsesCard

/-- THE TIED CARD OF 'simulcastlaw57.RecordBack'. -/
def recordBackCard : Claim7 := { stood := { row := recordBackRow, standIns := [], harness := (true, "96e10983a8fecc86f5a794457313bd2a3839c077cf052336e1790ed09984dcf1"), looks := true }, kinds := [], alts := [], laidByText := true, laidKinds := [.data, .data, .data, .data, .sentinel, .sentinel, .pinned], laidTests := true, laidLooks := .later }
def RecordBackCardSaid : Prop := Claim7.holds Tryz.pinned (.plain (OpenSpec.ofChange recordBackSpec)) recordBackCard

/-- THE SECOND FORM's CARD OF 'simulcastlaw57.RecordPlays'. -/
def recordPlaysUptoCard : Claim7 := { stood := { row := recordPlaysUptoRow, standIns := [], harness := (true, "96e10983a8fecc86f5a794457313bd2a3839c077cf052336e1790ed09984dcf1"), looks := true }, kinds := [], alts := [], laidByText := true, laidKinds := [.data, .data, .data, .data, .pinned], laidTests := true, laidLooks := .later }
def RecordPlaysUptoCardSaid : Prop := Claim7.holds Tryz.pinned (.plain (OpenSpec.upto recordPlaysSpec)) recordPlaysUptoCard

/-- THE SECOND FORM's CARD OF 'simulcastlaw57.RecordTexts'. -/
def recordTextsUptoCard : Claim7 := { stood := { row := recordTextsUptoRow, standIns := [], harness := (true, "96e10983a8fecc86f5a794457313bd2a3839c077cf052336e1790ed09984dcf1"), looks := true }, kinds := [], alts := [], laidByText := true, laidKinds := [.data, .data, .data, .data, .pinned], laidTests := true, laidLooks := .later }
def RecordTextsUptoCardSaid : Prop := Claim7.holds Tryz.pinned (.plain (OpenSpec.upto recordTextsSpec)) recordTextsUptoCard

/-- THE SECOND FORM's CARD OF 'simulcastlaw57.RecordTurns'. -/
def recordTurnsUptoCard : Claim7 := { stood := { row := recordTurnsUptoRow, standIns := [], harness := (true, "96e10983a8fecc86f5a794457313bd2a3839c077cf052336e1790ed09984dcf1"), looks := true }, kinds := [], alts := [], laidByText := true, laidKinds := [.data, .data, .data, .data, .pinned], laidTests := true, laidLooks := .later }
def RecordTurnsUptoCardSaid : Prop := Claim7.holds Tryz.pinned (.plain (OpenSpec.upto recordTurnsSpec)) recordTurnsUptoCard

/-- THE SECOND FORM's CARD OF 'simulcastlaw57.RecordStays'. -/
def recordStaysUptoCard : Claim7 := { stood := { row := recordStaysUptoRow, standIns := [], harness := (true, "96e10983a8fecc86f5a794457313bd2a3839c077cf052336e1790ed09984dcf1"), looks := true }, kinds := [], alts := [], laidByText := true, laidKinds := [.data, .data, .data, .data, .pinned], laidTests := true, laidLooks := .later }
def RecordStaysUptoCardSaid : Prop := Claim7.holds Tryz.pinned (.plain (OpenSpec.upto recordStaysSpec)) recordStaysUptoCard

/-- THE SECOND FORM's CARD OF 'simulcastlaw57.RecordFull'. -/
def recordFullUptoCard : Claim7 := { stood := { row := recordFullUptoRow, standIns := [], harness := (true, "96e10983a8fecc86f5a794457313bd2a3839c077cf052336e1790ed09984dcf1"), looks := true }, kinds := [], alts := [], laidByText := true, laidKinds := [.data, .data, .data, .data, .pinned], laidTests := true, laidLooks := .later }
def RecordFullUptoCardSaid : Prop := Claim7.holds Tryz.pinned (.plain (OpenSpec.upto recordFullSpec)) recordFullUptoCard

/-- THE SECOND FORM's CARD OF 'simulcastlaw57.RecordParses'. -/
def recordParsesUptoCard : Claim7 := { stood := { row := recordParsesUptoRow, standIns := [], harness := (true, "96e10983a8fecc86f5a794457313bd2a3839c077cf052336e1790ed09984dcf1"), looks := true }, kinds := [], alts := [], laidByText := true, laidKinds := [.data, .data, .data, .data, .sentinel, .sentinel, .pinned], laidTests := true, laidLooks := .later }
def RecordParsesUptoCardSaid : Prop := Claim7.holds Tryz.pinned (.plain (OpenSpec.upto recordParsesSpec)) recordParsesUptoCard

/-- THE SECOND FORM's CARD OF 'simulcastlaw57.RecordBack'. -/
def recordBackUptoCard : Claim7 := { stood := { row := recordBackUptoRow, standIns := [], harness := (true, "96e10983a8fecc86f5a794457313bd2a3839c077cf052336e1790ed09984dcf1"), looks := true }, kinds := [], alts := [], laidByText := true, laidKinds := [.data, .data, .data, .data, .sentinel, .sentinel, .pinned], laidTests := true, laidLooks := .later }
def RecordBackUptoCardSaid : Prop := Claim7.holds Tryz.pinned (.plain (OpenSpec.upto recordBackSpec)) recordBackUptoCard
end Rows
end Go.Proofs.YtpeehenohdlfdaaGreatDoor
