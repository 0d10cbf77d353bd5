/-
  DERIVED. GIVEN WITH THE SEED: THE CARDS: each row of YtpfghndflegbaaaDoorRows.lean that lists a variable, with what it lists TIED to the program's text (the seventh form; the later family's looks); each row that meets fmt, with fmt's text TOLD by the authors' own Lean function (tested against real Go, not proved from fmt's source: count such statements apart). THE CARD IS WHAT COUNTS. Prove the row's statement (the work); the ties are given (YtpfghndflegbaaaDoorTie.lean); close each card by the builder's one call (the guide's Derived/Test/ToyasCard.lean, 'card_holds'). Laid BY PROGRAM, IN A SANDBOX (cutbox-door.mjs). By AI agents, Wed Nov 11 2026. No macro, syntax, notation, axiom, sorry.
-/
import Derived.Test.YtpfghndflegbaaaDoorRows
import GoSem.ClaimSeven
namespace Go.Proofs.YtpfghndflegbaaaDoor
namespace Rows

/-- THE TIED CARD OF 'simulcastlaw58.JudgeChecks'. -/
def judgeChecksCard : Claim7 := { stood := { row := judgeChecksRow, standIns := [], harness := (true, "eee4092f95b69951ee14c542e365e3b5dff54fe7f362dc8f7be52e5f5743c53f"), looks := true }, kinds := [], alts := [], laidByText := true, laidKinds := [.data, .data, .data], laidTests := true, laidLooks := .later }
def JudgeChecksCardSaid : Prop := Claim7.holds Tryd.pinned (.plain (OpenSpec.ofChange judgeChecksSpec)) judgeChecksCard

/-- THE TIED CARD OF 'simulcastlaw58.JudgeBlames'. -/
def judgeBlamesCard : Claim7 := { stood := { row := judgeBlamesRow, standIns := [], harness := (true, "eee4092f95b69951ee14c542e365e3b5dff54fe7f362dc8f7be52e5f5743c53f"), looks := true }, kinds := [], alts := [], laidByText := true, laidKinds := [.data, .data, .data], laidTests := true, laidLooks := .later }
def JudgeBlamesCardSaid : Prop := Claim7.holds Tryd.pinned (.plain (OpenSpec.ofChange judgeBlamesSpec)) judgeBlamesCard

/-- THE TIED CARD OF 'simulcastlaw58.JudgeForms'. -/
def judgeFormsCard : Claim7 := { stood := { row := judgeFormsRow, standIns := [], harness := (true, "eee4092f95b69951ee14c542e365e3b5dff54fe7f362dc8f7be52e5f5743c53f"), looks := true }, kinds := [], alts := [], laidByText := true, laidKinds := [.data, .data, .data], laidTests := true, laidLooks := .later }
def JudgeFormsCardSaid : Prop := Claim7.holds Tryd.pinned (.plain (OpenSpec.ofChange judgeFormsSpec)) judgeFormsCard

/-- THE TIED CARD OF 'simulcastlaw58.JudgeLives'. -/
def judgeLivesCard : Claim7 := { stood := { row := judgeLivesRow, standIns := [], harness := (true, "eee4092f95b69951ee14c542e365e3b5dff54fe7f362dc8f7be52e5f5743c53f"), looks := true }, kinds := [], alts := [], laidByText := true, laidKinds := [.data, .data, .data, .sentinel, .sentinel], laidTests := true, laidLooks := .later }
def JudgeLivesCardSaid : Prop := Claim7.holds Tryd.pinned (.plain (OpenSpec.ofChange judgeLivesSpec)) judgeLivesCard

/-- THE TIED CARD OF 'simulcastlaw58.JudgeCatches'. -/
def judgeCatchesCard : Claim7 := { stood := { row := judgeCatchesRow, standIns := [], harness := (true, "eee4092f95b69951ee14c542e365e3b5dff54fe7f362dc8f7be52e5f5743c53f"), looks := true }, kinds := [], alts := [], laidByText := true, laidKinds := [.data, .data, .data, .sentinel, .sentinel], laidTests := true, laidLooks := .later }
def JudgeCatchesCardSaid : Prop := Claim7.holds Tryd.pinned (.plain (OpenSpec.ofChange judgeCatchesSpec)) judgeCatchesCard

/-- THE TIED CARD OF 'simulcastlaw58.JudgeRights'. -/
def judgeRightsCard : Claim7 := { stood := { row := judgeRightsRow, standIns := [], harness := (true, "eee4092f95b69951ee14c542e365e3b5dff54fe7f362dc8f7be52e5f5743c53f"), looks := true }, kinds := [], alts := [], laidByText := true, laidKinds := [.data, .data, .data], laidTests := true, laidLooks := .later }
def JudgeRightsCardSaid : Prop := Claim7.holds Tryd.pinned (.plain (OpenSpec.ofChange judgeRightsSpec)) judgeRightsCard

/-- THE SECOND FORM's CARD OF 'simulcastlaw58.JudgeChecks'. -/
def judgeChecksUptoCard : Claim7 := { stood := { row := judgeChecksUptoRow, standIns := [], harness := (true, "eee4092f95b69951ee14c542e365e3b5dff54fe7f362dc8f7be52e5f5743c53f"), looks := true }, kinds := [], alts := [], laidByText := true, laidKinds := [.data, .data, .data], laidTests := true, laidLooks := .later }
def JudgeChecksUptoCardSaid : Prop := Claim7.holds Tryd.pinned (.plain (OpenSpec.upto judgeChecksSpec)) judgeChecksUptoCard

/-- THE SECOND FORM's CARD OF 'simulcastlaw58.JudgeBlames'. -/
def judgeBlamesUptoCard : Claim7 := { stood := { row := judgeBlamesUptoRow, standIns := [], harness := (true, "eee4092f95b69951ee14c542e365e3b5dff54fe7f362dc8f7be52e5f5743c53f"), looks := true }, kinds := [], alts := [], laidByText := true, laidKinds := [.data, .data, .data], laidTests := true, laidLooks := .later }
def JudgeBlamesUptoCardSaid : Prop := Claim7.holds Tryd.pinned (.plain (OpenSpec.upto judgeBlamesSpec)) judgeBlamesUptoCard

/-- THE SECOND FORM's CARD OF 'simulcastlaw58.JudgeForms'. -/
def judgeFormsUptoCard : Claim7 := { stood := { row := judgeFormsUptoRow, standIns := [], harness := (true, "eee4092f95b69951ee14c542e365e3b5dff54fe7f362dc8f7be52e5f5743c53f"), looks := true }, kinds := [], alts := [], laidByText := true, laidKinds := [.data, .data, .data], laidTests := true, laidLooks := .later }
def JudgeFormsUptoCardSaid : Prop := Claim7.holds Tryd.pinned (.plain (OpenSpec.upto judgeFormsSpec)) judgeFormsUptoCard

/-- THE SECOND FORM's CARD OF 'simulcastlaw58.JudgeLives'. -/
def judgeLivesUptoCard : Claim7 := { stood := { row := judgeLivesUptoRow, standIns := [], harness := (true, "eee4092f95b69951ee14c542e365e3b5dff54fe7f362dc8f7be52e5f5743c53f"), looks := true }, kinds := [], alts := [], laidByText := true, laidKinds := [.data, .data, .data, .sentinel, .sentinel], laidTests := true, laidLooks := .later }
def JudgeLivesUptoCardSaid : Prop := Claim7.holds Tryd.pinned (.plain (OpenSpec.upto judgeLivesSpec)) judgeLivesUptoCard

/-- THE SECOND FORM's CARD OF 'simulcastlaw58.JudgeCatches'. -/
def judgeCatchesUptoCard : Claim7 := { stood := { row := judgeCatchesUptoRow, standIns := [], harness := (true, "eee4092f95b69951ee14c542e365e3b5dff54fe7f362dc8f7be52e5f5743c53f"), looks := true }, kinds := [], alts := [], laidByText := true, laidKinds := [.data, .data, .data, .sentinel, .sentinel], laidTests := true, laidLooks := .later }
def JudgeCatchesUptoCardSaid : Prop := Claim7.holds Tryd.pinned (.plain (OpenSpec.upto judgeCatchesSpec)) judgeCatchesUptoCard

/-- THE SECOND FORM's CARD OF 'simulcastlaw58.JudgeRights'. -/
def judgeRightsUptoCard : Claim7 := { stood := { row := judgeRightsUptoRow, standIns := [], harness := (true, "eee4092f95b69951ee14c542e365e3b5dff54fe7f362dc8f7be52e5f5743c53f"), looks := true }, kinds := [], alts := [], laidByText := true, laidKinds := [.data, .data, .data], laidTests := true, laidLooks := .later }
def JudgeRightsUptoCardSaid : Prop := Claim7.holds Tryd.pinned (.plain (OpenSpec.upto judgeRightsSpec)) judgeRightsUptoCard
end Rows
end Go.Proofs.YtpfghndflegbaaaDoor
