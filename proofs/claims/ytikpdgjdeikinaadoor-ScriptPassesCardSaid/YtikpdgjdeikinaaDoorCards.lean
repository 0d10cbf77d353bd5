/-
  DERIVED. GIVEN WITH THE SEED: THE CARDS: each row of YtikpdgjdeikinaaDoorRows.lean that lists a variable, with what it lists TIED to the program's text (the seventh form; the later family's looks); each row that meets fmt, with fmt's text TOLD by the authors' own Lean function (tested against real Go, not proved from fmt's source: count such statements apart). THE CARD IS WHAT COUNTS. Prove the row's statement (the work); the ties are given (YtikpdgjdeikinaaDoorTie.lean); close each card by the builder's one call (the guide's Derived/Test/ToyasCard.lean, 'card_holds'). Laid BY PROGRAM, IN A SANDBOX (cutbox-door.mjs). By AI agents, Wed Nov 11 2026. No macro, syntax, notation, axiom, sorry.
-/
import Derived.Test.YtikpdgjdeikinaaDoorRows
import GoSem.ClaimSeven
namespace Go.Proofs.YtikpdgjdeikinaaDoor
namespace Rows

/-- THE TIED CARD OF 'simulcastlaw63.ScriptParses'. -/
def scriptParsesCard : Claim7 := { stood := { row := scriptParsesRow, standIns := [], harness := (true, "5be0b002ed69b90a487afc38390c4113827fcb612cf6d376e696ff100f4ade80"), looks := true }, kinds := [], alts := [], laidByText := true, laidKinds := [.data, .data, .data, .data, .sentinel, .sentinel, .pinned], laidTests := true, laidLooks := .later }
def ScriptParsesCardSaid : Prop := Claim7.holds Tryd.pinned (.plain (OpenSpec.ofChange scriptParsesSpec)) scriptParsesCard

/-- THE TIED CARD OF 'simulcastlaw63.ScriptPasses'. -/
def scriptPassesCard : Claim7 := { stood := { row := scriptPassesRow, standIns := [], harness := (true, "5be0b002ed69b90a487afc38390c4113827fcb612cf6d376e696ff100f4ade80"), looks := true }, kinds := [], alts := [], laidByText := true, laidKinds := [.data, .data, .data, .data, .sentinel, .sentinel, .pinned], laidTests := true, laidLooks := .later }
def ScriptPassesCardSaid : Prop := Claim7.holds Tryd.pinned (.plain (OpenSpec.ofChange scriptPassesSpec)) scriptPassesCard

/-- THE TIED CARD OF 'simulcastlaw63.ScriptNames'. -/
def scriptNamesCard : Claim7 := { stood := { row := scriptNamesRow, standIns := [], harness := (true, "5be0b002ed69b90a487afc38390c4113827fcb612cf6d376e696ff100f4ade80"), looks := true }, kinds := [], alts := [], laidByText := true, laidKinds := [.data, .data, .data, .data, .sentinel, .sentinel, .pinned], laidTests := true, laidLooks := .later }
def ScriptNamesCardSaid : Prop := Claim7.holds Tryd.pinned (.plain (OpenSpec.ofChange scriptNamesSpec)) scriptNamesCard

/-- THE TIED CARD OF 'simulcastlaw63.ScriptBack'. -/
def scriptBackCard : Claim7 := { stood := { row := scriptBackRow, standIns := [], harness := (true, "5be0b002ed69b90a487afc38390c4113827fcb612cf6d376e696ff100f4ade80"), looks := true }, kinds := [], alts := [], laidByText := true, laidKinds := [.data, .data, .data, .data, .sentinel, .sentinel, .pinned], laidTests := true, laidLooks := .later }
def ScriptBackCardSaid : Prop := Claim7.holds Tryd.pinned (.plain (OpenSpec.ofChange scriptBackSpec)) scriptBackCard

/-- THE TIED CARD OF 'simulcastlaw63.ScriptMany'. -/
def scriptManyCard : Claim7 := { stood := { row := scriptManyRow, standIns := [], harness := (true, "5be0b002ed69b90a487afc38390c4113827fcb612cf6d376e696ff100f4ade80"), looks := true }, kinds := [], alts := [], laidByText := true, laidKinds := [.data, .data, .data, .data, .sentinel, .sentinel, .pinned], laidTests := true, laidLooks := .later }
def ScriptManyCardSaid : Prop := Claim7.holds Tryd.pinned (.plain (OpenSpec.ofChange scriptManySpec)) scriptManyCard

/-- THE SECOND FORM's CARD OF 'simulcastlaw63.ScriptParses'. -/
def scriptParsesUptoCard : Claim7 := { stood := { row := scriptParsesUptoRow, standIns := [], harness := (true, "5be0b002ed69b90a487afc38390c4113827fcb612cf6d376e696ff100f4ade80"), looks := true }, kinds := [], alts := [], laidByText := true, laidKinds := [.data, .data, .data, .data, .sentinel, .sentinel, .pinned], laidTests := true, laidLooks := .later }
def ScriptParsesUptoCardSaid : Prop := Claim7.holds Tryd.pinned (.plain (OpenSpec.upto scriptParsesSpec)) scriptParsesUptoCard

/-- THE SECOND FORM's CARD OF 'simulcastlaw63.ScriptPasses'. -/
def scriptPassesUptoCard : Claim7 := { stood := { row := scriptPassesUptoRow, standIns := [], harness := (true, "5be0b002ed69b90a487afc38390c4113827fcb612cf6d376e696ff100f4ade80"), looks := true }, kinds := [], alts := [], laidByText := true, laidKinds := [.data, .data, .data, .data, .sentinel, .sentinel, .pinned], laidTests := true, laidLooks := .later }
def ScriptPassesUptoCardSaid : Prop := Claim7.holds Tryd.pinned (.plain (OpenSpec.upto scriptPassesSpec)) scriptPassesUptoCard

/-- THE SECOND FORM's CARD OF 'simulcastlaw63.ScriptNames'. -/
def scriptNamesUptoCard : Claim7 := { stood := { row := scriptNamesUptoRow, standIns := [], harness := (true, "5be0b002ed69b90a487afc38390c4113827fcb612cf6d376e696ff100f4ade80"), looks := true }, kinds := [], alts := [], laidByText := true, laidKinds := [.data, .data, .data, .data, .sentinel, .sentinel, .pinned], laidTests := true, laidLooks := .later }
def ScriptNamesUptoCardSaid : Prop := Claim7.holds Tryd.pinned (.plain (OpenSpec.upto scriptNamesSpec)) scriptNamesUptoCard

/-- THE SECOND FORM's CARD OF 'simulcastlaw63.ScriptBack'. -/
def scriptBackUptoCard : Claim7 := { stood := { row := scriptBackUptoRow, standIns := [], harness := (true, "5be0b002ed69b90a487afc38390c4113827fcb612cf6d376e696ff100f4ade80"), looks := true }, kinds := [], alts := [], laidByText := true, laidKinds := [.data, .data, .data, .data, .sentinel, .sentinel, .pinned], laidTests := true, laidLooks := .later }
def ScriptBackUptoCardSaid : Prop := Claim7.holds Tryd.pinned (.plain (OpenSpec.upto scriptBackSpec)) scriptBackUptoCard

/-- THE SECOND FORM's CARD OF 'simulcastlaw63.ScriptMany'. -/
def scriptManyUptoCard : Claim7 := { stood := { row := scriptManyUptoRow, standIns := [], harness := (true, "5be0b002ed69b90a487afc38390c4113827fcb612cf6d376e696ff100f4ade80"), looks := true }, kinds := [], alts := [], laidByText := true, laidKinds := [.data, .data, .data, .data, .sentinel, .sentinel, .pinned], laidTests := true, laidLooks := .later }
def ScriptManyUptoCardSaid : Prop := Claim7.holds Tryd.pinned (.plain (OpenSpec.upto scriptManySpec)) scriptManyUptoCard
end Rows
end Go.Proofs.YtikpdgjdeikinaaDoor
