/-
  DERIVED. GIVEN WITH THE SEED: THE CARDS: each row of YtjlkekebhgjlcaaDoorRows.lean that lists a variable, with what it lists TIED to the program's text (the seventh form; the later family's looks); each row that meets fmt, with fmt's text TOLD by the authors' own Lean function (tested against real Go, not proved from fmt's source: count such statements apart). THE CARD IS WHAT COUNTS. Prove the row's statement (the work); the ties are given (YtjlkekebhgjlcaaDoorTie.lean); close each card by the builder's one call (the guide's Derived/Test/ToyasCard.lean, 'card_holds'). Laid BY PROGRAM, IN A SANDBOX (cutbox-door.mjs). By AI agents, Wed Nov 11 2026. No macro, syntax, notation, axiom, sorry.
-/
import Derived.Test.YtjlkekebhgjlcaaDoorRows
import GoSem.ClaimSeven
namespace Go.Proofs.YtjlkekebhgjlcaaDoor
namespace Rows

/-- THE TIED CARD OF 'simulcastlaw29.ContainGuards'. -/
def containGuardsCard : Claim7 := { stood := { row := containGuardsRow, standIns := [], harness := (true, "51626d7bfc20b64a1396e6cbf10b164af5868408ade61d6d5b69f7e26545267a"), looks := true }, kinds := [], alts := [], laidByText := true, laidKinds := [.data, .data, .data], laidTests := true, laidLooks := .later }
def ContainGuardsCardSaid : Prop := Claim7.holds Tryd.pinned (.plain (OpenSpec.ofChange containGuardsSpec)) containGuardsCard

/-- THE TIED CARD OF 'simulcastlaw29.ContainNests'. -/
def containNestsCard : Claim7 := { stood := { row := containNestsRow, standIns := [], harness := (true, "51626d7bfc20b64a1396e6cbf10b164af5868408ade61d6d5b69f7e26545267a"), looks := true }, kinds := [], alts := [], laidByText := true, laidKinds := [.data, .data, .data], laidTests := true, laidLooks := .later }
def ContainNestsCardSaid : Prop := Claim7.holds Tryd.pinned (.plain (OpenSpec.ofChange containNestsSpec)) containNestsCard

/-- THE TIED CARD OF 'simulcastlaw29.ContainPasses'. -/
def containPassesCard : Claim7 := { stood := { row := containPassesRow, standIns := [], harness := (true, "51626d7bfc20b64a1396e6cbf10b164af5868408ade61d6d5b69f7e26545267a"), looks := true }, kinds := [], alts := [], laidByText := true, laidKinds := [.data, .data, .data], laidTests := true, laidLooks := .later }
def ContainPassesCardSaid : Prop := Claim7.holds Tryd.pinned (.plain (OpenSpec.ofChange containPassesSpec)) containPassesCard

/-- THE TIED CARD OF 'simulcastlaw29.ContainCalls'. -/
def containCallsCard : Claim7 := { stood := { row := containCallsRow, standIns := [], harness := (true, "51626d7bfc20b64a1396e6cbf10b164af5868408ade61d6d5b69f7e26545267a"), looks := true }, kinds := [], alts := [], laidByText := true, laidKinds := [.data, .data, .data], laidTests := true, laidLooks := .later }
def ContainCallsCardSaid : Prop := Claim7.holds Tryd.pinned (.plain (OpenSpec.ofChange containCallsSpec)) containCallsCard

/-- THE TIED CARD OF 'simulcastlaw29.ContainNames'. -/
def containNamesCard : Claim7 := { stood := { row := containNamesRow, standIns := [], harness := (true, "51626d7bfc20b64a1396e6cbf10b164af5868408ade61d6d5b69f7e26545267a"), looks := true }, kinds := [], alts := [], laidByText := true, laidKinds := [.data, .data, .data], laidTests := true, laidLooks := .later }
def ContainNamesCardSaid : Prop := Claim7.holds Tryd.pinned (.plain (OpenSpec.ofChange containNamesSpec)) containNamesCard

/-- THE SECOND FORM's CARD OF 'simulcastlaw29.ContainGuards'. -/
def containGuardsUptoCard : Claim7 := { stood := { row := containGuardsUptoRow, standIns := [], harness := (true, "51626d7bfc20b64a1396e6cbf10b164af5868408ade61d6d5b69f7e26545267a"), looks := true }, kinds := [], alts := [], laidByText := true, laidKinds := [.data, .data, .data], laidTests := true, laidLooks := .later }
def ContainGuardsUptoCardSaid : Prop := Claim7.holds Tryd.pinned (.plain (OpenSpec.upto containGuardsSpec)) containGuardsUptoCard

/-- THE SECOND FORM's CARD OF 'simulcastlaw29.ContainNests'. -/
def containNestsUptoCard : Claim7 := { stood := { row := containNestsUptoRow, standIns := [], harness := (true, "51626d7bfc20b64a1396e6cbf10b164af5868408ade61d6d5b69f7e26545267a"), looks := true }, kinds := [], alts := [], laidByText := true, laidKinds := [.data, .data, .data], laidTests := true, laidLooks := .later }
def ContainNestsUptoCardSaid : Prop := Claim7.holds Tryd.pinned (.plain (OpenSpec.upto containNestsSpec)) containNestsUptoCard

/-- THE SECOND FORM's CARD OF 'simulcastlaw29.ContainPasses'. -/
def containPassesUptoCard : Claim7 := { stood := { row := containPassesUptoRow, standIns := [], harness := (true, "51626d7bfc20b64a1396e6cbf10b164af5868408ade61d6d5b69f7e26545267a"), looks := true }, kinds := [], alts := [], laidByText := true, laidKinds := [.data, .data, .data], laidTests := true, laidLooks := .later }
def ContainPassesUptoCardSaid : Prop := Claim7.holds Tryd.pinned (.plain (OpenSpec.upto containPassesSpec)) containPassesUptoCard

/-- THE SECOND FORM's CARD OF 'simulcastlaw29.ContainCalls'. -/
def containCallsUptoCard : Claim7 := { stood := { row := containCallsUptoRow, standIns := [], harness := (true, "51626d7bfc20b64a1396e6cbf10b164af5868408ade61d6d5b69f7e26545267a"), looks := true }, kinds := [], alts := [], laidByText := true, laidKinds := [.data, .data, .data], laidTests := true, laidLooks := .later }
def ContainCallsUptoCardSaid : Prop := Claim7.holds Tryd.pinned (.plain (OpenSpec.upto containCallsSpec)) containCallsUptoCard

/-- THE SECOND FORM's CARD OF 'simulcastlaw29.ContainNames'. -/
def containNamesUptoCard : Claim7 := { stood := { row := containNamesUptoRow, standIns := [], harness := (true, "51626d7bfc20b64a1396e6cbf10b164af5868408ade61d6d5b69f7e26545267a"), looks := true }, kinds := [], alts := [], laidByText := true, laidKinds := [.data, .data, .data], laidTests := true, laidLooks := .later }
def ContainNamesUptoCardSaid : Prop := Claim7.holds Tryd.pinned (.plain (OpenSpec.upto containNamesSpec)) containNamesUptoCard
end Rows
end Go.Proofs.YtjlkekebhgjlcaaDoor
