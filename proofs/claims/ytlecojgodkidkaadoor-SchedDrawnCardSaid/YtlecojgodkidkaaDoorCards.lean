/-
  DERIVED. GIVEN WITH THE SEED: THE CARDS: each row of YtlecojgodkidkaaDoorRows.lean that lists a variable, with what it lists TIED to the program's text (the seventh form; the later family's looks); each row that meets fmt, with fmt's text TOLD by the authors' own Lean function (tested against real Go, not proved from fmt's source: count such statements apart). THE CARD IS WHAT COUNTS. Prove the row's statement (the work); the ties are given (YtlecojgodkidkaaDoorTie.lean); close each card by the builder's one call (the guide's Derived/Test/ToyasCard.lean, 'card_holds'). Laid BY PROGRAM, IN A SANDBOX (cutbox-door.mjs). By AI agents, Wed Nov 11 2026. No macro, syntax, notation, axiom, sorry.
-/
import Derived.Test.YtlecojgodkidkaaDoorRows
import GoSem.ClaimSeven
namespace Go.Proofs.YtlecojgodkidkaaDoor
namespace Rows

/-- THE TIED CARD OF 'simulcastlaw07.SchedFair'. -/
def schedFairCard : Claim7 := { stood := { row := schedFairRow, standIns := [], harness := (true, "8f57d9b349944940f2df1e1a171b22c3d49d637045ca8345b254b839feb01f4b"), looks := true }, kinds := [], alts := [], laidByText := true, laidKinds := [.data, .data, .data, .data, .sentinel, .sentinel, .pinned], laidTests := true, laidLooks := .later }
def SchedFairCardSaid : Prop := Claim7.holds Tryd.pinned (.plain (OpenSpec.ofChange schedFairSpec)) schedFairCard

/-- THE TIED CARD OF 'simulcastlaw07.SchedSplits'. -/
def schedSplitsCard : Claim7 := { stood := { row := schedSplitsRow, standIns := [], harness := (true, "8f57d9b349944940f2df1e1a171b22c3d49d637045ca8345b254b839feb01f4b"), looks := true }, kinds := [], alts := [], laidByText := true, laidKinds := [.data, .data, .data, .data, .sentinel, .sentinel, .pinned], laidTests := true, laidLooks := .later }
def SchedSplitsCardSaid : Prop := Claim7.holds Tryd.pinned (.plain (OpenSpec.ofChange schedSplitsSpec)) schedSplitsCard

/-- THE TIED CARD OF 'simulcastlaw07.SchedDraws'. -/
def schedDrawsCard : Claim7 := { stood := { row := schedDrawsRow, standIns := [], harness := (true, "8f57d9b349944940f2df1e1a171b22c3d49d637045ca8345b254b839feb01f4b"), looks := true }, kinds := [], alts := [], laidByText := true, laidKinds := [.data, .data, .data, .data, .sentinel, .sentinel, .pinned], laidTests := true, laidLooks := .later }
def SchedDrawsCardSaid : Prop := Claim7.holds Tryd.pinned (.plain (OpenSpec.ofChange schedDrawsSpec)) schedDrawsCard

/-- THE TIED CARD OF 'simulcastlaw07.SchedCounts'. -/
def schedCountsCard : Claim7 := { stood := { row := schedCountsRow, standIns := [], harness := (true, "8f57d9b349944940f2df1e1a171b22c3d49d637045ca8345b254b839feb01f4b"), looks := true }, kinds := [], alts := [], laidByText := true, laidKinds := [.data, .data, .data, .data, .sentinel, .sentinel, .pinned], laidTests := true, laidLooks := .later }
def SchedCountsCardSaid : Prop := Claim7.holds Tryd.pinned (.plain (OpenSpec.ofChange schedCountsSpec)) schedCountsCard

/-- THE TIED CARD OF 'simulcastlaw07.SchedParses'. -/
def schedParsesCard : Claim7 := { stood := { row := schedParsesRow, standIns := [], harness := (true, "8f57d9b349944940f2df1e1a171b22c3d49d637045ca8345b254b839feb01f4b"), looks := true }, kinds := [], alts := [], laidByText := true, laidKinds := [.data, .data, .data, .data, .sentinel, .sentinel, .pinned], laidTests := true, laidLooks := .later }
def SchedParsesCardSaid : Prop := Claim7.holds Tryd.pinned (.plain (OpenSpec.ofChange schedParsesSpec)) schedParsesCard

/-- THE TIED CARD OF 'simulcastlaw07.SchedPrints'. -/
def schedPrintsCard : Claim7 := { stood := { row := schedPrintsRow, standIns := [], harness := (true, "8f57d9b349944940f2df1e1a171b22c3d49d637045ca8345b254b839feb01f4b"), looks := true }, kinds := [], alts := [], laidByText := true, laidKinds := [.data, .data, .data, .data, .sentinel, .sentinel, .pinned], laidTests := true, laidLooks := .later }
def SchedPrintsCardSaid : Prop := Claim7.holds Tryd.pinned (.plain (OpenSpec.ofChange schedPrintsSpec)) schedPrintsCard

/-- THE TIED CARD OF 'simulcastlaw07.SchedMany'. -/
def schedManyCard : Claim7 := { stood := { row := schedManyRow, standIns := [], harness := (true, "8f57d9b349944940f2df1e1a171b22c3d49d637045ca8345b254b839feb01f4b"), looks := true }, kinds := [], alts := [], laidByText := true, laidKinds := [.data, .data, .data, .data, .sentinel, .sentinel, .pinned], laidTests := true, laidLooks := .later }
def SchedManyCardSaid : Prop := Claim7.holds Tryd.pinned (.plain (OpenSpec.ofChange schedManySpec)) schedManyCard

/-- THE TIED CARD OF 'simulcastlaw07.SchedDrawn'. -/
def schedDrawnCard : Claim7 := { stood := { row := schedDrawnRow, standIns := [], harness := (true, "8f57d9b349944940f2df1e1a171b22c3d49d637045ca8345b254b839feb01f4b"), looks := true }, kinds := [], alts := [], laidByText := true, laidKinds := [.data, .data, .data, .data, .sentinel, .sentinel, .pinned], laidTests := true, laidLooks := .later }
def SchedDrawnCardSaid : Prop := Claim7.holds Tryd.pinned (.plain (OpenSpec.ofChange schedDrawnSpec)) schedDrawnCard

/-- THE SECOND FORM's CARD OF 'simulcastlaw07.SchedFair'. -/
def schedFairUptoCard : Claim7 := { stood := { row := schedFairUptoRow, standIns := [], harness := (true, "8f57d9b349944940f2df1e1a171b22c3d49d637045ca8345b254b839feb01f4b"), looks := true }, kinds := [], alts := [], laidByText := true, laidKinds := [.data, .data, .data, .data, .sentinel, .sentinel, .pinned], laidTests := true, laidLooks := .later }
def SchedFairUptoCardSaid : Prop := Claim7.holds Tryd.pinned (.plain (OpenSpec.upto schedFairSpec)) schedFairUptoCard

/-- THE SECOND FORM's CARD OF 'simulcastlaw07.SchedSplits'. -/
def schedSplitsUptoCard : Claim7 := { stood := { row := schedSplitsUptoRow, standIns := [], harness := (true, "8f57d9b349944940f2df1e1a171b22c3d49d637045ca8345b254b839feb01f4b"), looks := true }, kinds := [], alts := [], laidByText := true, laidKinds := [.data, .data, .data, .data, .sentinel, .sentinel, .pinned], laidTests := true, laidLooks := .later }
def SchedSplitsUptoCardSaid : Prop := Claim7.holds Tryd.pinned (.plain (OpenSpec.upto schedSplitsSpec)) schedSplitsUptoCard

/-- THE SECOND FORM's CARD OF 'simulcastlaw07.SchedDraws'. -/
def schedDrawsUptoCard : Claim7 := { stood := { row := schedDrawsUptoRow, standIns := [], harness := (true, "8f57d9b349944940f2df1e1a171b22c3d49d637045ca8345b254b839feb01f4b"), looks := true }, kinds := [], alts := [], laidByText := true, laidKinds := [.data, .data, .data, .data, .sentinel, .sentinel, .pinned], laidTests := true, laidLooks := .later }
def SchedDrawsUptoCardSaid : Prop := Claim7.holds Tryd.pinned (.plain (OpenSpec.upto schedDrawsSpec)) schedDrawsUptoCard

/-- THE SECOND FORM's CARD OF 'simulcastlaw07.SchedCounts'. -/
def schedCountsUptoCard : Claim7 := { stood := { row := schedCountsUptoRow, standIns := [], harness := (true, "8f57d9b349944940f2df1e1a171b22c3d49d637045ca8345b254b839feb01f4b"), looks := true }, kinds := [], alts := [], laidByText := true, laidKinds := [.data, .data, .data, .data, .sentinel, .sentinel, .pinned], laidTests := true, laidLooks := .later }
def SchedCountsUptoCardSaid : Prop := Claim7.holds Tryd.pinned (.plain (OpenSpec.upto schedCountsSpec)) schedCountsUptoCard

/-- THE SECOND FORM's CARD OF 'simulcastlaw07.SchedParses'. -/
def schedParsesUptoCard : Claim7 := { stood := { row := schedParsesUptoRow, standIns := [], harness := (true, "8f57d9b349944940f2df1e1a171b22c3d49d637045ca8345b254b839feb01f4b"), looks := true }, kinds := [], alts := [], laidByText := true, laidKinds := [.data, .data, .data, .data, .sentinel, .sentinel, .pinned], laidTests := true, laidLooks := .later }
def SchedParsesUptoCardSaid : Prop := Claim7.holds Tryd.pinned (.plain (OpenSpec.upto schedParsesSpec)) schedParsesUptoCard

/-- THE SECOND FORM's CARD OF 'simulcastlaw07.SchedPrints'. -/
def schedPrintsUptoCard : Claim7 := { stood := { row := schedPrintsUptoRow, standIns := [], harness := (true, "8f57d9b349944940f2df1e1a171b22c3d49d637045ca8345b254b839feb01f4b"), looks := true }, kinds := [], alts := [], laidByText := true, laidKinds := [.data, .data, .data, .data, .sentinel, .sentinel, .pinned], laidTests := true, laidLooks := .later }
def SchedPrintsUptoCardSaid : Prop := Claim7.holds Tryd.pinned (.plain (OpenSpec.upto schedPrintsSpec)) schedPrintsUptoCard

/-- THE SECOND FORM's CARD OF 'simulcastlaw07.SchedMany'. -/
def schedManyUptoCard : Claim7 := { stood := { row := schedManyUptoRow, standIns := [], harness := (true, "8f57d9b349944940f2df1e1a171b22c3d49d637045ca8345b254b839feb01f4b"), looks := true }, kinds := [], alts := [], laidByText := true, laidKinds := [.data, .data, .data, .data, .sentinel, .sentinel, .pinned], laidTests := true, laidLooks := .later }
def SchedManyUptoCardSaid : Prop := Claim7.holds Tryd.pinned (.plain (OpenSpec.upto schedManySpec)) schedManyUptoCard

/-- THE SECOND FORM's CARD OF 'simulcastlaw07.SchedDrawn'. -/
def schedDrawnUptoCard : Claim7 := { stood := { row := schedDrawnUptoRow, standIns := [], harness := (true, "8f57d9b349944940f2df1e1a171b22c3d49d637045ca8345b254b839feb01f4b"), looks := true }, kinds := [], alts := [], laidByText := true, laidKinds := [.data, .data, .data, .data, .sentinel, .sentinel, .pinned], laidTests := true, laidLooks := .later }
def SchedDrawnUptoCardSaid : Prop := Claim7.holds Tryd.pinned (.plain (OpenSpec.upto schedDrawnSpec)) schedDrawnUptoCard
end Rows
end Go.Proofs.YtlecojgodkidkaaDoor
