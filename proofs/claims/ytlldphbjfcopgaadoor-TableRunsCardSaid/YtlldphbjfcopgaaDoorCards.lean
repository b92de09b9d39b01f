/-
  DERIVED. GIVEN WITH THE SEED: THE CARDS: each row of YtlldphbjfcopgaaDoorRows.lean that lists a variable, with what it lists TIED to the program's text (the seventh form; the later family's looks); each row that meets fmt, with fmt's text TOLD by the authors' own Lean function (tested against real Go, not proved from fmt's source: count such statements apart). THE CARD IS WHAT COUNTS. Prove the row's statement (the work); the ties are given (YtlldphbjfcopgaaDoorTie.lean); close each card by the builder's one call (the guide's Derived/Test/ToyasCard.lean, 'card_holds'). Laid BY PROGRAM, IN A SANDBOX (cutbox-door.mjs). By AI agents, Wed Nov 11 2026. No macro, syntax, notation, axiom, sorry.
-/
import Derived.Test.YtlldphbjfcopgaaDoorRows
import GoSem.ClaimSeven
namespace Go.Proofs.YtlldphbjfcopgaaDoor
namespace Rows

/-- THE TIED CARD OF 'porticolaw13.ShapeRuns'. -/
def shapeRunsCard : Claim7 := { stood := { row := shapeRunsRow, standIns := [], harness := (true, "89ff807ffa8a58d0bfd8fb2ea6dc635704b720af253ef7b04ed157691ed49f8b"), looks := true }, kinds := [], alts := [], laidByText := true, laidKinds := [.data, .pinned], laidTests := true, laidLooks := .later }
def ShapeRunsCardSaid : Prop := Claim7.holds Tryd.pinned (.plain (OpenSpec.ofChange shapeRunsSpec)) shapeRunsCard

/-- THE TIED CARD OF 'porticolaw13.ShapePrints'. -/
def shapePrintsCard : Claim7 := { stood := { row := shapePrintsRow, standIns := [], harness := (true, "89ff807ffa8a58d0bfd8fb2ea6dc635704b720af253ef7b04ed157691ed49f8b"), looks := true }, kinds := [], alts := [], laidByText := true, laidKinds := [.data, .pinned], laidTests := true, laidLooks := .later }
def ShapePrintsCardSaid : Prop := Claim7.holds Tryd.pinned (.plain (OpenSpec.ofChange shapePrintsSpec)) shapePrintsCard

/-- THE TIED CARD OF 'porticolaw13.ShapeTells'. -/
def shapeTellsCard : Claim7 := { stood := { row := shapeTellsRow, standIns := [], harness := (true, "89ff807ffa8a58d0bfd8fb2ea6dc635704b720af253ef7b04ed157691ed49f8b"), looks := true }, kinds := [], alts := [], laidByText := true, laidKinds := [.data, .pinned], laidTests := true, laidLooks := .later }
def ShapeTellsCardSaid : Prop := Claim7.holds Tryd.pinned (.plain (OpenSpec.ofChange shapeTellsSpec)) shapeTellsCard

/-- THE TIED CARD OF 'porticolaw13.ShapeAdds'. -/
def shapeAddsCard : Claim7 := { stood := { row := shapeAddsRow, standIns := [], harness := (true, "89ff807ffa8a58d0bfd8fb2ea6dc635704b720af253ef7b04ed157691ed49f8b"), looks := true }, kinds := [], alts := [], laidByText := true, laidKinds := [.data, .pinned], laidTests := true, laidLooks := .later }
def ShapeAddsCardSaid : Prop := Claim7.holds Tryd.pinned (.plain (OpenSpec.ofChange shapeAddsSpec)) shapeAddsCard

/-- THE TIED CARD OF 'porticolaw16.PageRuns'. -/
def pageRunsCard : Claim7 := { stood := { row := pageRunsRow, standIns := [], harness := (true, "89ff807ffa8a58d0bfd8fb2ea6dc635704b720af253ef7b04ed157691ed49f8b"), looks := true }, kinds := [], alts := [], laidByText := true, laidKinds := [.data, .data, .data, .data, .pinned], laidTests := true, laidLooks := .later }
def PageRunsCardSaid : Prop := Claim7.holds Tryd.pinned (.plain (OpenSpec.ofChange pageRunsSpec)) pageRunsCard

/-- THE TIED CARD OF 'porticolaw16.PageAgain'. -/
def pageAgainCard : Claim7 := { stood := { row := pageAgainRow, standIns := [], harness := (true, "89ff807ffa8a58d0bfd8fb2ea6dc635704b720af253ef7b04ed157691ed49f8b"), looks := true }, kinds := [], alts := [], laidByText := true, laidKinds := [.data, .data, .data, .data, .pinned], laidTests := true, laidLooks := .later }
def PageAgainCardSaid : Prop := Claim7.holds Tryd.pinned (.plain (OpenSpec.ofChange pageAgainSpec)) pageAgainCard

/-- THE TIED CARD OF 'porticolaw16.PageTells'. -/
def pageTellsCard : Claim7 := { stood := { row := pageTellsRow, standIns := [], harness := (true, "89ff807ffa8a58d0bfd8fb2ea6dc635704b720af253ef7b04ed157691ed49f8b"), looks := true }, kinds := [], alts := [], laidByText := true, laidKinds := [.data, .data, .data, .data, .pinned], laidTests := true, laidLooks := .later }
def PageTellsCardSaid : Prop := Claim7.holds Tryd.pinned (.plain (OpenSpec.ofChange pageTellsSpec)) pageTellsCard

/-- THE TIED CARD OF 'porticolaw16.PageFresh'. -/
def pageFreshCard : Claim7 := { stood := { row := pageFreshRow, standIns := [], harness := (true, "89ff807ffa8a58d0bfd8fb2ea6dc635704b720af253ef7b04ed157691ed49f8b"), looks := true }, kinds := [], alts := [], laidByText := true, laidKinds := [.data, .data, .data, .data, .pinned], laidTests := true, laidLooks := .later }
def PageFreshCardSaid : Prop := Claim7.holds Tryd.pinned (.plain (OpenSpec.ofChange pageFreshSpec)) pageFreshCard

/-- THE TIED CARD OF 'porticolaw16.PageSlots'. -/
def pageSlotsCard : Claim7 := { stood := { row := pageSlotsRow, standIns := [], harness := (true, "89ff807ffa8a58d0bfd8fb2ea6dc635704b720af253ef7b04ed157691ed49f8b"), looks := true }, kinds := [], alts := [], laidByText := true, laidKinds := [.data, .data, .data, .data, .pinned], laidTests := true, laidLooks := .later }
def PageSlotsCardSaid : Prop := Claim7.holds Tryd.pinned (.plain (OpenSpec.ofChange pageSlotsSpec)) pageSlotsCard

/-- THE TIED CARD OF 'porticolaw21.TableRuns'. -/
def tableRunsCard : Claim7 := { stood := { row := tableRunsRow, standIns := [], harness := (true, "89ff807ffa8a58d0bfd8fb2ea6dc635704b720af253ef7b04ed157691ed49f8b"), looks := true }, kinds := [], alts := [], laidByText := true, laidKinds := [.data, .pinned], laidTests := true, laidLooks := .later }
def TableRunsCardSaid : Prop := Claim7.holds Tryd.pinned (.plain (OpenSpec.ofChange tableRunsSpec)) tableRunsCard

/-- THE TIED CARD OF 'porticolaw21.TableTurned'. -/
def tableTurnedCard : Claim7 := { stood := { row := tableTurnedRow, standIns := [], harness := (true, "89ff807ffa8a58d0bfd8fb2ea6dc635704b720af253ef7b04ed157691ed49f8b"), looks := true }, kinds := [], alts := [], laidByText := true, laidKinds := [.data, .pinned], laidTests := true, laidLooks := .later }
def TableTurnedCardSaid : Prop := Claim7.holds Tryd.pinned (.plain (OpenSpec.ofChange tableTurnedSpec)) tableTurnedCard

/-- THE TIED CARD OF 'porticolaw21.TableOutlets'. -/
def tableOutletsCard : Claim7 := { stood := { row := tableOutletsRow, standIns := [], harness := (true, "89ff807ffa8a58d0bfd8fb2ea6dc635704b720af253ef7b04ed157691ed49f8b"), looks := true }, kinds := [], alts := [], laidByText := true, laidKinds := [.data, .pinned], laidTests := true, laidLooks := .later }
def TableOutletsCardSaid : Prop := Claim7.holds Tryd.pinned (.plain (OpenSpec.ofChange tableOutletsSpec)) tableOutletsCard

/-- THE SECOND FORM's CARD OF 'porticolaw13.ShapeRuns'. -/
def shapeRunsUptoCard : Claim7 := { stood := { row := shapeRunsUptoRow, standIns := [], harness := (true, "89ff807ffa8a58d0bfd8fb2ea6dc635704b720af253ef7b04ed157691ed49f8b"), looks := true }, kinds := [], alts := [], laidByText := true, laidKinds := [.data, .pinned], laidTests := true, laidLooks := .later }
def ShapeRunsUptoCardSaid : Prop := Claim7.holds Tryd.pinned (.plain (OpenSpec.upto shapeRunsSpec)) shapeRunsUptoCard

/-- THE SECOND FORM's CARD OF 'porticolaw13.ShapePrints'. -/
def shapePrintsUptoCard : Claim7 := { stood := { row := shapePrintsUptoRow, standIns := [], harness := (true, "89ff807ffa8a58d0bfd8fb2ea6dc635704b720af253ef7b04ed157691ed49f8b"), looks := true }, kinds := [], alts := [], laidByText := true, laidKinds := [.data, .pinned], laidTests := true, laidLooks := .later }
def ShapePrintsUptoCardSaid : Prop := Claim7.holds Tryd.pinned (.plain (OpenSpec.upto shapePrintsSpec)) shapePrintsUptoCard

/-- THE SECOND FORM's CARD OF 'porticolaw13.ShapeTells'. -/
def shapeTellsUptoCard : Claim7 := { stood := { row := shapeTellsUptoRow, standIns := [], harness := (true, "89ff807ffa8a58d0bfd8fb2ea6dc635704b720af253ef7b04ed157691ed49f8b"), looks := true }, kinds := [], alts := [], laidByText := true, laidKinds := [.data, .pinned], laidTests := true, laidLooks := .later }
def ShapeTellsUptoCardSaid : Prop := Claim7.holds Tryd.pinned (.plain (OpenSpec.upto shapeTellsSpec)) shapeTellsUptoCard

/-- THE SECOND FORM's CARD OF 'porticolaw13.ShapeAdds'. -/
def shapeAddsUptoCard : Claim7 := { stood := { row := shapeAddsUptoRow, standIns := [], harness := (true, "89ff807ffa8a58d0bfd8fb2ea6dc635704b720af253ef7b04ed157691ed49f8b"), looks := true }, kinds := [], alts := [], laidByText := true, laidKinds := [.data, .pinned], laidTests := true, laidLooks := .later }
def ShapeAddsUptoCardSaid : Prop := Claim7.holds Tryd.pinned (.plain (OpenSpec.upto shapeAddsSpec)) shapeAddsUptoCard

/-- THE SECOND FORM's CARD OF 'porticolaw16.PageRuns'. -/
def pageRunsUptoCard : Claim7 := { stood := { row := pageRunsUptoRow, standIns := [], harness := (true, "89ff807ffa8a58d0bfd8fb2ea6dc635704b720af253ef7b04ed157691ed49f8b"), looks := true }, kinds := [], alts := [], laidByText := true, laidKinds := [.data, .data, .data, .data, .pinned], laidTests := true, laidLooks := .later }
def PageRunsUptoCardSaid : Prop := Claim7.holds Tryd.pinned (.plain (OpenSpec.upto pageRunsSpec)) pageRunsUptoCard

/-- THE SECOND FORM's CARD OF 'porticolaw16.PageAgain'. -/
def pageAgainUptoCard : Claim7 := { stood := { row := pageAgainUptoRow, standIns := [], harness := (true, "89ff807ffa8a58d0bfd8fb2ea6dc635704b720af253ef7b04ed157691ed49f8b"), looks := true }, kinds := [], alts := [], laidByText := true, laidKinds := [.data, .data, .data, .data, .pinned], laidTests := true, laidLooks := .later }
def PageAgainUptoCardSaid : Prop := Claim7.holds Tryd.pinned (.plain (OpenSpec.upto pageAgainSpec)) pageAgainUptoCard

/-- THE SECOND FORM's CARD OF 'porticolaw16.PageTells'. -/
def pageTellsUptoCard : Claim7 := { stood := { row := pageTellsUptoRow, standIns := [], harness := (true, "89ff807ffa8a58d0bfd8fb2ea6dc635704b720af253ef7b04ed157691ed49f8b"), looks := true }, kinds := [], alts := [], laidByText := true, laidKinds := [.data, .data, .data, .data, .pinned], laidTests := true, laidLooks := .later }
def PageTellsUptoCardSaid : Prop := Claim7.holds Tryd.pinned (.plain (OpenSpec.upto pageTellsSpec)) pageTellsUptoCard

/-- THE SECOND FORM's CARD OF 'porticolaw16.PageFresh'. -/
def pageFreshUptoCard : Claim7 := { stood := { row := pageFreshUptoRow, standIns := [], harness := (true, "89ff807ffa8a58d0bfd8fb2ea6dc635704b720af253ef7b04ed157691ed49f8b"), looks := true }, kinds := [], alts := [], laidByText := true, laidKinds := [.data, .data, .data, .data, .pinned], laidTests := true, laidLooks := .later }
def PageFreshUptoCardSaid : Prop := Claim7.holds Tryd.pinned (.plain (OpenSpec.upto pageFreshSpec)) pageFreshUptoCard

/-- THE SECOND FORM's CARD OF 'porticolaw16.PageSlots'. -/
def pageSlotsUptoCard : Claim7 := { stood := { row := pageSlotsUptoRow, standIns := [], harness := (true, "89ff807ffa8a58d0bfd8fb2ea6dc635704b720af253ef7b04ed157691ed49f8b"), looks := true }, kinds := [], alts := [], laidByText := true, laidKinds := [.data, .data, .data, .data, .pinned], laidTests := true, laidLooks := .later }
def PageSlotsUptoCardSaid : Prop := Claim7.holds Tryd.pinned (.plain (OpenSpec.upto pageSlotsSpec)) pageSlotsUptoCard

/-- THE SECOND FORM's CARD OF 'porticolaw21.TableRuns'. -/
def tableRunsUptoCard : Claim7 := { stood := { row := tableRunsUptoRow, standIns := [], harness := (true, "89ff807ffa8a58d0bfd8fb2ea6dc635704b720af253ef7b04ed157691ed49f8b"), looks := true }, kinds := [], alts := [], laidByText := true, laidKinds := [.data, .pinned], laidTests := true, laidLooks := .later }
def TableRunsUptoCardSaid : Prop := Claim7.holds Tryd.pinned (.plain (OpenSpec.upto tableRunsSpec)) tableRunsUptoCard

/-- THE SECOND FORM's CARD OF 'porticolaw21.TableTurned'. -/
def tableTurnedUptoCard : Claim7 := { stood := { row := tableTurnedUptoRow, standIns := [], harness := (true, "89ff807ffa8a58d0bfd8fb2ea6dc635704b720af253ef7b04ed157691ed49f8b"), looks := true }, kinds := [], alts := [], laidByText := true, laidKinds := [.data, .pinned], laidTests := true, laidLooks := .later }
def TableTurnedUptoCardSaid : Prop := Claim7.holds Tryd.pinned (.plain (OpenSpec.upto tableTurnedSpec)) tableTurnedUptoCard

/-- THE SECOND FORM's CARD OF 'porticolaw21.TableOutlets'. -/
def tableOutletsUptoCard : Claim7 := { stood := { row := tableOutletsUptoRow, standIns := [], harness := (true, "89ff807ffa8a58d0bfd8fb2ea6dc635704b720af253ef7b04ed157691ed49f8b"), looks := true }, kinds := [], alts := [], laidByText := true, laidKinds := [.data, .pinned], laidTests := true, laidLooks := .later }
def TableOutletsUptoCardSaid : Prop := Claim7.holds Tryd.pinned (.plain (OpenSpec.upto tableOutletsSpec)) tableOutletsUptoCard
end Rows
end Go.Proofs.YtlldphbjfcopgaaDoor
