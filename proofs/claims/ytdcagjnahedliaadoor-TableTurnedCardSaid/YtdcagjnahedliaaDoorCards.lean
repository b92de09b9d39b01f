/-
  DERIVED. GIVEN WITH THE SEED: THE CARDS: each row of YtdcagjnahedliaaDoorRows.lean that lists a variable, with what it lists TIED to the program's text (the seventh form; the later family's looks); each row that meets fmt, with fmt's text TOLD by the authors' own Lean function (tested against real Go, not proved from fmt's source: count such statements apart). THE CARD IS WHAT COUNTS. Prove the row's statement (the work); the ties are given (YtdcagjnahedliaaDoorTie.lean); close each card by the builder's one call (the guide's Derived/Test/ToyasCard.lean, 'card_holds'). Laid BY PROGRAM, IN A SANDBOX (cutbox-door.mjs). By AI agents, Wed Nov 11 2026. No macro, syntax, notation, axiom, sorry.
-/
import Derived.Test.YtdcagjnahedliaaDoorRows
import GoSem.ClaimSeven
namespace Go.Proofs.YtdcagjnahedliaaDoor
namespace Rows

/-- THE TIED CARD OF 'porticolaw21.TableTurned'. -/
def tableTurnedCard : Claim7 := { stood := { row := tableTurnedRow, standIns := [], harness := (true, "3f99faea6f967b6cc58786b3c6170d23c5e6c76e5a70f9ecd9e0b9159098c03e"), looks := false }, kinds := [], alts := [], laidByText := true, laidKinds := [.data, .pinned], laidTests := true, laidLooks := .later }
def TableTurnedCardSaid : Prop := Claim7.holds Tryd.pinned (.plain (OpenSpec.ofChange tableTurnedSpec)) tableTurnedCard

/-- THE TIED CARD OF 'porticolaw21.TableOutlets'. -/
def tableOutletsCard : Claim7 := { stood := { row := tableOutletsRow, standIns := [], harness := (true, "3f99faea6f967b6cc58786b3c6170d23c5e6c76e5a70f9ecd9e0b9159098c03e"), looks := false }, kinds := [], alts := [], laidByText := true, laidKinds := [.data, .pinned], laidTests := true, laidLooks := .later }
def TableOutletsCardSaid : Prop := Claim7.holds Tryd.pinned (.plain (OpenSpec.ofChange tableOutletsSpec)) tableOutletsCard

/-- THE SECOND FORM's CARD OF 'porticolaw21.TableTurned'. -/
def tableTurnedUptoCard : Claim7 := { stood := { row := tableTurnedUptoRow, standIns := [], harness := (true, "3f99faea6f967b6cc58786b3c6170d23c5e6c76e5a70f9ecd9e0b9159098c03e"), looks := false }, kinds := [], alts := [], laidByText := true, laidKinds := [.data, .pinned], laidTests := true, laidLooks := .later }
def TableTurnedUptoCardSaid : Prop := Claim7.holds Tryd.pinned (.plain (OpenSpec.upto tableTurnedSpec)) tableTurnedUptoCard

/-- THE SECOND FORM's CARD OF 'porticolaw21.TableOutlets'. -/
def tableOutletsUptoCard : Claim7 := { stood := { row := tableOutletsUptoRow, standIns := [], harness := (true, "3f99faea6f967b6cc58786b3c6170d23c5e6c76e5a70f9ecd9e0b9159098c03e"), looks := false }, kinds := [], alts := [], laidByText := true, laidKinds := [.data, .pinned], laidTests := true, laidLooks := .later }
def TableOutletsUptoCardSaid : Prop := Claim7.holds Tryd.pinned (.plain (OpenSpec.upto tableOutletsSpec)) tableOutletsUptoCard
end Rows
end Go.Proofs.YtdcagjnahedliaaDoor
