/-
  DERIVED. GIVEN WITH THE SEED: THE CARDS: each row of YtefjghdjlfhimaaDoorRows.lean that lists a variable, with what it lists TIED to the program's text (the seventh form; the later family's looks); each row that meets fmt, with fmt's text TOLD by the authors' own Lean function (tested against real Go, not proved from fmt's source: count such statements apart). THE CARD IS WHAT COUNTS. Prove the row's statement (the work); the ties are given (YtefjghdjlfhimaaDoorTie.lean); close each card by the builder's one call (the guide's Derived/Test/ToyasCard.lean, 'card_holds'). Laid BY PROGRAM, IN A SANDBOX (cutbox-door.mjs). By AI agents, Wed Nov 11 2026. No macro, syntax, notation, axiom, sorry.
-/
import Derived.Test.YtefjghdjlfhimaaDoorRows
import GoSem.ClaimSeven
namespace Go.Proofs.YtefjghdjlfhimaaDoor
namespace Rows

/-- THE TIED CARD OF 'porticolaw13.ShapePrints'. -/
def shapePrintsCard : Claim7 := { stood := { row := shapePrintsRow, standIns := [], harness := (true, "804565824f9371e37e213f09a322ee10744639df0667017bd6b615c055044b77"), looks := false }, kinds := [], alts := [], laidByText := true, laidKinds := [.data, .pinned], laidTests := true, laidLooks := .later }
def ShapePrintsCardSaid : Prop := Claim7.holds Tryd.pinned (.plain (OpenSpec.ofChange shapePrintsSpec)) shapePrintsCard

/-- THE TIED CARD OF 'porticolaw13.ShapeTells'. -/
def shapeTellsCard : Claim7 := { stood := { row := shapeTellsRow, standIns := [], harness := (true, "804565824f9371e37e213f09a322ee10744639df0667017bd6b615c055044b77"), looks := false }, kinds := [], alts := [], laidByText := true, laidKinds := [.data, .pinned], laidTests := true, laidLooks := .later }
def ShapeTellsCardSaid : Prop := Claim7.holds Tryd.pinned (.plain (OpenSpec.ofChange shapeTellsSpec)) shapeTellsCard

/-- THE TIED CARD OF 'porticolaw13.ShapeAdds'. -/
def shapeAddsCard : Claim7 := { stood := { row := shapeAddsRow, standIns := [], harness := (true, "804565824f9371e37e213f09a322ee10744639df0667017bd6b615c055044b77"), looks := false }, kinds := [], alts := [], laidByText := true, laidKinds := [.data, .pinned], laidTests := true, laidLooks := .later }
def ShapeAddsCardSaid : Prop := Claim7.holds Tryd.pinned (.plain (OpenSpec.ofChange shapeAddsSpec)) shapeAddsCard

/-- THE SECOND FORM's CARD OF 'porticolaw13.ShapePrints'. -/
def shapePrintsUptoCard : Claim7 := { stood := { row := shapePrintsUptoRow, standIns := [], harness := (true, "804565824f9371e37e213f09a322ee10744639df0667017bd6b615c055044b77"), looks := false }, kinds := [], alts := [], laidByText := true, laidKinds := [.data, .pinned], laidTests := true, laidLooks := .later }
def ShapePrintsUptoCardSaid : Prop := Claim7.holds Tryd.pinned (.plain (OpenSpec.upto shapePrintsSpec)) shapePrintsUptoCard

/-- THE SECOND FORM's CARD OF 'porticolaw13.ShapeTells'. -/
def shapeTellsUptoCard : Claim7 := { stood := { row := shapeTellsUptoRow, standIns := [], harness := (true, "804565824f9371e37e213f09a322ee10744639df0667017bd6b615c055044b77"), looks := false }, kinds := [], alts := [], laidByText := true, laidKinds := [.data, .pinned], laidTests := true, laidLooks := .later }
def ShapeTellsUptoCardSaid : Prop := Claim7.holds Tryd.pinned (.plain (OpenSpec.upto shapeTellsSpec)) shapeTellsUptoCard

/-- THE SECOND FORM's CARD OF 'porticolaw13.ShapeAdds'. -/
def shapeAddsUptoCard : Claim7 := { stood := { row := shapeAddsUptoRow, standIns := [], harness := (true, "804565824f9371e37e213f09a322ee10744639df0667017bd6b615c055044b77"), looks := false }, kinds := [], alts := [], laidByText := true, laidKinds := [.data, .pinned], laidTests := true, laidLooks := .later }
def ShapeAddsUptoCardSaid : Prop := Claim7.holds Tryd.pinned (.plain (OpenSpec.upto shapeAddsSpec)) shapeAddsUptoCard
end Rows
end Go.Proofs.YtefjghdjlfhimaaDoor
