/-
  DERIVED. GIVEN WITH THE SEED: THE CARDS: each row of YtjlfkpfombdelaaDoorRows.lean that lists a variable, with what it lists TIED to the program's text (the seventh form; the later family's looks); each row that meets fmt, with fmt's text TOLD by the authors' own Lean function (tested against real Go, not proved from fmt's source: count such statements apart). THE CARD IS WHAT COUNTS. Prove the row's statement (the work); the ties are given (YtjlfkpfombdelaaDoorTie.lean); close each card by the builder's one call (the guide's Derived/Test/ToyasCard.lean, 'card_holds'). Laid BY PROGRAM, IN A SANDBOX (cutbox-door.mjs). By AI agents, Wed Nov 11 2026. No macro, syntax, notation, axiom, sorry.
-/
import Derived.Test.YtjlfkpfombdelaaDoorRows
import GoSem.ClaimSeven
namespace Go.Proofs.YtjlfkpfombdelaaDoor
namespace Rows

/-- THE TIED CARD OF 'porticolaw5.PatternTells'. -/
def patternTellsCard : Claim7 := { stood := { row := patternTellsRow, standIns := [], harness := (true, "e2f9892bb1ebf63182c1bda32fc477ae5a0415c8fb09a465629a34d4ae1e3246"), looks := false }, kinds := [], alts := [], laidByText := true, laidKinds := [.data, .pinned], laidTests := true, laidLooks := .later }
def PatternTellsCardSaid : Prop := Claim7.holds Tryd.pinned (.plain (OpenSpec.ofChange patternTellsSpec)) patternTellsCard

/-- THE TIED CARD OF 'porticolaw5.PatternBack'. -/
def patternBackCard : Claim7 := { stood := { row := patternBackRow, standIns := [], harness := (true, "e2f9892bb1ebf63182c1bda32fc477ae5a0415c8fb09a465629a34d4ae1e3246"), looks := false }, kinds := [], alts := [], laidByText := true, laidKinds := [.data, .pinned], laidTests := true, laidLooks := .later }
def PatternBackCardSaid : Prop := Claim7.holds Tryd.pinned (.plain (OpenSpec.ofChange patternBackSpec)) patternBackCard

/-- THE TIED CARD OF 'porticolaw5.PatternText'. -/
def patternTextCard : Claim7 := { stood := { row := patternTextRow, standIns := [], harness := (true, "e2f9892bb1ebf63182c1bda32fc477ae5a0415c8fb09a465629a34d4ae1e3246"), looks := false }, kinds := [], alts := [], laidByText := true, laidKinds := [.data, .pinned], laidTests := true, laidLooks := .later }
def PatternTextCardSaid : Prop := Claim7.holds Tryd.pinned (.plain (OpenSpec.ofChange patternTextSpec)) patternTextCard

/-- THE SECOND FORM's CARD OF 'porticolaw5.PatternTells'. -/
def patternTellsUptoCard : Claim7 := { stood := { row := patternTellsUptoRow, standIns := [], harness := (true, "e2f9892bb1ebf63182c1bda32fc477ae5a0415c8fb09a465629a34d4ae1e3246"), looks := false }, kinds := [], alts := [], laidByText := true, laidKinds := [.data, .pinned], laidTests := true, laidLooks := .later }
def PatternTellsUptoCardSaid : Prop := Claim7.holds Tryd.pinned (.plain (OpenSpec.upto patternTellsSpec)) patternTellsUptoCard

/-- THE SECOND FORM's CARD OF 'porticolaw5.PatternBack'. -/
def patternBackUptoCard : Claim7 := { stood := { row := patternBackUptoRow, standIns := [], harness := (true, "e2f9892bb1ebf63182c1bda32fc477ae5a0415c8fb09a465629a34d4ae1e3246"), looks := false }, kinds := [], alts := [], laidByText := true, laidKinds := [.data, .pinned], laidTests := true, laidLooks := .later }
def PatternBackUptoCardSaid : Prop := Claim7.holds Tryd.pinned (.plain (OpenSpec.upto patternBackSpec)) patternBackUptoCard

/-- THE SECOND FORM's CARD OF 'porticolaw5.PatternText'. -/
def patternTextUptoCard : Claim7 := { stood := { row := patternTextUptoRow, standIns := [], harness := (true, "e2f9892bb1ebf63182c1bda32fc477ae5a0415c8fb09a465629a34d4ae1e3246"), looks := false }, kinds := [], alts := [], laidByText := true, laidKinds := [.data, .pinned], laidTests := true, laidLooks := .later }
def PatternTextUptoCardSaid : Prop := Claim7.holds Tryd.pinned (.plain (OpenSpec.upto patternTextSpec)) patternTextUptoCard
end Rows
end Go.Proofs.YtjlfkpfombdelaaDoor
