/-
  DERIVED. GIVEN WITH THE SEED: THE CARDS: each row of YticnenhajgogcaaDoorRows.lean that lists a variable, with what it lists TIED to the program's text (the seventh form; the later family's looks); each row that meets fmt, with fmt's text TOLD by the authors' own Lean function (tested against real Go, not proved from fmt's source: count such statements apart). THE CARD IS WHAT COUNTS. Prove the row's statement (the work); the ties are given (YticnenhajgogcaaDoorTie.lean); close each card by the builder's one call (the guide's Derived/Test/ToyasCard.lean, 'card_holds'). Laid BY PROGRAM, IN A SANDBOX (cutbox-door.mjs). By AI agents, Wed Nov 11 2026. No macro, syntax, notation, axiom, sorry.
-/
import Derived.Test.YticnenhajgogcaaDoorRows
import GoSem.ClaimSeven
namespace Go.Proofs.YticnenhajgogcaaDoor
namespace Rows

/-- THE TIED CARD OF 'porticolaw17.CompRuns'. -/
def compRunsCard : Claim7 := { stood := { row := compRunsRow, standIns := [], harness := (true, "c82e138e7df656e15ab32e7a7a2c35a012fa7d686bf2f0fe0840d41a21e36e7b"), looks := false }, kinds := [], alts := [], laidByText := true, laidKinds := [.data, .pinned], laidTests := true, laidLooks := .later }
def CompRunsCardSaid : Prop := Claim7.holds Tryd.pinned (.plain (OpenSpec.ofChange compRunsSpec)) compRunsCard

/-- THE TIED CARD OF 'porticolaw17.CompSums'. -/
def compSumsCard : Claim7 := { stood := { row := compSumsRow, standIns := [], harness := (true, "c82e138e7df656e15ab32e7a7a2c35a012fa7d686bf2f0fe0840d41a21e36e7b"), looks := false }, kinds := [], alts := [], laidByText := true, laidKinds := [.data, .pinned], laidTests := true, laidLooks := .later }
def CompSumsCardSaid : Prop := Claim7.holds Tryd.pinned (.plain (OpenSpec.ofChange compSumsSpec)) compSumsCard

/-- THE TIED CARD OF 'porticolaw17.CompHears'. -/
def compHearsCard : Claim7 := { stood := { row := compHearsRow, standIns := [], harness := (true, "c82e138e7df656e15ab32e7a7a2c35a012fa7d686bf2f0fe0840d41a21e36e7b"), looks := false }, kinds := [], alts := [], laidByText := true, laidKinds := [.data, .pinned], laidTests := true, laidLooks := .later }
def CompHearsCardSaid : Prop := Claim7.holds Tryd.pinned (.plain (OpenSpec.ofChange compHearsSpec)) compHearsCard

/-- THE SECOND FORM's CARD OF 'porticolaw17.CompRuns'. -/
def compRunsUptoCard : Claim7 := { stood := { row := compRunsUptoRow, standIns := [], harness := (true, "c82e138e7df656e15ab32e7a7a2c35a012fa7d686bf2f0fe0840d41a21e36e7b"), looks := false }, kinds := [], alts := [], laidByText := true, laidKinds := [.data, .pinned], laidTests := true, laidLooks := .later }
def CompRunsUptoCardSaid : Prop := Claim7.holds Tryd.pinned (.plain (OpenSpec.upto compRunsSpec)) compRunsUptoCard

/-- THE SECOND FORM's CARD OF 'porticolaw17.CompSums'. -/
def compSumsUptoCard : Claim7 := { stood := { row := compSumsUptoRow, standIns := [], harness := (true, "c82e138e7df656e15ab32e7a7a2c35a012fa7d686bf2f0fe0840d41a21e36e7b"), looks := false }, kinds := [], alts := [], laidByText := true, laidKinds := [.data, .pinned], laidTests := true, laidLooks := .later }
def CompSumsUptoCardSaid : Prop := Claim7.holds Tryd.pinned (.plain (OpenSpec.upto compSumsSpec)) compSumsUptoCard

/-- THE SECOND FORM's CARD OF 'porticolaw17.CompHears'. -/
def compHearsUptoCard : Claim7 := { stood := { row := compHearsUptoRow, standIns := [], harness := (true, "c82e138e7df656e15ab32e7a7a2c35a012fa7d686bf2f0fe0840d41a21e36e7b"), looks := false }, kinds := [], alts := [], laidByText := true, laidKinds := [.data, .pinned], laidTests := true, laidLooks := .later }
def CompHearsUptoCardSaid : Prop := Claim7.holds Tryd.pinned (.plain (OpenSpec.upto compHearsSpec)) compHearsUptoCard
end Rows
end Go.Proofs.YticnenhajgogcaaDoor
