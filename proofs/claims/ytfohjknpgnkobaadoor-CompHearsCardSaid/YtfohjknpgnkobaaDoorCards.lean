/-
  DERIVED. GIVEN WITH THE SEED: THE CARDS: each row of YtfohjknpgnkobaaDoorRows.lean that lists a variable, with what it lists TIED to the program's text (the seventh form; the later family's looks); each row that meets fmt, with fmt's text TOLD by the authors' own Lean function (tested against real Go, not proved from fmt's source: count such statements apart). THE CARD IS WHAT COUNTS. Prove the row's statement (the work); the ties are given (YtfohjknpgnkobaaDoorTie.lean); close each card by the builder's one call (the guide's Derived/Test/ToyasCard.lean, 'card_holds'). Laid BY PROGRAM, IN A SANDBOX (cutbox-door.mjs). By AI agents, Wed Nov 11 2026. No macro, syntax, notation, axiom, sorry.
-/
import Derived.Test.YtfohjknpgnkobaaDoorRows
import GoSem.ClaimSeven
namespace Go.Proofs.YtfohjknpgnkobaaDoor
namespace Rows

/-- THE TIED CARD OF 'porticolaw17.CompSums'. -/
def compSumsCard : Claim7 := { stood := { row := compSumsRow, standIns := [], harness := (true, "0fc1f9ac31834114c323ed128b9b22ffd6131221fc749127a0f324f1594512dd"), looks := false }, kinds := [], alts := [], laidByText := true, laidKinds := [.data, .pinned], laidTests := true, laidLooks := .later }
def CompSumsCardSaid : Prop := Claim7.holds Tryd.pinned (.plain (OpenSpec.ofChange compSumsSpec)) compSumsCard

/-- THE TIED CARD OF 'porticolaw17.CompHears'. -/
def compHearsCard : Claim7 := { stood := { row := compHearsRow, standIns := [], harness := (true, "0fc1f9ac31834114c323ed128b9b22ffd6131221fc749127a0f324f1594512dd"), looks := false }, kinds := [], alts := [], laidByText := true, laidKinds := [.data, .pinned], laidTests := true, laidLooks := .later }
def CompHearsCardSaid : Prop := Claim7.holds Tryd.pinned (.plain (OpenSpec.ofChange compHearsSpec)) compHearsCard

/-- THE SECOND FORM's CARD OF 'porticolaw17.CompSums'. -/
def compSumsUptoCard : Claim7 := { stood := { row := compSumsUptoRow, standIns := [], harness := (true, "0fc1f9ac31834114c323ed128b9b22ffd6131221fc749127a0f324f1594512dd"), looks := false }, kinds := [], alts := [], laidByText := true, laidKinds := [.data, .pinned], laidTests := true, laidLooks := .later }
def CompSumsUptoCardSaid : Prop := Claim7.holds Tryd.pinned (.plain (OpenSpec.upto compSumsSpec)) compSumsUptoCard

/-- THE SECOND FORM's CARD OF 'porticolaw17.CompHears'. -/
def compHearsUptoCard : Claim7 := { stood := { row := compHearsUptoRow, standIns := [], harness := (true, "0fc1f9ac31834114c323ed128b9b22ffd6131221fc749127a0f324f1594512dd"), looks := false }, kinds := [], alts := [], laidByText := true, laidKinds := [.data, .pinned], laidTests := true, laidLooks := .later }
def CompHearsUptoCardSaid : Prop := Claim7.holds Tryd.pinned (.plain (OpenSpec.upto compHearsSpec)) compHearsUptoCard
end Rows
end Go.Proofs.YtfohjknpgnkobaaDoor
