/-
  DERIVED. GIVEN WITH THE SEED: THE CARDS: each row of YtdelaagbhhnniaaDoorRows.lean that lists a variable, with what it lists TIED to the program's text (the seventh form; the later family's looks); each row that meets fmt, with fmt's text TOLD by the authors' own Lean function (tested against real Go, not proved from fmt's source: count such statements apart). THE CARD IS WHAT COUNTS. Prove the row's statement (the work); the ties are given (YtdelaagbhhnniaaDoorTie.lean); close each card by the builder's one call (the guide's Derived/Test/ToyasCard.lean, 'card_holds'). Laid BY PROGRAM, IN A SANDBOX (cutbox-door.mjs). By AI agents, Wed Nov 11 2026. No macro, syntax, notation, axiom, sorry.
-/
import Derived.Test.YtdelaagbhhnniaaDoorRows
import GoSem.ClaimSeven
namespace Go.Proofs.YtdelaagbhhnniaaDoor
namespace Rows

/-- THE TIED CARD OF 'porticolaw5.PatternRuns'. -/
def patternRunsCard : Claim7 := { stood := { row := patternRunsRow, standIns := [], harness := (true, "bbc4d3fdbcec5f39a09e779180ecbb187595ee2df8c98e3cbfe05cf653112afc"), looks := false }, kinds := [], alts := [], laidByText := true, laidKinds := [.data, .pinned], laidTests := true, laidLooks := .later }
def PatternRunsCardSaid : Prop := Claim7.holds Tryd.pinned (.plain (OpenSpec.ofChange patternRunsSpec)) patternRunsCard

/-- THE TIED CARD OF 'porticolaw5.PatternTells'. -/
def patternTellsCard : Claim7 := { stood := { row := patternTellsRow, standIns := [], harness := (true, "bbc4d3fdbcec5f39a09e779180ecbb187595ee2df8c98e3cbfe05cf653112afc"), looks := false }, kinds := [], alts := [], laidByText := true, laidKinds := [.data, .pinned], laidTests := true, laidLooks := .later }
def PatternTellsCardSaid : Prop := Claim7.holds Tryd.pinned (.plain (OpenSpec.ofChange patternTellsSpec)) patternTellsCard

/-- THE TIED CARD OF 'porticolaw5.PatternBack'. -/
def patternBackCard : Claim7 := { stood := { row := patternBackRow, standIns := [], harness := (true, "bbc4d3fdbcec5f39a09e779180ecbb187595ee2df8c98e3cbfe05cf653112afc"), looks := false }, kinds := [], alts := [], laidByText := true, laidKinds := [.data, .pinned], laidTests := true, laidLooks := .later }
def PatternBackCardSaid : Prop := Claim7.holds Tryd.pinned (.plain (OpenSpec.ofChange patternBackSpec)) patternBackCard

/-- THE TIED CARD OF 'porticolaw5.PatternText'. -/
def patternTextCard : Claim7 := { stood := { row := patternTextRow, standIns := [], harness := (true, "bbc4d3fdbcec5f39a09e779180ecbb187595ee2df8c98e3cbfe05cf653112afc"), looks := false }, kinds := [], alts := [], laidByText := true, laidKinds := [.data, .pinned], laidTests := true, laidLooks := .later }
def PatternTextCardSaid : Prop := Claim7.holds Tryd.pinned (.plain (OpenSpec.ofChange patternTextSpec)) patternTextCard

/-- THE TIED CARD OF 'porticolaw7.TrieRuns'. -/
def trieRunsCard : Claim7 := { stood := { row := trieRunsRow, standIns := [], harness := (true, "bbc4d3fdbcec5f39a09e779180ecbb187595ee2df8c98e3cbfe05cf653112afc"), looks := false }, kinds := [], alts := [], laidByText := true, laidKinds := [.data, .pinned], laidTests := true, laidLooks := .later }
def TrieRunsCardSaid : Prop := Claim7.holds Tryd.pinned (.plain (OpenSpec.ofChange trieRunsSpec)) trieRunsCard

/-- THE TIED CARD OF 'porticolaw7.TrieFinds'. -/
def trieFindsCard : Claim7 := { stood := { row := trieFindsRow, standIns := [], harness := (true, "bbc4d3fdbcec5f39a09e779180ecbb187595ee2df8c98e3cbfe05cf653112afc"), looks := false }, kinds := [], alts := [], laidByText := true, laidKinds := [.data, .pinned], laidTests := true, laidLooks := .later }
def TrieFindsCardSaid : Prop := Claim7.holds Tryd.pinned (.plain (OpenSpec.ofChange trieFindsSpec)) trieFindsCard

/-- THE TIED CARD OF 'porticolaw7.TrieAll'. -/
def trieAllCard : Claim7 := { stood := { row := trieAllRow, standIns := [], harness := (true, "bbc4d3fdbcec5f39a09e779180ecbb187595ee2df8c98e3cbfe05cf653112afc"), looks := false }, kinds := [], alts := [], laidByText := true, laidKinds := [.data, .pinned], laidTests := true, laidLooks := .later }
def TrieAllCardSaid : Prop := Claim7.holds Tryd.pinned (.plain (OpenSpec.ofChange trieAllSpec)) trieAllCard

/-- THE SECOND FORM's CARD OF 'porticolaw5.PatternRuns'. -/
def patternRunsUptoCard : Claim7 := { stood := { row := patternRunsUptoRow, standIns := [], harness := (true, "bbc4d3fdbcec5f39a09e779180ecbb187595ee2df8c98e3cbfe05cf653112afc"), looks := false }, kinds := [], alts := [], laidByText := true, laidKinds := [.data, .pinned], laidTests := true, laidLooks := .later }
def PatternRunsUptoCardSaid : Prop := Claim7.holds Tryd.pinned (.plain (OpenSpec.upto patternRunsSpec)) patternRunsUptoCard

/-- THE SECOND FORM's CARD OF 'porticolaw5.PatternTells'. -/
def patternTellsUptoCard : Claim7 := { stood := { row := patternTellsUptoRow, standIns := [], harness := (true, "bbc4d3fdbcec5f39a09e779180ecbb187595ee2df8c98e3cbfe05cf653112afc"), looks := false }, kinds := [], alts := [], laidByText := true, laidKinds := [.data, .pinned], laidTests := true, laidLooks := .later }
def PatternTellsUptoCardSaid : Prop := Claim7.holds Tryd.pinned (.plain (OpenSpec.upto patternTellsSpec)) patternTellsUptoCard

/-- THE SECOND FORM's CARD OF 'porticolaw5.PatternBack'. -/
def patternBackUptoCard : Claim7 := { stood := { row := patternBackUptoRow, standIns := [], harness := (true, "bbc4d3fdbcec5f39a09e779180ecbb187595ee2df8c98e3cbfe05cf653112afc"), looks := false }, kinds := [], alts := [], laidByText := true, laidKinds := [.data, .pinned], laidTests := true, laidLooks := .later }
def PatternBackUptoCardSaid : Prop := Claim7.holds Tryd.pinned (.plain (OpenSpec.upto patternBackSpec)) patternBackUptoCard

/-- THE SECOND FORM's CARD OF 'porticolaw5.PatternText'. -/
def patternTextUptoCard : Claim7 := { stood := { row := patternTextUptoRow, standIns := [], harness := (true, "bbc4d3fdbcec5f39a09e779180ecbb187595ee2df8c98e3cbfe05cf653112afc"), looks := false }, kinds := [], alts := [], laidByText := true, laidKinds := [.data, .pinned], laidTests := true, laidLooks := .later }
def PatternTextUptoCardSaid : Prop := Claim7.holds Tryd.pinned (.plain (OpenSpec.upto patternTextSpec)) patternTextUptoCard

/-- THE SECOND FORM's CARD OF 'porticolaw7.TrieRuns'. -/
def trieRunsUptoCard : Claim7 := { stood := { row := trieRunsUptoRow, standIns := [], harness := (true, "bbc4d3fdbcec5f39a09e779180ecbb187595ee2df8c98e3cbfe05cf653112afc"), looks := false }, kinds := [], alts := [], laidByText := true, laidKinds := [.data, .pinned], laidTests := true, laidLooks := .later }
def TrieRunsUptoCardSaid : Prop := Claim7.holds Tryd.pinned (.plain (OpenSpec.upto trieRunsSpec)) trieRunsUptoCard

/-- THE SECOND FORM's CARD OF 'porticolaw7.TrieFinds'. -/
def trieFindsUptoCard : Claim7 := { stood := { row := trieFindsUptoRow, standIns := [], harness := (true, "bbc4d3fdbcec5f39a09e779180ecbb187595ee2df8c98e3cbfe05cf653112afc"), looks := false }, kinds := [], alts := [], laidByText := true, laidKinds := [.data, .pinned], laidTests := true, laidLooks := .later }
def TrieFindsUptoCardSaid : Prop := Claim7.holds Tryd.pinned (.plain (OpenSpec.upto trieFindsSpec)) trieFindsUptoCard

/-- THE SECOND FORM's CARD OF 'porticolaw7.TrieAll'. -/
def trieAllUptoCard : Claim7 := { stood := { row := trieAllUptoRow, standIns := [], harness := (true, "bbc4d3fdbcec5f39a09e779180ecbb187595ee2df8c98e3cbfe05cf653112afc"), looks := false }, kinds := [], alts := [], laidByText := true, laidKinds := [.data, .pinned], laidTests := true, laidLooks := .later }
def TrieAllUptoCardSaid : Prop := Claim7.holds Tryd.pinned (.plain (OpenSpec.upto trieAllSpec)) trieAllUptoCard
end Rows
end Go.Proofs.YtdelaagbhhnniaaDoor
