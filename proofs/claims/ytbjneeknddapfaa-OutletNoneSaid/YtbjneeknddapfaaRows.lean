/-
  No cell of these rows narrows 'for every input' (looked for: loops, veiled, ifaces, maps, wideKeys, modest, calm, conditions, laid).
  DERIVED. THE GIVEN ROWS OF THIS SEAT. 9 by the template 'for every input the law returns true; each argument reads behind the call as it read before'; 0 by the template 'total and deterministic' (their statements: YtbjneeknddapfaaTotals.lean).
  GIVEN WITH THE SEED: the statements are not yours to turn. If you find one false, say at which input.
  Laid BY PROGRAM, IN A SANDBOX (cutbox-rows.mjs): the forced cells as the released guide's own fill.sh prints them over the translation 810d18dd2c4f20f8… (all of the seat's roots in one cut). By AI agents, Wed Nov 11 2026. No macro, syntax, notation, axiom, sorry.
-/
import Derived.Test.YtbjneeknddapfaaChecked
import GoSem.Claim
import GoSem.ClaimJoined
import GoSem.ClaimMapViews
import Derived.JoinedTies
import Derived.KernelRfl
namespace Go.Proofs.Ytbjneeknddapfaa
/- THE CELL 'sum', in the pinned program and in every row, IS THE sha256 OF THE DUMP (.gsa) THAT YtbjneeknddapfaaProg.lean LOADS. Nothing in Lean hashes anything: it is a label: what it is worth is what the hold of that sum in a sandbox is worth. -/
noncomputable def Try.pinned : Pinned := { name := "ytbjneeknddapfaa", sum := "810d18dd2c4f20f852d783d046acf849721c6bea16e3f0bc2da0af89b4e29b76", checked := Try.checked }
namespace Rows
def none {H : Type} : Left H := { results := [], args := [] }

/-- 'porticolaw12.DomOnce': WHATEVER THE INPUT: true; the input reads as it did. -/
def domOnceSpec : ChangeSpec := { name := "domOnce", fn := fun _ => fun
  | [d] => { results := [.lit (.bool true)], args := [d] }
  | _ => none }
def domOnceRow : OpenClaim := { program := "ytbjneeknddapfaa", sum := "810d18dd2c4f20f852d783d046acf849721c6bea16e3f0bc2da0af89b4e29b76", func := "portico/porticolaw12.DomOnce", spec := "domOnce", inPlace := ["slices.overlaps[int]"], recurses := true, plainKeys := false, apart := false }
def DomOnceSaid : Prop := domOnceRow.holds Try.pinned (OpenSpec.ofChange domOnceSpec)

/-- ITS FALSE NEIGHBOUR: 'it returns false'. Refute it at one input. -/
def domOnceWrong : ChangeSpec := { name := "domOnce", fn := fun _ => fun
  | [d] => { results := [.lit (.bool false)], args := [d] }
  | _ => none }
def DomOnceWrongFalsely : Prop := domOnceRow.holds Try.pinned (OpenSpec.ofChange domOnceWrong)

/-- 'porticolaw12.DomMoves': WHATEVER THE INPUT: true; the input reads as it did. -/
def domMovesSpec : ChangeSpec := { name := "domMoves", fn := fun _ => fun
  | [d1, d2, d3] => { results := [.lit (.bool true)], args := [d1, d2, d3] }
  | _ => none }
def domMovesRow : OpenClaim := { program := "ytbjneeknddapfaa", sum := "810d18dd2c4f20f852d783d046acf849721c6bea16e3f0bc2da0af89b4e29b76", func := "portico/porticolaw12.DomMoves", spec := "domMoves", inPlace := ["slices.overlaps[int]"], recurses := true, plainKeys := false, apart := false }
def DomMovesSaid : Prop := domMovesRow.holds Try.pinned (OpenSpec.ofChange domMovesSpec)

/-- ITS FALSE NEIGHBOUR: 'it returns false'. Refute it at one input. -/
def domMovesWrong : ChangeSpec := { name := "domMoves", fn := fun _ => fun
  | [d1, d2, d3] => { results := [.lit (.bool false)], args := [d1, d2, d3] }
  | _ => none }
def DomMovesWrongFalsely : Prop := domMovesRow.holds Try.pinned (OpenSpec.ofChange domMovesWrong)

/-- 'porticolaw12.DomPlays': WHATEVER THE INPUT: true; the input reads as it did. -/
def domPlaysSpec : ChangeSpec := { name := "domPlays", fn := fun _ => fun
  | [d] => { results := [.lit (.bool true)], args := [d] }
  | _ => none }
def domPlaysRow : OpenClaim := { program := "ytbjneeknddapfaa", sum := "810d18dd2c4f20f852d783d046acf849721c6bea16e3f0bc2da0af89b4e29b76", func := "portico/porticolaw12.DomPlays", spec := "domPlays", inPlace := ["slices.overlaps[int]"], recurses := true, plainKeys := false, apart := false }
def DomPlaysSaid : Prop := domPlaysRow.holds Try.pinned (OpenSpec.ofChange domPlaysSpec)

/-- ITS FALSE NEIGHBOUR: 'it returns false'. Refute it at one input. -/
def domPlaysWrong : ChangeSpec := { name := "domPlays", fn := fun _ => fun
  | [d] => { results := [.lit (.bool false)], args := [d] }
  | _ => none }
def DomPlaysWrongFalsely : Prop := domPlaysRow.holds Try.pinned (OpenSpec.ofChange domPlaysWrong)

/-- 'porticolaw15.PatchTexts': WHATEVER THE INPUT: true; the input reads as it did. -/
def patchTextsSpec : ChangeSpec := { name := "patchTexts", fn := fun _ => fun
  | [d1, d2] => { results := [.lit (.bool true)], args := [d1, d2] }
  | _ => none }
def patchTextsRow : OpenClaim := { program := "ytbjneeknddapfaa", sum := "810d18dd2c4f20f852d783d046acf849721c6bea16e3f0bc2da0af89b4e29b76", func := "portico/porticolaw15.PatchTexts", spec := "patchTexts", inPlace := ["slices.overlaps[int]"], unfollowed := true, recurses := true, plainKeys := false, apart := false }
def PatchTextsSaid : Prop := patchTextsRow.holds Try.pinned (OpenSpec.ofChange patchTextsSpec)

/-- ITS FALSE NEIGHBOUR: 'it returns false'. Refute it at one input. -/
def patchTextsWrong : ChangeSpec := { name := "patchTexts", fn := fun _ => fun
  | [d1, d2] => { results := [.lit (.bool false)], args := [d1, d2] }
  | _ => none }
def PatchTextsWrongFalsely : Prop := patchTextsRow.holds Try.pinned (OpenSpec.ofChange patchTextsWrong)

/-- 'porticolaw15.PatchKeeps': WHATEVER THE INPUT: true; the input reads as it did. -/
def patchKeepsSpec : ChangeSpec := { name := "patchKeeps", fn := fun _ => fun
  | [d1, d2] => { results := [.lit (.bool true)], args := [d1, d2] }
  | _ => none }
def patchKeepsRow : OpenClaim := { program := "ytbjneeknddapfaa", sum := "810d18dd2c4f20f852d783d046acf849721c6bea16e3f0bc2da0af89b4e29b76", func := "portico/porticolaw15.PatchKeeps", spec := "patchKeeps", inPlace := ["slices.overlaps[int]"], recurses := true, plainKeys := false, apart := false }
def PatchKeepsSaid : Prop := patchKeepsRow.holds Try.pinned (OpenSpec.ofChange patchKeepsSpec)

/-- ITS FALSE NEIGHBOUR: 'it returns false'. Refute it at one input. -/
def patchKeepsWrong : ChangeSpec := { name := "patchKeeps", fn := fun _ => fun
  | [d1, d2] => { results := [.lit (.bool false)], args := [d1, d2] }
  | _ => none }
def PatchKeepsWrongFalsely : Prop := patchKeepsRow.holds Try.pinned (OpenSpec.ofChange patchKeepsWrong)

/-- 'porticolaw15.PatchTurns': WHATEVER THE INPUT: true; the input reads as it did. -/
def patchTurnsSpec : ChangeSpec := { name := "patchTurns", fn := fun _ => fun
  | [d1, d2] => { results := [.lit (.bool true)], args := [d1, d2] }
  | _ => none }
def patchTurnsRow : OpenClaim := { program := "ytbjneeknddapfaa", sum := "810d18dd2c4f20f852d783d046acf849721c6bea16e3f0bc2da0af89b4e29b76", func := "portico/porticolaw15.PatchTurns", spec := "patchTurns", inPlace := ["slices.overlaps[int]"], recurses := true, plainKeys := false, apart := false }
def PatchTurnsSaid : Prop := patchTurnsRow.holds Try.pinned (OpenSpec.ofChange patchTurnsSpec)

/-- ITS FALSE NEIGHBOUR: 'it returns false'. Refute it at one input. -/
def patchTurnsWrong : ChangeSpec := { name := "patchTurns", fn := fun _ => fun
  | [d1, d2] => { results := [.lit (.bool false)], args := [d1, d2] }
  | _ => none }
def PatchTurnsWrongFalsely : Prop := patchTurnsRow.holds Try.pinned (OpenSpec.ofChange patchTurnsWrong)

/-- 'porticolaw15.PatchRow': WHATEVER THE INPUT: true; the input reads as it did. -/
def patchRowSpec : ChangeSpec := { name := "patchRow", fn := fun _ => fun
  | [d1, d2] => { results := [.lit (.bool true)], args := [d1, d2] }
  | _ => none }
def patchRowRow : OpenClaim := { program := "ytbjneeknddapfaa", sum := "810d18dd2c4f20f852d783d046acf849721c6bea16e3f0bc2da0af89b4e29b76", func := "portico/porticolaw15.PatchRow", spec := "patchRow", inPlace := ["slices.overlaps[int]"], unfollowed := true, recurses := true, plainKeys := false, apart := false }
def PatchRowSaid : Prop := patchRowRow.holds Try.pinned (OpenSpec.ofChange patchRowSpec)

/-- ITS FALSE NEIGHBOUR: 'it returns false'. Refute it at one input. -/
def patchRowWrong : ChangeSpec := { name := "patchRow", fn := fun _ => fun
  | [d1, d2] => { results := [.lit (.bool false)], args := [d1, d2] }
  | _ => none }
def PatchRowWrongFalsely : Prop := patchRowRow.holds Try.pinned (OpenSpec.ofChange patchRowWrong)

/-- 'porticolaw20.OutletDeep': WHATEVER THE INPUT: true; the input reads as it did. -/
def outletDeepSpec : ChangeSpec := { name := "outletDeep", fn := fun _ => fun
  | [d1, d2] => { results := [.lit (.bool true)], args := [d1, d2] }
  | _ => none }
def outletDeepRow : OpenClaim := { program := "ytbjneeknddapfaa", sum := "810d18dd2c4f20f852d783d046acf849721c6bea16e3f0bc2da0af89b4e29b76", func := "portico/porticolaw20.OutletDeep", spec := "outletDeep", inPlace := ["slices.overlaps[int]"], recurses := true, plainKeys := false, apart := false }
def OutletDeepSaid : Prop := outletDeepRow.holds Try.pinned (OpenSpec.ofChange outletDeepSpec)

/-- ITS FALSE NEIGHBOUR: 'it returns false'. Refute it at one input. -/
def outletDeepWrong : ChangeSpec := { name := "outletDeep", fn := fun _ => fun
  | [d1, d2] => { results := [.lit (.bool false)], args := [d1, d2] }
  | _ => none }
def OutletDeepWrongFalsely : Prop := outletDeepRow.holds Try.pinned (OpenSpec.ofChange outletDeepWrong)

/-- 'porticolaw20.OutletNone': WHATEVER THE INPUT: true; the input reads as it did. -/
def outletNoneSpec : ChangeSpec := { name := "outletNone", fn := fun _ => fun
  | [d1, d2] => { results := [.lit (.bool true)], args := [d1, d2] }
  | _ => none }
def outletNoneRow : OpenClaim := { program := "ytbjneeknddapfaa", sum := "810d18dd2c4f20f852d783d046acf849721c6bea16e3f0bc2da0af89b4e29b76", func := "portico/porticolaw20.OutletNone", spec := "outletNone", inPlace := ["slices.overlaps[int]"], recurses := true, plainKeys := false, apart := false }
def OutletNoneSaid : Prop := outletNoneRow.holds Try.pinned (OpenSpec.ofChange outletNoneSpec)

/-- ITS FALSE NEIGHBOUR: 'it returns false'. Refute it at one input. -/
def outletNoneWrong : ChangeSpec := { name := "outletNone", fn := fun _ => fun
  | [d1, d2] => { results := [.lit (.bool false)], args := [d1, d2] }
  | _ => none }
def OutletNoneWrongFalsely : Prop := outletNoneRow.holds Try.pinned (OpenSpec.ofChange outletNoneWrong)

/- THE SECOND FORM. 'bulk': how many values and letters a reading holds, each counted each time it is reached (what is shared counts as often as it is met; a slice's spare places count too). A statement '..UptoSaid' is the law's where the arguments, and the package variables that the reading takes, are together of bulk at most 1048576: NARROWER than '..Said'. Prove '..Said' where nothing that the law and all that it calls make is longer than what came in: it says more and counts as full. Else prove '..UptoSaid'. A law counts once. -/
mutual
def uptoBulk {H : Type} : DataW H → Nat
  | .lit (.string bytes) => bytes.length + 1
  | .lit _ => 1
  | .nil => 1
  | .ptr d => uptoBulk d + 1
  | .slice elems spare => uptoBulkAll elems + uptoBulkAll spare + 1
  | .agg parts => uptoBulkAll parts + 1
  | .iface _ d => uptoBulk d + 1
  | .map entries => uptoBulkEntries entries + 1
  | .held _ => 1
def uptoBulkAll {H : Type} : List (DataW H) → Nat
  | [] => 0
  | d :: r => uptoBulk d + uptoBulkAll r
def uptoBulkEntries {H : Type} : List (Lit × DataW H) → Nat
  | [] => 0
  | x :: r => uptoBulkEntry x + uptoBulkEntries r
def uptoBulkEntry {H : Type} : Lit × DataW H → Nat
  | (.string bytes, d) => bytes.length + uptoBulk d + 1
  | (_, d) => uptoBulk d + 1
 end
def uptoSmall : (H : Type) → List (DataW H) → Bool := fun _ ds => decide (uptoBulkAll ds ≤ 1048576)
def OpenSpec.upto (s : _root_.Go.ChangeSpec) : _root_.Go.OpenSpec := { _root_.Go.OpenSpec.ofChange s with cond := some uptoSmall }

/-- 'porticolaw12.DomOnce', WHERE WHAT IT READS IS OF BULK AT MOST 1048576: true; the input reads as it did. -/
def domOnceUptoRow : OpenClaim := { program := "ytbjneeknddapfaa", sum := "810d18dd2c4f20f852d783d046acf849721c6bea16e3f0bc2da0af89b4e29b76", func := "portico/porticolaw12.DomOnce", spec := "domOnce", inPlace := ["slices.overlaps[int]"], recurses := true, plainKeys := false, apart := false, narrowed := true }
def DomOnceUptoSaid : Prop := domOnceUptoRow.holds Try.pinned (OpenSpec.upto domOnceSpec)

/-- 'porticolaw12.DomMoves', WHERE WHAT IT READS IS OF BULK AT MOST 1048576: true; the input reads as it did. -/
def domMovesUptoRow : OpenClaim := { program := "ytbjneeknddapfaa", sum := "810d18dd2c4f20f852d783d046acf849721c6bea16e3f0bc2da0af89b4e29b76", func := "portico/porticolaw12.DomMoves", spec := "domMoves", inPlace := ["slices.overlaps[int]"], recurses := true, plainKeys := false, apart := false, narrowed := true }
def DomMovesUptoSaid : Prop := domMovesUptoRow.holds Try.pinned (OpenSpec.upto domMovesSpec)

/-- 'porticolaw12.DomPlays', WHERE WHAT IT READS IS OF BULK AT MOST 1048576: true; the input reads as it did. -/
def domPlaysUptoRow : OpenClaim := { program := "ytbjneeknddapfaa", sum := "810d18dd2c4f20f852d783d046acf849721c6bea16e3f0bc2da0af89b4e29b76", func := "portico/porticolaw12.DomPlays", spec := "domPlays", inPlace := ["slices.overlaps[int]"], recurses := true, plainKeys := false, apart := false, narrowed := true }
def DomPlaysUptoSaid : Prop := domPlaysUptoRow.holds Try.pinned (OpenSpec.upto domPlaysSpec)

/-- 'porticolaw15.PatchTexts', WHERE WHAT IT READS IS OF BULK AT MOST 1048576: true; the input reads as it did. -/
def patchTextsUptoRow : OpenClaim := { program := "ytbjneeknddapfaa", sum := "810d18dd2c4f20f852d783d046acf849721c6bea16e3f0bc2da0af89b4e29b76", func := "portico/porticolaw15.PatchTexts", spec := "patchTexts", inPlace := ["slices.overlaps[int]"], unfollowed := true, recurses := true, plainKeys := false, apart := false, narrowed := true }
def PatchTextsUptoSaid : Prop := patchTextsUptoRow.holds Try.pinned (OpenSpec.upto patchTextsSpec)

/-- 'porticolaw15.PatchKeeps', WHERE WHAT IT READS IS OF BULK AT MOST 1048576: true; the input reads as it did. -/
def patchKeepsUptoRow : OpenClaim := { program := "ytbjneeknddapfaa", sum := "810d18dd2c4f20f852d783d046acf849721c6bea16e3f0bc2da0af89b4e29b76", func := "portico/porticolaw15.PatchKeeps", spec := "patchKeeps", inPlace := ["slices.overlaps[int]"], recurses := true, plainKeys := false, apart := false, narrowed := true }
def PatchKeepsUptoSaid : Prop := patchKeepsUptoRow.holds Try.pinned (OpenSpec.upto patchKeepsSpec)

/-- 'porticolaw15.PatchTurns', WHERE WHAT IT READS IS OF BULK AT MOST 1048576: true; the input reads as it did. -/
def patchTurnsUptoRow : OpenClaim := { program := "ytbjneeknddapfaa", sum := "810d18dd2c4f20f852d783d046acf849721c6bea16e3f0bc2da0af89b4e29b76", func := "portico/porticolaw15.PatchTurns", spec := "patchTurns", inPlace := ["slices.overlaps[int]"], recurses := true, plainKeys := false, apart := false, narrowed := true }
def PatchTurnsUptoSaid : Prop := patchTurnsUptoRow.holds Try.pinned (OpenSpec.upto patchTurnsSpec)

/-- 'porticolaw15.PatchRow', WHERE WHAT IT READS IS OF BULK AT MOST 1048576: true; the input reads as it did. -/
def patchRowUptoRow : OpenClaim := { program := "ytbjneeknddapfaa", sum := "810d18dd2c4f20f852d783d046acf849721c6bea16e3f0bc2da0af89b4e29b76", func := "portico/porticolaw15.PatchRow", spec := "patchRow", inPlace := ["slices.overlaps[int]"], unfollowed := true, recurses := true, plainKeys := false, apart := false, narrowed := true }
def PatchRowUptoSaid : Prop := patchRowUptoRow.holds Try.pinned (OpenSpec.upto patchRowSpec)

/-- 'porticolaw20.OutletDeep', WHERE WHAT IT READS IS OF BULK AT MOST 1048576: true; the input reads as it did. -/
def outletDeepUptoRow : OpenClaim := { program := "ytbjneeknddapfaa", sum := "810d18dd2c4f20f852d783d046acf849721c6bea16e3f0bc2da0af89b4e29b76", func := "portico/porticolaw20.OutletDeep", spec := "outletDeep", inPlace := ["slices.overlaps[int]"], recurses := true, plainKeys := false, apart := false, narrowed := true }
def OutletDeepUptoSaid : Prop := outletDeepUptoRow.holds Try.pinned (OpenSpec.upto outletDeepSpec)

/-- 'porticolaw20.OutletNone', WHERE WHAT IT READS IS OF BULK AT MOST 1048576: true; the input reads as it did. -/
def outletNoneUptoRow : OpenClaim := { program := "ytbjneeknddapfaa", sum := "810d18dd2c4f20f852d783d046acf849721c6bea16e3f0bc2da0af89b4e29b76", func := "portico/porticolaw20.OutletNone", spec := "outletNone", inPlace := ["slices.overlaps[int]"], recurses := true, plainKeys := false, apart := false, narrowed := true }
def OutletNoneUptoSaid : Prop := outletNoneUptoRow.holds Try.pinned (OpenSpec.upto outletNoneSpec)

end Rows
end Go.Proofs.Ytbjneeknddapfaa
