/-
  No cell of these rows narrows 'for every input' (looked for: loops, veiled, ifaces, maps, wideKeys, modest, calm, conditions, laid).
  DERIVED. THE GIVEN ROWS OF THIS SEAT. 3 by the template 'for every input the law returns true; each argument reads behind the call as it read before'; 0 by the template 'total and deterministic' (their statements: YtohhnebppppopaaTotals.lean).
  GIVEN WITH THE SEED: the statements are not yours to turn. If you find one false, say at which input.
  Laid BY PROGRAM, IN A SANDBOX (cutbox-rows.mjs): the forced cells as the released guide's own fill.sh prints them over the translation e1815c446289fe3c… (all of the seat's roots in one cut). By AI agents, Wed Nov 11 2026. No macro, syntax, notation, axiom, sorry.
-/
import Derived.Test.YtohhnebppppopaaChecked
import GoSem.Claim
import GoSem.ClaimJoined
import GoSem.ClaimMapViews
import Derived.JoinedTies
import Derived.KernelRfl
namespace Go.Proofs.Ytohhnebppppopaa
/- THE CELL 'sum', in the pinned program and in every row, IS THE sha256 OF THE DUMP (.gsa) THAT YtohhnebppppopaaProg.lean LOADS. Nothing in Lean hashes anything: it is a label: what it is worth is what the hold of that sum in a sandbox is worth. -/
noncomputable def Try.pinned : Pinned := { name := "ytohhnebppppopaa", sum := "e1815c446289fe3cb9601ce71029f80eba9822f5942fa6010bf9794bc1ed81e2", checked := Try.checked }
namespace Rows
def none {H : Type} : Left H := { results := [], args := [] }

/-- 'porticolaw20.OutletRuns': WHATEVER THE INPUT: true; the input reads as it did. -/
def outletRunsSpec : ChangeSpec := { name := "outletRuns", fn := fun _ => fun
  | [] => { results := [.lit (.bool true)], args := [] }
  | _ => none }
def outletRunsRow : OpenClaim := { program := "ytohhnebppppopaa", sum := "e1815c446289fe3cb9601ce71029f80eba9822f5942fa6010bf9794bc1ed81e2", func := "portico/porticolaw20.OutletRuns", spec := "outletRuns", inPlace := ["slices.overlaps[int]"], recurses := true, plainKeys := false, apart := false }
def OutletRunsSaid : Prop := outletRunsRow.holds Try.pinned (OpenSpec.ofChange outletRunsSpec)

/-- ITS FALSE NEIGHBOUR: 'it returns false'. Refute it at one input. -/
def outletRunsWrong : ChangeSpec := { name := "outletRuns", fn := fun _ => fun
  | [] => { results := [.lit (.bool false)], args := [] }
  | _ => none }
def OutletRunsWrongFalsely : Prop := outletRunsRow.holds Try.pinned (OpenSpec.ofChange outletRunsWrong)

/-- 'porticolaw20.OutletDeep': WHATEVER THE INPUT: true; the input reads as it did. -/
def outletDeepSpec : ChangeSpec := { name := "outletDeep", fn := fun _ => fun
  | [d1, d2] => { results := [.lit (.bool true)], args := [d1, d2] }
  | _ => none }
def outletDeepRow : OpenClaim := { program := "ytohhnebppppopaa", sum := "e1815c446289fe3cb9601ce71029f80eba9822f5942fa6010bf9794bc1ed81e2", func := "portico/porticolaw20.OutletDeep", spec := "outletDeep", inPlace := ["slices.overlaps[int]"], recurses := true, plainKeys := false, apart := false }
def OutletDeepSaid : Prop := outletDeepRow.holds Try.pinned (OpenSpec.ofChange outletDeepSpec)

/-- ITS FALSE NEIGHBOUR: 'it returns false'. Refute it at one input. -/
def outletDeepWrong : ChangeSpec := { name := "outletDeep", fn := fun _ => fun
  | [d1, d2] => { results := [.lit (.bool false)], args := [d1, d2] }
  | _ => none }
def OutletDeepWrongFalsely : Prop := outletDeepRow.holds Try.pinned (OpenSpec.ofChange outletDeepWrong)

/-- 'porticolaw20.OutletNone': WHATEVER THE INPUT: true; the input reads as it did. -/
def outletNoneSpec : ChangeSpec := { name := "outletNone", fn := fun _ => fun
  | [d1, d2] => { results := [.lit (.bool true)], args := [d1, d2] }
  | _ => none }
def outletNoneRow : OpenClaim := { program := "ytohhnebppppopaa", sum := "e1815c446289fe3cb9601ce71029f80eba9822f5942fa6010bf9794bc1ed81e2", func := "portico/porticolaw20.OutletNone", spec := "outletNone", inPlace := ["slices.overlaps[int]"], recurses := true, plainKeys := false, apart := false }
def OutletNoneSaid : Prop := outletNoneRow.holds Try.pinned (OpenSpec.ofChange outletNoneSpec)

/-- ITS FALSE NEIGHBOUR: 'it returns false'. Refute it at one input. -/
def outletNoneWrong : ChangeSpec := { name := "outletNone", fn := fun _ => fun
  | [d1, d2] => { results := [.lit (.bool false)], args := [d1, d2] }
  | _ => none }
def OutletNoneWrongFalsely : Prop := outletNoneRow.holds Try.pinned (OpenSpec.ofChange outletNoneWrong)

/- THE SECOND FORM. 'bulk': how many values and letters a reading holds, each counted each time it is reached (what is shared counts as often as it is met; a slice's spare places count too). A statement '..UptoSaid' is the law's where the arguments, and the package variables that the reading takes, are together of bulk at most 1048576: NARROWER than '..Said'. Prove '..Said' where nothing that the law and all that it calls make is longer than what came in: it says more and counts as full. Else prove '..UptoSaid'. A law counts once. -/
mutual
def uptoBulk {H : Type} : DataW H → Nat
  | .lit (.string bytes) => bytes.length + 1
  | .lit _ => 1
  | .nil => 1
  | .ptr d => uptoBulk d + 1
  | .slice elems spare => uptoBulkAll elems + uptoBulkAll spare + 1
  | .agg parts => uptoBulkAll parts + 1
  | .iface _ d => uptoBulk d + 1
  | .map entries => uptoBulkEntries entries + 1
  | .held _ => 1
def uptoBulkAll {H : Type} : List (DataW H) → Nat
  | [] => 0
  | d :: r => uptoBulk d + uptoBulkAll r
def uptoBulkEntries {H : Type} : List (Lit × DataW H) → Nat
  | [] => 0
  | x :: r => uptoBulkEntry x + uptoBulkEntries r
def uptoBulkEntry {H : Type} : Lit × DataW H → Nat
  | (.string bytes, d) => bytes.length + uptoBulk d + 1
  | (_, d) => uptoBulk d + 1
 end
def uptoSmall : (H : Type) → List (DataW H) → Bool := fun _ ds => decide (uptoBulkAll ds ≤ 1048576)
def OpenSpec.upto (s : _root_.Go.ChangeSpec) : _root_.Go.OpenSpec := { _root_.Go.OpenSpec.ofChange s with cond := some uptoSmall }

/-- 'porticolaw20.OutletRuns', WHERE WHAT IT READS IS OF BULK AT MOST 1048576: true; the input reads as it did. -/
def outletRunsUptoRow : OpenClaim := { program := "ytohhnebppppopaa", sum := "e1815c446289fe3cb9601ce71029f80eba9822f5942fa6010bf9794bc1ed81e2", func := "portico/porticolaw20.OutletRuns", spec := "outletRuns", inPlace := ["slices.overlaps[int]"], recurses := true, plainKeys := false, apart := false, narrowed := true }
def OutletRunsUptoSaid : Prop := outletRunsUptoRow.holds Try.pinned (OpenSpec.upto outletRunsSpec)

/-- 'porticolaw20.OutletDeep', WHERE WHAT IT READS IS OF BULK AT MOST 1048576: true; the input reads as it did. -/
def outletDeepUptoRow : OpenClaim := { program := "ytohhnebppppopaa", sum := "e1815c446289fe3cb9601ce71029f80eba9822f5942fa6010bf9794bc1ed81e2", func := "portico/porticolaw20.OutletDeep", spec := "outletDeep", inPlace := ["slices.overlaps[int]"], recurses := true, plainKeys := false, apart := false, narrowed := true }
def OutletDeepUptoSaid : Prop := outletDeepUptoRow.holds Try.pinned (OpenSpec.upto outletDeepSpec)

/-- 'porticolaw20.OutletNone', WHERE WHAT IT READS IS OF BULK AT MOST 1048576: true; the input reads as it did. -/
def outletNoneUptoRow : OpenClaim := { program := "ytohhnebppppopaa", sum := "e1815c446289fe3cb9601ce71029f80eba9822f5942fa6010bf9794bc1ed81e2", func := "portico/porticolaw20.OutletNone", spec := "outletNone", inPlace := ["slices.overlaps[int]"], recurses := true, plainKeys := false, apart := false, narrowed := true }
def OutletNoneUptoSaid : Prop := outletNoneUptoRow.holds Try.pinned (OpenSpec.upto outletNoneSpec)

end Rows
end Go.Proofs.Ytohhnebppppopaa
