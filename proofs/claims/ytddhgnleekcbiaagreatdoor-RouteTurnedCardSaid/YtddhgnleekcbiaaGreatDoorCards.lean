/-
  DERIVED. GIVEN WITH THE SEED: THE CARDS: each row of YtddhgnleekcbiaaGreatDoorRows.lean that lists a variable, with what it lists TIED to the program's text (the seventh form; the later family's looks); each row that meets fmt, with fmt's text TOLD by the authors' own Lean function (tested against real Go, not proved from fmt's source: count such statements apart). THE CARD IS WHAT COUNTS. Prove the row's statement (the work); the ties are given (YtddhgnleekcbiaaGreatDoorTie.lean); close each card by the builder's one call (the guide's Derived/Test/ToyasCard.lean, 'card_holds'). Laid BY PROGRAM, IN A SANDBOX (cutbox-door.mjs). By AI agents, Wed Nov 11 2026. No macro, syntax, notation, axiom, sorry.
-/
import Derived.Test.YtddhgnleekcbiaaGreatDoorRows
import GoSem.ClaimSeven
namespace Go.Proofs.YtddhgnleekcbiaaGreatDoor
namespace Rows

/-- THE TIED CARD OF 'porticolaw8.RouteChains'. -/
def routeChainsCard : Claim7 := { stood := { row := routeChainsRow, standIns := [], harness := (true, "f10a5600b8b1f0c4af14f4f3149b70585f584a1acb53eebb3805857b5fe36008"), looks := false }, kinds := [], alts := [], laidByText := true, laidKinds := [.data, .pinned], laidTests := true, laidLooks := .later }
def RouteChainsCardSaid : Prop := Claim7.holds Tryz.pinned (.plain (OpenSpec.ofChange routeChainsSpec)) routeChainsCard

/-- THE TIED CARD OF 'porticolaw8.RouteTurned'. -/
def routeTurnedCard : Claim7 := { stood := { row := routeTurnedRow, standIns := [], harness := (true, "f10a5600b8b1f0c4af14f4f3149b70585f584a1acb53eebb3805857b5fe36008"), looks := false }, kinds := [], alts := [], laidByText := true, laidKinds := [.data, .pinned], laidTests := true, laidLooks := .later }
def RouteTurnedCardSaid : Prop := Claim7.holds Tryz.pinned (.plain (OpenSpec.ofChange routeTurnedSpec)) routeTurnedCard

/-- THE SECOND FORM's CARD OF 'porticolaw8.RouteChains'. -/
def routeChainsUptoCard : Claim7 := { stood := { row := routeChainsUptoRow, standIns := [], harness := (true, "f10a5600b8b1f0c4af14f4f3149b70585f584a1acb53eebb3805857b5fe36008"), looks := false }, kinds := [], alts := [], laidByText := true, laidKinds := [.data, .pinned], laidTests := true, laidLooks := .later }
def RouteChainsUptoCardSaid : Prop := Claim7.holds Tryz.pinned (.plain (OpenSpec.upto routeChainsSpec)) routeChainsUptoCard

/-- THE SECOND FORM's CARD OF 'porticolaw8.RouteTurned'. -/
def routeTurnedUptoCard : Claim7 := { stood := { row := routeTurnedUptoRow, standIns := [], harness := (true, "f10a5600b8b1f0c4af14f4f3149b70585f584a1acb53eebb3805857b5fe36008"), looks := false }, kinds := [], alts := [], laidByText := true, laidKinds := [.data, .pinned], laidTests := true, laidLooks := .later }
def RouteTurnedUptoCardSaid : Prop := Claim7.holds Tryz.pinned (.plain (OpenSpec.upto routeTurnedSpec)) routeTurnedUptoCard
end Rows
end Go.Proofs.YtddhgnleekcbiaaGreatDoor
