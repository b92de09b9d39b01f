/-
  DERIVED. GIVEN WITH THE SEED: THE CARDS: each row of YtdelaagbhhnniaaGreatDoorRows.lean that lists a variable, with what it lists TIED to the program's text (the seventh form; the later family's looks); each row that meets fmt, with fmt's text TOLD by the authors' own Lean function (tested against real Go, not proved from fmt's source: count such statements apart). THE CARD IS WHAT COUNTS. Prove the row's statement (the work); the ties are given (YtdelaagbhhnniaaGreatDoorTie.lean); close each card by the builder's one call (the guide's Derived/Test/ToyasCard.lean, 'card_holds'). Laid BY PROGRAM, IN A SANDBOX (cutbox-door.mjs). By AI agents, Wed Nov 11 2026. No macro, syntax, notation, axiom, sorry.
-/
import Derived.Test.YtdelaagbhhnniaaGreatDoorRows
import GoSem.ClaimSeven
namespace Go.Proofs.YtdelaagbhhnniaaGreatDoor
namespace Rows

/-- THE TIED CARD OF 'porticolaw8.RouteRuns'. -/
def routeRunsCard : Claim7 := { stood := { row := routeRunsRow, standIns := [], harness := (true, "ad985c2eb45bd3dae547a572dee0085bad14590597179c55f536f0d3f007774b"), looks := false }, kinds := [], alts := [], laidByText := true, laidKinds := [.data, .pinned], laidTests := true, laidLooks := .later }
def RouteRunsCardSaid : Prop := Claim7.holds Tryz.pinned (.plain (OpenSpec.ofChange routeRunsSpec)) routeRunsCard

/-- THE TIED CARD OF 'porticolaw8.RouteTells'. -/
def routeTellsCard : Claim7 := { stood := { row := routeTellsRow, standIns := [], harness := (true, "ad985c2eb45bd3dae547a572dee0085bad14590597179c55f536f0d3f007774b"), looks := false }, kinds := [], alts := [], laidByText := true, laidKinds := [.data, .pinned], laidTests := true, laidLooks := .later }
def RouteTellsCardSaid : Prop := Claim7.holds Tryz.pinned (.plain (OpenSpec.ofChange routeTellsSpec)) routeTellsCard

/-- THE TIED CARD OF 'porticolaw8.RouteChains'. -/
def routeChainsCard : Claim7 := { stood := { row := routeChainsRow, standIns := [], harness := (true, "ad985c2eb45bd3dae547a572dee0085bad14590597179c55f536f0d3f007774b"), looks := false }, kinds := [], alts := [], laidByText := true, laidKinds := [.data, .pinned], laidTests := true, laidLooks := .later }
def RouteChainsCardSaid : Prop := Claim7.holds Tryz.pinned (.plain (OpenSpec.ofChange routeChainsSpec)) routeChainsCard

/-- THE TIED CARD OF 'porticolaw8.RouteTurned'. -/
def routeTurnedCard : Claim7 := { stood := { row := routeTurnedRow, standIns := [], harness := (true, "ad985c2eb45bd3dae547a572dee0085bad14590597179c55f536f0d3f007774b"), looks := false }, kinds := [], alts := [], laidByText := true, laidKinds := [.data, .pinned], laidTests := true, laidLooks := .later }
def RouteTurnedCardSaid : Prop := Claim7.holds Tryz.pinned (.plain (OpenSpec.ofChange routeTurnedSpec)) routeTurnedCard

/-- THE TIED CARD OF 'porticolaw10.TravelRuns'. -/
def travelRunsCard : Claim7 := { stood := { row := travelRunsRow, standIns := [], harness := (true, "ad985c2eb45bd3dae547a572dee0085bad14590597179c55f536f0d3f007774b"), looks := false }, kinds := [], alts := [], laidByText := true, laidKinds := [.data, .pinned], laidTests := true, laidLooks := .later }
def TravelRunsCardSaid : Prop := Claim7.holds Tryz.pinned (.plain (OpenSpec.ofChange travelRunsSpec)) travelRunsCard

/-- THE SECOND FORM's CARD OF 'porticolaw8.RouteRuns'. -/
def routeRunsUptoCard : Claim7 := { stood := { row := routeRunsUptoRow, standIns := [], harness := (true, "ad985c2eb45bd3dae547a572dee0085bad14590597179c55f536f0d3f007774b"), looks := false }, kinds := [], alts := [], laidByText := true, laidKinds := [.data, .pinned], laidTests := true, laidLooks := .later }
def RouteRunsUptoCardSaid : Prop := Claim7.holds Tryz.pinned (.plain (OpenSpec.upto routeRunsSpec)) routeRunsUptoCard

/-- THE SECOND FORM's CARD OF 'porticolaw8.RouteTells'. -/
def routeTellsUptoCard : Claim7 := { stood := { row := routeTellsUptoRow, standIns := [], harness := (true, "ad985c2eb45bd3dae547a572dee0085bad14590597179c55f536f0d3f007774b"), looks := false }, kinds := [], alts := [], laidByText := true, laidKinds := [.data, .pinned], laidTests := true, laidLooks := .later }
def RouteTellsUptoCardSaid : Prop := Claim7.holds Tryz.pinned (.plain (OpenSpec.upto routeTellsSpec)) routeTellsUptoCard

/-- THE SECOND FORM's CARD OF 'porticolaw8.RouteChains'. -/
def routeChainsUptoCard : Claim7 := { stood := { row := routeChainsUptoRow, standIns := [], harness := (true, "ad985c2eb45bd3dae547a572dee0085bad14590597179c55f536f0d3f007774b"), looks := false }, kinds := [], alts := [], laidByText := true, laidKinds := [.data, .pinned], laidTests := true, laidLooks := .later }
def RouteChainsUptoCardSaid : Prop := Claim7.holds Tryz.pinned (.plain (OpenSpec.upto routeChainsSpec)) routeChainsUptoCard

/-- THE SECOND FORM's CARD OF 'porticolaw8.RouteTurned'. -/
def routeTurnedUptoCard : Claim7 := { stood := { row := routeTurnedUptoRow, standIns := [], harness := (true, "ad985c2eb45bd3dae547a572dee0085bad14590597179c55f536f0d3f007774b"), looks := false }, kinds := [], alts := [], laidByText := true, laidKinds := [.data, .pinned], laidTests := true, laidLooks := .later }
def RouteTurnedUptoCardSaid : Prop := Claim7.holds Tryz.pinned (.plain (OpenSpec.upto routeTurnedSpec)) routeTurnedUptoCard

/-- THE SECOND FORM's CARD OF 'porticolaw10.TravelRuns'. -/
def travelRunsUptoCard : Claim7 := { stood := { row := travelRunsUptoRow, standIns := [], harness := (true, "ad985c2eb45bd3dae547a572dee0085bad14590597179c55f536f0d3f007774b"), looks := false }, kinds := [], alts := [], laidByText := true, laidKinds := [.data, .pinned], laidTests := true, laidLooks := .later }
def TravelRunsUptoCardSaid : Prop := Claim7.holds Tryz.pinned (.plain (OpenSpec.upto travelRunsSpec)) travelRunsUptoCard
end Rows
end Go.Proofs.YtdelaagbhhnniaaGreatDoor
