/-
  DERIVED. GIVEN WITH THE SEED: THE CARDS: each row of YtonojkcnencodaaDoorRows.lean that lists a variable, with what it lists TIED to the program's text (the seventh form; the later family's looks); each row that meets fmt, with fmt's text TOLD by the authors' own Lean function (tested against real Go, not proved from fmt's source: count such statements apart). THE CARD IS WHAT COUNTS. Prove the row's statement (the work); the ties are given (YtonojkcnencodaaDoorTie.lean); close each card by the builder's one call (the guide's Derived/Test/ToyasCard.lean, 'card_holds'). Laid BY PROGRAM, IN A SANDBOX (cutbox-door.mjs). By AI agents, Wed Nov 11 2026. No macro, syntax, notation, axiom, sorry.
-/
import Derived.Test.YtonojkcnencodaaDoorRows
import GoSem.ClaimSeven
namespace Go.Proofs.YtonojkcnencodaaDoor
namespace Rows

/-- THE TIED CARD OF 'klaxonlaw17.RouteTells'. -/
def routeTellsCard : Claim7 := { stood := { row := routeTellsRow, standIns := [], harness := (true, "59f2308c9f538e16a7cf663606cbc45c0dc96fe1cb0764cc38f826bb47a01acf"), looks := false }, kinds := [], alts := [], laidByText := true, laidKinds := [.data, .pinned], laidTests := true, laidLooks := .later }
def RouteTellsCardSaid : Prop := Claim7.holds Tryd.pinned (.plain (OpenSpec.ofChange routeTellsSpec)) routeTellsCard

/-- THE TIED CARD OF 'klaxonlaw17.RouteAll'. -/
def routeAllCard : Claim7 := { stood := { row := routeAllRow, standIns := [], harness := (true, "59f2308c9f538e16a7cf663606cbc45c0dc96fe1cb0764cc38f826bb47a01acf"), looks := false }, kinds := [], alts := [], laidByText := true, laidKinds := [.data, .pinned], laidTests := true, laidLooks := .later }
def RouteAllCardSaid : Prop := Claim7.holds Tryd.pinned (.plain (OpenSpec.ofChange routeAllSpec)) routeAllCard

/-- THE TIED CARD OF 'klaxonlaw17.RouteGoes'. -/
def routeGoesCard : Claim7 := { stood := { row := routeGoesRow, standIns := [], harness := (true, "59f2308c9f538e16a7cf663606cbc45c0dc96fe1cb0764cc38f826bb47a01acf"), looks := false }, kinds := [], alts := [], laidByText := true, laidKinds := [.data, .pinned], laidTests := true, laidLooks := .later }
def RouteGoesCardSaid : Prop := Claim7.holds Tryd.pinned (.plain (OpenSpec.ofChange routeGoesSpec)) routeGoesCard

/-- THE SECOND FORM's CARD OF 'klaxonlaw17.RouteTells'. -/
def routeTellsUptoCard : Claim7 := { stood := { row := routeTellsUptoRow, standIns := [], harness := (true, "59f2308c9f538e16a7cf663606cbc45c0dc96fe1cb0764cc38f826bb47a01acf"), looks := false }, kinds := [], alts := [], laidByText := true, laidKinds := [.data, .pinned], laidTests := true, laidLooks := .later }
def RouteTellsUptoCardSaid : Prop := Claim7.holds Tryd.pinned (.plain (OpenSpec.upto routeTellsSpec)) routeTellsUptoCard

/-- THE SECOND FORM's CARD OF 'klaxonlaw17.RouteAll'. -/
def routeAllUptoCard : Claim7 := { stood := { row := routeAllUptoRow, standIns := [], harness := (true, "59f2308c9f538e16a7cf663606cbc45c0dc96fe1cb0764cc38f826bb47a01acf"), looks := false }, kinds := [], alts := [], laidByText := true, laidKinds := [.data, .pinned], laidTests := true, laidLooks := .later }
def RouteAllUptoCardSaid : Prop := Claim7.holds Tryd.pinned (.plain (OpenSpec.upto routeAllSpec)) routeAllUptoCard

/-- THE SECOND FORM's CARD OF 'klaxonlaw17.RouteGoes'. -/
def routeGoesUptoCard : Claim7 := { stood := { row := routeGoesUptoRow, standIns := [], harness := (true, "59f2308c9f538e16a7cf663606cbc45c0dc96fe1cb0764cc38f826bb47a01acf"), looks := false }, kinds := [], alts := [], laidByText := true, laidKinds := [.data, .pinned], laidTests := true, laidLooks := .later }
def RouteGoesUptoCardSaid : Prop := Claim7.holds Tryd.pinned (.plain (OpenSpec.upto routeGoesSpec)) routeGoesUptoCard
end Rows
end Go.Proofs.YtonojkcnencodaaDoor
