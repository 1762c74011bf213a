/-
  DERIVED. GIVEN WITH THE SEED: THE CARDS: each row of YtcabgmhgjajbgaaDoorRows.lean that lists a variable, with what it lists TIED to the program's text (the seventh form; the later family's looks); each row that meets fmt, with fmt's text TOLD by the authors' own Lean function (tested against real Go, not proved from fmt's source: count such statements apart). THE CARD IS WHAT COUNTS. Prove the row's statement (the work); the ties are given (YtcabgmhgjajbgaaDoorTie.lean); close each card by the builder's one call (the guide's Derived/Test/ToyasCard.lean, 'card_holds'). Laid BY PROGRAM, IN A SANDBOX (cutbox-door.mjs). By AI agents, Wed Nov 11 2026. No macro, syntax, notation, axiom, sorry.
-/
import Derived.Test.YtcabgmhgjajbgaaDoorRows
import GoSem.ClaimSeven
namespace Go.Proofs.YtcabgmhgjajbgaaDoor
namespace Rows

/-- THE TIED CARD OF 'klaxonlaw17.RouteRuns'. -/
def routeRunsCard : Claim7 := { stood := { row := routeRunsRow, standIns := [], harness := (true, "b649de8842a1e3f773fc667f176698548ef6a46790b32e374b1c6567d64300d7"), looks := false }, kinds := [], alts := [], laidByText := true, laidKinds := [.data, .pinned], laidTests := true, laidLooks := .later }
def RouteRunsCardSaid : Prop := Claim7.holds Tryd.pinned (.plain (OpenSpec.ofChange routeRunsSpec)) routeRunsCard

/-- THE TIED CARD OF 'klaxonlaw6.StoreRuns'. -/
def storeRunsCard : Claim7 := { stood := { row := storeRunsRow, standIns := [], harness := (true, "b649de8842a1e3f773fc667f176698548ef6a46790b32e374b1c6567d64300d7"), looks := false }, kinds := [], alts := [], laidByText := true, laidKinds := [.data, .pinned], laidTests := true, laidLooks := .later }
def StoreRunsCardSaid : Prop := Claim7.holds Tryd.pinned (.plain (OpenSpec.ofChange storeRunsSpec)) storeRunsCard

/-- THE SECOND FORM's CARD OF 'klaxonlaw17.RouteRuns'. -/
def routeRunsUptoCard : Claim7 := { stood := { row := routeRunsUptoRow, standIns := [], harness := (true, "b649de8842a1e3f773fc667f176698548ef6a46790b32e374b1c6567d64300d7"), looks := false }, kinds := [], alts := [], laidByText := true, laidKinds := [.data, .pinned], laidTests := true, laidLooks := .later }
def RouteRunsUptoCardSaid : Prop := Claim7.holds Tryd.pinned (.plain (OpenSpec.upto routeRunsSpec)) routeRunsUptoCard

/-- THE SECOND FORM's CARD OF 'klaxonlaw6.StoreRuns'. -/
def storeRunsUptoCard : Claim7 := { stood := { row := storeRunsUptoRow, standIns := [], harness := (true, "b649de8842a1e3f773fc667f176698548ef6a46790b32e374b1c6567d64300d7"), looks := false }, kinds := [], alts := [], laidByText := true, laidKinds := [.data, .pinned], laidTests := true, laidLooks := .later }
def StoreRunsUptoCardSaid : Prop := Claim7.holds Tryd.pinned (.plain (OpenSpec.upto storeRunsSpec)) storeRunsUptoCard
end Rows
end Go.Proofs.YtcabgmhgjajbgaaDoor
