/-
  DERIVED. GIVEN WITH THE SEED: THE CARDS: each row of YtlgofplbbmjdjaaDoorRows.lean that lists a variable, with what it lists TIED to the program's text (the seventh form; the later family's looks); each row that meets fmt, with fmt's text TOLD by the authors' own Lean function (tested against real Go, not proved from fmt's source: count such statements apart). THE CARD IS WHAT COUNTS. Prove the row's statement (the work); the ties are given (YtlgofplbbmjdjaaDoorTie.lean); close each card by the builder's one call (the guide's Derived/Test/ToyasCard.lean, 'card_holds'). Laid BY PROGRAM, IN A SANDBOX (cutbox-door.mjs). By AI agents, Wed Nov 11 2026. No macro, syntax, notation, axiom, sorry.
-/
import Derived.Test.YtlgofplbbmjdjaaDoorRows
import GoSem.ClaimSeven
namespace Go.Proofs.YtlgofplbbmjdjaaDoor
namespace Rows

/-- THE TIED CARD OF 'klaxonlaw6.StoreRuns'. -/
def storeRunsCard : Claim7 := { stood := { row := storeRunsRow, standIns := [], harness := (true, "232857f831f31d62550d727c0a1a606a1f43779f79bcf8f698d68eb191f19bdc"), looks := false }, kinds := [], alts := [], laidByText := true, laidKinds := [.data, .pinned], laidTests := true, laidLooks := .later }
def StoreRunsCardSaid : Prop := Claim7.holds Tryd.pinned (.plain (OpenSpec.ofChange storeRunsSpec)) storeRunsCard

/-- THE SECOND FORM's CARD OF 'klaxonlaw6.StoreRuns'. -/
def storeRunsUptoCard : Claim7 := { stood := { row := storeRunsUptoRow, standIns := [], harness := (true, "232857f831f31d62550d727c0a1a606a1f43779f79bcf8f698d68eb191f19bdc"), looks := false }, kinds := [], alts := [], laidByText := true, laidKinds := [.data, .pinned], laidTests := true, laidLooks := .later }
def StoreRunsUptoCardSaid : Prop := Claim7.holds Tryd.pinned (.plain (OpenSpec.upto storeRunsSpec)) storeRunsUptoCard
end Rows
end Go.Proofs.YtlgofplbbmjdjaaDoor
