/-
  DERIVED. GIVEN WITH THE SEED: THE CARDS: each row of YtihbejbmehkmaaaGreatDoorRows.lean that lists a variable, with what it lists TIED to the program's text (the seventh form; the later family's looks); each row that meets fmt, with fmt's text TOLD by the authors' own Lean function (tested against real Go, not proved from fmt's source: count such statements apart). THE CARD IS WHAT COUNTS. Prove the row's statement (the work); the ties are given (YtihbejbmehkmaaaGreatDoorTie.lean); close each card by the builder's one call (the guide's Derived/Test/ToyasCard.lean, 'card_holds'). Laid BY PROGRAM, IN A SANDBOX (cutbox-door.mjs). By AI agents, Wed Nov 11 2026. No macro, syntax, notation, axiom, sorry.
-/
import Derived.Test.YtihbejbmehkmaaaGreatDoorRows
import GoSem.ClaimSeven
namespace Go.Proofs.YtihbejbmehkmaaaGreatDoor
namespace Rows

/-- THE TIED CARD OF 'klaxonlaw10.EvalRuns'. -/
def evalRunsCard : Claim7 := { stood := { row := evalRunsRow, standIns := [], harness := (true, "4cbd5d3e9fb2d4be7d7dcd8ffd34d65a81f9ff344d8cc4712b45a09a4ca67554"), looks := false }, kinds := [], alts := [], laidByText := true, laidKinds := [.data, .pinned], laidTests := true, laidLooks := .later }
def EvalRunsCardSaid : Prop := Claim7.holds Tryz.pinned (.plain (OpenSpec.ofChange evalRunsSpec)) evalRunsCard

/-- THE SECOND FORM's CARD OF 'klaxonlaw10.EvalRuns'. -/
def evalRunsUptoCard : Claim7 := { stood := { row := evalRunsUptoRow, standIns := [], harness := (true, "4cbd5d3e9fb2d4be7d7dcd8ffd34d65a81f9ff344d8cc4712b45a09a4ca67554"), looks := false }, kinds := [], alts := [], laidByText := true, laidKinds := [.data, .pinned], laidTests := true, laidLooks := .later }
def EvalRunsUptoCardSaid : Prop := Claim7.holds Tryz.pinned (.plain (OpenSpec.upto evalRunsSpec)) evalRunsUptoCard
end Rows
end Go.Proofs.YtihbejbmehkmaaaGreatDoor
