/-
  DERIVED. GIVEN WITH THE SEED: THE CARDS: each row of YtlgofplbbmjdjaaGreatDoorRows.lean that lists a variable, with what it lists TIED to the program's text (the seventh form; the later family's looks); each row that meets fmt, with fmt's text TOLD by the authors' own Lean function (tested against real Go, not proved from fmt's source: count such statements apart). THE CARD IS WHAT COUNTS. Prove the row's statement (the work); the ties are given (YtlgofplbbmjdjaaGreatDoorTie.lean); close each card by the builder's one call (the guide's Derived/Test/ToyasCard.lean, 'card_holds'). Laid BY PROGRAM, IN A SANDBOX (cutbox-door.mjs). By AI agents, Wed Nov 11 2026. No macro, syntax, notation, axiom, sorry.
-/
import Derived.Test.YtlgofplbbmjdjaaGreatDoorRows
import GoSem.ClaimSeven
namespace Go.Proofs.YtlgofplbbmjdjaaGreatDoor
namespace Rows

/-- THE TIED CARD OF 'klaxonlaw6.StoreChanges'. -/
def storeChangesCard : Claim7 := { stood := { row := storeChangesRow, standIns := [], harness := (true, "68f2e064d1d413c8fd9e758b5adad40f5b5087e6a317645bc3a2f238cfd65b30"), looks := false }, kinds := [], alts := [], laidByText := true, laidKinds := [.data, .pinned], laidTests := true, laidLooks := .later }
def StoreChangesCardSaid : Prop := Claim7.holds Tryz.pinned (.plain (OpenSpec.ofChange storeChangesSpec)) storeChangesCard

/-- THE TIED CARD OF 'klaxonlaw6.StoreLimits'. -/
def storeLimitsCard : Claim7 := { stood := { row := storeLimitsRow, standIns := [], harness := (true, "68f2e064d1d413c8fd9e758b5adad40f5b5087e6a317645bc3a2f238cfd65b30"), looks := false }, kinds := [], alts := [], laidByText := true, laidKinds := [.data, .pinned], laidTests := true, laidLooks := .later }
def StoreLimitsCardSaid : Prop := Claim7.holds Tryz.pinned (.plain (OpenSpec.ofChange storeLimitsSpec)) storeLimitsCard

/-- THE TIED CARD OF 'klaxonlaw6.StoreCopies'. -/
def storeCopiesCard : Claim7 := { stood := { row := storeCopiesRow, standIns := [], harness := (true, "68f2e064d1d413c8fd9e758b5adad40f5b5087e6a317645bc3a2f238cfd65b30"), looks := false }, kinds := [], alts := [], laidByText := true, laidKinds := [.data, .pinned], laidTests := true, laidLooks := .later }
def StoreCopiesCardSaid : Prop := Claim7.holds Tryz.pinned (.plain (OpenSpec.ofChange storeCopiesSpec)) storeCopiesCard

/-- THE TIED CARD OF 'klaxonlaw10.EvalChanges'. -/
def evalChangesCard : Claim7 := { stood := { row := evalChangesRow, standIns := [], harness := (true, "68f2e064d1d413c8fd9e758b5adad40f5b5087e6a317645bc3a2f238cfd65b30"), looks := false }, kinds := [], alts := [], laidByText := true, laidKinds := [.data, .pinned], laidTests := true, laidLooks := .later }
def EvalChangesCardSaid : Prop := Claim7.holds Tryz.pinned (.plain (OpenSpec.ofChange evalChangesSpec)) evalChangesCard

/-- THE TIED CARD OF 'klaxonlaw10.EvalLaws'. -/
def evalLawsCard : Claim7 := { stood := { row := evalLawsRow, standIns := [], harness := (true, "68f2e064d1d413c8fd9e758b5adad40f5b5087e6a317645bc3a2f238cfd65b30"), looks := false }, kinds := [], alts := [], laidByText := true, laidKinds := [.data, .pinned], laidTests := true, laidLooks := .later }
def EvalLawsCardSaid : Prop := Claim7.holds Tryz.pinned (.plain (OpenSpec.ofChange evalLawsSpec)) evalLawsCard

/-- THE TIED CARD OF 'klaxonlaw10.EvalParts'. -/
def evalPartsCard : Claim7 := { stood := { row := evalPartsRow, standIns := [], harness := (true, "68f2e064d1d413c8fd9e758b5adad40f5b5087e6a317645bc3a2f238cfd65b30"), looks := false }, kinds := [], alts := [], laidByText := true, laidKinds := [.data, .pinned], laidTests := true, laidLooks := .later }
def EvalPartsCardSaid : Prop := Claim7.holds Tryz.pinned (.plain (OpenSpec.ofChange evalPartsSpec)) evalPartsCard

/-- THE TIED CARD OF 'klaxonlaw10.EvalTells'. -/
def evalTellsCard : Claim7 := { stood := { row := evalTellsRow, standIns := [], harness := (true, "68f2e064d1d413c8fd9e758b5adad40f5b5087e6a317645bc3a2f238cfd65b30"), looks := false }, kinds := [], alts := [], laidByText := true, laidKinds := [.data, .pinned], laidTests := true, laidLooks := .later }
def EvalTellsCardSaid : Prop := Claim7.holds Tryz.pinned (.plain (OpenSpec.ofChange evalTellsSpec)) evalTellsCard

/-- THE SECOND FORM's CARD OF 'klaxonlaw6.StoreChanges'. -/
def storeChangesUptoCard : Claim7 := { stood := { row := storeChangesUptoRow, standIns := [], harness := (true, "68f2e064d1d413c8fd9e758b5adad40f5b5087e6a317645bc3a2f238cfd65b30"), looks := false }, kinds := [], alts := [], laidByText := true, laidKinds := [.data, .pinned], laidTests := true, laidLooks := .later }
def StoreChangesUptoCardSaid : Prop := Claim7.holds Tryz.pinned (.plain (OpenSpec.upto storeChangesSpec)) storeChangesUptoCard

/-- THE SECOND FORM's CARD OF 'klaxonlaw6.StoreLimits'. -/
def storeLimitsUptoCard : Claim7 := { stood := { row := storeLimitsUptoRow, standIns := [], harness := (true, "68f2e064d1d413c8fd9e758b5adad40f5b5087e6a317645bc3a2f238cfd65b30"), looks := false }, kinds := [], alts := [], laidByText := true, laidKinds := [.data, .pinned], laidTests := true, laidLooks := .later }
def StoreLimitsUptoCardSaid : Prop := Claim7.holds Tryz.pinned (.plain (OpenSpec.upto storeLimitsSpec)) storeLimitsUptoCard

/-- THE SECOND FORM's CARD OF 'klaxonlaw6.StoreCopies'. -/
def storeCopiesUptoCard : Claim7 := { stood := { row := storeCopiesUptoRow, standIns := [], harness := (true, "68f2e064d1d413c8fd9e758b5adad40f5b5087e6a317645bc3a2f238cfd65b30"), looks := false }, kinds := [], alts := [], laidByText := true, laidKinds := [.data, .pinned], laidTests := true, laidLooks := .later }
def StoreCopiesUptoCardSaid : Prop := Claim7.holds Tryz.pinned (.plain (OpenSpec.upto storeCopiesSpec)) storeCopiesUptoCard

/-- THE SECOND FORM's CARD OF 'klaxonlaw10.EvalChanges'. -/
def evalChangesUptoCard : Claim7 := { stood := { row := evalChangesUptoRow, standIns := [], harness := (true, "68f2e064d1d413c8fd9e758b5adad40f5b5087e6a317645bc3a2f238cfd65b30"), looks := false }, kinds := [], alts := [], laidByText := true, laidKinds := [.data, .pinned], laidTests := true, laidLooks := .later }
def EvalChangesUptoCardSaid : Prop := Claim7.holds Tryz.pinned (.plain (OpenSpec.upto evalChangesSpec)) evalChangesUptoCard

/-- THE SECOND FORM's CARD OF 'klaxonlaw10.EvalLaws'. -/
def evalLawsUptoCard : Claim7 := { stood := { row := evalLawsUptoRow, standIns := [], harness := (true, "68f2e064d1d413c8fd9e758b5adad40f5b5087e6a317645bc3a2f238cfd65b30"), looks := false }, kinds := [], alts := [], laidByText := true, laidKinds := [.data, .pinned], laidTests := true, laidLooks := .later }
def EvalLawsUptoCardSaid : Prop := Claim7.holds Tryz.pinned (.plain (OpenSpec.upto evalLawsSpec)) evalLawsUptoCard

/-- THE SECOND FORM's CARD OF 'klaxonlaw10.EvalParts'. -/
def evalPartsUptoCard : Claim7 := { stood := { row := evalPartsUptoRow, standIns := [], harness := (true, "68f2e064d1d413c8fd9e758b5adad40f5b5087e6a317645bc3a2f238cfd65b30"), looks := false }, kinds := [], alts := [], laidByText := true, laidKinds := [.data, .pinned], laidTests := true, laidLooks := .later }
def EvalPartsUptoCardSaid : Prop := Claim7.holds Tryz.pinned (.plain (OpenSpec.upto evalPartsSpec)) evalPartsUptoCard

/-- THE SECOND FORM's CARD OF 'klaxonlaw10.EvalTells'. -/
def evalTellsUptoCard : Claim7 := { stood := { row := evalTellsUptoRow, standIns := [], harness := (true, "68f2e064d1d413c8fd9e758b5adad40f5b5087e6a317645bc3a2f238cfd65b30"), looks := false }, kinds := [], alts := [], laidByText := true, laidKinds := [.data, .pinned], laidTests := true, laidLooks := .later }
def EvalTellsUptoCardSaid : Prop := Claim7.holds Tryz.pinned (.plain (OpenSpec.upto evalTellsSpec)) evalTellsUptoCard
end Rows
end Go.Proofs.YtlgofplbbmjdjaaGreatDoor
