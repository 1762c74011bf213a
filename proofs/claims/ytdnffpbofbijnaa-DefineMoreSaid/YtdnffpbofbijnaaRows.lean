/-
  No cell of these rows narrows 'for every input' (looked for: loops, veiled, ifaces, maps, wideKeys, modest, calm, conditions, laid).
  DERIVED. THE GIVEN ROWS OF THIS SEAT. 4 by the template 'for every input the law returns true; each argument reads behind the call as it read before'; 0 by the template 'total and deterministic' (their statements: YtdnffpbofbijnaaTotals.lean).
  GIVEN WITH THE SEED: the statements are not yours to turn. If you find one false, say at which input.
  Laid BY PROGRAM, IN A SANDBOX (cutbox-rows.mjs): the forced cells as the released guide's own fill.sh prints them over the translation e208a0745bd40d99… (all of the seat's roots in one cut). By AI agents, Wed Nov 11 2026. No macro, syntax, notation, axiom, sorry.
-/
import Derived.Test.YtdnffpbofbijnaaChecked
import GoSem.Claim
import GoSem.ClaimJoined
import GoSem.ClaimMapViews
import Derived.JoinedTies
import Derived.KernelRfl
namespace Go.Proofs.Ytdnffpbofbijnaa
/- THE CELL 'sum', in the pinned program and in every row, IS THE sha256 OF THE DUMP (.gsa) THAT YtdnffpbofbijnaaProg.lean LOADS. Nothing in Lean hashes anything: it is a label: what it is worth is what the hold of that sum in a sandbox is worth. -/
noncomputable def Try.pinned : Pinned := { name := "ytdnffpbofbijnaa", sum := "e208a0745bd40d99380b599c202174b9e05697394e0e7cea945c2305483bc72c", checked := Try.checked }
namespace Rows
def none {H : Type} : Left H := { results := [], args := [] }

/-- 'klaxonlaw16.DefineRuns': WHATEVER THE INPUT: true; the input reads as it did. -/
def defineRunsSpec : ChangeSpec := { name := "defineRuns", fn := fun _ => fun
  | [] => { results := [.lit (.bool true)], args := [] }
  | _ => none }
def defineRunsRow : OpenClaim := { program := "ytdnffpbofbijnaa", sum := "e208a0745bd40d99380b599c202174b9e05697394e0e7cea945c2305483bc72c", func := "klaxon/klaxonlaw16.DefineRuns", spec := "defineRuns", recurses := true, apart := false }
def DefineRunsSaid : Prop := defineRunsRow.holds Try.pinned (OpenSpec.ofChange defineRunsSpec)

/-- ITS FALSE NEIGHBOUR: 'it returns false'. Refute it at one input. -/
def defineRunsWrong : ChangeSpec := { name := "defineRuns", fn := fun _ => fun
  | [] => { results := [.lit (.bool false)], args := [] }
  | _ => none }
def DefineRunsWrongFalsely : Prop := defineRunsRow.holds Try.pinned (OpenSpec.ofChange defineRunsWrong)

/-- 'klaxonlaw16.DefineTells': WHATEVER THE INPUT: true; the input reads as it did. -/
def defineTellsSpec : ChangeSpec := { name := "defineTells", fn := fun _ => fun
  | [d1, d2, d3, d4] => { results := [.lit (.bool true)], args := [d1, d2, d3, d4] }
  | _ => none }
def defineTellsRow : OpenClaim := { program := "ytdnffpbofbijnaa", sum := "e208a0745bd40d99380b599c202174b9e05697394e0e7cea945c2305483bc72c", func := "klaxon/klaxonlaw16.DefineTells", spec := "defineTells", recurses := true, apart := false }
def DefineTellsSaid : Prop := defineTellsRow.holds Try.pinned (OpenSpec.ofChange defineTellsSpec)

/-- ITS FALSE NEIGHBOUR: 'it returns false'. Refute it at one input. -/
def defineTellsWrong : ChangeSpec := { name := "defineTells", fn := fun _ => fun
  | [d1, d2, d3, d4] => { results := [.lit (.bool false)], args := [d1, d2, d3, d4] }
  | _ => none }
def DefineTellsWrongFalsely : Prop := defineTellsRow.holds Try.pinned (OpenSpec.ofChange defineTellsWrong)

/-- 'klaxonlaw16.DefineMore': WHATEVER THE INPUT: true; the input reads as it did. -/
def defineMoreSpec : ChangeSpec := { name := "defineMore", fn := fun _ => fun
  | [d1, d2, d3, d4, d5, d6] => { results := [.lit (.bool true)], args := [d1, d2, d3, d4, d5, d6] }
  | _ => none }
def defineMoreRow : OpenClaim := { program := "ytdnffpbofbijnaa", sum := "e208a0745bd40d99380b599c202174b9e05697394e0e7cea945c2305483bc72c", func := "klaxon/klaxonlaw16.DefineMore", spec := "defineMore", recurses := true, apart := false }
def DefineMoreSaid : Prop := defineMoreRow.holds Try.pinned (OpenSpec.ofChange defineMoreSpec)

/-- ITS FALSE NEIGHBOUR: 'it returns false'. Refute it at one input. -/
def defineMoreWrong : ChangeSpec := { name := "defineMore", fn := fun _ => fun
  | [d1, d2, d3, d4, d5, d6] => { results := [.lit (.bool false)], args := [d1, d2, d3, d4, d5, d6] }
  | _ => none }
def DefineMoreWrongFalsely : Prop := defineMoreRow.holds Try.pinned (OpenSpec.ofChange defineMoreWrong)

/-- 'klaxonlaw16.DefineLife': WHATEVER THE INPUT: true; the input reads as it did. -/
def defineLifeSpec : ChangeSpec := { name := "defineLife", fn := fun _ => fun
  | [d1, d2, d3, d4] => { results := [.lit (.bool true)], args := [d1, d2, d3, d4] }
  | _ => none }
def defineLifeRow : OpenClaim := { program := "ytdnffpbofbijnaa", sum := "e208a0745bd40d99380b599c202174b9e05697394e0e7cea945c2305483bc72c", func := "klaxon/klaxonlaw16.DefineLife", spec := "defineLife", recurses := true, apart := false }
def DefineLifeSaid : Prop := defineLifeRow.holds Try.pinned (OpenSpec.ofChange defineLifeSpec)

/-- ITS FALSE NEIGHBOUR: 'it returns false'. Refute it at one input. -/
def defineLifeWrong : ChangeSpec := { name := "defineLife", fn := fun _ => fun
  | [d1, d2, d3, d4] => { results := [.lit (.bool false)], args := [d1, d2, d3, d4] }
  | _ => none }
def DefineLifeWrongFalsely : Prop := defineLifeRow.holds Try.pinned (OpenSpec.ofChange defineLifeWrong)

/- THE SECOND FORM. 'bulk': how many values and letters a reading holds, each counted each time it is reached (what is shared counts as often as it is met; a slice's spare places count too). A statement '..UptoSaid' is the law's where the arguments, and the package variables that the reading takes, are together of bulk at most 1048576: NARROWER than '..Said'. Prove '..Said' where nothing that the law and all that it calls make is longer than what came in: it says more and counts as full. Else prove '..UptoSaid'. A law counts once. -/
mutual
def uptoBulk {H : Type} : DataW H → Nat
  | .lit (.string bytes) => bytes.length + 1
  | .lit _ => 1
  | .nil => 1
  | .ptr d => uptoBulk d + 1
  | .slice elems spare => uptoBulkAll elems + uptoBulkAll spare + 1
  | .agg parts => uptoBulkAll parts + 1
  | .iface _ d => uptoBulk d + 1
  | .map entries => uptoBulkEntries entries + 1
  | .held _ => 1
def uptoBulkAll {H : Type} : List (DataW H) → Nat
  | [] => 0
  | d :: r => uptoBulk d + uptoBulkAll r
def uptoBulkEntries {H : Type} : List (Lit × DataW H) → Nat
  | [] => 0
  | x :: r => uptoBulkEntry x + uptoBulkEntries r
def uptoBulkEntry {H : Type} : Lit × DataW H → Nat
  | (.string bytes, d) => bytes.length + uptoBulk d + 1
  | (_, d) => uptoBulk d + 1
 end
def uptoSmall : (H : Type) → List (DataW H) → Bool := fun _ ds => decide (uptoBulkAll ds ≤ 1048576)
def OpenSpec.upto (s : _root_.Go.ChangeSpec) : _root_.Go.OpenSpec := { _root_.Go.OpenSpec.ofChange s with cond := some uptoSmall }

/-- 'klaxonlaw16.DefineRuns', WHERE WHAT IT READS IS OF BULK AT MOST 1048576: true; the input reads as it did. -/
def defineRunsUptoRow : OpenClaim := { program := "ytdnffpbofbijnaa", sum := "e208a0745bd40d99380b599c202174b9e05697394e0e7cea945c2305483bc72c", func := "klaxon/klaxonlaw16.DefineRuns", spec := "defineRuns", recurses := true, apart := false, narrowed := true }
def DefineRunsUptoSaid : Prop := defineRunsUptoRow.holds Try.pinned (OpenSpec.upto defineRunsSpec)

/-- 'klaxonlaw16.DefineTells', WHERE WHAT IT READS IS OF BULK AT MOST 1048576: true; the input reads as it did. -/
def defineTellsUptoRow : OpenClaim := { program := "ytdnffpbofbijnaa", sum := "e208a0745bd40d99380b599c202174b9e05697394e0e7cea945c2305483bc72c", func := "klaxon/klaxonlaw16.DefineTells", spec := "defineTells", recurses := true, apart := false, narrowed := true }
def DefineTellsUptoSaid : Prop := defineTellsUptoRow.holds Try.pinned (OpenSpec.upto defineTellsSpec)

/-- 'klaxonlaw16.DefineMore', WHERE WHAT IT READS IS OF BULK AT MOST 1048576: true; the input reads as it did. -/
def defineMoreUptoRow : OpenClaim := { program := "ytdnffpbofbijnaa", sum := "e208a0745bd40d99380b599c202174b9e05697394e0e7cea945c2305483bc72c", func := "klaxon/klaxonlaw16.DefineMore", spec := "defineMore", recurses := true, apart := false, narrowed := true }
def DefineMoreUptoSaid : Prop := defineMoreUptoRow.holds Try.pinned (OpenSpec.upto defineMoreSpec)

/-- 'klaxonlaw16.DefineLife', WHERE WHAT IT READS IS OF BULK AT MOST 1048576: true; the input reads as it did. -/
def defineLifeUptoRow : OpenClaim := { program := "ytdnffpbofbijnaa", sum := "e208a0745bd40d99380b599c202174b9e05697394e0e7cea945c2305483bc72c", func := "klaxon/klaxonlaw16.DefineLife", spec := "defineLife", recurses := true, apart := false, narrowed := true }
def DefineLifeUptoSaid : Prop := defineLifeUptoRow.holds Try.pinned (OpenSpec.upto defineLifeSpec)

end Rows
end Go.Proofs.Ytdnffpbofbijnaa
