/-
  No cell of these rows narrows 'for every input' (looked for: loops, veiled, ifaces, maps, wideKeys, modest, calm, conditions, laid).
  DERIVED. THE GIVEN ROWS OF THIS SEAT. 6 by the template 'for every input the law returns true; each argument reads behind the call as it read before'; 0 by the template 'total and deterministic' (their statements: YtlejcjgbkbmdmaaTotals.lean).
  GIVEN WITH THE SEED: the statements are not yours to turn. If you find one false, say at which input.
  Laid BY PROGRAM, IN A SANDBOX (cutbox-rows.mjs): the forced cells as the released guide's own fill.sh prints them over the translation 2c637114c256d3be… (all of the seat's roots in one cut). By AI agents, Wed Nov 11 2026. No macro, syntax, notation, axiom, sorry.
-/
import Derived.Test.YtlejcjgbkbmdmaaChecked
import GoSem.Claim
import GoSem.ClaimJoined
import GoSem.ClaimMapViews
import Derived.JoinedTies
import Derived.KernelRfl
namespace Go.Proofs.Ytlejcjgbkbmdmaa
/- THE CELL 'sum', in the pinned program and in every row, IS THE sha256 OF THE DUMP (.gsa) THAT YtlejcjgbkbmdmaaProg.lean LOADS. Nothing in Lean hashes anything: it is a label: what it is worth is what the hold of that sum in a sandbox is worth. -/
noncomputable def Try.pinned : Pinned := { name := "ytlejcjgbkbmdmaa", sum := "2c637114c256d3be2a860aa628c02a99705160c27097ce84e541d2399967aefc", checked := Try.checked }
namespace Rows
def none {H : Type} : Left H := { results := [], args := [] }

/-- 'klaxonlaw14.SpanRuns': WHATEVER THE INPUT: true; the input reads as it did. -/
def spanRunsSpec : ChangeSpec := { name := "spanRuns", fn := fun _ => fun
  | [] => { results := [.lit (.bool true)], args := [] }
  | _ => none }
def spanRunsRow : OpenClaim := { program := "ytlejcjgbkbmdmaa", sum := "2c637114c256d3be2a860aa628c02a99705160c27097ce84e541d2399967aefc", func := "klaxon/klaxonlaw14.SpanRuns", spec := "spanRuns", apart := false }
def SpanRunsSaid : Prop := spanRunsRow.holds Try.pinned (OpenSpec.ofChange spanRunsSpec)

/-- ITS FALSE NEIGHBOUR: 'it returns false'. Refute it at one input. -/
def spanRunsWrong : ChangeSpec := { name := "spanRuns", fn := fun _ => fun
  | [] => { results := [.lit (.bool false)], args := [] }
  | _ => none }
def SpanRunsWrongFalsely : Prop := spanRunsRow.holds Try.pinned (OpenSpec.ofChange spanRunsWrong)

/-- 'klaxonlaw14.SpanLaws': WHATEVER THE INPUT: true; the input reads as it did. -/
def spanLawsSpec : ChangeSpec := { name := "spanLaws", fn := fun _ => fun
  | [d1, d2, d3, d4] => { results := [.lit (.bool true)], args := [d1, d2, d3, d4] }
  | _ => none }
def spanLawsRow : OpenClaim := { program := "ytlejcjgbkbmdmaa", sum := "2c637114c256d3be2a860aa628c02a99705160c27097ce84e541d2399967aefc", func := "klaxon/klaxonlaw14.SpanLaws", spec := "spanLaws", apart := false }
def SpanLawsSaid : Prop := spanLawsRow.holds Try.pinned (OpenSpec.ofChange spanLawsSpec)

/-- ITS FALSE NEIGHBOUR: 'it returns false'. Refute it at one input. -/
def spanLawsWrong : ChangeSpec := { name := "spanLaws", fn := fun _ => fun
  | [d1, d2, d3, d4] => { results := [.lit (.bool false)], args := [d1, d2, d3, d4] }
  | _ => none }
def SpanLawsWrongFalsely : Prop := spanLawsRow.holds Try.pinned (OpenSpec.ofChange spanLawsWrong)

/-- 'klaxonlaw14.SpanMany': WHATEVER THE INPUT: true; the input reads as it did. -/
def spanManySpec : ChangeSpec := { name := "spanMany", fn := fun _ => fun
  | [d1, d2, d3] => { results := [.lit (.bool true)], args := [d1, d2, d3] }
  | _ => none }
def spanManyRow : OpenClaim := { program := "ytlejcjgbkbmdmaa", sum := "2c637114c256d3be2a860aa628c02a99705160c27097ce84e541d2399967aefc", func := "klaxon/klaxonlaw14.SpanMany", spec := "spanMany", apart := false }
def SpanManySaid : Prop := spanManyRow.holds Try.pinned (OpenSpec.ofChange spanManySpec)

/-- ITS FALSE NEIGHBOUR: 'it returns false'. Refute it at one input. -/
def spanManyWrong : ChangeSpec := { name := "spanMany", fn := fun _ => fun
  | [d1, d2, d3] => { results := [.lit (.bool false)], args := [d1, d2, d3] }
  | _ => none }
def SpanManyWrongFalsely : Prop := spanManyRow.holds Try.pinned (OpenSpec.ofChange spanManyWrong)

/-- 'klaxonlaw14.SpanTells': WHATEVER THE INPUT: true; the input reads as it did. -/
def spanTellsSpec : ChangeSpec := { name := "spanTells", fn := fun _ => fun
  | [d1, d2, d3, d4] => { results := [.lit (.bool true)], args := [d1, d2, d3, d4] }
  | _ => none }
def spanTellsRow : OpenClaim := { program := "ytlejcjgbkbmdmaa", sum := "2c637114c256d3be2a860aa628c02a99705160c27097ce84e541d2399967aefc", func := "klaxon/klaxonlaw14.SpanTells", spec := "spanTells", apart := false }
def SpanTellsSaid : Prop := spanTellsRow.holds Try.pinned (OpenSpec.ofChange spanTellsSpec)

/-- ITS FALSE NEIGHBOUR: 'it returns false'. Refute it at one input. -/
def spanTellsWrong : ChangeSpec := { name := "spanTells", fn := fun _ => fun
  | [d1, d2, d3, d4] => { results := [.lit (.bool false)], args := [d1, d2, d3, d4] }
  | _ => none }
def SpanTellsWrongFalsely : Prop := spanTellsRow.holds Try.pinned (OpenSpec.ofChange spanTellsWrong)

/-- 'klaxonlaw14.SpanTurns': WHATEVER THE INPUT: true; the input reads as it did. -/
def spanTurnsSpec : ChangeSpec := { name := "spanTurns", fn := fun _ => fun
  | [d1, d2, d3] => { results := [.lit (.bool true)], args := [d1, d2, d3] }
  | _ => none }
def spanTurnsRow : OpenClaim := { program := "ytlejcjgbkbmdmaa", sum := "2c637114c256d3be2a860aa628c02a99705160c27097ce84e541d2399967aefc", func := "klaxon/klaxonlaw14.SpanTurns", spec := "spanTurns", apart := false }
def SpanTurnsSaid : Prop := spanTurnsRow.holds Try.pinned (OpenSpec.ofChange spanTurnsSpec)

/-- ITS FALSE NEIGHBOUR: 'it returns false'. Refute it at one input. -/
def spanTurnsWrong : ChangeSpec := { name := "spanTurns", fn := fun _ => fun
  | [d1, d2, d3] => { results := [.lit (.bool false)], args := [d1, d2, d3] }
  | _ => none }
def SpanTurnsWrongFalsely : Prop := spanTurnsRow.holds Try.pinned (OpenSpec.ofChange spanTurnsWrong)

/-- 'klaxonlaw14.SpanEdges': WHATEVER THE INPUT: true; the input reads as it did. -/
def spanEdgesSpec : ChangeSpec := { name := "spanEdges", fn := fun _ => fun
  | [d1, d2, d3] => { results := [.lit (.bool true)], args := [d1, d2, d3] }
  | _ => none }
def spanEdgesRow : OpenClaim := { program := "ytlejcjgbkbmdmaa", sum := "2c637114c256d3be2a860aa628c02a99705160c27097ce84e541d2399967aefc", func := "klaxon/klaxonlaw14.SpanEdges", spec := "spanEdges", apart := false }
def SpanEdgesSaid : Prop := spanEdgesRow.holds Try.pinned (OpenSpec.ofChange spanEdgesSpec)

/-- ITS FALSE NEIGHBOUR: 'it returns false'. Refute it at one input. -/
def spanEdgesWrong : ChangeSpec := { name := "spanEdges", fn := fun _ => fun
  | [d1, d2, d3] => { results := [.lit (.bool false)], args := [d1, d2, d3] }
  | _ => none }
def SpanEdgesWrongFalsely : Prop := spanEdgesRow.holds Try.pinned (OpenSpec.ofChange spanEdgesWrong)

/- THE SECOND FORM. 'bulk': how many values and letters a reading holds, each counted each time it is reached (what is shared counts as often as it is met; a slice's spare places count too). A statement '..UptoSaid' is the law's where the arguments, and the package variables that the reading takes, are together of bulk at most 1048576: NARROWER than '..Said'. Prove '..Said' where nothing that the law and all that it calls make is longer than what came in: it says more and counts as full. Else prove '..UptoSaid'. A law counts once. -/
mutual
def uptoBulk {H : Type} : DataW H → Nat
  | .lit (.string bytes) => bytes.length + 1
  | .lit _ => 1
  | .nil => 1
  | .ptr d => uptoBulk d + 1
  | .slice elems spare => uptoBulkAll elems + uptoBulkAll spare + 1
  | .agg parts => uptoBulkAll parts + 1
  | .iface _ d => uptoBulk d + 1
  | .map entries => uptoBulkEntries entries + 1
  | .held _ => 1
def uptoBulkAll {H : Type} : List (DataW H) → Nat
  | [] => 0
  | d :: r => uptoBulk d + uptoBulkAll r
def uptoBulkEntries {H : Type} : List (Lit × DataW H) → Nat
  | [] => 0
  | x :: r => uptoBulkEntry x + uptoBulkEntries r
def uptoBulkEntry {H : Type} : Lit × DataW H → Nat
  | (.string bytes, d) => bytes.length + uptoBulk d + 1
  | (_, d) => uptoBulk d + 1
 end
def uptoSmall : (H : Type) → List (DataW H) → Bool := fun _ ds => decide (uptoBulkAll ds ≤ 1048576)
def OpenSpec.upto (s : _root_.Go.ChangeSpec) : _root_.Go.OpenSpec := { _root_.Go.OpenSpec.ofChange s with cond := some uptoSmall }

/-- 'klaxonlaw14.SpanRuns', WHERE WHAT IT READS IS OF BULK AT MOST 1048576: true; the input reads as it did. -/
def spanRunsUptoRow : OpenClaim := { program := "ytlejcjgbkbmdmaa", sum := "2c637114c256d3be2a860aa628c02a99705160c27097ce84e541d2399967aefc", func := "klaxon/klaxonlaw14.SpanRuns", spec := "spanRuns", apart := false, narrowed := true }
def SpanRunsUptoSaid : Prop := spanRunsUptoRow.holds Try.pinned (OpenSpec.upto spanRunsSpec)

/-- 'klaxonlaw14.SpanLaws', WHERE WHAT IT READS IS OF BULK AT MOST 1048576: true; the input reads as it did. -/
def spanLawsUptoRow : OpenClaim := { program := "ytlejcjgbkbmdmaa", sum := "2c637114c256d3be2a860aa628c02a99705160c27097ce84e541d2399967aefc", func := "klaxon/klaxonlaw14.SpanLaws", spec := "spanLaws", apart := false, narrowed := true }
def SpanLawsUptoSaid : Prop := spanLawsUptoRow.holds Try.pinned (OpenSpec.upto spanLawsSpec)

/-- 'klaxonlaw14.SpanMany', WHERE WHAT IT READS IS OF BULK AT MOST 1048576: true; the input reads as it did. -/
def spanManyUptoRow : OpenClaim := { program := "ytlejcjgbkbmdmaa", sum := "2c637114c256d3be2a860aa628c02a99705160c27097ce84e541d2399967aefc", func := "klaxon/klaxonlaw14.SpanMany", spec := "spanMany", apart := false, narrowed := true }
def SpanManyUptoSaid : Prop := spanManyUptoRow.holds Try.pinned (OpenSpec.upto spanManySpec)

/-- 'klaxonlaw14.SpanTells', WHERE WHAT IT READS IS OF BULK AT MOST 1048576: true; the input reads as it did. -/
def spanTellsUptoRow : OpenClaim := { program := "ytlejcjgbkbmdmaa", sum := "2c637114c256d3be2a860aa628c02a99705160c27097ce84e541d2399967aefc", func := "klaxon/klaxonlaw14.SpanTells", spec := "spanTells", apart := false, narrowed := true }
def SpanTellsUptoSaid : Prop := spanTellsUptoRow.holds Try.pinned (OpenSpec.upto spanTellsSpec)

/-- 'klaxonlaw14.SpanTurns', WHERE WHAT IT READS IS OF BULK AT MOST 1048576: true; the input reads as it did. -/
def spanTurnsUptoRow : OpenClaim := { program := "ytlejcjgbkbmdmaa", sum := "2c637114c256d3be2a860aa628c02a99705160c27097ce84e541d2399967aefc", func := "klaxon/klaxonlaw14.SpanTurns", spec := "spanTurns", apart := false, narrowed := true }
def SpanTurnsUptoSaid : Prop := spanTurnsUptoRow.holds Try.pinned (OpenSpec.upto spanTurnsSpec)

/-- 'klaxonlaw14.SpanEdges', WHERE WHAT IT READS IS OF BULK AT MOST 1048576: true; the input reads as it did. -/
def spanEdgesUptoRow : OpenClaim := { program := "ytlejcjgbkbmdmaa", sum := "2c637114c256d3be2a860aa628c02a99705160c27097ce84e541d2399967aefc", func := "klaxon/klaxonlaw14.SpanEdges", spec := "spanEdges", apart := false, narrowed := true }
def SpanEdgesUptoSaid : Prop := spanEdgesUptoRow.holds Try.pinned (OpenSpec.upto spanEdgesSpec)

end Rows
end Go.Proofs.Ytlejcjgbkbmdmaa
