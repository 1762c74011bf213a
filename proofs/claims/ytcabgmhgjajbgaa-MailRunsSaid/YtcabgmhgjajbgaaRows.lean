/-
  No cell of these rows narrows 'for every input' (looked for: loops, veiled, ifaces, maps, wideKeys, modest, calm, conditions, laid).
  DERIVED. THE GIVEN ROWS OF THIS SEAT. 3 by the template 'for every input the law returns true; each argument reads behind the call as it read before'; 0 by the template 'total and deterministic' (their statements: YtcabgmhgjajbgaaTotals.lean).
  GIVEN WITH THE SEED: the statements are not yours to turn. If you find one false, say at which input.
  Laid BY PROGRAM, IN A SANDBOX (cutbox-rows.mjs): the forced cells as the released guide's own fill.sh prints them over the translation 863b7a6969025fca… (all of the seat's roots in one cut). By AI agents, Wed Nov 11 2026. No macro, syntax, notation, axiom, sorry.
-/
import Derived.Test.YtcabgmhgjajbgaaChecked
import GoSem.Claim
import GoSem.ClaimJoined
import GoSem.ClaimMapViews
import Derived.JoinedTies
import Derived.KernelRfl
namespace Go.Proofs.Ytcabgmhgjajbgaa
/- THE CELL 'sum', in the pinned program and in every row, IS THE sha256 OF THE DUMP (.gsa) THAT YtcabgmhgjajbgaaProg.lean LOADS. Nothing in Lean hashes anything: it is a label: what it is worth is what the hold of that sum in a sandbox is worth. -/
noncomputable def Try.pinned : Pinned := { name := "ytcabgmhgjajbgaa", sum := "863b7a6969025fca882787c9e6cf9da89de9c5942e1c550b0f09463272f7ab2b", checked := Try.checked }
namespace Rows
def none {H : Type} : Left H := { results := [], args := [] }

/-- 'klaxonlaw19.MailRuns': WHATEVER THE INPUT: true; the input reads as it did. -/
def mailRunsSpec : ChangeSpec := { name := "mailRuns", fn := fun _ => fun
  | [] => { results := [.lit (.bool true)], args := [] }
  | _ => none }
def mailRunsRow : OpenClaim := { program := "ytcabgmhgjajbgaa", sum := "863b7a6969025fca882787c9e6cf9da89de9c5942e1c550b0f09463272f7ab2b", func := "klaxon/klaxonlaw19.MailRuns", spec := "mailRuns", apart := false }
def MailRunsSaid : Prop := mailRunsRow.holds Try.pinned (OpenSpec.ofChange mailRunsSpec)

/-- ITS FALSE NEIGHBOUR: 'it returns false'. Refute it at one input. -/
def mailRunsWrong : ChangeSpec := { name := "mailRuns", fn := fun _ => fun
  | [] => { results := [.lit (.bool false)], args := [] }
  | _ => none }
def MailRunsWrongFalsely : Prop := mailRunsRow.holds Try.pinned (OpenSpec.ofChange mailRunsWrong)

/-- 'klaxonlaw14.SpanRuns': WHATEVER THE INPUT: true; the input reads as it did. -/
def spanRunsSpec : ChangeSpec := { name := "spanRuns", fn := fun _ => fun
  | [] => { results := [.lit (.bool true)], args := [] }
  | _ => none }
def spanRunsRow : OpenClaim := { program := "ytcabgmhgjajbgaa", sum := "863b7a6969025fca882787c9e6cf9da89de9c5942e1c550b0f09463272f7ab2b", func := "klaxon/klaxonlaw14.SpanRuns", spec := "spanRuns", apart := false }
def SpanRunsSaid : Prop := spanRunsRow.holds Try.pinned (OpenSpec.ofChange spanRunsSpec)

/-- ITS FALSE NEIGHBOUR: 'it returns false'. Refute it at one input. -/
def spanRunsWrong : ChangeSpec := { name := "spanRuns", fn := fun _ => fun
  | [] => { results := [.lit (.bool false)], args := [] }
  | _ => none }
def SpanRunsWrongFalsely : Prop := spanRunsRow.holds Try.pinned (OpenSpec.ofChange spanRunsWrong)

/-- 'klaxonlaw22.DiskRuns': WHATEVER THE INPUT: true; the input reads as it did. -/
def diskRunsSpec : ChangeSpec := { name := "diskRuns", fn := fun _ => fun
  | [] => { results := [.lit (.bool true)], args := [] }
  | _ => none }
def diskRunsRow : OpenClaim := { program := "ytcabgmhgjajbgaa", sum := "863b7a6969025fca882787c9e6cf9da89de9c5942e1c550b0f09463272f7ab2b", func := "klaxon/klaxonlaw22.DiskRuns", spec := "diskRuns", apart := false }
def DiskRunsSaid : Prop := diskRunsRow.holds Try.pinned (OpenSpec.ofChange diskRunsSpec)

/-- ITS FALSE NEIGHBOUR: 'it returns false'. Refute it at one input. -/
def diskRunsWrong : ChangeSpec := { name := "diskRuns", fn := fun _ => fun
  | [] => { results := [.lit (.bool false)], args := [] }
  | _ => none }
def DiskRunsWrongFalsely : Prop := diskRunsRow.holds Try.pinned (OpenSpec.ofChange diskRunsWrong)

/- THE SECOND FORM. 'bulk': how many values and letters a reading holds, each counted each time it is reached (what is shared counts as often as it is met; a slice's spare places count too). A statement '..UptoSaid' is the law's where the arguments, and the package variables that the reading takes, are together of bulk at most 1048576: NARROWER than '..Said'. Prove '..Said' where nothing that the law and all that it calls make is longer than what came in: it says more and counts as full. Else prove '..UptoSaid'. A law counts once. -/
mutual
def uptoBulk {H : Type} : DataW H → Nat
  | .lit (.string bytes) => bytes.length + 1
  | .lit _ => 1
  | .nil => 1
  | .ptr d => uptoBulk d + 1
  | .slice elems spare => uptoBulkAll elems + uptoBulkAll spare + 1
  | .agg parts => uptoBulkAll parts + 1
  | .iface _ d => uptoBulk d + 1
  | .map entries => uptoBulkEntries entries + 1
  | .held _ => 1
def uptoBulkAll {H : Type} : List (DataW H) → Nat
  | [] => 0
  | d :: r => uptoBulk d + uptoBulkAll r
def uptoBulkEntries {H : Type} : List (Lit × DataW H) → Nat
  | [] => 0
  | x :: r => uptoBulkEntry x + uptoBulkEntries r
def uptoBulkEntry {H : Type} : Lit × DataW H → Nat
  | (.string bytes, d) => bytes.length + uptoBulk d + 1
  | (_, d) => uptoBulk d + 1
 end
def uptoSmall : (H : Type) → List (DataW H) → Bool := fun _ ds => decide (uptoBulkAll ds ≤ 1048576)
def OpenSpec.upto (s : _root_.Go.ChangeSpec) : _root_.Go.OpenSpec := { _root_.Go.OpenSpec.ofChange s with cond := some uptoSmall }

/-- 'klaxonlaw19.MailRuns', WHERE WHAT IT READS IS OF BULK AT MOST 1048576: true; the input reads as it did. -/
def mailRunsUptoRow : OpenClaim := { program := "ytcabgmhgjajbgaa", sum := "863b7a6969025fca882787c9e6cf9da89de9c5942e1c550b0f09463272f7ab2b", func := "klaxon/klaxonlaw19.MailRuns", spec := "mailRuns", apart := false, narrowed := true }
def MailRunsUptoSaid : Prop := mailRunsUptoRow.holds Try.pinned (OpenSpec.upto mailRunsSpec)

/-- 'klaxonlaw14.SpanRuns', WHERE WHAT IT READS IS OF BULK AT MOST 1048576: true; the input reads as it did. -/
def spanRunsUptoRow : OpenClaim := { program := "ytcabgmhgjajbgaa", sum := "863b7a6969025fca882787c9e6cf9da89de9c5942e1c550b0f09463272f7ab2b", func := "klaxon/klaxonlaw14.SpanRuns", spec := "spanRuns", apart := false, narrowed := true }
def SpanRunsUptoSaid : Prop := spanRunsUptoRow.holds Try.pinned (OpenSpec.upto spanRunsSpec)

/-- 'klaxonlaw22.DiskRuns', WHERE WHAT IT READS IS OF BULK AT MOST 1048576: true; the input reads as it did. -/
def diskRunsUptoRow : OpenClaim := { program := "ytcabgmhgjajbgaa", sum := "863b7a6969025fca882787c9e6cf9da89de9c5942e1c550b0f09463272f7ab2b", func := "klaxon/klaxonlaw22.DiskRuns", spec := "diskRuns", apart := false, narrowed := true }
def DiskRunsUptoSaid : Prop := diskRunsUptoRow.holds Try.pinned (OpenSpec.upto diskRunsSpec)

end Rows
end Go.Proofs.Ytcabgmhgjajbgaa
