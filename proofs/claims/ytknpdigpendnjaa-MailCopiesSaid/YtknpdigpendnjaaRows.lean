/-
  No cell of these rows narrows 'for every input' (looked for: loops, veiled, ifaces, maps, wideKeys, modest, calm, conditions, laid).
  DERIVED. THE GIVEN ROWS OF THIS SEAT. 9 by the template 'for every input the law returns true; each argument reads behind the call as it read before'; 0 by the template 'total and deterministic' (their statements: YtknpdigpendnjaaTotals.lean).
  GIVEN WITH THE SEED: the statements are not yours to turn. If you find one false, say at which input.
  Laid BY PROGRAM, IN A SANDBOX (cutbox-rows.mjs): the forced cells as the released guide's own fill.sh prints them over the translation 34e1c81ff900b638… (all of the seat's roots in one cut). By AI agents, Wed Nov 11 2026. No macro, syntax, notation, axiom, sorry.
-/
import Derived.Test.YtknpdigpendnjaaChecked
import GoSem.Claim
import GoSem.ClaimJoined
import GoSem.ClaimMapViews
import Derived.JoinedTies
import Derived.KernelRfl
namespace Go.Proofs.Ytknpdigpendnjaa
/- THE CELL 'sum', in the pinned program and in every row, IS THE sha256 OF THE DUMP (.gsa) THAT YtknpdigpendnjaaProg.lean LOADS. Nothing in Lean hashes anything: it is a label: what it is worth is what the hold of that sum in a sandbox is worth. -/
noncomputable def Try.pinned : Pinned := { name := "ytknpdigpendnjaa", sum := "34e1c81ff900b6388bbc33516f4098d97a187fc4695d3835eee8dad49055ebd3", checked := Try.checked }
namespace Rows
def none {H : Type} : Left H := { results := [], args := [] }

/-- 'klaxonlaw19.MailRuns': WHATEVER THE INPUT: true; the input reads as it did. -/
def mailRunsSpec : ChangeSpec := { name := "mailRuns", fn := fun _ => fun
  | [] => { results := [.lit (.bool true)], args := [] }
  | _ => none }
def mailRunsRow : OpenClaim := { program := "ytknpdigpendnjaa", sum := "34e1c81ff900b6388bbc33516f4098d97a187fc4695d3835eee8dad49055ebd3", func := "klaxon/klaxonlaw19.MailRuns", spec := "mailRuns", apart := false }
def MailRunsSaid : Prop := mailRunsRow.holds Try.pinned (OpenSpec.ofChange mailRunsSpec)

/-- ITS FALSE NEIGHBOUR: 'it returns false'. Refute it at one input. -/
def mailRunsWrong : ChangeSpec := { name := "mailRuns", fn := fun _ => fun
  | [] => { results := [.lit (.bool false)], args := [] }
  | _ => none }
def MailRunsWrongFalsely : Prop := mailRunsRow.holds Try.pinned (OpenSpec.ofChange mailRunsWrong)

/-- 'klaxonlaw19.MailPlays': WHATEVER THE INPUT: true; the input reads as it did. -/
def mailPlaysSpec : ChangeSpec := { name := "mailPlays", fn := fun _ => fun
  | [d1, d2] => { results := [.lit (.bool true)], args := [d1, d2] }
  | _ => none }
def mailPlaysRow : OpenClaim := { program := "ytknpdigpendnjaa", sum := "34e1c81ff900b6388bbc33516f4098d97a187fc4695d3835eee8dad49055ebd3", func := "klaxon/klaxonlaw19.MailPlays", spec := "mailPlays", apart := false }
def MailPlaysSaid : Prop := mailPlaysRow.holds Try.pinned (OpenSpec.ofChange mailPlaysSpec)

/-- ITS FALSE NEIGHBOUR: 'it returns false'. Refute it at one input. -/
def mailPlaysWrong : ChangeSpec := { name := "mailPlays", fn := fun _ => fun
  | [d1, d2] => { results := [.lit (.bool false)], args := [d1, d2] }
  | _ => none }
def MailPlaysWrongFalsely : Prop := mailPlaysRow.holds Try.pinned (OpenSpec.ofChange mailPlaysWrong)

/-- 'klaxonlaw19.MailOrder': WHATEVER THE INPUT: true; the input reads as it did. -/
def mailOrderSpec : ChangeSpec := { name := "mailOrder", fn := fun _ => fun
  | [d1, d2] => { results := [.lit (.bool true)], args := [d1, d2] }
  | _ => none }
def mailOrderRow : OpenClaim := { program := "ytknpdigpendnjaa", sum := "34e1c81ff900b6388bbc33516f4098d97a187fc4695d3835eee8dad49055ebd3", func := "klaxon/klaxonlaw19.MailOrder", spec := "mailOrder", apart := false }
def MailOrderSaid : Prop := mailOrderRow.holds Try.pinned (OpenSpec.ofChange mailOrderSpec)

/-- ITS FALSE NEIGHBOUR: 'it returns false'. Refute it at one input. -/
def mailOrderWrong : ChangeSpec := { name := "mailOrder", fn := fun _ => fun
  | [d1, d2] => { results := [.lit (.bool false)], args := [d1, d2] }
  | _ => none }
def MailOrderWrongFalsely : Prop := mailOrderRow.holds Try.pinned (OpenSpec.ofChange mailOrderWrong)

/-- 'klaxonlaw19.MailCopies': WHATEVER THE INPUT: true; the input reads as it did. -/
def mailCopiesSpec : ChangeSpec := { name := "mailCopies", fn := fun _ => fun
  | [d1, d2] => { results := [.lit (.bool true)], args := [d1, d2] }
  | _ => none }
def mailCopiesRow : OpenClaim := { program := "ytknpdigpendnjaa", sum := "34e1c81ff900b6388bbc33516f4098d97a187fc4695d3835eee8dad49055ebd3", func := "klaxon/klaxonlaw19.MailCopies", spec := "mailCopies", apart := false }
def MailCopiesSaid : Prop := mailCopiesRow.holds Try.pinned (OpenSpec.ofChange mailCopiesSpec)

/-- ITS FALSE NEIGHBOUR: 'it returns false'. Refute it at one input. -/
def mailCopiesWrong : ChangeSpec := { name := "mailCopies", fn := fun _ => fun
  | [d1, d2] => { results := [.lit (.bool false)], args := [d1, d2] }
  | _ => none }
def MailCopiesWrongFalsely : Prop := mailCopiesRow.holds Try.pinned (OpenSpec.ofChange mailCopiesWrong)

/-- 'klaxonlaw22.DiskRuns': WHATEVER THE INPUT: true; the input reads as it did. -/
def diskRunsSpec : ChangeSpec := { name := "diskRuns", fn := fun _ => fun
  | [] => { results := [.lit (.bool true)], args := [] }
  | _ => none }
def diskRunsRow : OpenClaim := { program := "ytknpdigpendnjaa", sum := "34e1c81ff900b6388bbc33516f4098d97a187fc4695d3835eee8dad49055ebd3", func := "klaxon/klaxonlaw22.DiskRuns", spec := "diskRuns", apart := false }
def DiskRunsSaid : Prop := diskRunsRow.holds Try.pinned (OpenSpec.ofChange diskRunsSpec)

/-- ITS FALSE NEIGHBOUR: 'it returns false'. Refute it at one input. -/
def diskRunsWrong : ChangeSpec := { name := "diskRuns", fn := fun _ => fun
  | [] => { results := [.lit (.bool false)], args := [] }
  | _ => none }
def DiskRunsWrongFalsely : Prop := diskRunsRow.holds Try.pinned (OpenSpec.ofChange diskRunsWrong)

/-- 'klaxonlaw22.DiskKeeps': WHATEVER THE INPUT: true; the input reads as it did. -/
def diskKeepsSpec : ChangeSpec := { name := "diskKeeps", fn := fun _ => fun
  | [d1, d2, d3] => { results := [.lit (.bool true)], args := [d1, d2, d3] }
  | _ => none }
def diskKeepsRow : OpenClaim := { program := "ytknpdigpendnjaa", sum := "34e1c81ff900b6388bbc33516f4098d97a187fc4695d3835eee8dad49055ebd3", func := "klaxon/klaxonlaw22.DiskKeeps", spec := "diskKeeps", apart := false }
def DiskKeepsSaid : Prop := diskKeepsRow.holds Try.pinned (OpenSpec.ofChange diskKeepsSpec)

/-- ITS FALSE NEIGHBOUR: 'it returns false'. Refute it at one input. -/
def diskKeepsWrong : ChangeSpec := { name := "diskKeeps", fn := fun _ => fun
  | [d1, d2, d3] => { results := [.lit (.bool false)], args := [d1, d2, d3] }
  | _ => none }
def DiskKeepsWrongFalsely : Prop := diskKeepsRow.holds Try.pinned (OpenSpec.ofChange diskKeepsWrong)

/-- 'klaxonlaw22.DiskPlays': WHATEVER THE INPUT: true; the input reads as it did. -/
def diskPlaysSpec : ChangeSpec := { name := "diskPlays", fn := fun _ => fun
  | [d1, d2] => { results := [.lit (.bool true)], args := [d1, d2] }
  | _ => none }
def diskPlaysRow : OpenClaim := { program := "ytknpdigpendnjaa", sum := "34e1c81ff900b6388bbc33516f4098d97a187fc4695d3835eee8dad49055ebd3", func := "klaxon/klaxonlaw22.DiskPlays", spec := "diskPlays", apart := false }
def DiskPlaysSaid : Prop := diskPlaysRow.holds Try.pinned (OpenSpec.ofChange diskPlaysSpec)

/-- ITS FALSE NEIGHBOUR: 'it returns false'. Refute it at one input. -/
def diskPlaysWrong : ChangeSpec := { name := "diskPlays", fn := fun _ => fun
  | [d1, d2] => { results := [.lit (.bool false)], args := [d1, d2] }
  | _ => none }
def DiskPlaysWrongFalsely : Prop := diskPlaysRow.holds Try.pinned (OpenSpec.ofChange diskPlaysWrong)

/-- 'klaxonlaw22.DiskBack': WHATEVER THE INPUT: true; the input reads as it did. -/
def diskBackSpec : ChangeSpec := { name := "diskBack", fn := fun _ => fun
  | [d1, d2, d3, d4, d5] => { results := [.lit (.bool true)], args := [d1, d2, d3, d4, d5] }
  | _ => none }
def diskBackRow : OpenClaim := { program := "ytknpdigpendnjaa", sum := "34e1c81ff900b6388bbc33516f4098d97a187fc4695d3835eee8dad49055ebd3", func := "klaxon/klaxonlaw22.DiskBack", spec := "diskBack", apart := false }
def DiskBackSaid : Prop := diskBackRow.holds Try.pinned (OpenSpec.ofChange diskBackSpec)

/-- ITS FALSE NEIGHBOUR: 'it returns false'. Refute it at one input. -/
def diskBackWrong : ChangeSpec := { name := "diskBack", fn := fun _ => fun
  | [d1, d2, d3, d4, d5] => { results := [.lit (.bool false)], args := [d1, d2, d3, d4, d5] }
  | _ => none }
def DiskBackWrongFalsely : Prop := diskBackRow.holds Try.pinned (OpenSpec.ofChange diskBackWrong)

/-- 'klaxonlaw22.DiskFuse': WHATEVER THE INPUT: true; the input reads as it did. -/
def diskFuseSpec : ChangeSpec := { name := "diskFuse", fn := fun _ => fun
  | [d1, d2] => { results := [.lit (.bool true)], args := [d1, d2] }
  | _ => none }
def diskFuseRow : OpenClaim := { program := "ytknpdigpendnjaa", sum := "34e1c81ff900b6388bbc33516f4098d97a187fc4695d3835eee8dad49055ebd3", func := "klaxon/klaxonlaw22.DiskFuse", spec := "diskFuse", apart := false }
def DiskFuseSaid : Prop := diskFuseRow.holds Try.pinned (OpenSpec.ofChange diskFuseSpec)

/-- ITS FALSE NEIGHBOUR: 'it returns false'. Refute it at one input. -/
def diskFuseWrong : ChangeSpec := { name := "diskFuse", fn := fun _ => fun
  | [d1, d2] => { results := [.lit (.bool false)], args := [d1, d2] }
  | _ => none }
def DiskFuseWrongFalsely : Prop := diskFuseRow.holds Try.pinned (OpenSpec.ofChange diskFuseWrong)

/- THE SECOND FORM. 'bulk': how many values and letters a reading holds, each counted each time it is reached (what is shared counts as often as it is met; a slice's spare places count too). A statement '..UptoSaid' is the law's where the arguments, and the package variables that the reading takes, are together of bulk at most 1048576: NARROWER than '..Said'. Prove '..Said' where nothing that the law and all that it calls make is longer than what came in: it says more and counts as full. Else prove '..UptoSaid'. A law counts once. -/
mutual
def uptoBulk {H : Type} : DataW H → Nat
  | .lit (.string bytes) => bytes.length + 1
  | .lit _ => 1
  | .nil => 1
  | .ptr d => uptoBulk d + 1
  | .slice elems spare => uptoBulkAll elems + uptoBulkAll spare + 1
  | .agg parts => uptoBulkAll parts + 1
  | .iface _ d => uptoBulk d + 1
  | .map entries => uptoBulkEntries entries + 1
  | .held _ => 1
def uptoBulkAll {H : Type} : List (DataW H) → Nat
  | [] => 0
  | d :: r => uptoBulk d + uptoBulkAll r
def uptoBulkEntries {H : Type} : List (Lit × DataW H) → Nat
  | [] => 0
  | x :: r => uptoBulkEntry x + uptoBulkEntries r
def uptoBulkEntry {H : Type} : Lit × DataW H → Nat
  | (.string bytes, d) => bytes.length + uptoBulk d + 1
  | (_, d) => uptoBulk d + 1
 end
def uptoSmall : (H : Type) → List (DataW H) → Bool := fun _ ds => decide (uptoBulkAll ds ≤ 1048576)
def OpenSpec.upto (s : _root_.Go.ChangeSpec) : _root_.Go.OpenSpec := { _root_.Go.OpenSpec.ofChange s with cond := some uptoSmall }

/-- 'klaxonlaw19.MailRuns', WHERE WHAT IT READS IS OF BULK AT MOST 1048576: true; the input reads as it did. -/
def mailRunsUptoRow : OpenClaim := { program := "ytknpdigpendnjaa", sum := "34e1c81ff900b6388bbc33516f4098d97a187fc4695d3835eee8dad49055ebd3", func := "klaxon/klaxonlaw19.MailRuns", spec := "mailRuns", apart := false, narrowed := true }
def MailRunsUptoSaid : Prop := mailRunsUptoRow.holds Try.pinned (OpenSpec.upto mailRunsSpec)

/-- 'klaxonlaw19.MailPlays', WHERE WHAT IT READS IS OF BULK AT MOST 1048576: true; the input reads as it did. -/
def mailPlaysUptoRow : OpenClaim := { program := "ytknpdigpendnjaa", sum := "34e1c81ff900b6388bbc33516f4098d97a187fc4695d3835eee8dad49055ebd3", func := "klaxon/klaxonlaw19.MailPlays", spec := "mailPlays", apart := false, narrowed := true }
def MailPlaysUptoSaid : Prop := mailPlaysUptoRow.holds Try.pinned (OpenSpec.upto mailPlaysSpec)

/-- 'klaxonlaw19.MailOrder', WHERE WHAT IT READS IS OF BULK AT MOST 1048576: true; the input reads as it did. -/
def mailOrderUptoRow : OpenClaim := { program := "ytknpdigpendnjaa", sum := "34e1c81ff900b6388bbc33516f4098d97a187fc4695d3835eee8dad49055ebd3", func := "klaxon/klaxonlaw19.MailOrder", spec := "mailOrder", apart := false, narrowed := true }
def MailOrderUptoSaid : Prop := mailOrderUptoRow.holds Try.pinned (OpenSpec.upto mailOrderSpec)

/-- 'klaxonlaw19.MailCopies', WHERE WHAT IT READS IS OF BULK AT MOST 1048576: true; the input reads as it did. -/
def mailCopiesUptoRow : OpenClaim := { program := "ytknpdigpendnjaa", sum := "34e1c81ff900b6388bbc33516f4098d97a187fc4695d3835eee8dad49055ebd3", func := "klaxon/klaxonlaw19.MailCopies", spec := "mailCopies", apart := false, narrowed := true }
def MailCopiesUptoSaid : Prop := mailCopiesUptoRow.holds Try.pinned (OpenSpec.upto mailCopiesSpec)

/-- 'klaxonlaw22.DiskRuns', WHERE WHAT IT READS IS OF BULK AT MOST 1048576: true; the input reads as it did. -/
def diskRunsUptoRow : OpenClaim := { program := "ytknpdigpendnjaa", sum := "34e1c81ff900b6388bbc33516f4098d97a187fc4695d3835eee8dad49055ebd3", func := "klaxon/klaxonlaw22.DiskRuns", spec := "diskRuns", apart := false, narrowed := true }
def DiskRunsUptoSaid : Prop := diskRunsUptoRow.holds Try.pinned (OpenSpec.upto diskRunsSpec)

/-- 'klaxonlaw22.DiskKeeps', WHERE WHAT IT READS IS OF BULK AT MOST 1048576: true; the input reads as it did. -/
def diskKeepsUptoRow : OpenClaim := { program := "ytknpdigpendnjaa", sum := "34e1c81ff900b6388bbc33516f4098d97a187fc4695d3835eee8dad49055ebd3", func := "klaxon/klaxonlaw22.DiskKeeps", spec := "diskKeeps", apart := false, narrowed := true }
def DiskKeepsUptoSaid : Prop := diskKeepsUptoRow.holds Try.pinned (OpenSpec.upto diskKeepsSpec)

/-- 'klaxonlaw22.DiskPlays', WHERE WHAT IT READS IS OF BULK AT MOST 1048576: true; the input reads as it did. -/
def diskPlaysUptoRow : OpenClaim := { program := "ytknpdigpendnjaa", sum := "34e1c81ff900b6388bbc33516f4098d97a187fc4695d3835eee8dad49055ebd3", func := "klaxon/klaxonlaw22.DiskPlays", spec := "diskPlays", apart := false, narrowed := true }
def DiskPlaysUptoSaid : Prop := diskPlaysUptoRow.holds Try.pinned (OpenSpec.upto diskPlaysSpec)

/-- 'klaxonlaw22.DiskBack', WHERE WHAT IT READS IS OF BULK AT MOST 1048576: true; the input reads as it did. -/
def diskBackUptoRow : OpenClaim := { program := "ytknpdigpendnjaa", sum := "34e1c81ff900b6388bbc33516f4098d97a187fc4695d3835eee8dad49055ebd3", func := "klaxon/klaxonlaw22.DiskBack", spec := "diskBack", apart := false, narrowed := true }
def DiskBackUptoSaid : Prop := diskBackUptoRow.holds Try.pinned (OpenSpec.upto diskBackSpec)

/-- 'klaxonlaw22.DiskFuse', WHERE WHAT IT READS IS OF BULK AT MOST 1048576: true; the input reads as it did. -/
def diskFuseUptoRow : OpenClaim := { program := "ytknpdigpendnjaa", sum := "34e1c81ff900b6388bbc33516f4098d97a187fc4695d3835eee8dad49055ebd3", func := "klaxon/klaxonlaw22.DiskFuse", spec := "diskFuse", apart := false, narrowed := true }
def DiskFuseUptoSaid : Prop := diskFuseUptoRow.holds Try.pinned (OpenSpec.upto diskFuseSpec)

end Rows
end Go.Proofs.Ytknpdigpendnjaa
