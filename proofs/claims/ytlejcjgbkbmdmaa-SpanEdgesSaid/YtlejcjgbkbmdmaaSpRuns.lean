/-
  The closed sentence that each of the laws ends in.
-/
import Derived.Test.YtlejcjgbkbmdmaaSpSets
import Derived.Test.YtlejcjgbkbmdmaaAhOld
namespace Go.Proofs.Ytlejcjgbkbmdmaa.span
open Go Go.Proofs Go.RowKit Go.Proofs.Ytlejcjgbkbmdmaa.AH

theorem mixed : Try.prog.follows .mixedOrders = true := by kernel_rfl
theorem runs_run : isTrue (callF Try.prog (regionF Try.prog) 100000 3 [] (AHeap.init 0)) = true := by kernel_rfl
theorem runs_old (w : World) : Calls Try.prog 3 #[] w fun e w' => e = .returned (.bool true) ∧ Old w w' := closed_old mixed Try.func3 (by kernel_rfl) rfl runs_run w

end Go.Proofs.Ytlejcjgbkbmdmaa.span
