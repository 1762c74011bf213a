/-
  The closed sentences that the laws end in.
-/
import Derived.Test.YtknpdigpendnjaaProg
import Derived.Test.YtknpdigpendnjaaAhOld
namespace Go.Proofs.Ytknpdigpendnjaa.disk
open Go Go.Proofs Go.RowKit Go.Proofs.Ytknpdigpendnjaa.AH

theorem mixed : Try.prog.follows .mixedOrders = true := by kernel_rfl
theorem runs_run : isTrue (callF Try.prog (regionF Try.prog) 100000 7 [] (AHeap.init 0)) = true := by kernel_rfl
theorem runs_old (w : World) : Calls Try.prog 7 #[] w fun e w' => e = .returned (.bool true) ∧ Old w w' := closed_old mixed Try.func7 (by kernel_rfl) rfl runs_run w

end Go.Proofs.Ytknpdigpendnjaa.disk
