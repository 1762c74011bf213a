/-
  Package route, and what it calls, walked by facts (printed by gen_rt.py).
-/
import Derived.Test.YtonojkcnencodaaDoorBhRt2
import Derived.Test.YtonojkcnencodaaDoorBhDkL
namespace Go.Proofs.YtonojkcnencodaaDoor.rt
open Go Go.Proofs Go.Proofs.YtonojkcnencodaaDoor.BH Go.Proofs.YtonojkcnencodaaDoor.BH.Rt
open Go.Proofs.YtonojkcnencodaaDoor.BH.Dk (withinV withinV_in)
set_option maxRecDepth 100000
theorem runsR_fn : PFn C 14 [] (.bool true) := pfn_true (N := 100000) rfl (by kernel_rfl)
end Go.Proofs.YtonojkcnencodaaDoor.rt
