/-
  Layer 18: the document's example, reckoned out.
-/
import Derived.Test.YteffkpgilmpbeaaGreatEvM18a
namespace Go.Proofs.YteffkpgilmpbeaaGreat
open Go.Ev
set_option maxRecDepth 1000000
theorem awake18_run : isTrueR (call evT evF k18_15 100000 14 [] (emp 0)) = true := by kernel_rfl
theorem awake18_tru : Tru 14 := fun w => same_of k18_15_ok awake18_run .nil w
end Go.Proofs.YteffkpgilmpbeaaGreat
