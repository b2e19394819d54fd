/-
  Layer 15: the document's example, reckoned out.
-/
import Derived.Test.YteffkpgilmpbeaaGreatEvM15a
namespace Go.Proofs.YteffkpgilmpbeaaGreat
open Go.Ev
set_option maxRecDepth 1000000
theorem awake15_run : isTrueR (call evT evF k15_19 100000 11 [] (emp 0)) = true := by kernel_rfl
theorem awake15_tru : Tru 11 := fun w => same_of k15_19_ok awake15_run .nil w
end Go.Proofs.YteffkpgilmpbeaaGreat
