/-
  Layer 24: the document's example, reckoned out.
-/
import Derived.Test.YtjclpdlijblpjaaGreatEvM24z
namespace Go.Proofs.YtjclpdlijblpjaaGreat
open Go.Ev
set_option maxRecDepth 1000000
theorem awake24_run : isTrueR (call evT evF kt24 100000 14 [] (emp 0)) = true := by kernel_rfl
theorem awake24_tru : Tru 14 := fun w => same_of kt24_ok awake24_run .nil w
end Go.Proofs.YtjclpdlijblpjaaGreat
