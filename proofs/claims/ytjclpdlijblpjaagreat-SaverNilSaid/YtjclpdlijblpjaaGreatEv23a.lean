/-
  Layer 23: the document's example, reckoned out.
-/
import Derived.Test.YtjclpdlijblpjaaGreatEvM23z
namespace Go.Proofs.YtjclpdlijblpjaaGreat
open Go.Ev
set_option maxRecDepth 1000000
theorem awake23_run : isTrueR (call evT evF kt23 100000 8 [] (emp 0)) = true := by kernel_rfl
theorem awake23_tru : Tru 8 := fun w => same_of kt23_ok awake23_run .nil w
end Go.Proofs.YtjclpdlijblpjaaGreat
