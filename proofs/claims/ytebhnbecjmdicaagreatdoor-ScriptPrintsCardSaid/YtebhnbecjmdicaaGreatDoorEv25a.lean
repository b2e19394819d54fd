/-
  Layer 25: the document's example, reckoned out.
-/
import Derived.Test.YtebhnbecjmdicaaGreatDoorEvM25z
namespace Go.Proofs.YtebhnbecjmdicaaGreatDoor
open Go.Ev
set_option maxRecDepth 1000000
theorem awake25_run : isTrueR (call evT evF kt25 100000 4 [] (emp 0)) = true := by kernel_rfl
theorem awake25_tru : Tru 4 := fun w => same_of kt25_ok awake25_run .nil w
end Go.Proofs.YtebhnbecjmdicaaGreatDoor
