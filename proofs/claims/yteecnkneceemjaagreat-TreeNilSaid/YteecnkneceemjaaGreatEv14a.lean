/-
  Layer 14: the document's example, reckoned out.
-/
import Derived.Test.YteecnkneceemjaaGreatEvu
namespace Go.Proofs.YteecnkneceemjaaGreat
open Go.Ev
set_option maxRecDepth 1000000
theorem awake14_run : isTrueR (call evT evF (hkCrc 138) 100000 11 [] (emp 0)) = true := by kernel_rfl
theorem awake14_tru : Tru 11 := fun w => same_of hkCrc_ok awake14_run .nil w
end Go.Proofs.YteecnkneceemjaaGreat
