/-
  Layer 19: the document's example, reckoned out.
-/
import Derived.Test.YtgpceblcfkcckaaGreatEvM19z
namespace Go.Proofs.YtgpceblcfkcckaaGreat
open Go.Ev
set_option maxRecDepth 1000000
theorem awake19_run : isTrueR (call evT evF kt19 100000 7 [] (emp 0)) = true := by kernel_rfl
theorem awake19_tru : Tru 7 := fun w => same_of kt19_ok awake19_run .nil w
end Go.Proofs.YtgpceblcfkcckaaGreat
