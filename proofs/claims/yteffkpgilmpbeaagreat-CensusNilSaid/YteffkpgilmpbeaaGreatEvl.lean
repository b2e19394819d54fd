/-
  A run reckoned out: the functions that are told at this seat, together.
-/
import Derived.Test.YteffkpgilmpbeaaGreatEvu
import Derived.Test.YteffkpgilmpbeaaGreatEvh
import Derived.Test.YteffkpgilmpbeaaGreatEvm
namespace Go.Proofs.YteffkpgilmpbeaaGreat
open Go.Ev
noncomputable def hkLib : Hk := orHk (hkCnt 73) (orHk (hkSort 79 146 80) (hkCrc 92))
theorem hkLib_ok : HkOk Tryz.prog hkLib := orHk_ok hkCount_ok (orHk_ok hkSlice_ok hkCrc_ok)
end Go.Proofs.YteffkpgilmpbeaaGreat
