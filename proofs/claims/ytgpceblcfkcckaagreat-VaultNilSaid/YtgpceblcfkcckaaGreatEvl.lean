/-
  A run reckoned out: the functions that are told at this seat, together.
-/
import Derived.Test.YtgpceblcfkcckaaGreatEvu
import Derived.Test.YtgpceblcfkcckaaGreatEvh
import Derived.Test.YtgpceblcfkcckaaGreatEvm
import Derived.Test.YtgpceblcfkcckaaGreatEvr
namespace Go.Proofs.YtgpceblcfkcckaaGreat
open Go.Ev
noncomputable def hkLib : Hk := orHk (hkCnt 211) (orHk (hkSort 173 176 174) (orHk (hkRef 205) (hkCrc 109)))
theorem hkLib_ok : HkOk Tryz.prog hkLib := orHk_ok hkCount_ok (orHk_ok hkSlice_ok (orHk_ok hkRef_ok hkCrc_ok))
end Go.Proofs.YtgpceblcfkcckaaGreat
