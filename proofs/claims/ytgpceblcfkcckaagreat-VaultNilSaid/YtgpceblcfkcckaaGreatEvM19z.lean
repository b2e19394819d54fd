/-
  Calls that were reckoned out, one by one. Printed by a program.
-/
import Derived.Test.YtgpceblcfkcckaaGreatEvl
import Derived.Test.YtgpceblcfkcckaaGreatEvM19b
import Derived.Test.YtgpceblcfkcckaaGreatEvM19d
import Derived.Test.YtgpceblcfkcckaaGreatEvM19e
import Derived.Test.YtgpceblcfkcckaaGreatEvM19f
namespace Go.Proofs.YtgpceblcfkcckaaGreat
open Go.Ev
set_option maxRecDepth 1000000
noncomputable def kt19 : Hk := orHk (hkMemo m19_12) (orHk (hkMemo m19_16) (orHk (hkMemo m19_30) (orHk (hkMemo m19_47) (orHk (hkMemo m19_54) (orHk (hkMemo m19_55) (hkLib))))))
theorem kt19_ok : HkOk Tryz.prog kt19 := orHk_ok q19_12 (orHk_ok q19_16 (orHk_ok q19_30 (orHk_ok q19_47 (orHk_ok q19_54 (orHk_ok q19_55 (hkLib_ok))))))
end Go.Proofs.YtgpceblcfkcckaaGreat
