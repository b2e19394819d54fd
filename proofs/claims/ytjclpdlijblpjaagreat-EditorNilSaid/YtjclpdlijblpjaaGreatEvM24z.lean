/-
  Calls that were reckoned out, one by one. Printed by a program.
-/
import Derived.Test.YtjclpdlijblpjaaGreatEvl
import Derived.Test.YtjclpdlijblpjaaGreatEvM24b
import Derived.Test.YtjclpdlijblpjaaGreatEvM24g
import Derived.Test.YtjclpdlijblpjaaGreatEvM24h
import Derived.Test.YtjclpdlijblpjaaGreatEvM24i
import Derived.Test.YtjclpdlijblpjaaGreatEvM24k
import Derived.Test.YtjclpdlijblpjaaGreatEvM24l
import Derived.Test.YtjclpdlijblpjaaGreatEvM24m
namespace Go.Proofs.YtjclpdlijblpjaaGreat
open Go.Ev
set_option maxRecDepth 1000000
noncomputable def kt24 : Hk := orHk (hkMemo m24_30) (orHk (hkMemo m24_57) (orHk (hkMemo m24_89) (orHk (hkMemo m24_95) (orHk (hkMemo m24_105) (orHk (hkMemo m24_111) (orHk (hkMemo m24_203) (orHk (hkMemo m24_204) (hkLib))))))))
theorem kt24_ok : HkOk Tryz.prog kt24 := orHk_ok q24_30 (orHk_ok q24_57 (orHk_ok q24_89 (orHk_ok q24_95 (orHk_ok q24_105 (orHk_ok q24_111 (orHk_ok q24_203 (orHk_ok q24_204 (hkLib_ok))))))))
end Go.Proofs.YtjclpdlijblpjaaGreat
