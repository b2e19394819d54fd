/-
  Calls that were reckoned out, one by one. Printed by a program.
-/
import Derived.Test.YtebhnbecjmdicaaGreatDoorEvl
import Derived.Test.YtebhnbecjmdicaaGreatDoorEvM25f
import Derived.Test.YtebhnbecjmdicaaGreatDoorEvM25h
namespace Go.Proofs.YtebhnbecjmdicaaGreatDoor
open Go.Ev
set_option maxRecDepth 1000000
noncomputable def kt25 : Hk Empty := orHk (hkMemo m25_6) (orHk (hkMemo m25_12) (orHk (hkMemo m25_25) (hkLib)))
theorem kt25_ok : HkOk Tryz.prog kt25 := orHk_ok q25_6 (orHk_ok q25_12 (orHk_ok q25_25 (hkLib_ok)))
end Go.Proofs.YtebhnbecjmdicaaGreatDoor
