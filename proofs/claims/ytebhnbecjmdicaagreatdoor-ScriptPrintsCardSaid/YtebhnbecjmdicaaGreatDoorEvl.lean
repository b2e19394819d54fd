/-
  A run reckoned out: the functions that are told at this seat, together.
-/
import Derived.Test.YtebhnbecjmdicaaGreatDoorEvu
import Derived.Test.YtebhnbecjmdicaaGreatDoorEvh
import Derived.Test.YtebhnbecjmdicaaGreatDoorEvg
import Derived.Test.YtebhnbecjmdicaaGreatDoorEvm
namespace Go.Proofs.YtebhnbecjmdicaaGreatDoor
open Go.Ev
/-- short words for the memos -/
abbrev i6 (n : Nat) : Value := .int .i64 (.ofNat n)
abbrev pt (b o : Nat) : Value := .pointer (some ⟨b, o, none⟩)
noncomputable def hkLib : Hk Empty := orHk (hkCnt 117) (orHk (hkSort 379 250 380) (orHk (hkIdx 51) (orHk (hkCopy 41 62) (orHk (hkStr 33 5) (orHk (hkJoin 57) (hkCrc 218))))))
theorem hkLib_ok : HkOk Tryz.prog hkLib := orHk_ok hkCount_ok (orHk_ok hkSlice_ok (orHk_ok hkIndex_ok (orHk_ok hkCopyCheck_ok (orHk_ok hkString_ok (orHk_ok hkJoin_ok' hkCrc_ok)))))
end Go.Proofs.YtebhnbecjmdicaaGreatDoor
