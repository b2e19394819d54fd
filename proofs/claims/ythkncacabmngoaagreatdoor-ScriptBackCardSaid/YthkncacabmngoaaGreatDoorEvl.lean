/-
  A run reckoned out: the functions that are told at this seat, together.
-/
import Derived.Test.YthkncacabmngoaaGreatDoorEvu
import Derived.Test.YthkncacabmngoaaGreatDoorEvh
import Derived.Test.YthkncacabmngoaaGreatDoorEvg
import Derived.Test.YthkncacabmngoaaGreatDoorEvm
namespace Go.Proofs.YthkncacabmngoaaGreatDoor
open Go.Ev
/-- short words for the memos -/
abbrev i6 (n : Nat) : Value := .int .i64 (.ofNat n)
abbrev pt (b o : Nat) : Value := .pointer (some ⟨b, o, none⟩)
noncomputable def hkLib : Hk Empty := orHk (hkCnt 106) (orHk (hkSort 368 242 369) (orHk (hkIdx 39) (orHk (hkCopy 30 55) (orHk (hkStr 22 5) (orHk (hkJoin 46) (hkCrc 207))))))
theorem hkLib_ok : HkOk Tryz.prog hkLib := orHk_ok hkCount_ok (orHk_ok hkSlice_ok (orHk_ok hkIndex_ok (orHk_ok hkCopyCheck_ok (orHk_ok hkString_ok (orHk_ok hkJoin_ok' hkCrc_ok)))))
end Go.Proofs.YthkncacabmngoaaGreatDoor
