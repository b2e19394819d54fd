/-
  A run reckoned out: the functions that are told at this seat, together.
-/
import Derived.Test.YtbbnikchdddpoaaGreatDoorEvu
import Derived.Test.YtbbnikchdddpoaaGreatDoorEvh
import Derived.Test.YtbbnikchdddpoaaGreatDoorEvg
import Derived.Test.YtbbnikchdddpoaaGreatDoorEvm
namespace Go.Proofs.YtbbnikchdddpoaaGreatDoor
open Go.Ev
/-- short words for the memos -/
abbrev i6 (n : Nat) : Value := .int .i64 (.ofNat n)
abbrev pt (b o : Nat) : Value := .pointer (some ⟨b, o, none⟩)
noncomputable def hkLib : Hk Empty := orHk (hkCnt 84) (orHk (hkSort 367 217 368) (orHk (hkIdx 111) (orHk (hkCopy 63 54) (orHk (hkStr 21 5) (orHk (hkJoin 25) (hkCrc 193))))))
theorem hkLib_ok : HkOk Tryz.prog hkLib := orHk_ok hkCount_ok (orHk_ok hkSlice_ok (orHk_ok hkIndex_ok (orHk_ok hkCopyCheck_ok (orHk_ok hkString_ok (orHk_ok hkJoin_ok' hkCrc_ok)))))
end Go.Proofs.YtbbnikchdddpoaaGreatDoor
