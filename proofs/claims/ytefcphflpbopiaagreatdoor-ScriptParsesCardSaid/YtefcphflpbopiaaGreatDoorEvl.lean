/-
  A run reckoned out: the functions that are told at this seat, together.
-/
import Derived.Test.YtefcphflpbopiaaGreatDoorEvu
import Derived.Test.YtefcphflpbopiaaGreatDoorEvh
import Derived.Test.YtefcphflpbopiaaGreatDoorEvg
import Derived.Test.YtefcphflpbopiaaGreatDoorEvm
namespace Go.Proofs.YtefcphflpbopiaaGreatDoor
open Go.Ev
/-- short words for the memos -/
abbrev i6 (n : Nat) : Value := .int .i64 (.ofNat n)
abbrev pt (b o : Nat) : Value := .pointer (some ⟨b, o, none⟩)
noncomputable def hkLib : Hk Empty := orHk (hkCnt 112) (orHk (hkSort 378 245 379) (orHk (hkIdx 48) (orHk (hkCopy 39 59) (orHk (hkStr 28 5) (orHk (hkJoin 55) (hkCrc 215))))))
theorem hkLib_ok : HkOk Tryz.prog hkLib := orHk_ok hkCount_ok (orHk_ok hkSlice_ok (orHk_ok hkIndex_ok (orHk_ok hkCopyCheck_ok (orHk_ok hkString_ok (orHk_ok hkJoin_ok' hkCrc_ok)))))
end Go.Proofs.YtefcphflpbopiaaGreatDoor
