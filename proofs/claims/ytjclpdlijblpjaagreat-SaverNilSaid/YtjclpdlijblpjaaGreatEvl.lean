/-
  A run reckoned out: the functions that are told at this seat, together.
-/
import Derived.Test.YtjclpdlijblpjaaGreatEvu
import Derived.Test.YtjclpdlijblpjaaGreatEvh
import Derived.Test.YtjclpdlijblpjaaGreatEvm
import Derived.Test.YtjclpdlijblpjaaGreatEvr
import Derived.Test.YtjclpdlijblpjaaGreatNm3
namespace Go.Proofs.YtjclpdlijblpjaaGreat
open Go.Ev
theorem hkNormal_ok : HkOk Tryz.prog (hkNorm 157 222) := hkNorm_ok Tryz.call157 (by kernel_rfl) (fun v rows w hl hv => normal_any v rows w hl hv)
theorem hkListed_ok : HkOk Tryz.prog (hkList 158 222) := hkList_ok Tryz.call158 (by kernel_rfl) (fun M o ms w hM ho hk hn hl => listed_any M o ms w hM ho hk hn hl)
theorem hkMarked_ok : HkOk Tryz.prog (hkMark 314 3) := hkMark_ok Tryz.call314 (by kernel_rfl) (fun L lo M o T w hL hM ho hT hl => marked_at L lo M o T w hL hM ho hT hl)
noncomputable def hkLib : Hk := orHk (hkList 158 222) (orHk (hkMark 314 3) (orHk (hkNorm 157 222) (orHk (hkCnt 159) (orHk (hkSort 232 103 233) (orHk (hkRef 356) (hkCrc 104))))))
theorem hkLib_ok : HkOk Tryz.prog hkLib := orHk_ok hkListed_ok (orHk_ok hkMarked_ok (orHk_ok hkNormal_ok (orHk_ok hkCount_ok (orHk_ok hkSlice_ok (orHk_ok hkRef_ok hkCrc_ok)))))
end Go.Proofs.YtjclpdlijblpjaaGreat
