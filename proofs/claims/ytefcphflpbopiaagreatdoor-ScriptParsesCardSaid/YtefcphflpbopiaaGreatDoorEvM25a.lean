/-
  Calls that were reckoned out, one by one. Printed by a program.
-/
import Derived.Test.YtefcphflpbopiaaGreatDoorEvl
namespace Go.Proofs.YtefcphflpbopiaaGreatDoor
open Go.Ev
set_option maxRecDepth 1000000
noncomputable def k25_10 : Hk Empty := hkLib
theorem k25_10_ok : HkOk Tryz.prog k25_10 := hkLib_ok
noncomputable def m25_10 : Mm Empty :=
  ⟨258, [i6 1, .slice (some ⟨5086, 0, none⟩) 256 256], 5087, [(5086, .cells (u8s [1, 0, 14, 0, 1, 0, 0, 0, 194, 105, 111, 233, 1] ++ u8z 5 ++ u8s [3, 0, 0, 0, 255, 255, 255, 255] ++ u8z 230) 5 false)], .tuple #[i6 1, .slice (some ⟨5276, 0, none⟩) 14 14, i6 0], 5317, [(5276, some (.cells (u8s [1] ++ u8z 5 ++ u8s [3, 0, 0, 0, 255, 255, 255, 255]) 5 false))]⟩
theorem m25_10_ok : m25_10.ok (call evT evF k25_10 100000 m25_10.f m25_10.args m25_10.preH) = true := by kernel_rfl
theorem q25_10 : HkOk Tryz.prog (hkMemo m25_10 : Hk Empty) := hkMemo_ok evT_ok evF_ok k25_10_ok rfl m25_10_ok
noncomputable def k25_14 : Hk Empty := hkLib
theorem k25_14_ok : HkOk Tryz.prog k25_14 := hkLib_ok
noncomputable def m25_14 : Mm Empty :=
  ⟨259, [i6 1, .slice (some ⟨6225, 0, none⟩) 40 40], 6267, [(6225, .cells (u8s [3] ++ u8z 5 ++ u8s [1, 0, 0, 0, 255, 255, 255, 255, 1] ++ u8z 4 ++ u8s [2, 0, 0, 0, 1] ++ u8z 4 ++ u8s [1, 0, 0, 0, 2, 0, 0, 0, 255, 255, 255, 255]) 5 false)], .tuple #[.agg #[.bool true, .slice (some ⟨6701, 0, none⟩) 3 3, .slice none 0 0], i6 0], 6722, [(6701, some (.cells [i6 0, i6 0, i6 1, .int .i64 (.negSucc 0), i6 1, i6 0, i6 2, i6 1, i6 0, i6 1, i6 2, .int .i64 (.negSucc 0)] 123 false))]⟩
theorem m25_14_ok : m25_14.ok (call evT evF k25_14 100000 m25_14.f m25_14.args m25_14.preH) = true := by kernel_rfl
theorem q25_14 : HkOk Tryz.prog (hkMemo m25_14 : Hk Empty) := hkMemo_ok evT_ok evF_ok k25_14_ok rfl m25_14_ok
noncomputable def k25_21 : Hk Empty := hkLib
theorem k25_21_ok : HkOk Tryz.prog k25_21 := hkLib_ok
noncomputable def m25_21 : Mm Empty :=
  ⟨258, [i6 3, .slice (some ⟨9159, 0, none⟩) 256 256], 9160, [(9159, .cells (u8s [1, 0, 40, 0, 3, 0, 0, 0, 77, 237, 48, 148, 3] ++ u8z 5 ++ u8s [1, 0, 0, 0, 255, 255, 255, 255, 1] ++ u8z 4 ++ u8s [2, 0, 0, 0, 1] ++ u8z 4 ++ u8s [1, 0, 0, 0, 2, 0, 0, 0, 255, 255, 255, 255] ++ u8z 204) 5 false)], .tuple #[i6 1, .slice (some ⟨9349, 0, none⟩) 40 40, i6 0], 9390, [(9349, some (.cells (u8s [3] ++ u8z 5 ++ u8s [1, 0, 0, 0, 255, 255, 255, 255, 1] ++ u8z 4 ++ u8s [2, 0, 0, 0, 1] ++ u8z 4 ++ u8s [1, 0, 0, 0, 2, 0, 0, 0, 255, 255, 255, 255]) 5 false))]⟩
theorem m25_21_ok : m25_21.ok (call evT evF k25_21 100000 m25_21.f m25_21.args m25_21.preH) = true := by kernel_rfl
theorem q25_21 : HkOk Tryz.prog (hkMemo m25_21 : Hk Empty) := hkMemo_ok evT_ok evF_ok k25_21_ok rfl m25_21_ok
noncomputable def k25_24 : Hk Empty := hkLib
theorem k25_24_ok : HkOk Tryz.prog k25_24 := hkLib_ok
noncomputable def m25_24 : Mm Empty :=
  ⟨259, [i6 1, .slice (some ⟨10134, 0, none⟩) 40 40], 10176, [(10134, .cells (u8s [3] ++ u8z 5 ++ u8s [1, 0, 0, 0, 255, 255, 255, 255, 1] ++ u8z 4 ++ u8s [2, 0, 0, 0, 1] ++ u8z 4 ++ u8s [1, 0, 0, 0, 2, 0, 0, 0, 255, 255, 255, 255]) 5 false)], .tuple #[.agg #[.bool true, .slice (some ⟨10610, 0, none⟩) 3 3, .slice none 0 0], i6 0], 10631, [(10610, some (.cells [i6 0, i6 0, i6 1, .int .i64 (.negSucc 0), i6 1, i6 0, i6 2, i6 1, i6 0, i6 1, i6 2, .int .i64 (.negSucc 0)] 123 false))]⟩
theorem m25_24_ok : m25_24.ok (call evT evF k25_24 100000 m25_24.f m25_24.args m25_24.preH) = true := by kernel_rfl
theorem q25_24 : HkOk Tryz.prog (hkMemo m25_24 : Hk Empty) := hkMemo_ok evT_ok evF_ok k25_24_ok rfl m25_24_ok
end Go.Proofs.YtefcphflpbopiaaGreatDoor
