/-
  Calls that were reckoned out, one by one. Printed by a program.
  Calls that were reckoned out, one by one. Printed by a program.
-/
import Derived.Test.YtebhnbecjmdicaaGreatDoorEvl
namespace Go.Proofs.YtebhnbecjmdicaaGreatDoor
open Go.Ev
set_option maxRecDepth 1000000
noncomputable def k25_10 : Hk Empty := hkLib
theorem k25_10_ok : HkOk Tryz.prog k25_10 := hkLib_ok
noncomputable def m25_10 : Mm Empty :=
  ⟨261, [i6 1, .slice (some ⟨5086, 0, none⟩) 256 256], 5087, [(5086, .cells (u8s [1, 0, 14, 0, 1, 0, 0, 0, 194, 105, 111, 233, 1] ++ u8z 5 ++ u8s [3, 0, 0, 0, 255, 255, 255, 255] ++ u8z 230) 5 false)], .tuple #[i6 1, .slice (some ⟨5276, 0, none⟩) 14 14, i6 0], 5317, [(5276, some (.cells (u8s [1] ++ u8z 5 ++ u8s [3, 0, 0, 0, 255, 255, 255, 255]) 5 false))]⟩
theorem m25_10_ok : m25_10.ok (call evT evF k25_10 100000 m25_10.f m25_10.args m25_10.preH) = true := by kernel_rfl
theorem q25_10 : HkOk Tryz.prog (hkMemo m25_10 : Hk Empty) := hkMemo_ok evT_ok evF_ok k25_10_ok rfl m25_10_ok
noncomputable def k25_14 : Hk Empty := hkLib
theorem k25_14_ok : HkOk Tryz.prog k25_14 := hkLib_ok
noncomputable def m25_14 : Mm Empty :=
  ⟨262, [i6 1, .slice (some ⟨6225, 0, none⟩) 40 40], 6267, [(6225, .cells (u8s [3] ++ u8z 5 ++ u8s [1, 0, 0, 0, 255, 255, 255, 255, 1] ++ u8z 4 ++ u8s [2, 0, 0, 0, 1] ++ u8z 4 ++ u8s [1, 0, 0, 0, 2, 0, 0, 0, 255, 255, 255, 255]) 5 false)], .tuple #[.agg #[.bool true, .slice (some ⟨6701, 0, none⟩) 3 3, .slice none 0 0], i6 0], 6722, [(6701, some (.cells [i6 0, i6 0, i6 1, .int .i64 (.negSucc 0), i6 1, i6 0, i6 2, i6 1, i6 0, i6 1, i6 2, .int .i64 (.negSucc 0)] 125 false))]⟩
theorem m25_14_ok : m25_14.ok (call evT evF k25_14 100000 m25_14.f m25_14.args m25_14.preH) = true := by kernel_rfl
theorem q25_14 : HkOk Tryz.prog (hkMemo m25_14 : Hk Empty) := hkMemo_ok evT_ok evF_ok k25_14_ok rfl m25_14_ok
noncomputable def k25_21 : Hk Empty := hkLib
theorem k25_21_ok : HkOk Tryz.prog k25_21 := hkLib_ok
noncomputable def m25_21 : Mm Empty :=
  ⟨261, [i6 3, .slice (some ⟨9159, 0, none⟩) 256 256], 9160, [(9159, .cells (u8s [1, 0, 40, 0, 3, 0, 0, 0, 77, 237, 48, 148, 3] ++ u8z 5 ++ u8s [1, 0, 0, 0, 255, 255, 255, 255, 1] ++ u8z 4 ++ u8s [2, 0, 0, 0, 1] ++ u8z 4 ++ u8s [1, 0, 0, 0, 2, 0, 0, 0, 255, 255, 255, 255] ++ u8z 204) 5 false)], .tuple #[i6 1, .slice (some ⟨9349, 0, none⟩) 40 40, i6 0], 9390, [(9349, some (.cells (u8s [3] ++ u8z 5 ++ u8s [1, 0, 0, 0, 255, 255, 255, 255, 1] ++ u8z 4 ++ u8s [2, 0, 0, 0, 1] ++ u8z 4 ++ u8s [1, 0, 0, 0, 2, 0, 0, 0, 255, 255, 255, 255]) 5 false))]⟩
theorem m25_21_ok : m25_21.ok (call evT evF k25_21 100000 m25_21.f m25_21.args m25_21.preH) = true := by kernel_rfl
theorem q25_21 : HkOk Tryz.prog (hkMemo m25_21 : Hk Empty) := hkMemo_ok evT_ok evF_ok k25_21_ok rfl m25_21_ok
noncomputable def k25_24 : Hk Empty := hkLib
theorem k25_24_ok : HkOk Tryz.prog k25_24 := hkLib_ok
noncomputable def m25_24 : Mm Empty :=
  ⟨262, [i6 1, .slice (some ⟨10134, 0, none⟩) 40 40], 10176, [(10134, .cells (u8s [3] ++ u8z 5 ++ u8s [1, 0, 0, 0, 255, 255, 255, 255, 1] ++ u8z 4 ++ u8s [2, 0, 0, 0, 1] ++ u8z 4 ++ u8s [1, 0, 0, 0, 2, 0, 0, 0, 255, 255, 255, 255]) 5 false)], .tuple #[.agg #[.bool true, .slice (some ⟨10610, 0, none⟩) 3 3, .slice none 0 0], i6 0], 10631, [(10610, some (.cells [i6 0, i6 0, i6 1, .int .i64 (.negSucc 0), i6 1, i6 0, i6 2, i6 1, i6 0, i6 1, i6 2, .int .i64 (.negSucc 0)] 125 false))]⟩
theorem m25_24_ok : m25_24.ok (call evT evF k25_24 100000 m25_24.f m25_24.args m25_24.preH) = true := by kernel_rfl
theorem q25_24 : HkOk Tryz.prog (hkMemo m25_24 : Hk Empty) := hkMemo_ok evT_ok evF_ok k25_24_ok rfl m25_24_ok
end Go.Proofs.YtebhnbecjmdicaaGreatDoor

namespace Go.Proofs.YtebhnbecjmdicaaGreatDoor
open Go.Ev
set_option maxRecDepth 1000000
noncomputable def k25_9 : Hk Empty := hkLib
theorem k25_9_ok : HkOk Tryz.prog k25_9 := hkLib_ok
noncomputable def m25_9 : Mm Empty :=
  ⟨261, [i6 1, .slice (some ⟨4493, 0, none⟩) 256 256], 4494, [(4493, .cells (u8s [1, 0, 14, 0, 1, 0, 0, 0, 194, 105, 111, 233, 1] ++ u8z 5 ++ u8s [3, 0, 0, 0, 255, 255, 255, 255] ++ u8z 230) 5 false)], .tuple #[i6 1, .slice (some ⟨4683, 0, none⟩) 14 14, i6 0], 4724, [(4683, some (.cells (u8s [1] ++ u8z 5 ++ u8s [3, 0, 0, 0, 255, 255, 255, 255]) 5 false))]⟩
theorem m25_9_ok : m25_9.ok (call evT evF k25_9 100000 m25_9.f m25_9.args m25_9.preH) = true := by kernel_rfl
theorem q25_9 : HkOk Tryz.prog (hkMemo m25_9 : Hk Empty) := hkMemo_ok evT_ok evF_ok k25_9_ok rfl m25_9_ok
noncomputable def k25_11 : Hk Empty := hkLib
theorem k25_11_ok : HkOk Tryz.prog k25_11 := hkLib_ok
noncomputable def m25_11 : Mm Empty :=
  ⟨266, [pt 138 0, .agg #[.bool true, .slice (some ⟨5044, 0, none⟩) 3 3, .slice none 0 0]], 5598, [(1, .map [⟨.string ⟨#[111, 114, 105, 103, 105, 110, 97, 108]⟩, pt 32 0, 0⟩, ⟨.string ⟨#[115, 116, 111, 114, 101]⟩, pt 594 0, 1⟩] 2),
  (2, .cells [i6 1048576, i6 6, .int .i64 (.negSucc 5), .bool false, .bool false, .map (some 1), .slice none 0 0] 76 true),
  (32, .cells [.slice (some ⟨34, 0, none⟩) 3 3, .slice (some ⟨35, 0, none⟩) 3 3, .bool true] 82 true),
  (34, .cells (u8s [97, 98, 99]) 5 false),
  (35, .cells (u8s [97, 98, 99]) 5 false),
  (115, .map [⟨i6 1, pt 292 0, 0⟩, ⟨i6 2, pt 417 0, 1⟩] 2),
  (116, .cells [i6 5, i6 0, i6 0, .bool false, pt 292 0, pt 417 0, .map (some 115)] 292 true),
  (133, .map [⟨i6 1, .slice (some ⟨318, 0, none⟩) 256 256, 0⟩, ⟨i6 2, .slice (some ⟨443, 0, none⟩) 256 256, 1⟩] 2),
  (134, .cells [pt 116 0, pt 2 0, .string ⟨#[115, 116, 111, 114, 101]⟩, i6 5, .map (some 133), i6 0] 208 true),
  (135, .map [⟨i6 2, .bool true, 2⟩, ⟨i6 1, .bool true, 3⟩] 4),
  (136, .map [] 0),
  (137, .cells [i6 1, .map (some 135), .map (some 136), .slice none 0 0] 182 true),
  (138, .cells [pt 134 0, pt 137 0] 187 true),
  (292, .cells [i6 1, i6 0, .bool false, pt 417 0, pt 116 1] 289 true),
  (417, .cells [i6 2, i6 0, .bool false, pt 116 1, pt 292 0] 289 true),
  (594, .cells [.slice (some ⟨2438, 0, none⟩) 768 768, .slice (some ⟨3192, 0, none⟩) 768 768, .bool true] 82 true),
  (5044, .cells [i6 0, i6 0, i6 1, .int .i64 (.negSucc 0), i6 1, i6 0, i6 2, i6 1, i6 0, i6 1, i6 2, .int .i64 (.negSucc 0)] 125 false)], .agg #[i6 3, i6 5, .int .i64 (.negSucc 0), i6 3], 5819, [(115, some (.map [⟨i6 1, pt 292 0, 0⟩, ⟨i6 2, pt 417 0, 1⟩, ⟨i6 3, pt 5735 0, 2⟩] 3)),
  (116, some (.cells [i6 5, i6 0, i6 0, .bool false, pt 5735 0, pt 417 0, .map (some 115)] 292 true)),
  (133, some (.map [⟨i6 1, .slice (some ⟨318, 0, none⟩) 256 256, 0⟩, ⟨i6 2, .slice (some ⟨443, 0, none⟩) 256 256, 1⟩, ⟨i6 3, .slice (some ⟨5761, 0, none⟩) 256 256, 2⟩] 3)),
  (135, some (.map [⟨i6 2, .bool true, 2⟩, ⟨i6 1, .bool true, 3⟩, ⟨i6 3, .bool true, 4⟩] 5)),
  (137, some (.cells [i6 1, .map (some 135), .map (some 136), .slice (some ⟨5703, 0, none⟩) 1 1] 182 true)),
  (292, some (.cells [i6 1, i6 0, .bool false, pt 417 0, pt 5735 0] 289 true)),
  (5703, some (.cells [i6 3] 3 false)),
  (5735, some (.cells [i6 3, i6 0, .bool true, pt 292 0, pt 116 1] 289 true)),
  (5761, some (.cells (u8s [1, 0, 40, 0, 3, 0, 0, 0, 77, 237, 48, 148, 3] ++ u8z 5 ++ u8s [1, 0, 0, 0, 255, 255, 255, 255, 1] ++ u8z 4 ++ u8s [2, 0, 0, 0, 1] ++ u8z 4 ++ u8s [1, 0, 0, 0, 2, 0, 0, 0, 255, 255, 255, 255] ++ u8z 204) 5 false))]⟩
theorem m25_11_ok : m25_11.ok (call evT evF k25_11 100000 m25_11.f m25_11.args m25_11.preH) = true := by kernel_rfl
theorem q25_11 : HkOk Tryz.prog (hkMemo m25_11 : Hk Empty) := hkMemo_ok evT_ok evF_ok k25_11_ok rfl m25_11_ok
noncomputable def k25_16 : Hk Empty := hkLib
theorem k25_16_ok : HkOk Tryz.prog k25_16 := hkLib_ok
noncomputable def m25_16 : Mm Empty :=
  ⟨262, [i6 1, .slice (some ⟨7010, 0, none⟩) 40 40], 7052, [(7010, .cells (u8s [3] ++ u8z 5 ++ u8s [1, 0, 0, 0, 255, 255, 255, 255, 1] ++ u8z 4 ++ u8s [2, 0, 0, 0, 1] ++ u8z 4 ++ u8s [1, 0, 0, 0, 2, 0, 0, 0, 255, 255, 255, 255]) 5 false)], .tuple #[.agg #[.bool true, .slice (some ⟨7486, 0, none⟩) 3 3, .slice none 0 0], i6 0], 7507, [(7486, some (.cells [i6 0, i6 0, i6 1, .int .i64 (.negSucc 0), i6 1, i6 0, i6 2, i6 1, i6 0, i6 1, i6 2, .int .i64 (.negSucc 0)] 125 false))]⟩
theorem m25_16_ok : m25_16.ok (call evT evF k25_16 100000 m25_16.f m25_16.args m25_16.preH) = true := by kernel_rfl
theorem q25_16 : HkOk Tryz.prog (hkMemo m25_16 : Hk Empty) := hkMemo_ok evT_ok evF_ok k25_16_ok rfl m25_16_ok
noncomputable def k25_19 : Hk Empty := hkLib
theorem k25_19_ok : HkOk Tryz.prog k25_19 := hkLib_ok
noncomputable def m25_19 : Mm Empty :=
  ⟨261, [i6 3, .slice (some ⟨8381, 0, none⟩) 256 256], 8382, [(8381, .cells (u8s [1, 0, 40, 0, 3, 0, 0, 0, 77, 237, 48, 148, 3] ++ u8z 5 ++ u8s [1, 0, 0, 0, 255, 255, 255, 255, 1] ++ u8z 4 ++ u8s [2, 0, 0, 0, 1] ++ u8z 4 ++ u8s [1, 0, 0, 0, 2, 0, 0, 0, 255, 255, 255, 255] ++ u8z 204) 5 false)], .tuple #[i6 1, .slice (some ⟨8571, 0, none⟩) 40 40, i6 0], 8612, [(8571, some (.cells (u8s [3] ++ u8z 5 ++ u8s [1, 0, 0, 0, 255, 255, 255, 255, 1] ++ u8z 4 ++ u8s [2, 0, 0, 0, 1] ++ u8z 4 ++ u8s [1, 0, 0, 0, 2, 0, 0, 0, 255, 255, 255, 255]) 5 false))]⟩
theorem m25_19_ok : m25_19.ok (call evT evF k25_19 100000 m25_19.f m25_19.args m25_19.preH) = true := by kernel_rfl
theorem q25_19 : HkOk Tryz.prog (hkMemo m25_19 : Hk Empty) := hkMemo_ok evT_ok evF_ok k25_19_ok rfl m25_19_ok
end Go.Proofs.YtebhnbecjmdicaaGreatDoor
