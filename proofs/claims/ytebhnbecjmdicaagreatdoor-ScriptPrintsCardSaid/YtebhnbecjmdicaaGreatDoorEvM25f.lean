/-
  Calls that were reckoned out, one by one. Printed by a program.
  Calls that were reckoned out, one by one. Printed by a program.
-/
import Derived.Test.YtebhnbecjmdicaaGreatDoorEvl
import Derived.Test.YtebhnbecjmdicaaGreatDoorEvM25b
import Derived.Test.YtebhnbecjmdicaaGreatDoorEvM25d
namespace Go.Proofs.YtebhnbecjmdicaaGreatDoor
open Go.Ev
set_option maxRecDepth 1000000
noncomputable def k25_0 : Hk Empty := hkLib
theorem k25_0_ok : HkOk Tryz.prog k25_0 := hkLib_ok
noncomputable def m25_0 : Mm Empty :=
  ⟨132, [pt 2 0, .string ⟨#[115, 116, 111, 114, 101]⟩, i6 0, .slice (some ⟨574, 0, none⟩) 256 256], 577, [(1, .map [⟨.string ⟨#[111, 114, 105, 103, 105, 110, 97, 108]⟩, pt 32 0, 0⟩] 1),
  (2, .cells [i6 1048576, i6 0, i6 0, .bool false, .bool false, .map (some 1), .slice none 0 0] 76 true),
  (32, .cells [.slice (some ⟨34, 0, none⟩) 3 3, .slice (some ⟨35, 0, none⟩) 3 3, .bool true] 82 true),
  (34, .cells (u8s [97, 98, 99]) 5 false),
  (35, .cells (u8s [97, 98, 99]) 5 false),
  (574, .cells (u8z 256) 5 true)], i6 0, 1219, [(1, some (.map [⟨.string ⟨#[111, 114, 105, 103, 105, 110, 97, 108]⟩, pt 32 0, 0⟩, ⟨.string ⟨#[115, 116, 111, 114, 101]⟩, pt 594 0, 1⟩] 2)),
  (2, some (.cells [i6 1048576, i6 1, .int .i64 (.negSucc 0), .bool false, .bool false, .map (some 1), .slice (some ⟨1210, 0, none⟩) 4 4] 76 true)),
  (594, some (.cells [.slice (some ⟨1106, 0, none⟩) 256 256, .slice none 0 0, .bool false] 82 true)),
  (1106, some (.cells (u8z 256) 5 false)),
  (1125, some (.cells (u8z 64) 5 false)),
  (1153, some (.cells (u8z 64) 5 false)),
  (1181, some (.cells (u8z 64) 5 false)),
  (1209, some (.cells (u8z 64) 5 false)),
  (1210, some (.cells [.string ⟨#[115, 116, 111, 114, 101]⟩, i6 0, .slice (some ⟨1125, 0, none⟩) 64 64, .string ⟨#[115, 116, 111, 114, 101]⟩, i6 64, .slice (some ⟨1153, 0, none⟩) 64 64, .string ⟨#[115, 116, 111, 114, 101]⟩, i6 128, .slice (some ⟨1181, 0, none⟩) 64 64, .string ⟨#[115, 116, 111, 114, 101]⟩, i6 192, .slice (some ⟨1209, 0, none⟩) 64 64] 107 false))]⟩
theorem m25_0_ok : m25_0.ok (call evT evF k25_0 100000 m25_0.f m25_0.args m25_0.preH) = true := by kernel_rfl
theorem q25_0 : HkOk Tryz.prog (hkMemo m25_0 : Hk Empty) := hkMemo_ok evT_ok evF_ok k25_0_ok rfl m25_0_ok
noncomputable def k25_4 : Hk Empty := hkLib
theorem k25_4_ok : HkOk Tryz.prog k25_4 := hkLib_ok
noncomputable def m25_4 : Mm Empty :=
  ⟨261, [i6 1, .slice (some ⟨2662, 0, none⟩) 256 256], 2663, [(2662, .cells (u8s [1, 0, 14, 0, 1, 0, 0, 0, 194, 105, 111, 233, 1] ++ u8z 5 ++ u8s [3, 0, 0, 0, 255, 255, 255, 255] ++ u8z 230) 5 false)], .tuple #[i6 1, .slice (some ⟨2852, 0, none⟩) 14 14, i6 0], 2893, [(2852, some (.cells (u8s [1] ++ u8z 5 ++ u8s [3, 0, 0, 0, 255, 255, 255, 255]) 5 false))]⟩
theorem m25_4_ok : m25_4.ok (call evT evF k25_4 100000 m25_4.f m25_4.args m25_4.preH) = true := by kernel_rfl
theorem q25_4 : HkOk Tryz.prog (hkMemo m25_4 : Hk Empty) := hkMemo_ok evT_ok evF_ok k25_4_ok rfl m25_4_ok
noncomputable def k25_13 : Hk Empty := hkLib
theorem k25_13_ok : HkOk Tryz.prog k25_13 := hkLib_ok
noncomputable def m25_13 : Mm Empty :=
  ⟨261, [i6 3, .slice (some ⟨6035, 0, none⟩) 256 256], 6036, [(6035, .cells (u8s [1, 0, 40, 0, 3, 0, 0, 0, 77, 237, 48, 148, 3] ++ u8z 5 ++ u8s [1, 0, 0, 0, 255, 255, 255, 255, 1] ++ u8z 4 ++ u8s [2, 0, 0, 0, 1] ++ u8z 4 ++ u8s [1, 0, 0, 0, 2, 0, 0, 0, 255, 255, 255, 255] ++ u8z 204) 5 false)], .tuple #[i6 1, .slice (some ⟨6225, 0, none⟩) 40 40, i6 0], 6266, [(6225, some (.cells (u8s [3] ++ u8z 5 ++ u8s [1, 0, 0, 0, 255, 255, 255, 255, 1] ++ u8z 4 ++ u8s [2, 0, 0, 0, 1] ++ u8z 4 ++ u8s [1, 0, 0, 0, 2, 0, 0, 0, 255, 255, 255, 255]) 5 false))]⟩
theorem m25_13_ok : m25_13.ok (call evT evF k25_13 100000 m25_13.f m25_13.args m25_13.preH) = true := by kernel_rfl
theorem q25_13 : HkOk Tryz.prog (hkMemo m25_13 : Hk Empty) := hkMemo_ok evT_ok evF_ok k25_13_ok rfl m25_13_ok
noncomputable def k25_22 : Hk Empty := hkLib
theorem k25_22_ok : HkOk Tryz.prog k25_22 := hkLib_ok
noncomputable def m25_22 : Mm Empty :=
  ⟨262, [i6 1, .slice (some ⟨9349, 0, none⟩) 40 40], 9391, [(9349, .cells (u8s [3] ++ u8z 5 ++ u8s [1, 0, 0, 0, 255, 255, 255, 255, 1] ++ u8z 4 ++ u8s [2, 0, 0, 0, 1] ++ u8z 4 ++ u8s [1, 0, 0, 0, 2, 0, 0, 0, 255, 255, 255, 255]) 5 false)], .tuple #[.agg #[.bool true, .slice (some ⟨9825, 0, none⟩) 3 3, .slice none 0 0], i6 0], 9846, [(9825, some (.cells [i6 0, i6 0, i6 1, .int .i64 (.negSucc 0), i6 1, i6 0, i6 2, i6 1, i6 0, i6 1, i6 2, .int .i64 (.negSucc 0)] 125 false))]⟩
theorem m25_22_ok : m25_22.ok (call evT evF k25_22 100000 m25_22.f m25_22.args m25_22.preH) = true := by kernel_rfl
theorem q25_22 : HkOk Tryz.prog (hkMemo m25_22 : Hk Empty) := hkMemo_ok evT_ok evF_ok k25_22_ok rfl m25_22_ok
noncomputable def k25_23 : Hk Empty := hkLib
theorem k25_23_ok : HkOk Tryz.prog k25_23 := hkLib_ok
noncomputable def m25_23 : Mm Empty :=
  ⟨261, [i6 3, .slice (some ⟨9944, 0, none⟩) 256 256], 9945, [(9944, .cells (u8s [1, 0, 40, 0, 3, 0, 0, 0, 77, 237, 48, 148, 3] ++ u8z 5 ++ u8s [1, 0, 0, 0, 255, 255, 255, 255, 1] ++ u8z 4 ++ u8s [2, 0, 0, 0, 1] ++ u8z 4 ++ u8s [1, 0, 0, 0, 2, 0, 0, 0, 255, 255, 255, 255] ++ u8z 204) 5 false)], .tuple #[i6 1, .slice (some ⟨10134, 0, none⟩) 40 40, i6 0], 10175, [(10134, some (.cells (u8s [3] ++ u8z 5 ++ u8s [1, 0, 0, 0, 255, 255, 255, 255, 1] ++ u8z 4 ++ u8s [2, 0, 0, 0, 1] ++ u8z 4 ++ u8s [1, 0, 0, 0, 2, 0, 0, 0, 255, 255, 255, 255]) 5 false))]⟩
theorem m25_23_ok : m25_23.ok (call evT evF k25_23 100000 m25_23.f m25_23.args m25_23.preH) = true := by kernel_rfl
theorem q25_23 : HkOk Tryz.prog (hkMemo m25_23 : Hk Empty) := hkMemo_ok evT_ok evF_ok k25_23_ok rfl m25_23_ok
end Go.Proofs.YtebhnbecjmdicaaGreatDoor

namespace Go.Proofs.YtebhnbecjmdicaaGreatDoor
open Go.Ev
set_option maxRecDepth 1000000
noncomputable def k25_3 : Hk Empty := orHk (hkMemo m25_0) (orHk (hkMemo m25_1) (orHk (hkMemo m25_2) (hkLib)))
theorem k25_3_ok : HkOk Tryz.prog k25_3 := orHk_ok q25_0 (orHk_ok q25_1 (orHk_ok q25_2 (hkLib_ok)))
noncomputable def m25_3 : Mm Empty :=
  ⟨240, [pt 140 0, .agg #[.slice (some ⟨355, 0, none⟩) 1 1, i6 0], i6 3], 371, [(1, .map [⟨.string ⟨#[111, 114, 105, 103, 105, 110, 97, 108]⟩, pt 32 0, 0⟩] 1),
  (2, .cells [i6 1048576, i6 0, i6 0, .bool false, .bool false, .map (some 1), .slice none 0 0] 76 true),
  (32, .cells [.slice (some ⟨34, 0, none⟩) 3 3, .slice (some ⟨35, 0, none⟩) 3 3, .bool true] 82 true),
  (34, .cells (u8s [97, 98, 99]) 5 false),
  (35, .cells (u8s [97, 98, 99]) 5 false),
  (115, .map [⟨i6 1, pt 292 0, 0⟩] 1),
  (116, .cells [i6 5, i6 0, i6 0, .bool false, pt 292 0, pt 292 0, .map (some 115)] 292 true),
  (133, .map [⟨i6 1, .slice (some ⟨318, 0, none⟩) 256 256, 0⟩] 1),
  (134, .cells [pt 116 0, pt 2 0, .string ⟨#[115, 116, 111, 114, 101]⟩, i6 5, .map (some 133), i6 0] 208 true),
  (135, .map [⟨i6 1, .bool true, 0⟩] 1),
  (136, .map [] 0),
  (137, .cells [i6 1, .map (some 135), .map (some 136), .slice (some ⟨260, 0, none⟩) 1 1] 182 true),
  (138, .cells [pt 134 0, pt 137 0] 187 true),
  (140, .cells [pt 134 0, pt 137 0, pt 138 0, pt 2 0, pt 150 0, .pointer none, .slice none 0 0, i6 0, i6 0, i6 0, i6 0, i6 0, i6 3, i6 0, i6 0, i6 0, i6 0, i6 0, .slice none 0 0] 176 true),
  (150, .cells [pt 2 0, i6 0] 178 true),
  (260, .cells [i6 1] 3 false),
  (292, .cells [i6 1, i6 0, .bool true, pt 116 1, pt 116 1] 289 true),
  (318, .cells (u8s [1, 0, 14, 0, 1, 0, 0, 0, 194, 105, 111, 233, 1] ++ u8z 5 ++ u8s [3, 0, 0, 0, 255, 255, 255, 255] ++ u8z 230) 5 false),
  (355, .cells [i6 1, i6 3] 242 true)], .tuple #[.agg #[i6 1, i6 2, i6 0, i6 0, i6 3], i6 0], 2602, [(1, some (.map [⟨.string ⟨#[111, 114, 105, 103, 105, 110, 97, 108]⟩, pt 32 0, 0⟩, ⟨.string ⟨#[115, 116, 111, 114, 101]⟩, pt 594 0, 1⟩] 2)),
  (2, some (.cells [i6 1048576, i6 4, .int .i64 (.negSucc 3), .bool false, .bool false, .map (some 1), .slice none 0 0] 76 true)),
  (115, some (.map [⟨i6 1, pt 292 0, 0⟩, ⟨i6 2, pt 417 0, 1⟩] 2)),
  (116, some (.cells [i6 5, i6 0, i6 0, .bool false, pt 417 0, pt 292 0, .map (some 115)] 292 true)),
  (133, some (.map [⟨i6 1, .slice (some ⟨318, 0, none⟩) 256 256, 0⟩, ⟨i6 2, .slice (some ⟨443, 0, none⟩) 256 256, 1⟩] 2)),
  (135, some (.map [⟨i6 1, .bool true, 0⟩, ⟨i6 2, .bool true, 1⟩] 2)),
  (137, some (.cells [i6 1, .map (some 135), .map (some 136), .slice (some ⟨385, 0, none⟩) 2 2] 182 true)),
  (260, none),
  (292, some (.cells [i6 1, i6 0, .bool false, pt 116 1, pt 417 0] 289 true)),
  (385, some (.cells [i6 1, i6 2] 3 false)),
  (417, some (.cells [i6 2, i6 0, .bool false, pt 292 0, pt 116 1] 289 true)),
  (443, some (.cells (u8s [3, 0, 9, 0, 2, 0, 0, 0, 68, 252, 163, 153, 1, 1, 0, 0, 0, 3] ++ u8z 238) 5 false)),
  (594, some (.cells [.slice (some ⟨2438, 0, none⟩) 768 768, .slice (some ⟨2562, 0, none⟩) 768 768, .bool true] 82 true)),
  (2438, some (.cells (u8z 256 ++ u8s [1, 0, 14, 0, 1, 0, 0, 0, 194, 105, 111, 233, 1] ++ u8z 5 ++ u8s [3, 0, 0, 0, 255, 255, 255, 255] ++ u8z 230 ++ u8s [3, 0, 9, 0, 2, 0, 0, 0, 68, 252, 163, 153, 1, 1, 0, 0, 0, 3] ++ u8z 238) 5 false)),
  (2562, some (.cells (u8z 256 ++ u8s [1, 0, 14, 0, 1, 0, 0, 0, 194, 105, 111, 233, 1] ++ u8z 5 ++ u8s [3, 0, 0, 0, 255, 255, 255, 255] ++ u8z 230 ++ u8s [3, 0, 9, 0, 2, 0, 0, 0, 68, 252, 163, 153, 1, 1, 0, 0, 0, 3] ++ u8z 238) 5 false))]⟩
theorem m25_3_ok : m25_3.ok (call evT evF k25_3 100000 m25_3.f m25_3.args m25_3.preH) = true := by kernel_rfl
theorem q25_3 : HkOk Tryz.prog (hkMemo m25_3 : Hk Empty) := hkMemo_ok evT_ok evF_ok k25_3_ok rfl m25_3_ok
noncomputable def k25_12 : Hk Empty := orHk (hkMemo m25_7) (orHk (hkMemo m25_8) (orHk (hkMemo m25_9) (orHk (hkMemo m25_10) (orHk (hkMemo m25_11) (hkLib)))))
theorem k25_12_ok : HkOk Tryz.prog k25_12 := orHk_ok q25_7 (orHk_ok q25_8 (orHk_ok q25_9 (orHk_ok q25_10 (orHk_ok q25_11 (hkLib_ok)))))
noncomputable def m25_12 : Mm Empty :=
  ⟨75, [pt 138 0, i6 1, i6 1, i6 0, .slice (some ⟨3451, 0, none⟩) 1 1], 3470, [(1, .map [⟨.string ⟨#[111, 114, 105, 103, 105, 110, 97, 108]⟩, pt 32 0, 0⟩, ⟨.string ⟨#[115, 116, 111, 114, 101]⟩, pt 594 0, 1⟩] 2),
  (2, .cells [i6 1048576, i6 6, .int .i64 (.negSucc 5), .bool false, .bool false, .map (some 1), .slice none 0 0] 76 true),
  (32, .cells [.slice (some ⟨34, 0, none⟩) 3 3, .slice (some ⟨35, 0, none⟩) 3 3, .bool true] 82 true),
  (34, .cells (u8s [97, 98, 99]) 5 false),
  (35, .cells (u8s [97, 98, 99]) 5 false),
  (115, .map [⟨i6 1, pt 292 0, 0⟩, ⟨i6 2, pt 417 0, 1⟩] 2),
  (116, .cells [i6 5, i6 0, i6 0, .bool false, pt 292 0, pt 417 0, .map (some 115)] 292 true),
  (133, .map [⟨i6 1, .slice (some ⟨318, 0, none⟩) 256 256, 0⟩, ⟨i6 2, .slice (some ⟨443, 0, none⟩) 256 256, 1⟩] 2),
  (134, .cells [pt 116 0, pt 2 0, .string ⟨#[115, 116, 111, 114, 101]⟩, i6 5, .map (some 133), i6 0] 208 true),
  (135, .map [⟨i6 2, .bool true, 2⟩, ⟨i6 1, .bool true, 3⟩] 4),
  (136, .map [] 0),
  (137, .cells [i6 1, .map (some 135), .map (some 136), .slice none 0 0] 182 true),
  (138, .cells [pt 134 0, pt 137 0] 187 true),
  (292, .cells [i6 1, i6 0, .bool false, pt 417 0, pt 116 1] 289 true),
  (318, .cells (u8s [1, 0, 14, 0, 1, 0, 0, 0, 194, 105, 111, 233, 1] ++ u8z 5 ++ u8s [3, 0, 0, 0, 255, 255, 255, 255] ++ u8z 230) 5 false),
  (417, .cells [i6 2, i6 0, .bool false, pt 116 1, pt 292 0] 289 true),
  (594, .cells [.slice (some ⟨2438, 0, none⟩) 768 768, .slice (some ⟨3192, 0, none⟩) 768 768, .bool true] 82 true),
  (3451, .cells [i6 1, i6 0, i6 2, i6 1] 125 false)], .tuple #[i6 3, i6 0], 5828, [(115, some (.map [⟨i6 1, pt 292 0, 0⟩, ⟨i6 2, pt 417 0, 1⟩, ⟨i6 3, pt 5735 0, 2⟩] 3)),
  (116, some (.cells [i6 5, i6 0, i6 0, .bool false, pt 5735 0, pt 417 0, .map (some 115)] 292 true)),
  (133, some (.map [⟨i6 1, .slice (some ⟨318, 0, none⟩) 256 256, 0⟩, ⟨i6 2, .slice (some ⟨443, 0, none⟩) 256 256, 1⟩, ⟨i6 3, .slice (some ⟨5761, 0, none⟩) 256 256, 2⟩] 3)),
  (135, some (.map [⟨i6 2, .bool true, 2⟩, ⟨i6 1, .bool true, 3⟩, ⟨i6 3, .bool true, 4⟩] 5)),
  (137, some (.cells [i6 1, .map (some 135), .map (some 136), .slice (some ⟨5703, 0, none⟩) 1 1] 182 true)),
  (292, some (.cells [i6 1, i6 0, .bool false, pt 417 0, pt 5735 0] 289 true)),
  (5703, some (.cells [i6 3] 3 false)),
  (5735, some (.cells [i6 3, i6 0, .bool true, pt 292 0, pt 116 1] 289 true)),
  (5761, some (.cells (u8s [1, 0, 40, 0, 3, 0, 0, 0, 77, 237, 48, 148, 3] ++ u8z 5 ++ u8s [1, 0, 0, 0, 255, 255, 255, 255, 1] ++ u8z 4 ++ u8s [2, 0, 0, 0, 1] ++ u8z 4 ++ u8s [1, 0, 0, 0, 2, 0, 0, 0, 255, 255, 255, 255] ++ u8z 204) 5 false))]⟩
theorem m25_12_ok : m25_12.ok (call evT evF k25_12 100000 m25_12.f m25_12.args m25_12.preH) = true := by kernel_rfl
theorem q25_12 : HkOk Tryz.prog (hkMemo m25_12 : Hk Empty) := hkMemo_ok evT_ok evF_ok k25_12_ok rfl m25_12_ok
noncomputable def k25_25 : Hk Empty := orHk (hkMemo m25_13) (orHk (hkMemo m25_14) (orHk (hkMemo m25_15) (orHk (hkMemo m25_16) (orHk (hkMemo m25_17) (orHk (hkMemo m25_18) (orHk (hkMemo m25_19) (orHk (hkMemo m25_20) (orHk (hkMemo m25_21) (orHk (hkMemo m25_22) (orHk (hkMemo m25_23) (orHk (hkMemo m25_24) (hkLib))))))))))))
theorem k25_25_ok : HkOk Tryz.prog k25_25 := orHk_ok q25_13 (orHk_ok q25_14 (orHk_ok q25_15 (orHk_ok q25_16 (orHk_ok q25_17 (orHk_ok q25_18 (orHk_ok q25_19 (orHk_ok q25_20 (orHk_ok q25_21 (orHk_ok q25_22 (orHk_ok q25_23 (orHk_ok q25_24 (hkLib_ok))))))))))))
noncomputable def m25_25 : Mm Empty :=
  ⟨81, [pt 3308 0, i6 0, i6 5], 5971, [(1, .map [⟨.string ⟨#[111, 114, 105, 103, 105, 110, 97, 108]⟩, pt 32 0, 0⟩, ⟨.string ⟨#[115, 116, 111, 114, 101]⟩, pt 594 0, 1⟩, ⟨.string ⟨#[116, 97, 105, 108]⟩, pt 5856 0, 2⟩] 3),
  (2, .cells [i6 1048576, i6 7, .int .i64 (.negSucc 6), .bool false, .bool false, .map (some 1), .slice (some ⟨5880, 0, none⟩) 1 1] 76 true),
  (32, .cells [.slice (some ⟨34, 0, none⟩) 3 3, .slice (some ⟨35, 0, none⟩) 3 3, .bool true] 82 true),
  (34, .cells (u8s [97, 98, 99]) 5 false),
  (35, .cells (u8s [97, 98, 99]) 5 false),
  (115, .map [⟨i6 1, pt 292 0, 0⟩, ⟨i6 2, pt 417 0, 1⟩, ⟨i6 3, pt 5735 0, 2⟩] 3),
  (116, .cells [i6 5, i6 0, i6 0, .bool false, pt 5735 0, pt 417 0, .map (some 115)] 292 true),
  (133, .map [⟨i6 1, .slice (some ⟨318, 0, none⟩) 256 256, 0⟩, ⟨i6 2, .slice (some ⟨443, 0, none⟩) 256 256, 1⟩, ⟨i6 3, .slice (some ⟨5761, 0, none⟩) 256 256, 2⟩] 3),
  (134, .cells [pt 116 0, pt 2 0, .string ⟨#[115, 116, 111, 114, 101]⟩, i6 5, .map (some 133), i6 0] 208 true),
  (135, .map [⟨i6 2, .bool true, 2⟩, ⟨i6 1, .bool true, 3⟩, ⟨i6 3, .bool true, 4⟩] 5),
  (136, .map [] 0),
  (137, .cells [i6 1, .map (some 135), .map (some 136), .slice (some ⟨5703, 0, none⟩) 1 1] 182 true),
  (138, .cells [pt 134 0, pt 137 0] 187 true),
  (140, .cells [pt 134 0, pt 137 0, pt 138 0, pt 2 0, pt 150 0, pt 3228 0, .slice (some ⟨3239, 0, none⟩) 1 1, i6 0, i6 1, i6 2, i6 0, i6 0, i6 3, i6 0, i6 0, i6 0, i6 0, i6 0, .slice (some ⟨3111, 0, none⟩) 1 1] 176 true),
  (150, .cells [pt 2 0, i6 2] 178 true),
  (292, .cells [i6 1, i6 0, .bool false, pt 417 0, pt 5735 0] 289 true),
  (417, .cells [i6 2, i6 0, .bool false, pt 116 1, pt 292 0] 289 true),
  (594, .cells [.slice (some ⟨2438, 0, none⟩) 768 768, .slice (some ⟨3192, 0, none⟩) 768 768, .bool true] 82 true),
  (3111, .cells [i6 1] 3 false),
  (3207, .map [] 0),
  (3208, .cells [pt 2 0, .string ⟨#[111, 114, 105, 103, 105, 110, 97, 108]⟩, i6 3, i6 0, .map (some 3207)] 438 true),
  (3228, .cells [pt 138 0, pt 3208 0, pt 150 0] 295 true),
  (3239, .cells [i6 1, i6 3] 242 false),
  (3308, .cells [pt 140 0, pt 2 0, i6 9, i6 3, i6 5, .bool true, .bool false] 119 true),
  (5703, .cells [i6 3] 3 false),
  (5735, .cells [i6 3, i6 0, .bool true, pt 292 0, pt 116 1] 289 true),
  (5761, .cells (u8s [1, 0, 40, 0, 3, 0, 0, 0, 77, 237, 48, 148, 3] ++ u8z 5 ++ u8s [1, 0, 0, 0, 255, 255, 255, 255, 1] ++ u8z 4 ++ u8s [2, 0, 0, 0, 1] ++ u8z 4 ++ u8s [1, 0, 0, 0, 2, 0, 0, 0, 255, 255, 255, 255] ++ u8z 204) 5 false),
  (5856, .cells [.slice (some ⟨5860, 0, none⟩) 2 2, .slice none 0 0, .bool false] 82 true),
  (5860, .cells (u8s [120, 10]) 5 false),
  (5879, .cells (u8s [120, 10]) 5 false),
  (5880, .cells [.string ⟨#[116, 97, 105, 108]⟩, i6 0, .slice (some ⟨5879, 0, none⟩) 2 2] 107 false)], .tuple #[.slice (some ⟨10657, 0, none⟩) 5 5, i6 0], 10658, [(10657, some (.cells (u8s [97, 120, 10, 98, 99]) 5 false))]⟩
theorem m25_25_ok : m25_25.ok (call evT evF k25_25 100000 m25_25.f m25_25.args m25_25.preH) = true := by kernel_rfl
theorem q25_25 : HkOk Tryz.prog (hkMemo m25_25 : Hk Empty) := hkMemo_ok evT_ok evF_ok k25_25_ok rfl m25_25_ok
end Go.Proofs.YtebhnbecjmdicaaGreatDoor
