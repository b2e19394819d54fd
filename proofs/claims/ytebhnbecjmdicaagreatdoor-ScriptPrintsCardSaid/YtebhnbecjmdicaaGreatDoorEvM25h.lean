/-
  Calls that were reckoned out, one by one. Printed by a program.
  Calls that were reckoned out, one by one. Printed by a program.
-/
import Derived.Test.YtebhnbecjmdicaaGreatDoorEvl
import Derived.Test.YtebhnbecjmdicaaGreatDoorEvM25f
namespace Go.Proofs.YtebhnbecjmdicaaGreatDoor
open Go.Ev
set_option maxRecDepth 1000000
noncomputable def k25_5 : Hk Empty := orHk (hkMemo m25_3) (orHk (hkMemo m25_4) (hkLib))
theorem k25_5_ok : HkOk Tryz.prog k25_5 := orHk_ok q25_3 (orHk_ok q25_4 (hkLib_ok))
noncomputable def m25_5 : Mm Empty :=
  ⟨169, [pt 140 0, .agg #[.slice (some ⟨355, 0, none⟩) 1 1, i6 0]], 356, [(1, .map [⟨.string ⟨#[111, 114, 105, 103, 105, 110, 97, 108]⟩, pt 32 0, 0⟩] 1),
  (2, .cells [i6 1048576, i6 0, i6 0, .bool false, .bool false, .map (some 1), .slice none 0 0] 76 true),
  (32, .cells [.slice (some ⟨34, 0, none⟩) 3 3, .slice (some ⟨35, 0, none⟩) 3 3, .bool true] 82 true),
  (34, .cells (u8s [97, 98, 99]) 5 false),
  (35, .cells (u8s [97, 98, 99]) 5 false),
  (115, .map [⟨i6 1, pt 292 0, 0⟩] 1),
  (116, .cells [i6 5, i6 0, i6 0, .bool false, pt 292 0, pt 292 0, .map (some 115)] 292 true),
  (133, .map [⟨i6 1, .slice (some ⟨318, 0, none⟩) 256 256, 0⟩] 1),
  (134, .cells [pt 116 0, pt 2 0, .string ⟨#[115, 116, 111, 114, 101]⟩, i6 5, .map (some 133), i6 0] 208 true),
  (135, .map [⟨i6 1, .bool true, 0⟩] 1),
  (136, .map [] 0),
  (137, .cells [i6 1, .map (some 135), .map (some 136), .slice (some ⟨260, 0, none⟩) 1 1] 182 true),
  (138, .cells [pt 134 0, pt 137 0] 187 true),
  (140, .cells [pt 134 0, pt 137 0, pt 138 0, pt 2 0, pt 150 0, .pointer none, .slice none 0 0, i6 0, i6 0, i6 0, i6 0, i6 0, i6 3, i6 0, i6 0, i6 0, i6 0, i6 0, .slice none 0 0] 176 true),
  (150, .cells [pt 2 0, i6 0] 178 true),
  (260, .cells [i6 1] 3 false),
  (292, .cells [i6 1, i6 0, .bool true, pt 116 1, pt 116 1] 289 true),
  (318, .cells (u8s [1, 0, 14, 0, 1, 0, 0, 0, 194, 105, 111, 233, 1] ++ u8z 5 ++ u8s [3, 0, 0, 0, 255, 255, 255, 255] ++ u8z 230) 5 false),
  (355, .cells [i6 1, i6 3] 242 true)], i6 0, 3308, [(1, some (.map [⟨.string ⟨#[111, 114, 105, 103, 105, 110, 97, 108]⟩, pt 32 0, 0⟩, ⟨.string ⟨#[115, 116, 111, 114, 101]⟩, pt 594 0, 1⟩] 2)),
  (2, some (.cells [i6 1048576, i6 6, .int .i64 (.negSucc 5), .bool false, .bool false, .map (some 1), .slice none 0 0] 76 true)),
  (115, some (.map [⟨i6 1, pt 292 0, 0⟩, ⟨i6 2, pt 417 0, 1⟩] 2)),
  (116, some (.cells [i6 5, i6 0, i6 0, .bool false, pt 292 0, pt 417 0, .map (some 115)] 292 true)),
  (133, some (.map [⟨i6 1, .slice (some ⟨318, 0, none⟩) 256 256, 0⟩, ⟨i6 2, .slice (some ⟨443, 0, none⟩) 256 256, 1⟩] 2)),
  (135, some (.map [⟨i6 2, .bool true, 2⟩, ⟨i6 1, .bool true, 3⟩] 4)),
  (137, some (.cells [i6 1, .map (some 135), .map (some 136), .slice none 0 0] 182 true)),
  (140, some (.cells [pt 134 0, pt 137 0, pt 138 0, pt 2 0, pt 150 0, pt 3228 0, .slice (some ⟨3239, 0, none⟩) 1 1, i6 0, i6 1, i6 2, i6 0, i6 0, i6 3, i6 0, i6 0, i6 0, i6 0, i6 0, .slice (some ⟨3111, 0, none⟩) 1 1] 176 true)),
  (260, none),
  (292, some (.cells [i6 1, i6 0, .bool false, pt 417 0, pt 116 1] 289 true)),
  (417, some (.cells [i6 2, i6 0, .bool false, pt 116 1, pt 292 0] 289 true)),
  (443, some (.cells (u8s [3, 0, 9, 0, 2, 0, 0, 0, 68, 252, 163, 153, 1, 1, 0, 0, 0, 3] ++ u8z 238) 5 false)),
  (594, some (.cells [.slice (some ⟨2438, 0, none⟩) 768 768, .slice (some ⟨3192, 0, none⟩) 768 768, .bool true] 82 true)),
  (2438, some (.cells (u8z 64 ++ u8s [111, 99, 116, 97, 118, 111, 48, 49, 1] ++ u8z 5 ++ u8s [2] ++ u8z 8 ++ u8s [3] ++ u8z 36 ++ u8s [137, 155, 206, 78] ++ u8z 128 ++ u8s [1, 0, 14, 0, 1, 0, 0, 0, 194, 105, 111, 233, 1] ++ u8z 5 ++ u8s [3, 0, 0, 0, 255, 255, 255, 255] ++ u8z 230 ++ u8s [3, 0, 9, 0, 2, 0, 0, 0, 68, 252, 163, 153, 1, 1, 0, 0, 0, 3] ++ u8z 238) 5 false)),
  (3111, some (.cells [i6 1] 3 false)),
  (3192, some (.cells (u8z 64 ++ u8s [111, 99, 116, 97, 118, 111, 48, 49, 1] ++ u8z 5 ++ u8s [2] ++ u8z 8 ++ u8s [3] ++ u8z 36 ++ u8s [137, 155, 206, 78] ++ u8z 128 ++ u8s [1, 0, 14, 0, 1, 0, 0, 0, 194, 105, 111, 233, 1] ++ u8z 5 ++ u8s [3, 0, 0, 0, 255, 255, 255, 255] ++ u8z 230 ++ u8s [3, 0, 9, 0, 2, 0, 0, 0, 68, 252, 163, 153, 1, 1, 0, 0, 0, 3] ++ u8z 238) 5 false)),
  (3207, some (.map [] 0)),
  (3208, some (.cells [pt 2 0, .string ⟨#[111, 114, 105, 103, 105, 110, 97, 108]⟩, i6 3, i6 0, .map (some 3207)] 438 true)),
  (3228, some (.cells [pt 138 0, pt 3208 0, pt 150 0] 295 true)),
  (3239, some (.cells [i6 1, i6 3] 242 false))]⟩
theorem m25_5_ok : m25_5.ok (call evT evF k25_5 100000 m25_5.f m25_5.args m25_5.preH) = true := by kernel_rfl
theorem q25_5 : HkOk Tryz.prog (hkMemo m25_5 : Hk Empty) := hkMemo_ok evT_ok evF_ok k25_5_ok rfl m25_5_ok
end Go.Proofs.YtebhnbecjmdicaaGreatDoor

namespace Go.Proofs.YtebhnbecjmdicaaGreatDoor
open Go.Ev
set_option maxRecDepth 1000000
noncomputable def k25_6 : Hk Empty := orHk (hkMemo m25_5) (hkLib)
theorem k25_6_ok : HkOk Tryz.prog k25_6 := orHk_ok q25_5 (hkLib_ok)
noncomputable def m25_6 : Mm Empty :=
  ⟨166, [pt 140 0], 150, [(1, .map [⟨.string ⟨#[111, 114, 105, 103, 105, 110, 97, 108]⟩, pt 32 0, 0⟩] 1),
  (2, .cells [i6 1048576, i6 0, i6 0, .bool false, .bool false, .map (some 1), .slice none 0 0] 76 true),
  (32, .cells [.slice (some ⟨34, 0, none⟩) 3 3, .slice (some ⟨35, 0, none⟩) 3 3, .bool true] 82 true),
  (34, .cells (u8s [97, 98, 99]) 5 false),
  (35, .cells (u8s [97, 98, 99]) 5 false),
  (115, .map [] 0),
  (116, .cells [i6 5, i6 0, i6 0, .bool false, pt 116 1, pt 116 1, .map (some 115)] 292 true),
  (133, .map [] 0),
  (134, .cells [pt 116 0, pt 2 0, .string ⟨#[115, 116, 111, 114, 101]⟩, i6 5, .map (some 133), i6 0] 208 true),
  (135, .map [] 0),
  (136, .map [] 0),
  (137, .cells [i6 1, .map (some 135), .map (some 136), .slice none 0 0] 182 true),
  (138, .cells [pt 134 0, pt 137 0] 187 true),
  (140, .cells [pt 134 0, pt 137 0, pt 138 0, pt 2 0, .pointer none, .pointer none, .slice none 0 0, i6 0, i6 0, i6 0, i6 0, i6 0, i6 0, i6 0, i6 0, i6 0, i6 0, i6 0, .slice none 0 0] 176 true)], i6 0, 3308, [(1, some (.map [⟨.string ⟨#[111, 114, 105, 103, 105, 110, 97, 108]⟩, pt 32 0, 0⟩, ⟨.string ⟨#[115, 116, 111, 114, 101]⟩, pt 594 0, 1⟩] 2)),
  (2, some (.cells [i6 1048576, i6 6, .int .i64 (.negSucc 5), .bool false, .bool false, .map (some 1), .slice none 0 0] 76 true)),
  (115, some (.map [⟨i6 1, pt 292 0, 0⟩, ⟨i6 2, pt 417 0, 1⟩] 2)),
  (116, some (.cells [i6 5, i6 0, i6 0, .bool false, pt 292 0, pt 417 0, .map (some 115)] 292 true)),
  (133, some (.map [⟨i6 1, .slice (some ⟨318, 0, none⟩) 256 256, 0⟩, ⟨i6 2, .slice (some ⟨443, 0, none⟩) 256 256, 1⟩] 2)),
  (135, some (.map [⟨i6 2, .bool true, 2⟩, ⟨i6 1, .bool true, 3⟩] 4)),
  (140, some (.cells [pt 134 0, pt 137 0, pt 138 0, pt 2 0, pt 150 0, pt 3228 0, .slice (some ⟨3239, 0, none⟩) 1 1, i6 0, i6 1, i6 2, i6 0, i6 0, i6 3, i6 0, i6 0, i6 0, i6 0, i6 0, .slice (some ⟨3111, 0, none⟩) 1 1] 176 true)),
  (150, some (.cells [pt 2 0, i6 0] 178 true)),
  (292, some (.cells [i6 1, i6 0, .bool false, pt 417 0, pt 116 1] 289 true)),
  (318, some (.cells (u8s [1, 0, 14, 0, 1, 0, 0, 0, 194, 105, 111, 233, 1] ++ u8z 5 ++ u8s [3, 0, 0, 0, 255, 255, 255, 255] ++ u8z 230) 5 false)),
  (417, some (.cells [i6 2, i6 0, .bool false, pt 116 1, pt 292 0] 289 true)),
  (443, some (.cells (u8s [3, 0, 9, 0, 2, 0, 0, 0, 68, 252, 163, 153, 1, 1, 0, 0, 0, 3] ++ u8z 238) 5 false)),
  (594, some (.cells [.slice (some ⟨2438, 0, none⟩) 768 768, .slice (some ⟨3192, 0, none⟩) 768 768, .bool true] 82 true)),
  (2438, some (.cells (u8z 64 ++ u8s [111, 99, 116, 97, 118, 111, 48, 49, 1] ++ u8z 5 ++ u8s [2] ++ u8z 8 ++ u8s [3] ++ u8z 36 ++ u8s [137, 155, 206, 78] ++ u8z 128 ++ u8s [1, 0, 14, 0, 1, 0, 0, 0, 194, 105, 111, 233, 1] ++ u8z 5 ++ u8s [3, 0, 0, 0, 255, 255, 255, 255] ++ u8z 230 ++ u8s [3, 0, 9, 0, 2, 0, 0, 0, 68, 252, 163, 153, 1, 1, 0, 0, 0, 3] ++ u8z 238) 5 false)),
  (3111, some (.cells [i6 1] 3 false)),
  (3192, some (.cells (u8z 64 ++ u8s [111, 99, 116, 97, 118, 111, 48, 49, 1] ++ u8z 5 ++ u8s [2] ++ u8z 8 ++ u8s [3] ++ u8z 36 ++ u8s [137, 155, 206, 78] ++ u8z 128 ++ u8s [1, 0, 14, 0, 1, 0, 0, 0, 194, 105, 111, 233, 1] ++ u8z 5 ++ u8s [3, 0, 0, 0, 255, 255, 255, 255] ++ u8z 230 ++ u8s [3, 0, 9, 0, 2, 0, 0, 0, 68, 252, 163, 153, 1, 1, 0, 0, 0, 3] ++ u8z 238) 5 false)),
  (3207, some (.map [] 0)),
  (3208, some (.cells [pt 2 0, .string ⟨#[111, 114, 105, 103, 105, 110, 97, 108]⟩, i6 3, i6 0, .map (some 3207)] 438 true)),
  (3228, some (.cells [pt 138 0, pt 3208 0, pt 150 0] 295 true)),
  (3239, some (.cells [i6 1, i6 3] 242 false))]⟩
theorem m25_6_ok : m25_6.ok (call evT evF k25_6 100000 m25_6.f m25_6.args m25_6.preH) = true := by kernel_rfl
theorem q25_6 : HkOk Tryz.prog (hkMemo m25_6 : Hk Empty) := hkMemo_ok evT_ok evF_ok k25_6_ok rfl m25_6_ok
end Go.Proofs.YtebhnbecjmdicaaGreatDoor
