/-
  Calls that were reckoned out, one by one. Printed by a program.
  Calls that were reckoned out, one by one. Printed by a program.
  Calls that were reckoned out, one by one. Printed by a program.
  Calls that were reckoned out, one by one. Printed by a program.
-/
import Derived.Test.YtefcphflpbopiaaGreatDoorEvl
import Derived.Test.YtefcphflpbopiaaGreatDoorEvM25a
import Derived.Test.YtefcphflpbopiaaGreatDoorEvM25b
import Derived.Test.YtefcphflpbopiaaGreatDoorEvM25c
import Derived.Test.YtefcphflpbopiaaGreatDoorEvM25d
import Derived.Test.YtefcphflpbopiaaGreatDoorEvM25e
namespace Go.Proofs.YtefcphflpbopiaaGreatDoor
open Go.Ev
set_option maxRecDepth 1000000
noncomputable def k25_3 : Hk Empty := orHk (hkMemo m25_0) (orHk (hkMemo m25_1) (orHk (hkMemo m25_2) (hkLib)))
theorem k25_3_ok : HkOk Tryz.prog k25_3 := orHk_ok q25_0 (orHk_ok q25_1 (orHk_ok q25_2 (hkLib_ok)))
noncomputable def m25_3 : Mm Empty :=
  ⟨237, [pt 140 0, .agg #[.slice (some ⟨355, 0, none⟩) 1 1, i6 0], i6 3], 371, [(1, .map [⟨.string ⟨#[111, 114, 105, 103, 105, 110, 97, 108]⟩, pt 32 0, 0⟩] 1),
  (2, .cells [i6 1048576, i6 0, i6 0, .bool false, .bool false, .map (some 1), .slice none 0 0] 75 true),
  (32, .cells [.slice (some ⟨34, 0, none⟩) 3 3, .slice (some ⟨35, 0, none⟩) 3 3, .bool true] 80 true),
  (34, .cells (u8s [97, 98, 99]) 5 false),
  (35, .cells (u8s [97, 98, 99]) 5 false),
  (115, .map [⟨i6 1, pt 292 0, 0⟩] 1),
  (116, .cells [i6 5, i6 0, i6 0, .bool false, pt 292 0, pt 292 0, .map (some 115)] 287 true),
  (133, .map [⟨i6 1, .slice (some ⟨318, 0, none⟩) 256 256, 0⟩] 1),
  (134, .cells [pt 116 0, pt 2 0, .string ⟨#[115, 116, 111, 114, 101]⟩, i6 5, .map (some 133), i6 0] 202 true),
  (135, .map [⟨i6 1, .bool true, 0⟩] 1),
  (136, .map [] 0),
  (137, .cells [i6 1, .map (some 135), .map (some 136), .slice (some ⟨260, 0, none⟩) 1 1] 176 true),
  (138, .cells [pt 134 0, pt 137 0] 181 true),
  (140, .cells [pt 134 0, pt 137 0, pt 138 0, pt 2 0, pt 150 0, .pointer none, .slice none 0 0, i6 0, i6 0, i6 0, i6 0, i6 0, i6 3, i6 0, i6 0, i6 0, i6 0, i6 0, .slice none 0 0] 170 true),
  (150, .cells [pt 2 0, i6 0] 172 true),
  (260, .cells [i6 1] 3 false),
  (292, .cells [i6 1, i6 0, .bool true, pt 116 1, pt 116 1] 284 true),
  (318, .cells (u8s [1, 0, 14, 0, 1, 0, 0, 0, 194, 105, 111, 233, 1] ++ u8z 5 ++ u8s [3, 0, 0, 0, 255, 255, 255, 255] ++ u8z 230) 5 false),
  (355, .cells [i6 1, i6 3] 237 true)], .tuple #[.agg #[i6 1, i6 2, i6 0, i6 0, i6 3], i6 0], 2602, [(1, some (.map [⟨.string ⟨#[111, 114, 105, 103, 105, 110, 97, 108]⟩, pt 32 0, 0⟩, ⟨.string ⟨#[115, 116, 111, 114, 101]⟩, pt 594 0, 1⟩] 2)),
  (2, some (.cells [i6 1048576, i6 4, .int .i64 (.negSucc 3), .bool false, .bool false, .map (some 1), .slice none 0 0] 75 true)),
  (115, some (.map [⟨i6 1, pt 292 0, 0⟩, ⟨i6 2, pt 417 0, 1⟩] 2)),
  (116, some (.cells [i6 5, i6 0, i6 0, .bool false, pt 417 0, pt 292 0, .map (some 115)] 287 true)),
  (133, some (.map [⟨i6 1, .slice (some ⟨318, 0, none⟩) 256 256, 0⟩, ⟨i6 2, .slice (some ⟨443, 0, none⟩) 256 256, 1⟩] 2)),
  (135, some (.map [⟨i6 1, .bool true, 0⟩, ⟨i6 2, .bool true, 1⟩] 2)),
  (137, some (.cells [i6 1, .map (some 135), .map (some 136), .slice (some ⟨385, 0, none⟩) 2 2] 176 true)),
  (260, none),
  (292, some (.cells [i6 1, i6 0, .bool false, pt 116 1, pt 417 0] 284 true)),
  (385, some (.cells [i6 1, i6 2] 3 false)),
  (417, some (.cells [i6 2, i6 0, .bool false, pt 292 0, pt 116 1] 284 true)),
  (443, some (.cells (u8s [3, 0, 9, 0, 2, 0, 0, 0, 68, 252, 163, 153, 1, 1, 0, 0, 0, 3] ++ u8z 238) 5 false)),
  (594, some (.cells [.slice (some ⟨2438, 0, none⟩) 768 768, .slice (some ⟨2562, 0, none⟩) 768 768, .bool true] 80 true)),
  (2438, some (.cells (u8z 256 ++ u8s [1, 0, 14, 0, 1, 0, 0, 0, 194, 105, 111, 233, 1] ++ u8z 5 ++ u8s [3, 0, 0, 0, 255, 255, 255, 255] ++ u8z 230 ++ u8s [3, 0, 9, 0, 2, 0, 0, 0, 68, 252, 163, 153, 1, 1, 0, 0, 0, 3] ++ u8z 238) 5 false)),
  (2562, some (.cells (u8z 256 ++ u8s [1, 0, 14, 0, 1, 0, 0, 0, 194, 105, 111, 233, 1] ++ u8z 5 ++ u8s [3, 0, 0, 0, 255, 255, 255, 255] ++ u8z 230 ++ u8s [3, 0, 9, 0, 2, 0, 0, 0, 68, 252, 163, 153, 1, 1, 0, 0, 0, 3] ++ u8z 238) 5 false))]⟩
theorem m25_3_ok : m25_3.ok (call evT evF k25_3 100000 m25_3.f m25_3.args m25_3.preH) = true := by kernel_rfl
theorem q25_3 : HkOk Tryz.prog (hkMemo m25_3 : Hk Empty) := hkMemo_ok evT_ok evF_ok k25_3_ok rfl m25_3_ok
noncomputable def k25_12 : Hk Empty := orHk (hkMemo m25_7) (orHk (hkMemo m25_8) (orHk (hkMemo m25_9) (orHk (hkMemo m25_10) (orHk (hkMemo m25_11) (hkLib)))))
theorem k25_12_ok : HkOk Tryz.prog k25_12 := orHk_ok q25_7 (orHk_ok q25_8 (orHk_ok q25_9 (orHk_ok q25_10 (orHk_ok q25_11 (hkLib_ok)))))
noncomputable def m25_12 : Mm Empty :=
  ⟨73, [pt 138 0, i6 1, i6 1, i6 0, .slice (some ⟨3451, 0, none⟩) 1 1], 3470, [(1, .map [⟨.string ⟨#[111, 114, 105, 103, 105, 110, 97, 108]⟩, pt 32 0, 0⟩, ⟨.string ⟨#[115, 116, 111, 114, 101]⟩, pt 594 0, 1⟩] 2),
  (2, .cells [i6 1048576, i6 6, .int .i64 (.negSucc 5), .bool false, .bool false, .map (some 1), .slice none 0 0] 75 true),
  (32, .cells [.slice (some ⟨34, 0, none⟩) 3 3, .slice (some ⟨35, 0, none⟩) 3 3, .bool true] 80 true),
  (34, .cells (u8s [97, 98, 99]) 5 false),
  (35, .cells (u8s [97, 98, 99]) 5 false),
  (115, .map [⟨i6 1, pt 292 0, 0⟩, ⟨i6 2, pt 417 0, 1⟩] 2),
  (116, .cells [i6 5, i6 0, i6 0, .bool false, pt 292 0, pt 417 0, .map (some 115)] 287 true),
  (133, .map [⟨i6 1, .slice (some ⟨318, 0, none⟩) 256 256, 0⟩, ⟨i6 2, .slice (some ⟨443, 0, none⟩) 256 256, 1⟩] 2),
  (134, .cells [pt 116 0, pt 2 0, .string ⟨#[115, 116, 111, 114, 101]⟩, i6 5, .map (some 133), i6 0] 202 true),
  (135, .map [⟨i6 2, .bool true, 2⟩, ⟨i6 1, .bool true, 3⟩] 4),
  (136, .map [] 0),
  (137, .cells [i6 1, .map (some 135), .map (some 136), .slice none 0 0] 176 true),
  (138, .cells [pt 134 0, pt 137 0] 181 true),
  (292, .cells [i6 1, i6 0, .bool false, pt 417 0, pt 116 1] 284 true),
  (318, .cells (u8s [1, 0, 14, 0, 1, 0, 0, 0, 194, 105, 111, 233, 1] ++ u8z 5 ++ u8s [3, 0, 0, 0, 255, 255, 255, 255] ++ u8z 230) 5 false),
  (417, .cells [i6 2, i6 0, .bool false, pt 116 1, pt 292 0] 284 true),
  (594, .cells [.slice (some ⟨2438, 0, none⟩) 768 768, .slice (some ⟨3192, 0, none⟩) 768 768, .bool true] 80 true),
  (3451, .cells [i6 1, i6 0, i6 2, i6 1] 123 false)], .tuple #[i6 3, i6 0], 5828, [(115, some (.map [⟨i6 1, pt 292 0, 0⟩, ⟨i6 2, pt 417 0, 1⟩, ⟨i6 3, pt 5735 0, 2⟩] 3)),
  (116, some (.cells [i6 5, i6 0, i6 0, .bool false, pt 5735 0, pt 417 0, .map (some 115)] 287 true)),
  (133, some (.map [⟨i6 1, .slice (some ⟨318, 0, none⟩) 256 256, 0⟩, ⟨i6 2, .slice (some ⟨443, 0, none⟩) 256 256, 1⟩, ⟨i6 3, .slice (some ⟨5761, 0, none⟩) 256 256, 2⟩] 3)),
  (135, some (.map [⟨i6 2, .bool true, 2⟩, ⟨i6 1, .bool true, 3⟩, ⟨i6 3, .bool true, 4⟩] 5)),
  (137, some (.cells [i6 1, .map (some 135), .map (some 136), .slice (some ⟨5703, 0, none⟩) 1 1] 176 true)),
  (292, some (.cells [i6 1, i6 0, .bool false, pt 417 0, pt 5735 0] 284 true)),
  (5703, some (.cells [i6 3] 3 false)),
  (5735, some (.cells [i6 3, i6 0, .bool true, pt 292 0, pt 116 1] 284 true)),
  (5761, some (.cells (u8s [1, 0, 40, 0, 3, 0, 0, 0, 77, 237, 48, 148, 3] ++ u8z 5 ++ u8s [1, 0, 0, 0, 255, 255, 255, 255, 1] ++ u8z 4 ++ u8s [2, 0, 0, 0, 1] ++ u8z 4 ++ u8s [1, 0, 0, 0, 2, 0, 0, 0, 255, 255, 255, 255] ++ u8z 204) 5 false))]⟩
theorem m25_12_ok : m25_12.ok (call evT evF k25_12 100000 m25_12.f m25_12.args m25_12.preH) = true := by kernel_rfl
theorem q25_12 : HkOk Tryz.prog (hkMemo m25_12 : Hk Empty) := hkMemo_ok evT_ok evF_ok k25_12_ok rfl m25_12_ok
noncomputable def k25_25 : Hk Empty := orHk (hkMemo m25_13) (orHk (hkMemo m25_14) (orHk (hkMemo m25_15) (orHk (hkMemo m25_16) (orHk (hkMemo m25_17) (orHk (hkMemo m25_18) (orHk (hkMemo m25_19) (orHk (hkMemo m25_20) (orHk (hkMemo m25_21) (orHk (hkMemo m25_22) (orHk (hkMemo m25_23) (orHk (hkMemo m25_24) (hkLib))))))))))))
theorem k25_25_ok : HkOk Tryz.prog k25_25 := orHk_ok q25_13 (orHk_ok q25_14 (orHk_ok q25_15 (orHk_ok q25_16 (orHk_ok q25_17 (orHk_ok q25_18 (orHk_ok q25_19 (orHk_ok q25_20 (orHk_ok q25_21 (orHk_ok q25_22 (orHk_ok q25_23 (orHk_ok q25_24 (hkLib_ok))))))))))))
noncomputable def m25_25 : Mm Empty :=
  ⟨79, [pt 3308 0, i6 0, i6 5], 5971, [(1, .map [⟨.string ⟨#[111, 114, 105, 103, 105, 110, 97, 108]⟩, pt 32 0, 0⟩, ⟨.string ⟨#[115, 116, 111, 114, 101]⟩, pt 594 0, 1⟩, ⟨.string ⟨#[116, 97, 105, 108]⟩, pt 5856 0, 2⟩] 3),
  (2, .cells [i6 1048576, i6 7, .int .i64 (.negSucc 6), .bool false, .bool false, .map (some 1), .slice (some ⟨5880, 0, none⟩) 1 1] 75 true),
  (32, .cells [.slice (some ⟨34, 0, none⟩) 3 3, .slice (some ⟨35, 0, none⟩) 3 3, .bool true] 80 true),
  (34, .cells (u8s [97, 98, 99]) 5 false),
  (35, .cells (u8s [97, 98, 99]) 5 false),
  (115, .map [⟨i6 1, pt 292 0, 0⟩, ⟨i6 2, pt 417 0, 1⟩, ⟨i6 3, pt 5735 0, 2⟩] 3),
  (116, .cells [i6 5, i6 0, i6 0, .bool false, pt 5735 0, pt 417 0, .map (some 115)] 287 true),
  (133, .map [⟨i6 1, .slice (some ⟨318, 0, none⟩) 256 256, 0⟩, ⟨i6 2, .slice (some ⟨443, 0, none⟩) 256 256, 1⟩, ⟨i6 3, .slice (some ⟨5761, 0, none⟩) 256 256, 2⟩] 3),
  (134, .cells [pt 116 0, pt 2 0, .string ⟨#[115, 116, 111, 114, 101]⟩, i6 5, .map (some 133), i6 0] 202 true),
  (135, .map [⟨i6 2, .bool true, 2⟩, ⟨i6 1, .bool true, 3⟩, ⟨i6 3, .bool true, 4⟩] 5),
  (136, .map [] 0),
  (137, .cells [i6 1, .map (some 135), .map (some 136), .slice (some ⟨5703, 0, none⟩) 1 1] 176 true),
  (138, .cells [pt 134 0, pt 137 0] 181 true),
  (140, .cells [pt 134 0, pt 137 0, pt 138 0, pt 2 0, pt 150 0, pt 3228 0, .slice (some ⟨3239, 0, none⟩) 1 1, i6 0, i6 1, i6 2, i6 0, i6 0, i6 3, i6 0, i6 0, i6 0, i6 0, i6 0, .slice (some ⟨3111, 0, none⟩) 1 1] 170 true),
  (150, .cells [pt 2 0, i6 2] 172 true),
  (292, .cells [i6 1, i6 0, .bool false, pt 417 0, pt 5735 0] 284 true),
  (417, .cells [i6 2, i6 0, .bool false, pt 116 1, pt 292 0] 284 true),
  (594, .cells [.slice (some ⟨2438, 0, none⟩) 768 768, .slice (some ⟨3192, 0, none⟩) 768 768, .bool true] 80 true),
  (3111, .cells [i6 1] 3 false),
  (3207, .map [] 0),
  (3208, .cells [pt 2 0, .string ⟨#[111, 114, 105, 103, 105, 110, 97, 108]⟩, i6 3, i6 0, .map (some 3207)] 435 true),
  (3228, .cells [pt 138 0, pt 3208 0, pt 150 0] 290 true),
  (3239, .cells [i6 1, i6 3] 237 false),
  (3308, .cells [pt 140 0, pt 2 0, i6 9, i6 3, i6 5, .bool true, .bool false] 117 true),
  (5703, .cells [i6 3] 3 false),
  (5735, .cells [i6 3, i6 0, .bool true, pt 292 0, pt 116 1] 284 true),
  (5761, .cells (u8s [1, 0, 40, 0, 3, 0, 0, 0, 77, 237, 48, 148, 3] ++ u8z 5 ++ u8s [1, 0, 0, 0, 255, 255, 255, 255, 1] ++ u8z 4 ++ u8s [2, 0, 0, 0, 1] ++ u8z 4 ++ u8s [1, 0, 0, 0, 2, 0, 0, 0, 255, 255, 255, 255] ++ u8z 204) 5 false),
  (5856, .cells [.slice (some ⟨5860, 0, none⟩) 2 2, .slice none 0 0, .bool false] 80 true),
  (5860, .cells (u8s [120, 10]) 5 false),
  (5879, .cells (u8s [120, 10]) 5 false),
  (5880, .cells [.string ⟨#[116, 97, 105, 108]⟩, i6 0, .slice (some ⟨5879, 0, none⟩) 2 2] 105 false)], .tuple #[.slice (some ⟨10657, 0, none⟩) 5 5, i6 0], 10658, [(10657, some (.cells (u8s [97, 120, 10, 98, 99]) 5 false))]⟩
theorem m25_25_ok : m25_25.ok (call evT evF k25_25 100000 m25_25.f m25_25.args m25_25.preH) = true := by kernel_rfl
theorem q25_25 : HkOk Tryz.prog (hkMemo m25_25 : Hk Empty) := hkMemo_ok evT_ok evF_ok k25_25_ok rfl m25_25_ok
end Go.Proofs.YtefcphflpbopiaaGreatDoor

namespace Go.Proofs.YtefcphflpbopiaaGreatDoor
open Go.Ev
set_option maxRecDepth 1000000
noncomputable def k25_5 : Hk Empty := orHk (hkMemo m25_3) (orHk (hkMemo m25_4) (hkLib))
theorem k25_5_ok : HkOk Tryz.prog k25_5 := orHk_ok q25_3 (orHk_ok q25_4 (hkLib_ok))
noncomputable def m25_5 : Mm Empty :=
  ⟨163, [pt 140 0, .agg #[.slice (some ⟨355, 0, none⟩) 1 1, i6 0]], 356, [(1, .map [⟨.string ⟨#[111, 114, 105, 103, 105, 110, 97, 108]⟩, pt 32 0, 0⟩] 1),
  (2, .cells [i6 1048576, i6 0, i6 0, .bool false, .bool false, .map (some 1), .slice none 0 0] 75 true),
  (32, .cells [.slice (some ⟨34, 0, none⟩) 3 3, .slice (some ⟨35, 0, none⟩) 3 3, .bool true] 80 true),
  (34, .cells (u8s [97, 98, 99]) 5 false),
  (35, .cells (u8s [97, 98, 99]) 5 false),
  (115, .map [⟨i6 1, pt 292 0, 0⟩] 1),
  (116, .cells [i6 5, i6 0, i6 0, .bool false, pt 292 0, pt 292 0, .map (some 115)] 287 true),
  (133, .map [⟨i6 1, .slice (some ⟨318, 0, none⟩) 256 256, 0⟩] 1),
  (134, .cells [pt 116 0, pt 2 0, .string ⟨#[115, 116, 111, 114, 101]⟩, i6 5, .map (some 133), i6 0] 202 true),
  (135, .map [⟨i6 1, .bool true, 0⟩] 1),
  (136, .map [] 0),
  (137, .cells [i6 1, .map (some 135), .map (some 136), .slice (some ⟨260, 0, none⟩) 1 1] 176 true),
  (138, .cells [pt 134 0, pt 137 0] 181 true),
  (140, .cells [pt 134 0, pt 137 0, pt 138 0, pt 2 0, pt 150 0, .pointer none, .slice none 0 0, i6 0, i6 0, i6 0, i6 0, i6 0, i6 3, i6 0, i6 0, i6 0, i6 0, i6 0, .slice none 0 0] 170 true),
  (150, .cells [pt 2 0, i6 0] 172 true),
  (260, .cells [i6 1] 3 false),
  (292, .cells [i6 1, i6 0, .bool true, pt 116 1, pt 116 1] 284 true),
  (318, .cells (u8s [1, 0, 14, 0, 1, 0, 0, 0, 194, 105, 111, 233, 1] ++ u8z 5 ++ u8s [3, 0, 0, 0, 255, 255, 255, 255] ++ u8z 230) 5 false),
  (355, .cells [i6 1, i6 3] 237 true)], i6 0, 3308, [(1, some (.map [⟨.string ⟨#[111, 114, 105, 103, 105, 110, 97, 108]⟩, pt 32 0, 0⟩, ⟨.string ⟨#[115, 116, 111, 114, 101]⟩, pt 594 0, 1⟩] 2)),
  (2, some (.cells [i6 1048576, i6 6, .int .i64 (.negSucc 5), .bool false, .bool false, .map (some 1), .slice none 0 0] 75 true)),
  (115, some (.map [⟨i6 1, pt 292 0, 0⟩, ⟨i6 2, pt 417 0, 1⟩] 2)),
  (116, some (.cells [i6 5, i6 0, i6 0, .bool false, pt 292 0, pt 417 0, .map (some 115)] 287 true)),
  (133, some (.map [⟨i6 1, .slice (some ⟨318, 0, none⟩) 256 256, 0⟩, ⟨i6 2, .slice (some ⟨443, 0, none⟩) 256 256, 1⟩] 2)),
  (135, some (.map [⟨i6 2, .bool true, 2⟩, ⟨i6 1, .bool true, 3⟩] 4)),
  (137, some (.cells [i6 1, .map (some 135), .map (some 136), .slice none 0 0] 176 true)),
  (140, some (.cells [pt 134 0, pt 137 0, pt 138 0, pt 2 0, pt 150 0, pt 3228 0, .slice (some ⟨3239, 0, none⟩) 1 1, i6 0, i6 1, i6 2, i6 0, i6 0, i6 3, i6 0, i6 0, i6 0, i6 0, i6 0, .slice (some ⟨3111, 0, none⟩) 1 1] 170 true)),
  (260, none),
  (292, some (.cells [i6 1, i6 0, .bool false, pt 417 0, pt 116 1] 284 true)),
  (417, some (.cells [i6 2, i6 0, .bool false, pt 116 1, pt 292 0] 284 true)),
  (443, some (.cells (u8s [3, 0, 9, 0, 2, 0, 0, 0, 68, 252, 163, 153, 1, 1, 0, 0, 0, 3] ++ u8z 238) 5 false)),
  (594, some (.cells [.slice (some ⟨2438, 0, none⟩) 768 768, .slice (some ⟨3192, 0, none⟩) 768 768, .bool true] 80 true)),
  (2438, some (.cells (u8z 64 ++ u8s [111, 99, 116, 97, 118, 111, 48, 49, 1] ++ u8z 5 ++ u8s [2] ++ u8z 8 ++ u8s [3] ++ u8z 36 ++ u8s [137, 155, 206, 78] ++ u8z 128 ++ u8s [1, 0, 14, 0, 1, 0, 0, 0, 194, 105, 111, 233, 1] ++ u8z 5 ++ u8s [3, 0, 0, 0, 255, 255, 255, 255] ++ u8z 230 ++ u8s [3, 0, 9, 0, 2, 0, 0, 0, 68, 252, 163, 153, 1, 1, 0, 0, 0, 3] ++ u8z 238) 5 false)),
  (3111, some (.cells [i6 1] 3 false)),
  (3192, some (.cells (u8z 64 ++ u8s [111, 99, 116, 97, 118, 111, 48, 49, 1] ++ u8z 5 ++ u8s [2] ++ u8z 8 ++ u8s [3] ++ u8z 36 ++ u8s [137, 155, 206, 78] ++ u8z 128 ++ u8s [1, 0, 14, 0, 1, 0, 0, 0, 194, 105, 111, 233, 1] ++ u8z 5 ++ u8s [3, 0, 0, 0, 255, 255, 255, 255] ++ u8z 230 ++ u8s [3, 0, 9, 0, 2, 0, 0, 0, 68, 252, 163, 153, 1, 1, 0, 0, 0, 3] ++ u8z 238) 5 false)),
  (3207, some (.map [] 0)),
  (3208, some (.cells [pt 2 0, .string ⟨#[111, 114, 105, 103, 105, 110, 97, 108]⟩, i6 3, i6 0, .map (some 3207)] 435 true)),
  (3228, some (.cells [pt 138 0, pt 3208 0, pt 150 0] 290 true)),
  (3239, some (.cells [i6 1, i6 3] 237 false))]⟩
theorem m25_5_ok : m25_5.ok (call evT evF k25_5 100000 m25_5.f m25_5.args m25_5.preH) = true := by kernel_rfl
theorem q25_5 : HkOk Tryz.prog (hkMemo m25_5 : Hk Empty) := hkMemo_ok evT_ok evF_ok k25_5_ok rfl m25_5_ok
end Go.Proofs.YtefcphflpbopiaaGreatDoor

namespace Go.Proofs.YtefcphflpbopiaaGreatDoor
open Go.Ev
set_option maxRecDepth 1000000
noncomputable def k25_6 : Hk Empty := orHk (hkMemo m25_5) (hkLib)
theorem k25_6_ok : HkOk Tryz.prog k25_6 := orHk_ok q25_5 (hkLib_ok)
noncomputable def m25_6 : Mm Empty :=
  ⟨160, [pt 140 0], 150, [(1, .map [⟨.string ⟨#[111, 114, 105, 103, 105, 110, 97, 108]⟩, pt 32 0, 0⟩] 1),
  (2, .cells [i6 1048576, i6 0, i6 0, .bool false, .bool false, .map (some 1), .slice none 0 0] 75 true),
  (32, .cells [.slice (some ⟨34, 0, none⟩) 3 3, .slice (some ⟨35, 0, none⟩) 3 3, .bool true] 80 true),
  (34, .cells (u8s [97, 98, 99]) 5 false),
  (35, .cells (u8s [97, 98, 99]) 5 false),
  (115, .map [] 0),
  (116, .cells [i6 5, i6 0, i6 0, .bool false, pt 116 1, pt 116 1, .map (some 115)] 287 true),
  (133, .map [] 0),
  (134, .cells [pt 116 0, pt 2 0, .string ⟨#[115, 116, 111, 114, 101]⟩, i6 5, .map (some 133), i6 0] 202 true),
  (135, .map [] 0),
  (136, .map [] 0),
  (137, .cells [i6 1, .map (some 135), .map (some 136), .slice none 0 0] 176 true),
  (138, .cells [pt 134 0, pt 137 0] 181 true),
  (140, .cells [pt 134 0, pt 137 0, pt 138 0, pt 2 0, .pointer none, .pointer none, .slice none 0 0, i6 0, i6 0, i6 0, i6 0, i6 0, i6 0, i6 0, i6 0, i6 0, i6 0, i6 0, .slice none 0 0] 170 true)], i6 0, 3308, [(1, some (.map [⟨.string ⟨#[111, 114, 105, 103, 105, 110, 97, 108]⟩, pt 32 0, 0⟩, ⟨.string ⟨#[115, 116, 111, 114, 101]⟩, pt 594 0, 1⟩] 2)),
  (2, some (.cells [i6 1048576, i6 6, .int .i64 (.negSucc 5), .bool false, .bool false, .map (some 1), .slice none 0 0] 75 true)),
  (115, some (.map [⟨i6 1, pt 292 0, 0⟩, ⟨i6 2, pt 417 0, 1⟩] 2)),
  (116, some (.cells [i6 5, i6 0, i6 0, .bool false, pt 292 0, pt 417 0, .map (some 115)] 287 true)),
  (133, some (.map [⟨i6 1, .slice (some ⟨318, 0, none⟩) 256 256, 0⟩, ⟨i6 2, .slice (some ⟨443, 0, none⟩) 256 256, 1⟩] 2)),
  (135, some (.map [⟨i6 2, .bool true, 2⟩, ⟨i6 1, .bool true, 3⟩] 4)),
  (140, some (.cells [pt 134 0, pt 137 0, pt 138 0, pt 2 0, pt 150 0, pt 3228 0, .slice (some ⟨3239, 0, none⟩) 1 1, i6 0, i6 1, i6 2, i6 0, i6 0, i6 3, i6 0, i6 0, i6 0, i6 0, i6 0, .slice (some ⟨3111, 0, none⟩) 1 1] 170 true)),
  (150, some (.cells [pt 2 0, i6 0] 172 true)),
  (292, some (.cells [i6 1, i6 0, .bool false, pt 417 0, pt 116 1] 284 true)),
  (318, some (.cells (u8s [1, 0, 14, 0, 1, 0, 0, 0, 194, 105, 111, 233, 1] ++ u8z 5 ++ u8s [3, 0, 0, 0, 255, 255, 255, 255] ++ u8z 230) 5 false)),
  (417, some (.cells [i6 2, i6 0, .bool false, pt 116 1, pt 292 0] 284 true)),
  (443, some (.cells (u8s [3, 0, 9, 0, 2, 0, 0, 0, 68, 252, 163, 153, 1, 1, 0, 0, 0, 3] ++ u8z 238) 5 false)),
  (594, some (.cells [.slice (some ⟨2438, 0, none⟩) 768 768, .slice (some ⟨3192, 0, none⟩) 768 768, .bool true] 80 true)),
  (2438, some (.cells (u8z 64 ++ u8s [111, 99, 116, 97, 118, 111, 48, 49, 1] ++ u8z 5 ++ u8s [2] ++ u8z 8 ++ u8s [3] ++ u8z 36 ++ u8s [137, 155, 206, 78] ++ u8z 128 ++ u8s [1, 0, 14, 0, 1, 0, 0, 0, 194, 105, 111, 233, 1] ++ u8z 5 ++ u8s [3, 0, 0, 0, 255, 255, 255, 255] ++ u8z 230 ++ u8s [3, 0, 9, 0, 2, 0, 0, 0, 68, 252, 163, 153, 1, 1, 0, 0, 0, 3] ++ u8z 238) 5 false)),
  (3111, some (.cells [i6 1] 3 false)),
  (3192, some (.cells (u8z 64 ++ u8s [111, 99, 116, 97, 118, 111, 48, 49, 1] ++ u8z 5 ++ u8s [2] ++ u8z 8 ++ u8s [3] ++ u8z 36 ++ u8s [137, 155, 206, 78] ++ u8z 128 ++ u8s [1, 0, 14, 0, 1, 0, 0, 0, 194, 105, 111, 233, 1] ++ u8z 5 ++ u8s [3, 0, 0, 0, 255, 255, 255, 255] ++ u8z 230 ++ u8s [3, 0, 9, 0, 2, 0, 0, 0, 68, 252, 163, 153, 1, 1, 0, 0, 0, 3] ++ u8z 238) 5 false)),
  (3207, some (.map [] 0)),
  (3208, some (.cells [pt 2 0, .string ⟨#[111, 114, 105, 103, 105, 110, 97, 108]⟩, i6 3, i6 0, .map (some 3207)] 435 true)),
  (3228, some (.cells [pt 138 0, pt 3208 0, pt 150 0] 290 true)),
  (3239, some (.cells [i6 1, i6 3] 237 false))]⟩
theorem m25_6_ok : m25_6.ok (call evT evF k25_6 100000 m25_6.f m25_6.args m25_6.preH) = true := by kernel_rfl
theorem q25_6 : HkOk Tryz.prog (hkMemo m25_6 : Hk Empty) := hkMemo_ok evT_ok evF_ok k25_6_ok rfl m25_6_ok
end Go.Proofs.YtefcphflpbopiaaGreatDoor

namespace Go.Proofs.YtefcphflpbopiaaGreatDoor
open Go.Ev
set_option maxRecDepth 1000000
noncomputable def kt25 : Hk Empty := orHk (hkMemo m25_6) (orHk (hkMemo m25_12) (orHk (hkMemo m25_25) (hkLib)))
theorem kt25_ok : HkOk Tryz.prog kt25 := orHk_ok q25_6 (orHk_ok q25_12 (orHk_ok q25_25 (hkLib_ok)))
end Go.Proofs.YtefcphflpbopiaaGreatDoor
