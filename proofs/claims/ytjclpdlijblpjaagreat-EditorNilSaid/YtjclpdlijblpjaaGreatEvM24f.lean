/-
  Calls that were reckoned out, one by one. Printed by a program.
-/
import Derived.Test.YtjclpdlijblpjaaGreatEvl
import Derived.Test.YtjclpdlijblpjaaGreatEvM24a
import Derived.Test.YtjclpdlijblpjaaGreatEvM24b
import Derived.Test.YtjclpdlijblpjaaGreatEvM24c
import Derived.Test.YtjclpdlijblpjaaGreatEvM24d
import Derived.Test.YtjclpdlijblpjaaGreatEvM24e
namespace Go.Proofs.YtjclpdlijblpjaaGreat
open Go.Ev
set_option maxRecDepth 1000000
noncomputable def k24_5 : Hk := orHk (hkMemo m24_4) (hkLib)
theorem k24_5_ok : HkOk Tryz.prog k24_5 := orHk_ok q24_4 (hkLib_ok)
noncomputable def m24_5 : Mm :=
  ⟨123, [pt 71 0, .slice (some ⟨85, 0, none⟩) 1 1], 86, [(1, .map [⟨.string ⟨#[111, 114, 105, 103, 105, 110, 97, 108]⟩, pt 32 0, 0⟩] 1),
  (2, .cells [i6 1048576, i6 0, i6 0, .bool false, .bool false, .map (some 1), .slice none 0 0] 61 true),
  (32, .cells [.slice (some ⟨34, 0, none⟩) 5 5, .slice (some ⟨35, 0, none⟩) 5 5, .bool true] 130 true),
  (34, .cells (u8s [97, 98, 99, 10, 100]) 5 false),
  (35, .cells (u8s [97, 98, 99, 10, 100]) 5 false),
  (48, .map [] 0),
  (49, .cells [i6 5, i6 0, i6 0, .bool false, pt 49 1, pt 49 1, .map (some 48)] 357 true),
  (66, .map [] 0),
  (67, .cells [pt 49 0, pt 2 0, .string ⟨#[115, 116, 111, 114, 101]⟩, i6 5, .map (some 66), i6 0] 249 true),
  (68, .map [] 0),
  (69, .map [] 0),
  (70, .cells [i6 1, .map (some 68), .map (some 69), .slice none 0 0] 214 true),
  (71, .cells [pt 67 0, pt 70 0] 257 true),
  (85, .cells [i6 0, i6 0, i6 5, .int .i64 (.negSucc 0)] 147 false)], .tuple #[i6 1, i6 0], 288, [(48, some (.map [⟨i6 1, pt 225 0, 0⟩] 1)),
  (49, some (.cells [i6 5, i6 0, i6 0, .bool false, pt 225 0, pt 225 0, .map (some 48)] 357 true)),
  (66, some (.map [⟨i6 1, .slice (some ⟨251, 0, none⟩) 256 256, 0⟩] 1)),
  (68, some (.map [⟨i6 1, .bool true, 0⟩] 1)),
  (70, some (.cells [i6 1, .map (some 68), .map (some 69), .slice (some ⟨193, 0, none⟩) 1 1] 214 true)),
  (193, some (.cells [i6 1] 3 false)),
  (225, some (.cells [i6 1, i6 0, .bool true, pt 49 1, pt 49 1] 351 true)),
  (251, some (.cells (u8s [1, 0, 14, 0, 1, 0, 0, 0, 7, 23, 113, 182, 1] ++ u8z 5 ++ u8s [5, 0, 0, 0, 255, 255, 255, 255] ++ u8z 230) 5 false))]⟩
theorem m24_5_ok : m24_5.ok (call evT evF k24_5 100000 m24_5.f m24_5.args m24_5.preH) = true := by kernel_rfl
theorem q24_5 : HkOk Tryz.prog (hkMemo m24_5) := hkMemo_ok evT_ok evF_ok k24_5_ok rfl m24_5_ok
noncomputable def k24_12 : Hk := orHk (hkMemo m24_9) (orHk (hkMemo m24_11) (hkLib))
theorem k24_12_ok : HkOk Tryz.prog k24_12 := orHk_ok q24_9 (orHk_ok q24_11 (hkLib_ok))
noncomputable def m24_12 : Mm :=
  ⟨249, [pt 67 0, i6 1], 378, [(1, .map [⟨.string ⟨#[111, 114, 105, 103, 105, 110, 97, 108]⟩, pt 32 0, 0⟩] 1),
  (2, .cells [i6 1048576, i6 0, i6 0, .bool false, .bool false, .map (some 1), .slice none 0 0] 61 true),
  (32, .cells [.slice (some ⟨34, 0, none⟩) 5 5, .slice (some ⟨35, 0, none⟩) 5 5, .bool true] 130 true),
  (34, .cells (u8s [97, 98, 99, 10, 100]) 5 false),
  (35, .cells (u8s [97, 98, 99, 10, 100]) 5 false),
  (48, .map [⟨i6 1, pt 225 0, 0⟩, ⟨i6 2, pt 350 0, 1⟩] 2),
  (49, .cells [i6 5, i6 0, i6 0, .bool false, pt 350 0, pt 225 0, .map (some 48)] 357 true),
  (66, .map [⟨i6 1, .slice (some ⟨251, 0, none⟩) 256 256, 0⟩, ⟨i6 2, .slice (some ⟨376, 0, none⟩) 256 256, 1⟩] 2),
  (67, .cells [pt 49 0, pt 2 0, .string ⟨#[115, 116, 111, 114, 101]⟩, i6 5, .map (some 66), i6 0] 249 true),
  (225, .cells [i6 1, i6 0, .bool true, pt 49 1, pt 350 0] 351 true),
  (251, .cells (u8s [1, 0, 14, 0, 1, 0, 0, 0, 7, 23, 113, 182, 1] ++ u8z 5 ++ u8s [5, 0, 0, 0, 255, 255, 255, 255] ++ u8z 230) 5 false),
  (350, .cells [i6 2, i6 0, .bool true, pt 225 0, pt 49 1] 351 true)], i6 0, 1707, [(1, some (.map [⟨.string ⟨#[111, 114, 105, 103, 105, 110, 97, 108]⟩, pt 32 0, 0⟩, ⟨.string ⟨#[115, 116, 111, 114, 101]⟩, pt 423 0, 1⟩] 2)),
  (2, some (.cells [i6 1048576, i6 2, .int .i64 (.negSucc 1), .bool false, .bool false, .map (some 1), .slice (some ⟨1698, 0, none⟩) 8 8] 61 true)),
  (225, some (.cells [i6 1, i6 0, .bool false, pt 49 1, pt 350 0] 351 true)),
  (423, some (.cells [.slice (some ⟨1594, 0, none⟩) 512 512, .slice none 0 0, .bool false] 130 true)),
  (954, some (.cells (u8z 64) 5 false)),
  (982, some (.cells (u8z 64) 5 false)),
  (1010, some (.cells (u8z 64) 5 false)),
  (1038, some (.cells (u8z 64) 5 false)),
  (1594, some (.cells (u8z 256 ++ u8s [1, 0, 14, 0, 1, 0, 0, 0, 7, 23, 113, 182, 1] ++ u8z 5 ++ u8s [5, 0, 0, 0, 255, 255, 255, 255] ++ u8z 230) 5 false)),
  (1613, some (.cells (u8s [1, 0, 14, 0, 1, 0, 0, 0, 7, 23, 113, 182, 1] ++ u8z 5 ++ u8s [5, 0, 0, 0, 255, 255, 255, 255] ++ u8z 38) 5 false)),
  (1641, some (.cells (u8z 64) 5 false)),
  (1669, some (.cells (u8z 64) 5 false)),
  (1697, some (.cells (u8z 64) 5 false)),
  (1698, some (.cells [.string ⟨#[115, 116, 111, 114, 101]⟩, i6 0, .slice (some ⟨954, 0, none⟩) 64 64, .string ⟨#[115, 116, 111, 114, 101]⟩, i6 64, .slice (some ⟨982, 0, none⟩) 64 64, .string ⟨#[115, 116, 111, 114, 101]⟩, i6 128, .slice (some ⟨1010, 0, none⟩) 64 64, .string ⟨#[115, 116, 111, 114, 101]⟩, i6 192, .slice (some ⟨1038, 0, none⟩) 64 64, .string ⟨#[115, 116, 111, 114, 101]⟩, i6 256, .slice (some ⟨1613, 0, none⟩) 64 64, .string ⟨#[115, 116, 111, 114, 101]⟩, i6 320, .slice (some ⟨1641, 0, none⟩) 64 64, .string ⟨#[115, 116, 111, 114, 101]⟩, i6 384, .slice (some ⟨1669, 0, none⟩) 64 64, .string ⟨#[115, 116, 111, 114, 101]⟩, i6 448, .slice (some ⟨1697, 0, none⟩) 64 64] 134 false))]⟩
theorem m24_12_ok : m24_12.ok (call evT evF k24_12 100000 m24_12.f m24_12.args m24_12.preH) = true := by kernel_rfl
theorem q24_12 : HkOk Tryz.prog (hkMemo m24_12) := hkMemo_ok evT_ok evF_ok k24_12_ok rfl m24_12_ok
noncomputable def k24_15 : Hk := orHk (hkMemo m24_14) (hkLib)
theorem k24_15_ok : HkOk Tryz.prog k24_15 := orHk_ok q24_14 (hkLib_ok)
noncomputable def m24_15 : Mm :=
  ⟨249, [pt 67 0, i6 2], 1707, [(1, .map [⟨.string ⟨#[111, 114, 105, 103, 105, 110, 97, 108]⟩, pt 32 0, 0⟩, ⟨.string ⟨#[115, 116, 111, 114, 101]⟩, pt 423 0, 1⟩] 2),
  (2, .cells [i6 1048576, i6 2, .int .i64 (.negSucc 1), .bool false, .bool false, .map (some 1), .slice (some ⟨1698, 0, none⟩) 8 8] 61 true),
  (32, .cells [.slice (some ⟨34, 0, none⟩) 5 5, .slice (some ⟨35, 0, none⟩) 5 5, .bool true] 130 true),
  (34, .cells (u8s [97, 98, 99, 10, 100]) 5 false),
  (35, .cells (u8s [97, 98, 99, 10, 100]) 5 false),
  (48, .map [⟨i6 1, pt 225 0, 0⟩, ⟨i6 2, pt 350 0, 1⟩] 2),
  (49, .cells [i6 5, i6 0, i6 0, .bool false, pt 350 0, pt 225 0, .map (some 48)] 357 true),
  (66, .map [⟨i6 1, .slice (some ⟨251, 0, none⟩) 256 256, 0⟩, ⟨i6 2, .slice (some ⟨376, 0, none⟩) 256 256, 1⟩] 2),
  (67, .cells [pt 49 0, pt 2 0, .string ⟨#[115, 116, 111, 114, 101]⟩, i6 5, .map (some 66), i6 0] 249 true),
  (225, .cells [i6 1, i6 0, .bool false, pt 49 1, pt 350 0] 351 true),
  (350, .cells [i6 2, i6 0, .bool true, pt 225 0, pt 49 1] 351 true),
  (376, .cells (u8s [3, 0, 9, 0, 2, 0, 0, 0, 5, 212, 242, 114, 1, 1, 0, 0, 0, 5] ++ u8z 238) 5 false),
  (423, .cells [.slice (some ⟨1594, 0, none⟩) 512 512, .slice none 0 0, .bool false] 130 true),
  (1594, .cells (u8z 256 ++ u8s [1, 0, 14, 0, 1, 0, 0, 0, 7, 23, 113, 182, 1] ++ u8z 5 ++ u8s [5, 0, 0, 0, 255, 255, 255, 255] ++ u8z 230) 5 false),
  (1698, .cells [.string ⟨#[115, 116, 111, 114, 101]⟩, i6 0, .slice (some ⟨954, 0, none⟩) 64 64, .string ⟨#[115, 116, 111, 114, 101]⟩, i6 64, .slice (some ⟨982, 0, none⟩) 64 64, .string ⟨#[115, 116, 111, 114, 101]⟩, i6 128, .slice (some ⟨1010, 0, none⟩) 64 64, .string ⟨#[115, 116, 111, 114, 101]⟩, i6 192, .slice (some ⟨1038, 0, none⟩) 64 64, .string ⟨#[115, 116, 111, 114, 101]⟩, i6 256, .slice (some ⟨1613, 0, none⟩) 64 64, .string ⟨#[115, 116, 111, 114, 101]⟩, i6 320, .slice (some ⟨1641, 0, none⟩) 64 64, .string ⟨#[115, 116, 111, 114, 101]⟩, i6 384, .slice (some ⟨1669, 0, none⟩) 64 64, .string ⟨#[115, 116, 111, 114, 101]⟩, i6 448, .slice (some ⟨1697, 0, none⟩) 64 64] 134 false)], i6 0, 2378, [(2, some (.cells [i6 1048576, i6 3, .int .i64 (.negSucc 2), .bool false, .bool false, .map (some 1), .slice (some ⟨2369, 0, none⟩) 12 12] 61 true)),
  (350, some (.cells [i6 2, i6 0, .bool false, pt 225 0, pt 49 1] 351 true)),
  (423, some (.cells [.slice (some ⟨2265, 0, none⟩) 768 768, .slice none 0 0, .bool false] 130 true)),
  (1594, none),
  (1698, none),
  (2265, some (.cells (u8z 256 ++ u8s [1, 0, 14, 0, 1, 0, 0, 0, 7, 23, 113, 182, 1] ++ u8z 5 ++ u8s [5, 0, 0, 0, 255, 255, 255, 255] ++ u8z 230 ++ u8s [3, 0, 9, 0, 2, 0, 0, 0, 5, 212, 242, 114, 1, 1, 0, 0, 0, 5] ++ u8z 238) 5 false)),
  (2284, some (.cells (u8s [3, 0, 9, 0, 2, 0, 0, 0, 5, 212, 242, 114, 1, 1, 0, 0, 0, 5] ++ u8z 46) 5 false)),
  (2312, some (.cells (u8z 64) 5 false)),
  (2340, some (.cells (u8z 64) 5 false)),
  (2368, some (.cells (u8z 64) 5 false)),
  (2369, some (.cells [.string ⟨#[115, 116, 111, 114, 101]⟩, i6 0, .slice (some ⟨954, 0, none⟩) 64 64, .string ⟨#[115, 116, 111, 114, 101]⟩, i6 64, .slice (some ⟨982, 0, none⟩) 64 64, .string ⟨#[115, 116, 111, 114, 101]⟩, i6 128, .slice (some ⟨1010, 0, none⟩) 64 64, .string ⟨#[115, 116, 111, 114, 101]⟩, i6 192, .slice (some ⟨1038, 0, none⟩) 64 64, .string ⟨#[115, 116, 111, 114, 101]⟩, i6 256, .slice (some ⟨1613, 0, none⟩) 64 64, .string ⟨#[115, 116, 111, 114, 101]⟩, i6 320, .slice (some ⟨1641, 0, none⟩) 64 64, .string ⟨#[115, 116, 111, 114, 101]⟩, i6 384, .slice (some ⟨1669, 0, none⟩) 64 64, .string ⟨#[115, 116, 111, 114, 101]⟩, i6 448, .slice (some ⟨1697, 0, none⟩) 64 64, .string ⟨#[115, 116, 111, 114, 101]⟩, i6 512, .slice (some ⟨2284, 0, none⟩) 64 64, .string ⟨#[115, 116, 111, 114, 101]⟩, i6 576, .slice (some ⟨2312, 0, none⟩) 64 64, .string ⟨#[115, 116, 111, 114, 101]⟩, i6 640, .slice (some ⟨2340, 0, none⟩) 64 64, .string ⟨#[115, 116, 111, 114, 101]⟩, i6 704, .slice (some ⟨2368, 0, none⟩) 64 64] 134 false))]⟩
theorem m24_15_ok : m24_15.ok (call evT evF k24_15 100000 m24_15.f m24_15.args m24_15.preH) = true := by kernel_rfl
theorem q24_15 : HkOk Tryz.prog (hkMemo m24_15) := hkMemo_ok evT_ok evF_ok k24_15_ok rfl m24_15_ok
noncomputable def k24_21 : Hk := orHk (hkMemo m24_19) (orHk (hkMemo m24_20) (hkLib))
theorem k24_21_ok : HkOk Tryz.prog k24_21 := orHk_ok q24_19 (orHk_ok q24_20 (hkLib_ok))
noncomputable def m24_21 : Mm :=
  ⟨229, [pt 71 0, i6 1], 2449, [(1, .map [⟨.string ⟨#[111, 114, 105, 103, 105, 110, 97, 108]⟩, pt 32 0, 0⟩, ⟨.string ⟨#[115, 116, 111, 114, 101]⟩, pt 423 0, 1⟩] 2),
  (2, .cells [i6 1048576, i6 4, .int .i64 (.negSucc 3), .bool false, .bool false, .map (some 1), .slice none 0 0] 61 true),
  (32, .cells [.slice (some ⟨34, 0, none⟩) 5 5, .slice (some ⟨35, 0, none⟩) 5 5, .bool true] 130 true),
  (34, .cells (u8s [97, 98, 99, 10, 100]) 5 false),
  (35, .cells (u8s [97, 98, 99, 10, 100]) 5 false),
  (48, .map [⟨i6 1, pt 225 0, 0⟩, ⟨i6 2, pt 350 0, 1⟩] 2),
  (49, .cells [i6 5, i6 0, i6 0, .bool false, pt 350 0, pt 225 0, .map (some 48)] 357 true),
  (66, .map [⟨i6 1, .slice (some ⟨251, 0, none⟩) 256 256, 0⟩, ⟨i6 2, .slice (some ⟨376, 0, none⟩) 256 256, 1⟩] 2),
  (67, .cells [pt 49 0, pt 2 0, .string ⟨#[115, 116, 111, 114, 101]⟩, i6 5, .map (some 66), i6 0] 249 true),
  (68, .map [⟨i6 1, .bool true, 0⟩, ⟨i6 2, .bool true, 1⟩] 2),
  (69, .map [] 0),
  (70, .cells [i6 1, .map (some 68), .map (some 69), .slice (some ⟨318, 0, none⟩) 2 2] 214 true),
  (71, .cells [pt 67 0, pt 70 0] 257 true),
  (225, .cells [i6 1, i6 0, .bool false, pt 49 1, pt 350 0] 351 true),
  (251, .cells (u8s [1, 0, 14, 0, 1, 0, 0, 0, 7, 23, 113, 182, 1] ++ u8z 5 ++ u8s [5, 0, 0, 0, 255, 255, 255, 255] ++ u8z 230) 5 false),
  (318, .cells [i6 1, i6 2] 3 false),
  (350, .cells [i6 2, i6 0, .bool false, pt 225 0, pt 49 1] 351 true),
  (423, .cells [.slice (some ⟨2265, 0, none⟩) 768 768, .slice (some ⟨2389, 0, none⟩) 768 768, .bool true] 130 true)], .agg #[.bool true, .slice (some ⟨2895, 0, none⟩) 1 1, .slice none 0 0], 2910, [(49, some (.cells [i6 5, i6 0, i6 0, .bool false, pt 225 0, pt 350 0, .map (some 48)] 357 true)),
  (225, some (.cells [i6 1, i6 0, .bool false, pt 350 0, pt 49 1] 351 true)),
  (350, some (.cells [i6 2, i6 0, .bool false, pt 49 1, pt 225 0] 351 true)),
  (2895, some (.cells [i6 0, i6 0, i6 5, .int .i64 (.negSucc 0)] 147 false))]⟩
theorem m24_21_ok : m24_21.ok (call evT evF k24_21 100000 m24_21.f m24_21.args m24_21.preH) = true := by kernel_rfl
theorem q24_21 : HkOk Tryz.prog (hkMemo m24_21) := hkMemo_ok evT_ok evF_ok k24_21_ok rfl m24_21_ok
noncomputable def k24_34 : Hk := orHk (hkMemo m24_32) (orHk (hkMemo m24_33) (hkLib))
theorem k24_34_ok : HkOk Tryz.prog k24_34 := orHk_ok q24_32 (orHk_ok q24_33 (hkLib_ok))
noncomputable def m24_34 : Mm :=
  ⟨229, [pt 71 0, i6 1], 3179, [(1, .map [⟨.string ⟨#[111, 114, 105, 103, 105, 110, 97, 108]⟩, pt 32 0, 0⟩, ⟨.string ⟨#[115, 116, 111, 114, 101]⟩, pt 423 0, 1⟩] 2),
  (2, .cells [i6 1048576, i6 6, .int .i64 (.negSucc 5), .bool false, .bool false, .map (some 1), .slice none 0 0] 61 true),
  (32, .cells [.slice (some ⟨34, 0, none⟩) 5 5, .slice (some ⟨35, 0, none⟩) 5 5, .bool true] 130 true),
  (34, .cells (u8s [97, 98, 99, 10, 100]) 5 false),
  (35, .cells (u8s [97, 98, 99, 10, 100]) 5 false),
  (48, .map [⟨i6 1, pt 225 0, 0⟩, ⟨i6 2, pt 350 0, 1⟩] 2),
  (49, .cells [i6 5, i6 0, i6 0, .bool false, pt 225 0, pt 350 0, .map (some 48)] 357 true),
  (66, .map [⟨i6 1, .slice (some ⟨251, 0, none⟩) 256 256, 0⟩, ⟨i6 2, .slice (some ⟨376, 0, none⟩) 256 256, 1⟩] 2),
  (67, .cells [pt 49 0, pt 2 0, .string ⟨#[115, 116, 111, 114, 101]⟩, i6 5, .map (some 66), i6 0] 249 true),
  (68, .map [⟨i6 2, .bool true, 2⟩, ⟨i6 1, .bool true, 3⟩] 4),
  (69, .map [] 0),
  (70, .cells [i6 1, .map (some 68), .map (some 69), .slice none 0 0] 214 true),
  (71, .cells [pt 67 0, pt 70 0] 257 true),
  (225, .cells [i6 1, i6 0, .bool false, pt 350 0, pt 49 1] 351 true),
  (251, .cells (u8s [1, 0, 14, 0, 1, 0, 0, 0, 7, 23, 113, 182, 1] ++ u8z 5 ++ u8s [5, 0, 0, 0, 255, 255, 255, 255] ++ u8z 230) 5 false),
  (350, .cells [i6 2, i6 0, .bool false, pt 49 1, pt 225 0] 351 true),
  (423, .cells [.slice (some ⟨2265, 0, none⟩) 768 768, .slice (some ⟨3001, 0, none⟩) 768 768, .bool true] 130 true)], .agg #[.bool true, .slice (some ⟨3625, 0, none⟩) 1 1, .slice none 0 0], 3640, [(3625, some (.cells [i6 0, i6 0, i6 5, .int .i64 (.negSucc 0)] 147 false))]⟩
theorem m24_34_ok : m24_34.ok (call evT evF k24_34 100000 m24_34.f m24_34.args m24_34.preH) = true := by kernel_rfl
theorem q24_34 : HkOk Tryz.prog (hkMemo m24_34) := hkMemo_ok evT_ok evF_ok k24_34_ok rfl m24_34_ok
noncomputable def k24_39 : Hk := orHk (hkMemo m24_37) (orHk (hkMemo m24_38) (hkLib))
theorem k24_39_ok : HkOk Tryz.prog k24_39 := orHk_ok q24_37 (orHk_ok q24_38 (hkLib_ok))
noncomputable def m24_39 : Mm :=
  ⟨229, [pt 71 0, i6 1], 3675, [(1, .map [⟨.string ⟨#[111, 114, 105, 103, 105, 110, 97, 108]⟩, pt 32 0, 0⟩, ⟨.string ⟨#[115, 116, 111, 114, 101]⟩, pt 423 0, 1⟩] 2),
  (2, .cells [i6 1048576, i6 6, .int .i64 (.negSucc 5), .bool false, .bool false, .map (some 1), .slice none 0 0] 61 true),
  (32, .cells [.slice (some ⟨34, 0, none⟩) 5 5, .slice (some ⟨35, 0, none⟩) 5 5, .bool true] 130 true),
  (34, .cells (u8s [97, 98, 99, 10, 100]) 5 false),
  (35, .cells (u8s [97, 98, 99, 10, 100]) 5 false),
  (48, .map [⟨i6 1, pt 225 0, 0⟩, ⟨i6 2, pt 350 0, 1⟩] 2),
  (49, .cells [i6 5, i6 0, i6 0, .bool false, pt 225 0, pt 350 0, .map (some 48)] 357 true),
  (66, .map [⟨i6 1, .slice (some ⟨251, 0, none⟩) 256 256, 0⟩, ⟨i6 2, .slice (some ⟨376, 0, none⟩) 256 256, 1⟩] 2),
  (67, .cells [pt 49 0, pt 2 0, .string ⟨#[115, 116, 111, 114, 101]⟩, i6 5, .map (some 66), i6 0] 249 true),
  (68, .map [⟨i6 2, .bool true, 2⟩, ⟨i6 1, .bool true, 3⟩] 4),
  (69, .map [] 0),
  (70, .cells [i6 1, .map (some 68), .map (some 69), .slice none 0 0] 214 true),
  (71, .cells [pt 67 0, pt 70 0] 257 true),
  (225, .cells [i6 1, i6 0, .bool false, pt 350 0, pt 49 1] 351 true),
  (251, .cells (u8s [1, 0, 14, 0, 1, 0, 0, 0, 7, 23, 113, 182, 1] ++ u8z 5 ++ u8s [5, 0, 0, 0, 255, 255, 255, 255] ++ u8z 230) 5 false),
  (350, .cells [i6 2, i6 0, .bool false, pt 49 1, pt 225 0] 351 true),
  (423, .cells [.slice (some ⟨2265, 0, none⟩) 768 768, .slice (some ⟨3001, 0, none⟩) 768 768, .bool true] 130 true)], .agg #[.bool true, .slice (some ⟨4121, 0, none⟩) 1 1, .slice none 0 0], 4136, [(4121, some (.cells [i6 0, i6 0, i6 5, .int .i64 (.negSucc 0)] 147 false))]⟩
theorem m24_39_ok : m24_39.ok (call evT evF k24_39 100000 m24_39.f m24_39.args m24_39.preH) = true := by kernel_rfl
theorem q24_39 : HkOk Tryz.prog (hkMemo m24_39) := hkMemo_ok evT_ok evF_ok k24_39_ok rfl m24_39_ok
noncomputable def k24_43 : Hk := orHk (hkMemo m24_41) (orHk (hkMemo m24_42) (hkLib))
theorem k24_43_ok : HkOk Tryz.prog k24_43 := orHk_ok q24_41 (orHk_ok q24_42 (hkLib_ok))
noncomputable def m24_43 : Mm :=
  ⟨229, [pt 71 0, i6 1], 4142, [(1, .map [⟨.string ⟨#[111, 114, 105, 103, 105, 110, 97, 108]⟩, pt 32 0, 0⟩, ⟨.string ⟨#[115, 116, 111, 114, 101]⟩, pt 423 0, 1⟩] 2),
  (2, .cells [i6 1048576, i6 6, .int .i64 (.negSucc 5), .bool false, .bool false, .map (some 1), .slice none 0 0] 61 true),
  (32, .cells [.slice (some ⟨34, 0, none⟩) 5 5, .slice (some ⟨35, 0, none⟩) 5 5, .bool true] 130 true),
  (34, .cells (u8s [97, 98, 99, 10, 100]) 5 false),
  (35, .cells (u8s [97, 98, 99, 10, 100]) 5 false),
  (48, .map [⟨i6 1, pt 225 0, 0⟩, ⟨i6 2, pt 350 0, 1⟩] 2),
  (49, .cells [i6 5, i6 0, i6 0, .bool false, pt 225 0, pt 350 0, .map (some 48)] 357 true),
  (66, .map [⟨i6 1, .slice (some ⟨251, 0, none⟩) 256 256, 0⟩, ⟨i6 2, .slice (some ⟨376, 0, none⟩) 256 256, 1⟩] 2),
  (67, .cells [pt 49 0, pt 2 0, .string ⟨#[115, 116, 111, 114, 101]⟩, i6 5, .map (some 66), i6 0] 249 true),
  (68, .map [⟨i6 2, .bool true, 2⟩, ⟨i6 1, .bool true, 3⟩] 4),
  (69, .map [] 0),
  (70, .cells [i6 1, .map (some 68), .map (some 69), .slice none 0 0] 214 true),
  (71, .cells [pt 67 0, pt 70 0] 257 true),
  (225, .cells [i6 1, i6 0, .bool false, pt 350 0, pt 49 1] 351 true),
  (251, .cells (u8s [1, 0, 14, 0, 1, 0, 0, 0, 7, 23, 113, 182, 1] ++ u8z 5 ++ u8s [5, 0, 0, 0, 255, 255, 255, 255] ++ u8z 230) 5 false),
  (350, .cells [i6 2, i6 0, .bool false, pt 49 1, pt 225 0] 351 true),
  (423, .cells [.slice (some ⟨2265, 0, none⟩) 768 768, .slice (some ⟨3001, 0, none⟩) 768 768, .bool true] 130 true)], .agg #[.bool true, .slice (some ⟨4588, 0, none⟩) 1 1, .slice none 0 0], 4603, [(4588, some (.cells [i6 0, i6 0, i6 5, .int .i64 (.negSucc 0)] 147 false))]⟩
theorem m24_43_ok : m24_43.ok (call evT evF k24_43 100000 m24_43.f m24_43.args m24_43.preH) = true := by kernel_rfl
theorem q24_43 : HkOk Tryz.prog (hkMemo m24_43) := hkMemo_ok evT_ok evF_ok k24_43_ok rfl m24_43_ok
noncomputable def k24_48 : Hk := orHk (hkMemo m24_46) (orHk (hkMemo m24_47) (hkLib))
theorem k24_48_ok : HkOk Tryz.prog k24_48 := orHk_ok q24_46 (orHk_ok q24_47 (hkLib_ok))
noncomputable def m24_48 : Mm :=
  ⟨229, [pt 71 0, i6 1], 4735, [(1, .map [⟨.string ⟨#[111, 114, 105, 103, 105, 110, 97, 108]⟩, pt 32 0, 0⟩, ⟨.string ⟨#[115, 116, 111, 114, 101]⟩, pt 423 0, 1⟩] 2),
  (2, .cells [i6 1048576, i6 6, .int .i64 (.negSucc 5), .bool false, .bool false, .map (some 1), .slice none 0 0] 61 true),
  (32, .cells [.slice (some ⟨34, 0, none⟩) 5 5, .slice (some ⟨35, 0, none⟩) 5 5, .bool true] 130 true),
  (34, .cells (u8s [97, 98, 99, 10, 100]) 5 false),
  (35, .cells (u8s [97, 98, 99, 10, 100]) 5 false),
  (48, .map [⟨i6 1, pt 225 0, 0⟩, ⟨i6 2, pt 350 0, 1⟩] 2),
  (49, .cells [i6 5, i6 0, i6 0, .bool false, pt 225 0, pt 350 0, .map (some 48)] 357 true),
  (66, .map [⟨i6 1, .slice (some ⟨251, 0, none⟩) 256 256, 0⟩, ⟨i6 2, .slice (some ⟨376, 0, none⟩) 256 256, 1⟩] 2),
  (67, .cells [pt 49 0, pt 2 0, .string ⟨#[115, 116, 111, 114, 101]⟩, i6 5, .map (some 66), i6 0] 249 true),
  (68, .map [⟨i6 2, .bool true, 2⟩, ⟨i6 1, .bool true, 3⟩] 4),
  (69, .map [] 0),
  (70, .cells [i6 1, .map (some 68), .map (some 69), .slice none 0 0] 214 true),
  (71, .cells [pt 67 0, pt 70 0] 257 true),
  (225, .cells [i6 1, i6 0, .bool false, pt 350 0, pt 49 1] 351 true),
  (251, .cells (u8s [1, 0, 14, 0, 1, 0, 0, 0, 7, 23, 113, 182, 1] ++ u8z 5 ++ u8s [5, 0, 0, 0, 255, 255, 255, 255] ++ u8z 230) 5 false),
  (350, .cells [i6 2, i6 0, .bool false, pt 49 1, pt 225 0] 351 true),
  (423, .cells [.slice (some ⟨2265, 0, none⟩) 768 768, .slice (some ⟨3001, 0, none⟩) 768 768, .bool true] 130 true)], .agg #[.bool true, .slice (some ⟨5181, 0, none⟩) 1 1, .slice none 0 0], 5196, [(5181, some (.cells [i6 0, i6 0, i6 5, .int .i64 (.negSucc 0)] 147 false))]⟩
theorem m24_48_ok : m24_48.ok (call evT evF k24_48 100000 m24_48.f m24_48.args m24_48.preH) = true := by kernel_rfl
theorem q24_48 : HkOk Tryz.prog (hkMemo m24_48) := hkMemo_ok evT_ok evF_ok k24_48_ok rfl m24_48_ok
noncomputable def k24_61 : Hk := orHk (hkMemo m24_59) (orHk (hkMemo m24_60) (hkLib))
theorem k24_61_ok : HkOk Tryz.prog k24_61 := orHk_ok q24_59 (orHk_ok q24_60 (hkLib_ok))
noncomputable def m24_61 : Mm :=
  ⟨229, [pt 71 0, i6 3], 5595, [(1, .map [⟨.string ⟨#[111, 114, 105, 103, 105, 110, 97, 108]⟩, pt 32 0, 0⟩, ⟨.string ⟨#[115, 116, 111, 114, 101]⟩, pt 423 0, 1⟩, ⟨.string ⟨#[116, 97, 105, 108]⟩, pt 5545 0, 2⟩] 3),
  (2, .cells [i6 1048576, i6 7, .int .i64 (.negSucc 6), .bool false, .bool false, .map (some 1), .slice (some ⟨5569, 0, none⟩) 1 1] 61 true),
  (32, .cells [.slice (some ⟨34, 0, none⟩) 5 5, .slice (some ⟨35, 0, none⟩) 5 5, .bool true] 130 true),
  (34, .cells (u8s [97, 98, 99, 10, 100]) 5 false),
  (35, .cells (u8s [97, 98, 99, 10, 100]) 5 false),
  (48, .map [⟨i6 1, pt 225 0, 0⟩, ⟨i6 2, pt 350 0, 1⟩, ⟨i6 3, pt 5424 0, 2⟩] 3),
  (49, .cells [i6 5, i6 0, i6 0, .bool false, pt 5424 0, pt 350 0, .map (some 48)] 357 true),
  (66, .map [⟨i6 1, .slice (some ⟨251, 0, none⟩) 256 256, 0⟩, ⟨i6 2, .slice (some ⟨376, 0, none⟩) 256 256, 1⟩, ⟨i6 3, .slice (some ⟨5450, 0, none⟩) 256 256, 2⟩] 3),
  (67, .cells [pt 49 0, pt 2 0, .string ⟨#[115, 116, 111, 114, 101]⟩, i6 5, .map (some 66), i6 0] 249 true),
  (68, .map [⟨i6 2, .bool true, 2⟩, ⟨i6 1, .bool true, 3⟩, ⟨i6 3, .bool true, 4⟩] 5),
  (69, .map [] 0),
  (70, .cells [i6 1, .map (some 68), .map (some 69), .slice (some ⟨5392, 0, none⟩) 1 1] 214 true),
  (71, .cells [pt 67 0, pt 70 0] 257 true),
  (225, .cells [i6 1, i6 0, .bool false, pt 350 0, pt 5424 0] 351 true),
  (350, .cells [i6 2, i6 0, .bool false, pt 49 1, pt 225 0] 351 true),
  (423, .cells [.slice (some ⟨2265, 0, none⟩) 768 768, .slice (some ⟨3001, 0, none⟩) 768 768, .bool true] 130 true),
  (5392, .cells [i6 3] 3 false),
  (5424, .cells [i6 3, i6 0, .bool true, pt 225 0, pt 49 1] 351 true),
  (5450, .cells (u8s [1, 0, 40, 0, 3, 0, 0, 0, 189, 203, 162, 90, 3] ++ u8z 5 ++ u8s [1, 0, 0, 0, 255, 255, 255, 255, 1] ++ u8z 4 ++ u8s [2] ++ u8z 8 ++ u8s [1, 0, 0, 0, 4, 0, 0, 0, 255, 255, 255, 255] ++ u8z 204) 5 false),
  (5545, .cells [.slice (some ⟨5549, 0, none⟩) 2 2, .slice none 0 0, .bool false] 130 true),
  (5549, .cells (u8s [120, 121]) 5 false),
  (5568, .cells (u8s [120, 121]) 5 false),
  (5569, .cells [.string ⟨#[116, 97, 105, 108]⟩, i6 0, .slice (some ⟨5568, 0, none⟩) 2 2] 134 false)], .agg #[.bool true, .slice (some ⟨6301, 0, none⟩) 3 3, .slice none 0 0], 6322, [(6301, some (.cells [i6 0, i6 0, i6 1, .int .i64 (.negSucc 0), i6 1, i6 0, i6 2, i6 0, i6 0, i6 1, i6 4, .int .i64 (.negSucc 0)] 147 false))]⟩
theorem m24_61_ok : m24_61.ok (call evT evF k24_61 100000 m24_61.f m24_61.args m24_61.preH) = true := by kernel_rfl
theorem q24_61 : HkOk Tryz.prog (hkMemo m24_61) := hkMemo_ok evT_ok evF_ok k24_61_ok rfl m24_61_ok
noncomputable def k24_68 : Hk := orHk (hkMemo m24_67) (hkLib)
theorem k24_68_ok : HkOk Tryz.prog k24_68 := orHk_ok q24_67 (hkLib_ok)
noncomputable def m24_68 : Mm :=
  ⟨249, [pt 67 0, i6 3], 6497, [(1, .map [⟨.string ⟨#[111, 114, 105, 103, 105, 110, 97, 108]⟩, pt 32 0, 0⟩, ⟨.string ⟨#[115, 116, 111, 114, 101]⟩, pt 423 0, 1⟩, ⟨.string ⟨#[116, 97, 105, 108]⟩, pt 5545 0, 2⟩] 3),
  (2, .cells [i6 1048576, i6 7, .int .i64 (.negSucc 6), .bool false, .bool false, .map (some 1), .slice (some ⟨5569, 0, none⟩) 1 1] 61 true),
  (32, .cells [.slice (some ⟨34, 0, none⟩) 5 5, .slice (some ⟨35, 0, none⟩) 5 5, .bool true] 130 true),
  (34, .cells (u8s [97, 98, 99, 10, 100]) 5 false),
  (35, .cells (u8s [97, 98, 99, 10, 100]) 5 false),
  (48, .map [⟨i6 1, pt 225 0, 0⟩, ⟨i6 2, pt 350 0, 1⟩, ⟨i6 3, pt 5424 0, 2⟩, ⟨i6 4, pt 6469 0, 3⟩] 4),
  (49, .cells [i6 5, i6 0, i6 0, .bool false, pt 6469 0, pt 350 0, .map (some 48)] 357 true),
  (66, .map [⟨i6 1, .slice (some ⟨251, 0, none⟩) 256 256, 0⟩, ⟨i6 2, .slice (some ⟨376, 0, none⟩) 256 256, 1⟩, ⟨i6 3, .slice (some ⟨5450, 0, none⟩) 256 256, 2⟩, ⟨i6 4, .slice (some ⟨6495, 0, none⟩) 256 256, 3⟩] 4),
  (67, .cells [pt 49 0, pt 2 0, .string ⟨#[115, 116, 111, 114, 101]⟩, i6 5, .map (some 66), i6 0] 249 true),
  (225, .cells [i6 1, i6 0, .bool false, pt 350 0, pt 5424 0] 351 true),
  (350, .cells [i6 2, i6 0, .bool false, pt 49 1, pt 225 0] 351 true),
  (423, .cells [.slice (some ⟨2265, 0, none⟩) 768 768, .slice (some ⟨3001, 0, none⟩) 768 768, .bool true] 130 true),
  (2265, .cells (u8z 64 ++ u8s [111, 99, 116, 97, 118, 111, 48, 49, 1] ++ u8z 5 ++ u8s [2] ++ u8z 8 ++ u8s [5] ++ u8z 36 ++ u8s [73, 229, 12, 250] ++ u8z 128 ++ u8s [1, 0, 14, 0, 1, 0, 0, 0, 7, 23, 113, 182, 1] ++ u8z 5 ++ u8s [5, 0, 0, 0, 255, 255, 255, 255] ++ u8z 230 ++ u8s [3, 0, 9, 0, 2, 0, 0, 0, 5, 212, 242, 114, 1, 1, 0, 0, 0, 5] ++ u8z 238) 5 false),
  (5424, .cells [i6 3, i6 0, .bool true, pt 225 0, pt 6469 0] 351 true),
  (5450, .cells (u8s [1, 0, 40, 0, 3, 0, 0, 0, 189, 203, 162, 90, 3] ++ u8z 5 ++ u8s [1, 0, 0, 0, 255, 255, 255, 255, 1] ++ u8z 4 ++ u8s [2] ++ u8z 8 ++ u8s [1, 0, 0, 0, 4, 0, 0, 0, 255, 255, 255, 255] ++ u8z 204) 5 false),
  (5545, .cells [.slice (some ⟨5549, 0, none⟩) 2 2, .slice none 0 0, .bool false] 130 true),
  (5549, .cells (u8s [120, 121]) 5 false),
  (5568, .cells (u8s [120, 121]) 5 false),
  (5569, .cells [.string ⟨#[116, 97, 105, 108]⟩, i6 0, .slice (some ⟨5568, 0, none⟩) 2 2] 134 false),
  (6469, .cells [i6 4, i6 0, .bool true, pt 5424 0, pt 49 1] 351 true)], i6 0, 7168, [(2, some (.cells [i6 1048576, i6 8, .int .i64 (.negSucc 7), .bool false, .bool false, .map (some 1), .slice (some ⟨7159, 0, none⟩) 5 5] 61 true)),
  (423, some (.cells [.slice (some ⟨7055, 0, none⟩) 1024 1024, .slice (some ⟨3001, 0, none⟩) 768 768, .bool true] 130 true)),
  (2265, none),
  (5424, some (.cells [i6 3, i6 0, .bool false, pt 225 0, pt 6469 0] 351 true)),
  (5569, none),
  (7055, some (.cells (u8z 64 ++ u8s [111, 99, 116, 97, 118, 111, 48, 49, 1] ++ u8z 5 ++ u8s [2] ++ u8z 8 ++ u8s [5] ++ u8z 36 ++ u8s [73, 229, 12, 250] ++ u8z 128 ++ u8s [1, 0, 14, 0, 1, 0, 0, 0, 7, 23, 113, 182, 1] ++ u8z 5 ++ u8s [5, 0, 0, 0, 255, 255, 255, 255] ++ u8z 230 ++ u8s [3, 0, 9, 0, 2, 0, 0, 0, 5, 212, 242, 114, 1, 1, 0, 0, 0, 5] ++ u8z 238 ++ u8s [1, 0, 40, 0, 3, 0, 0, 0, 189, 203, 162, 90, 3] ++ u8z 5 ++ u8s [1, 0, 0, 0, 255, 255, 255, 255, 1] ++ u8z 4 ++ u8s [2] ++ u8z 8 ++ u8s [1, 0, 0, 0, 4, 0, 0, 0, 255, 255, 255, 255] ++ u8z 204) 5 false)),
  (7074, some (.cells (u8s [1, 0, 40, 0, 3, 0, 0, 0, 189, 203, 162, 90, 3] ++ u8z 5 ++ u8s [1, 0, 0, 0, 255, 255, 255, 255, 1] ++ u8z 4 ++ u8s [2] ++ u8z 8 ++ u8s [1, 0, 0, 0, 4, 0, 0, 0, 255, 255, 255, 255] ++ u8z 12) 5 false)),
  (7102, some (.cells (u8z 64) 5 false)),
  (7130, some (.cells (u8z 64) 5 false)),
  (7158, some (.cells (u8z 64) 5 false)),
  (7159, some (.cells [.string ⟨#[116, 97, 105, 108]⟩, i6 0, .slice (some ⟨5568, 0, none⟩) 2 2, .string ⟨#[115, 116, 111, 114, 101]⟩, i6 768, .slice (some ⟨7074, 0, none⟩) 64 64, .string ⟨#[115, 116, 111, 114, 101]⟩, i6 832, .slice (some ⟨7102, 0, none⟩) 64 64, .string ⟨#[115, 116, 111, 114, 101]⟩, i6 896, .slice (some ⟨7130, 0, none⟩) 64 64, .string ⟨#[115, 116, 111, 114, 101]⟩, i6 960, .slice (some ⟨7158, 0, none⟩) 64 64] 134 false))]⟩
theorem m24_68_ok : m24_68.ok (call evT evF k24_68 100000 m24_68.f m24_68.args m24_68.preH) = true := by kernel_rfl
theorem q24_68 : HkOk Tryz.prog (hkMemo m24_68) := hkMemo_ok evT_ok evF_ok k24_68_ok rfl m24_68_ok
noncomputable def k24_71 : Hk := orHk (hkMemo m24_70) (hkLib)
theorem k24_71_ok : HkOk Tryz.prog k24_71 := orHk_ok q24_70 (hkLib_ok)
noncomputable def m24_71 : Mm :=
  ⟨249, [pt 67 0, i6 4], 7168, [(1, .map [⟨.string ⟨#[111, 114, 105, 103, 105, 110, 97, 108]⟩, pt 32 0, 0⟩, ⟨.string ⟨#[115, 116, 111, 114, 101]⟩, pt 423 0, 1⟩, ⟨.string ⟨#[116, 97, 105, 108]⟩, pt 5545 0, 2⟩] 3),
  (2, .cells [i6 1048576, i6 8, .int .i64 (.negSucc 7), .bool false, .bool false, .map (some 1), .slice (some ⟨7159, 0, none⟩) 5 5] 61 true),
  (32, .cells [.slice (some ⟨34, 0, none⟩) 5 5, .slice (some ⟨35, 0, none⟩) 5 5, .bool true] 130 true),
  (34, .cells (u8s [97, 98, 99, 10, 100]) 5 false),
  (35, .cells (u8s [97, 98, 99, 10, 100]) 5 false),
  (48, .map [⟨i6 1, pt 225 0, 0⟩, ⟨i6 2, pt 350 0, 1⟩, ⟨i6 3, pt 5424 0, 2⟩, ⟨i6 4, pt 6469 0, 3⟩] 4),
  (49, .cells [i6 5, i6 0, i6 0, .bool false, pt 6469 0, pt 350 0, .map (some 48)] 357 true),
  (66, .map [⟨i6 1, .slice (some ⟨251, 0, none⟩) 256 256, 0⟩, ⟨i6 2, .slice (some ⟨376, 0, none⟩) 256 256, 1⟩, ⟨i6 3, .slice (some ⟨5450, 0, none⟩) 256 256, 2⟩, ⟨i6 4, .slice (some ⟨6495, 0, none⟩) 256 256, 3⟩] 4),
  (67, .cells [pt 49 0, pt 2 0, .string ⟨#[115, 116, 111, 114, 101]⟩, i6 5, .map (some 66), i6 0] 249 true),
  (225, .cells [i6 1, i6 0, .bool false, pt 350 0, pt 5424 0] 351 true),
  (350, .cells [i6 2, i6 0, .bool false, pt 49 1, pt 225 0] 351 true),
  (423, .cells [.slice (some ⟨7055, 0, none⟩) 1024 1024, .slice (some ⟨3001, 0, none⟩) 768 768, .bool true] 130 true),
  (5424, .cells [i6 3, i6 0, .bool false, pt 225 0, pt 6469 0] 351 true),
  (5545, .cells [.slice (some ⟨5549, 0, none⟩) 2 2, .slice none 0 0, .bool false] 130 true),
  (5549, .cells (u8s [120, 121]) 5 false),
  (5568, .cells (u8s [120, 121]) 5 false),
  (6469, .cells [i6 4, i6 0, .bool true, pt 5424 0, pt 49 1] 351 true),
  (6495, .cells (u8s [3, 0, 17, 0, 4, 0, 0, 0, 178, 66, 147, 60, 2, 1, 0, 0, 0, 5, 0, 0, 0, 3, 0, 0, 0, 7] ++ u8z 230) 5 false),
  (7055, .cells (u8z 64 ++ u8s [111, 99, 116, 97, 118, 111, 48, 49, 1] ++ u8z 5 ++ u8s [2] ++ u8z 8 ++ u8s [5] ++ u8z 36 ++ u8s [73, 229, 12, 250] ++ u8z 128 ++ u8s [1, 0, 14, 0, 1, 0, 0, 0, 7, 23, 113, 182, 1] ++ u8z 5 ++ u8s [5, 0, 0, 0, 255, 255, 255, 255] ++ u8z 230 ++ u8s [3, 0, 9, 0, 2, 0, 0, 0, 5, 212, 242, 114, 1, 1, 0, 0, 0, 5] ++ u8z 238 ++ u8s [1, 0, 40, 0, 3, 0, 0, 0, 189, 203, 162, 90, 3] ++ u8z 5 ++ u8s [1, 0, 0, 0, 255, 255, 255, 255, 1] ++ u8z 4 ++ u8s [2] ++ u8z 8 ++ u8s [1, 0, 0, 0, 4, 0, 0, 0, 255, 255, 255, 255] ++ u8z 204) 5 false),
  (7159, .cells [.string ⟨#[116, 97, 105, 108]⟩, i6 0, .slice (some ⟨5568, 0, none⟩) 2 2, .string ⟨#[115, 116, 111, 114, 101]⟩, i6 768, .slice (some ⟨7074, 0, none⟩) 64 64, .string ⟨#[115, 116, 111, 114, 101]⟩, i6 832, .slice (some ⟨7102, 0, none⟩) 64 64, .string ⟨#[115, 116, 111, 114, 101]⟩, i6 896, .slice (some ⟨7130, 0, none⟩) 64 64, .string ⟨#[115, 116, 111, 114, 101]⟩, i6 960, .slice (some ⟨7158, 0, none⟩) 64 64] 134 false)], i6 0, 7839, [(2, some (.cells [i6 1048576, i6 9, .int .i64 (.negSucc 8), .bool false, .bool false, .map (some 1), .slice (some ⟨7830, 0, none⟩) 9 9] 61 true)),
  (423, some (.cells [.slice (some ⟨7726, 0, none⟩) 1280 1280, .slice (some ⟨3001, 0, none⟩) 768 768, .bool true] 130 true)),
  (6469, some (.cells [i6 4, i6 0, .bool false, pt 5424 0, pt 49 1] 351 true)),
  (7055, none),
  (7159, none),
  (7726, some (.cells (u8z 64 ++ u8s [111, 99, 116, 97, 118, 111, 48, 49, 1] ++ u8z 5 ++ u8s [2] ++ u8z 8 ++ u8s [5] ++ u8z 36 ++ u8s [73, 229, 12, 250] ++ u8z 128 ++ u8s [1, 0, 14, 0, 1, 0, 0, 0, 7, 23, 113, 182, 1] ++ u8z 5 ++ u8s [5, 0, 0, 0, 255, 255, 255, 255] ++ u8z 230 ++ u8s [3, 0, 9, 0, 2, 0, 0, 0, 5, 212, 242, 114, 1, 1, 0, 0, 0, 5] ++ u8z 238 ++ u8s [1, 0, 40, 0, 3, 0, 0, 0, 189, 203, 162, 90, 3] ++ u8z 5 ++ u8s [1, 0, 0, 0, 255, 255, 255, 255, 1] ++ u8z 4 ++ u8s [2] ++ u8z 8 ++ u8s [1, 0, 0, 0, 4, 0, 0, 0, 255, 255, 255, 255] ++ u8z 204 ++ u8s [3, 0, 17, 0, 4, 0, 0, 0, 178, 66, 147, 60, 2, 1, 0, 0, 0, 5, 0, 0, 0, 3, 0, 0, 0, 7] ++ u8z 230) 5 false)),
  (7745, some (.cells (u8s [3, 0, 17, 0, 4, 0, 0, 0, 178, 66, 147, 60, 2, 1, 0, 0, 0, 5, 0, 0, 0, 3, 0, 0, 0, 7] ++ u8z 38) 5 false)),
  (7773, some (.cells (u8z 64) 5 false)),
  (7801, some (.cells (u8z 64) 5 false)),
  (7829, some (.cells (u8z 64) 5 false)),
  (7830, some (.cells [.string ⟨#[116, 97, 105, 108]⟩, i6 0, .slice (some ⟨5568, 0, none⟩) 2 2, .string ⟨#[115, 116, 111, 114, 101]⟩, i6 768, .slice (some ⟨7074, 0, none⟩) 64 64, .string ⟨#[115, 116, 111, 114, 101]⟩, i6 832, .slice (some ⟨7102, 0, none⟩) 64 64, .string ⟨#[115, 116, 111, 114, 101]⟩, i6 896, .slice (some ⟨7130, 0, none⟩) 64 64, .string ⟨#[115, 116, 111, 114, 101]⟩, i6 960, .slice (some ⟨7158, 0, none⟩) 64 64, .string ⟨#[115, 116, 111, 114, 101]⟩, i6 1024, .slice (some ⟨7745, 0, none⟩) 64 64, .string ⟨#[115, 116, 111, 114, 101]⟩, i6 1088, .slice (some ⟨7773, 0, none⟩) 64 64, .string ⟨#[115, 116, 111, 114, 101]⟩, i6 1152, .slice (some ⟨7801, 0, none⟩) 64 64, .string ⟨#[115, 116, 111, 114, 101]⟩, i6 1216, .slice (some ⟨7829, 0, none⟩) 64 64] 134 false))]⟩
theorem m24_71_ok : m24_71.ok (call evT evF k24_71 100000 m24_71.f m24_71.args m24_71.preH) = true := by kernel_rfl
theorem q24_71 : HkOk Tryz.prog (hkMemo m24_71) := hkMemo_ok evT_ok evF_ok k24_71_ok rfl m24_71_ok
noncomputable def k24_77 : Hk := orHk (hkMemo m24_75) (orHk (hkMemo m24_76) (hkLib))
theorem k24_77_ok : HkOk Tryz.prog k24_77 := orHk_ok q24_75 (orHk_ok q24_76 (hkLib_ok))
noncomputable def m24_77 : Mm :=
  ⟨229, [pt 71 0, i6 1], 7912, [(1, .map [⟨.string ⟨#[111, 114, 105, 103, 105, 110, 97, 108]⟩, pt 32 0, 0⟩, ⟨.string ⟨#[115, 116, 111, 114, 101]⟩, pt 423 0, 1⟩, ⟨.string ⟨#[116, 97, 105, 108]⟩, pt 5545 0, 2⟩] 3),
  (2, .cells [i6 1048576, i6 11, .int .i64 (.negSucc 10), .bool false, .bool false, .map (some 1), .slice none 0 0] 61 true),
  (32, .cells [.slice (some ⟨34, 0, none⟩) 5 5, .slice (some ⟨35, 0, none⟩) 5 5, .bool true] 130 true),
  (34, .cells (u8s [97, 98, 99, 10, 100]) 5 false),
  (35, .cells (u8s [97, 98, 99, 10, 100]) 5 false),
  (48, .map [⟨i6 1, pt 225 0, 0⟩, ⟨i6 2, pt 350 0, 1⟩, ⟨i6 3, pt 5424 0, 2⟩, ⟨i6 4, pt 6469 0, 3⟩] 4),
  (49, .cells [i6 5, i6 0, i6 0, .bool false, pt 6469 0, pt 350 0, .map (some 48)] 357 true),
  (66, .map [⟨i6 1, .slice (some ⟨251, 0, none⟩) 256 256, 0⟩, ⟨i6 2, .slice (some ⟨376, 0, none⟩) 256 256, 1⟩, ⟨i6 3, .slice (some ⟨5450, 0, none⟩) 256 256, 2⟩, ⟨i6 4, .slice (some ⟨6495, 0, none⟩) 256 256, 3⟩] 4),
  (67, .cells [pt 49 0, pt 2 0, .string ⟨#[115, 116, 111, 114, 101]⟩, i6 5, .map (some 66), i6 0] 249 true),
  (68, .map [⟨i6 2, .bool true, 2⟩, ⟨i6 1, .bool true, 3⟩, ⟨i6 3, .bool true, 4⟩, ⟨i6 4, .bool true, 5⟩] 6),
  (69, .map [] 0),
  (70, .cells [i6 1, .map (some 68), .map (some 69), .slice (some ⟨6437, 0, none⟩) 2 2] 214 true),
  (71, .cells [pt 67 0, pt 70 0] 257 true),
  (225, .cells [i6 1, i6 0, .bool false, pt 350 0, pt 5424 0] 351 true),
  (251, .cells (u8s [1, 0, 14, 0, 1, 0, 0, 0, 7, 23, 113, 182, 1] ++ u8z 5 ++ u8s [5, 0, 0, 0, 255, 255, 255, 255] ++ u8z 230) 5 false),
  (350, .cells [i6 2, i6 0, .bool false, pt 49 1, pt 225 0] 351 true),
  (423, .cells [.slice (some ⟨7726, 0, none⟩) 1280 1280, .slice (some ⟨7850, 0, none⟩) 1280 1280, .bool true] 130 true),
  (5424, .cells [i6 3, i6 0, .bool false, pt 225 0, pt 6469 0] 351 true),
  (5545, .cells [.slice (some ⟨5549, 0, none⟩) 2 2, .slice (some ⟨7863, 0, none⟩) 2 2, .bool true] 130 true),
  (5549, .cells (u8s [120, 121]) 5 false),
  (6437, .cells [i6 3, i6 4] 3 false),
  (6469, .cells [i6 4, i6 0, .bool false, pt 5424 0, pt 49 1] 351 true),
  (7863, .cells (u8s [120, 121]) 5 false)], .agg #[.bool true, .slice (some ⟨8358, 0, none⟩) 1 1, .slice none 0 0], 8373, [(49, some (.cells [i6 5, i6 0, i6 0, .bool false, pt 225 0, pt 350 0, .map (some 48)] 357 true)),
  (225, some (.cells [i6 1, i6 0, .bool false, pt 6469 0, pt 49 1] 351 true)),
  (350, some (.cells [i6 2, i6 0, .bool false, pt 49 1, pt 5424 0] 351 true)),
  (5424, some (.cells [i6 3, i6 0, .bool false, pt 350 0, pt 6469 0] 351 true)),
  (6469, some (.cells [i6 4, i6 0, .bool false, pt 5424 0, pt 225 0] 351 true)),
  (8358, some (.cells [i6 0, i6 0, i6 5, .int .i64 (.negSucc 0)] 147 false))]⟩
theorem m24_77_ok : m24_77.ok (call evT evF k24_77 100000 m24_77.f m24_77.args m24_77.preH) = true := by kernel_rfl
theorem q24_77 : HkOk Tryz.prog (hkMemo m24_77) := hkMemo_ok evT_ok evF_ok k24_77_ok rfl m24_77_ok
noncomputable def k24_81 : Hk := orHk (hkMemo m24_79) (orHk (hkMemo m24_80) (hkLib))
theorem k24_81_ok : HkOk Tryz.prog k24_81 := orHk_ok q24_79 (orHk_ok q24_80 (hkLib_ok))
noncomputable def m24_81 : Mm :=
  ⟨229, [pt 71 0, i6 3], 8387, [(1, .map [⟨.string ⟨#[111, 114, 105, 103, 105, 110, 97, 108]⟩, pt 32 0, 0⟩, ⟨.string ⟨#[115, 116, 111, 114, 101]⟩, pt 423 0, 1⟩, ⟨.string ⟨#[116, 97, 105, 108]⟩, pt 5545 0, 2⟩] 3),
  (2, .cells [i6 1048576, i6 11, .int .i64 (.negSucc 10), .bool false, .bool false, .map (some 1), .slice none 0 0] 61 true),
  (32, .cells [.slice (some ⟨34, 0, none⟩) 5 5, .slice (some ⟨35, 0, none⟩) 5 5, .bool true] 130 true),
  (34, .cells (u8s [97, 98, 99, 10, 100]) 5 false),
  (35, .cells (u8s [97, 98, 99, 10, 100]) 5 false),
  (48, .map [⟨i6 1, pt 225 0, 0⟩, ⟨i6 2, pt 350 0, 1⟩, ⟨i6 3, pt 5424 0, 2⟩, ⟨i6 4, pt 6469 0, 3⟩] 4),
  (49, .cells [i6 5, i6 0, i6 0, .bool false, pt 225 0, pt 350 0, .map (some 48)] 357 true),
  (66, .map [⟨i6 1, .slice (some ⟨251, 0, none⟩) 256 256, 0⟩, ⟨i6 2, .slice (some ⟨376, 0, none⟩) 256 256, 1⟩, ⟨i6 3, .slice (some ⟨5450, 0, none⟩) 256 256, 2⟩, ⟨i6 4, .slice (some ⟨6495, 0, none⟩) 256 256, 3⟩] 4),
  (67, .cells [pt 49 0, pt 2 0, .string ⟨#[115, 116, 111, 114, 101]⟩, i6 5, .map (some 66), i6 0] 249 true),
  (68, .map [⟨i6 2, .bool true, 2⟩, ⟨i6 1, .bool true, 3⟩, ⟨i6 3, .bool true, 4⟩, ⟨i6 4, .bool true, 5⟩] 6),
  (69, .map [] 0),
  (70, .cells [i6 1, .map (some 68), .map (some 69), .slice (some ⟨6437, 0, none⟩) 2 2] 214 true),
  (71, .cells [pt 67 0, pt 70 0] 257 true),
  (225, .cells [i6 1, i6 0, .bool false, pt 6469 0, pt 49 1] 351 true),
  (350, .cells [i6 2, i6 0, .bool false, pt 49 1, pt 5424 0] 351 true),
  (423, .cells [.slice (some ⟨7726, 0, none⟩) 1280 1280, .slice (some ⟨7850, 0, none⟩) 1280 1280, .bool true] 130 true),
  (5424, .cells [i6 3, i6 0, .bool false, pt 350 0, pt 6469 0] 351 true),
  (5450, .cells (u8s [1, 0, 40, 0, 3, 0, 0, 0, 189, 203, 162, 90, 3] ++ u8z 5 ++ u8s [1, 0, 0, 0, 255, 255, 255, 255, 1] ++ u8z 4 ++ u8s [2] ++ u8z 8 ++ u8s [1, 0, 0, 0, 4, 0, 0, 0, 255, 255, 255, 255] ++ u8z 204) 5 false),
  (5545, .cells [.slice (some ⟨5549, 0, none⟩) 2 2, .slice (some ⟨7863, 0, none⟩) 2 2, .bool true] 130 true),
  (5549, .cells (u8s [120, 121]) 5 false),
  (6437, .cells [i6 3, i6 4] 3 false),
  (6469, .cells [i6 4, i6 0, .bool false, pt 5424 0, pt 225 0] 351 true),
  (7863, .cells (u8s [120, 121]) 5 false)], .agg #[.bool true, .slice (some ⟨9093, 0, none⟩) 3 3, .slice none 0 0], 9114, [(49, some (.cells [i6 5, i6 0, i6 0, .bool false, pt 5424 0, pt 350 0, .map (some 48)] 357 true)),
  (225, some (.cells [i6 1, i6 0, .bool false, pt 6469 0, pt 5424 0] 351 true)),
  (350, some (.cells [i6 2, i6 0, .bool false, pt 49 1, pt 6469 0] 351 true)),
  (5424, some (.cells [i6 3, i6 0, .bool false, pt 225 0, pt 49 1] 351 true)),
  (6469, some (.cells [i6 4, i6 0, .bool false, pt 350 0, pt 225 0] 351 true)),
  (9093, some (.cells [i6 0, i6 0, i6 1, .int .i64 (.negSucc 0), i6 1, i6 0, i6 2, i6 0, i6 0, i6 1, i6 4, .int .i64 (.negSucc 0)] 147 false))]⟩
theorem m24_81_ok : m24_81.ok (call evT evF k24_81 100000 m24_81.f m24_81.args m24_81.preH) = true := by kernel_rfl
theorem q24_81 : HkOk Tryz.prog (hkMemo m24_81) := hkMemo_ok evT_ok evF_ok k24_81_ok rfl m24_81_ok
noncomputable def k24_94 : Hk := orHk (hkMemo m24_93) (hkLib)
theorem k24_94_ok : HkOk Tryz.prog k24_94 := orHk_ok q24_93 (hkLib_ok)
noncomputable def m24_94 : Mm :=
  ⟨174, [pt 73 0, .func (.func 175) #[] #[]], 9348, [(1, .map [⟨.string ⟨#[111, 114, 105, 103, 105, 110, 97, 108]⟩, pt 32 0, 0⟩, ⟨.string ⟨#[115, 116, 111, 114, 101]⟩, pt 423 0, 1⟩, ⟨.string ⟨#[116, 97, 105, 108]⟩, pt 5545 0, 2⟩] 3),
  (2, .cells [i6 1048576, i6 13, .int .i64 (.negSucc 12), .bool false, .bool false, .map (some 1), .slice none 0 0] 61 true),
  (32, .cells [.slice (some ⟨34, 0, none⟩) 5 5, .slice (some ⟨35, 0, none⟩) 5 5, .bool true] 130 true),
  (34, .cells (u8s [97, 98, 99, 10, 100]) 5 false),
  (35, .cells (u8s [97, 98, 99, 10, 100]) 5 false),
  (48, .map [⟨i6 1, pt 225 0, 0⟩, ⟨i6 3, pt 5424 0, 2⟩, ⟨i6 4, pt 6469 0, 3⟩] 4),
  (49, .cells [i6 5, i6 0, i6 0, .bool false, pt 5424 0, pt 6469 0, .map (some 48)] 357 true),
  (66, .map [⟨i6 1, .slice (some ⟨251, 0, none⟩) 256 256, 0⟩, ⟨i6 3, .slice (some ⟨5450, 0, none⟩) 256 256, 2⟩, ⟨i6 4, .slice (some ⟨6495, 0, none⟩) 256 256, 3⟩] 4),
  (67, .cells [pt 49 0, pt 2 0, .string ⟨#[115, 116, 111, 114, 101]⟩, i6 5, .map (some 66), i6 0] 249 true),
  (68, .map [⟨i6 4, .bool true, 6⟩, ⟨i6 1, .bool true, 7⟩, ⟨i6 3, .bool true, 8⟩] 9),
  (69, .map [] 0),
  (70, .cells [i6 1, .map (some 68), .map (some 69), .slice none 0 0] 214 true),
  (71, .cells [pt 67 0, pt 70 0] 257 true),
  (73, .cells [pt 67 0, pt 70 0, pt 71 0, pt 2 0, pt 83 0, pt 3037 0, .slice (some ⟨9268, 0, none⟩) 2 2, i6 1, i6 2, i6 4, i6 1, i6 2, i6 5, i6 0, i6 0, i6 0, i6 0, i6 0, .slice (some ⟨9126, 0, none⟩) 2 2] 85 true),
  (83, .cells [pt 2 0, i6 2] 216 true),
  (225, .cells [i6 1, i6 0, .bool false, pt 6469 0, pt 5424 0] 351 true),
  (423, .cells [.slice (some ⟨7726, 0, none⟩) 1280 1280, .slice (some ⟨9255, 0, none⟩) 1280 1280, .bool true] 130 true),
  (3016, .map [] 0),
  (3017, .cells [pt 2 0, .string ⟨#[111, 114, 105, 103, 105, 110, 97, 108]⟩, i6 5, i6 0, .map (some 3016)] 372 true),
  (3037, .cells [pt 71 0, pt 3017 0, pt 83 0] 233 true),
  (5424, .cells [i6 3, i6 0, .bool false, pt 225 0, pt 49 1] 351 true),
  (5545, .cells [.slice (some ⟨5549, 0, none⟩) 2 2, .slice (some ⟨7863, 0, none⟩) 2 2, .bool true] 130 true),
  (5549, .cells (u8s [120, 121]) 5 false),
  (6469, .cells [i6 4, i6 0, .bool false, pt 49 1, pt 225 0] 351 true),
  (7726, .cells (u8s [111, 99, 116, 97, 118, 111, 48, 49, 2] ++ u8z 5 ++ u8s [4, 0, 0, 0, 1, 2, 0, 0, 0, 5] ++ u8z 36 ++ u8s [152, 29, 250, 49, 111, 99, 116, 97, 118, 111, 48, 49, 1] ++ u8z 5 ++ u8s [2] ++ u8z 8 ++ u8s [5] ++ u8z 36 ++ u8s [73, 229, 12, 250] ++ u8z 128 ++ u8s [1, 0, 14, 0, 1, 0, 0, 0, 7, 23, 113, 182, 1] ++ u8z 5 ++ u8s [5, 0, 0, 0, 255, 255, 255, 255] ++ u8z 230 ++ u8s [3, 0, 9, 0, 2, 0, 0, 0, 5, 212, 242, 114, 1, 1, 0, 0, 0, 5] ++ u8z 238 ++ u8s [1, 0, 40, 0, 3, 0, 0, 0, 189, 203, 162, 90, 3] ++ u8z 5 ++ u8s [1, 0, 0, 0, 255, 255, 255, 255, 1] ++ u8z 4 ++ u8s [2] ++ u8z 8 ++ u8s [1, 0, 0, 0, 4, 0, 0, 0, 255, 255, 255, 255] ++ u8z 204 ++ u8s [3, 0, 17, 0, 4, 0, 0, 0, 178, 66, 147, 60, 2, 1, 0, 0, 0, 5, 0, 0, 0, 3, 0, 0, 0, 7] ++ u8z 230) 5 false),
  (7863, .cells (u8s [120, 121]) 5 false),
  (9126, .cells [i6 1, i6 3] 3 false),
  (9268, .cells [i6 1, i6 5, i6 3, i6 7] 119 false)], i6 0, 9491, [(2, some (.cells [i6 1048576, i6 15, .int .i64 (.negSucc 14), .bool false, .bool false, .map (some 1), .slice none 0 0] 61 true)),
  (68, some (.map [⟨i6 4, .bool true, 9⟩, ⟨i6 1, .bool true, 10⟩, ⟨i6 3, .bool true, 11⟩] 12)),
  (73, some (.cells [pt 67 0, pt 70 0, pt 71 0, pt 2 0, pt 83 0, pt 3037 0, .slice (some ⟨9473, 0, none⟩) 2 2, i6 0, i6 3, i6 4, i6 0, i6 2, i6 5, i6 0, i6 0, i6 0, i6 0, i6 0, .slice (some ⟨9126, 0, none⟩) 2 2] 85 true)),
  (423, some (.cells [.slice (some ⟨7726, 0, none⟩) 1280 1280, .slice (some ⟨9460, 0, none⟩) 1280 1280, .bool true] 130 true)),
  (7726, some (.cells (u8s [111, 99, 116, 97, 118, 111, 48, 49, 2] ++ u8z 5 ++ u8s [4, 0, 0, 0, 1, 2, 0, 0, 0, 5] ++ u8z 36 ++ u8s [152, 29, 250, 49, 111, 99, 116, 97, 118, 111, 48, 49, 3] ++ u8z 5 ++ u8s [4] ++ u8z 4 ++ u8s [2, 0, 0, 0, 5] ++ u8z 36 ++ u8s [123, 101, 15, 249] ++ u8z 128 ++ u8s [1, 0, 14, 0, 1, 0, 0, 0, 7, 23, 113, 182, 1] ++ u8z 5 ++ u8s [5, 0, 0, 0, 255, 255, 255, 255] ++ u8z 230 ++ u8s [3, 0, 9, 0, 2, 0, 0, 0, 5, 212, 242, 114, 1, 1, 0, 0, 0, 5] ++ u8z 238 ++ u8s [1, 0, 40, 0, 3, 0, 0, 0, 189, 203, 162, 90, 3] ++ u8z 5 ++ u8s [1, 0, 0, 0, 255, 255, 255, 255, 1] ++ u8z 4 ++ u8s [2] ++ u8z 8 ++ u8s [1, 0, 0, 0, 4, 0, 0, 0, 255, 255, 255, 255] ++ u8z 204 ++ u8s [3, 0, 17, 0, 4, 0, 0, 0, 178, 66, 147, 60, 2, 1, 0, 0, 0, 5, 0, 0, 0, 3, 0, 0, 0, 7] ++ u8z 230) 5 false)),
  (9460, some (.cells (u8s [111, 99, 116, 97, 118, 111, 48, 49, 2] ++ u8z 5 ++ u8s [4, 0, 0, 0, 1, 2, 0, 0, 0, 5] ++ u8z 36 ++ u8s [152, 29, 250, 49, 111, 99, 116, 97, 118, 111, 48, 49, 3] ++ u8z 5 ++ u8s [4] ++ u8z 4 ++ u8s [2, 0, 0, 0, 5] ++ u8z 36 ++ u8s [123, 101, 15, 249] ++ u8z 128 ++ u8s [1, 0, 14, 0, 1, 0, 0, 0, 7, 23, 113, 182, 1] ++ u8z 5 ++ u8s [5, 0, 0, 0, 255, 255, 255, 255] ++ u8z 230 ++ u8s [3, 0, 9, 0, 2, 0, 0, 0, 5, 212, 242, 114, 1, 1, 0, 0, 0, 5] ++ u8z 238 ++ u8s [1, 0, 40, 0, 3, 0, 0, 0, 189, 203, 162, 90, 3] ++ u8z 5 ++ u8s [1, 0, 0, 0, 255, 255, 255, 255, 1] ++ u8z 4 ++ u8s [2] ++ u8z 8 ++ u8s [1, 0, 0, 0, 4, 0, 0, 0, 255, 255, 255, 255] ++ u8z 204 ++ u8s [3, 0, 17, 0, 4, 0, 0, 0, 178, 66, 147, 60, 2, 1, 0, 0, 0, 5, 0, 0, 0, 3, 0, 0, 0, 7] ++ u8z 230) 5 false)),
  (9473, some (.cells [i6 1, i6 5, i6 3, i6 7] 119 false))]⟩
theorem m24_94_ok : m24_94.ok (call evT evF k24_94 100000 m24_94.f m24_94.args m24_94.preH) = true := by kernel_rfl
theorem q24_94 : HkOk Tryz.prog (hkMemo m24_94) := hkMemo_ok evT_ok evF_ok k24_94_ok rfl m24_94_ok
noncomputable def k24_99 : Hk := orHk (hkMemo m24_97) (orHk (hkMemo m24_98) (hkLib))
theorem k24_99_ok : HkOk Tryz.prog k24_99 := orHk_ok q24_97 (orHk_ok q24_98 (hkLib_ok))
noncomputable def m24_99 : Mm :=
  ⟨229, [pt 71 0, i6 1], 9555, [(1, .map [⟨.string ⟨#[111, 114, 105, 103, 105, 110, 97, 108]⟩, pt 32 0, 0⟩, ⟨.string ⟨#[115, 116, 111, 114, 101]⟩, pt 423 0, 1⟩, ⟨.string ⟨#[116, 97, 105, 108]⟩, pt 5545 0, 2⟩] 3),
  (2, .cells [i6 1048576, i6 15, .int .i64 (.negSucc 14), .bool false, .bool false, .map (some 1), .slice none 0 0] 61 true),
  (32, .cells [.slice (some ⟨34, 0, none⟩) 5 5, .slice (some ⟨35, 0, none⟩) 5 5, .bool true] 130 true),
  (34, .cells (u8s [97, 98, 99, 10, 100]) 5 false),
  (35, .cells (u8s [97, 98, 99, 10, 100]) 5 false),
  (48, .map [⟨i6 1, pt 225 0, 0⟩, ⟨i6 3, pt 5424 0, 2⟩, ⟨i6 4, pt 6469 0, 3⟩] 4),
  (49, .cells [i6 5, i6 0, i6 0, .bool false, pt 5424 0, pt 6469 0, .map (some 48)] 357 true),
  (66, .map [⟨i6 1, .slice (some ⟨251, 0, none⟩) 256 256, 0⟩, ⟨i6 3, .slice (some ⟨5450, 0, none⟩) 256 256, 2⟩, ⟨i6 4, .slice (some ⟨6495, 0, none⟩) 256 256, 3⟩] 4),
  (67, .cells [pt 49 0, pt 2 0, .string ⟨#[115, 116, 111, 114, 101]⟩, i6 5, .map (some 66), i6 0] 249 true),
  (68, .map [⟨i6 4, .bool true, 9⟩, ⟨i6 1, .bool true, 10⟩, ⟨i6 3, .bool true, 11⟩] 12),
  (69, .map [] 0),
  (70, .cells [i6 1, .map (some 68), .map (some 69), .slice none 0 0] 214 true),
  (71, .cells [pt 67 0, pt 70 0] 257 true),
  (225, .cells [i6 1, i6 0, .bool false, pt 6469 0, pt 5424 0] 351 true),
  (251, .cells (u8s [1, 0, 14, 0, 1, 0, 0, 0, 7, 23, 113, 182, 1] ++ u8z 5 ++ u8s [5, 0, 0, 0, 255, 255, 255, 255] ++ u8z 230) 5 false),
  (423, .cells [.slice (some ⟨7726, 0, none⟩) 1280 1280, .slice (some ⟨9460, 0, none⟩) 1280 1280, .bool true] 130 true),
  (5424, .cells [i6 3, i6 0, .bool false, pt 225 0, pt 49 1] 351 true),
  (5545, .cells [.slice (some ⟨5549, 0, none⟩) 2 2, .slice (some ⟨7863, 0, none⟩) 2 2, .bool true] 130 true),
  (5549, .cells (u8s [120, 121]) 5 false),
  (6469, .cells [i6 4, i6 0, .bool false, pt 49 1, pt 225 0] 351 true),
  (7863, .cells (u8s [120, 121]) 5 false)], .agg #[.bool true, .slice (some ⟨10001, 0, none⟩) 1 1, .slice none 0 0], 10016, [(49, some (.cells [i6 5, i6 0, i6 0, .bool false, pt 225 0, pt 6469 0, .map (some 48)] 357 true)),
  (225, some (.cells [i6 1, i6 0, .bool false, pt 5424 0, pt 49 1] 351 true)),
  (5424, some (.cells [i6 3, i6 0, .bool false, pt 6469 0, pt 225 0] 351 true)),
  (6469, some (.cells [i6 4, i6 0, .bool false, pt 49 1, pt 5424 0] 351 true)),
  (10001, some (.cells [i6 0, i6 0, i6 5, .int .i64 (.negSucc 0)] 147 false))]⟩
theorem m24_99_ok : m24_99.ok (call evT evF k24_99 100000 m24_99.f m24_99.args m24_99.preH) = true := by kernel_rfl
theorem q24_99 : HkOk Tryz.prog (hkMemo m24_99) := hkMemo_ok evT_ok evF_ok k24_99_ok rfl m24_99_ok
noncomputable def k24_104 : Hk := orHk (hkMemo m24_102) (orHk (hkMemo m24_103) (hkLib))
theorem k24_104_ok : HkOk Tryz.prog k24_104 := orHk_ok q24_102 (orHk_ok q24_103 (hkLib_ok))
noncomputable def m24_104 : Mm :=
  ⟨229, [pt 71 0, i6 1], 10050, [(1, .map [⟨.string ⟨#[111, 114, 105, 103, 105, 110, 97, 108]⟩, pt 32 0, 0⟩, ⟨.string ⟨#[115, 116, 111, 114, 101]⟩, pt 423 0, 1⟩, ⟨.string ⟨#[116, 97, 105, 108]⟩, pt 5545 0, 2⟩] 3),
  (2, .cells [i6 1048576, i6 15, .int .i64 (.negSucc 14), .bool false, .bool false, .map (some 1), .slice none 0 0] 61 true),
  (32, .cells [.slice (some ⟨34, 0, none⟩) 5 5, .slice (some ⟨35, 0, none⟩) 5 5, .bool true] 130 true),
  (34, .cells (u8s [97, 98, 99, 10, 100]) 5 false),
  (35, .cells (u8s [97, 98, 99, 10, 100]) 5 false),
  (48, .map [⟨i6 1, pt 225 0, 0⟩, ⟨i6 3, pt 5424 0, 2⟩, ⟨i6 4, pt 6469 0, 3⟩] 4),
  (49, .cells [i6 5, i6 0, i6 0, .bool false, pt 225 0, pt 6469 0, .map (some 48)] 357 true),
  (66, .map [⟨i6 1, .slice (some ⟨251, 0, none⟩) 256 256, 0⟩, ⟨i6 3, .slice (some ⟨5450, 0, none⟩) 256 256, 2⟩, ⟨i6 4, .slice (some ⟨6495, 0, none⟩) 256 256, 3⟩] 4),
  (67, .cells [pt 49 0, pt 2 0, .string ⟨#[115, 116, 111, 114, 101]⟩, i6 5, .map (some 66), i6 0] 249 true),
  (68, .map [⟨i6 4, .bool true, 9⟩, ⟨i6 1, .bool true, 10⟩, ⟨i6 3, .bool true, 11⟩] 12),
  (69, .map [] 0),
  (70, .cells [i6 1, .map (some 68), .map (some 69), .slice none 0 0] 214 true),
  (71, .cells [pt 67 0, pt 70 0] 257 true),
  (225, .cells [i6 1, i6 0, .bool false, pt 5424 0, pt 49 1] 351 true),
  (251, .cells (u8s [1, 0, 14, 0, 1, 0, 0, 0, 7, 23, 113, 182, 1] ++ u8z 5 ++ u8s [5, 0, 0, 0, 255, 255, 255, 255] ++ u8z 230) 5 false),
  (423, .cells [.slice (some ⟨7726, 0, none⟩) 1280 1280, .slice (some ⟨9460, 0, none⟩) 1280 1280, .bool true] 130 true),
  (5424, .cells [i6 3, i6 0, .bool false, pt 6469 0, pt 225 0] 351 true),
  (5545, .cells [.slice (some ⟨5549, 0, none⟩) 2 2, .slice (some ⟨7863, 0, none⟩) 2 2, .bool true] 130 true),
  (5549, .cells (u8s [120, 121]) 5 false),
  (6469, .cells [i6 4, i6 0, .bool false, pt 49 1, pt 5424 0] 351 true),
  (7863, .cells (u8s [120, 121]) 5 false)], .agg #[.bool true, .slice (some ⟨10496, 0, none⟩) 1 1, .slice none 0 0], 10511, [(10496, some (.cells [i6 0, i6 0, i6 5, .int .i64 (.negSucc 0)] 147 false))]⟩
theorem m24_104_ok : m24_104.ok (call evT evF k24_104 100000 m24_104.f m24_104.args m24_104.preH) = true := by kernel_rfl
theorem q24_104 : HkOk Tryz.prog (hkMemo m24_104) := hkMemo_ok evT_ok evF_ok k24_104_ok rfl m24_104_ok
noncomputable def k24_110 : Hk := orHk (hkMemo m24_109) (hkLib)
theorem k24_110_ok : HkOk Tryz.prog k24_110 := orHk_ok q24_109 (hkLib_ok)
noncomputable def m24_110 : Mm :=
  ⟨174, [pt 73 0, .func (.func 176) #[] #[]], 10537, [(1, .map [⟨.string ⟨#[111, 114, 105, 103, 105, 110, 97, 108]⟩, pt 32 0, 0⟩, ⟨.string ⟨#[115, 116, 111, 114, 101]⟩, pt 423 0, 1⟩, ⟨.string ⟨#[116, 97, 105, 108]⟩, pt 5545 0, 2⟩] 3),
  (2, .cells [i6 1048576, i6 15, .int .i64 (.negSucc 14), .bool false, .bool false, .map (some 1), .slice none 0 0] 61 true),
  (32, .cells [.slice (some ⟨34, 0, none⟩) 5 5, .slice (some ⟨35, 0, none⟩) 5 5, .bool true] 130 true),
  (34, .cells (u8s [97, 98, 99, 10, 100]) 5 false),
  (35, .cells (u8s [97, 98, 99, 10, 100]) 5 false),
  (48, .map [⟨i6 1, pt 225 0, 0⟩, ⟨i6 3, pt 5424 0, 2⟩, ⟨i6 4, pt 6469 0, 3⟩] 4),
  (49, .cells [i6 5, i6 0, i6 0, .bool false, pt 225 0, pt 6469 0, .map (some 48)] 357 true),
  (66, .map [⟨i6 1, .slice (some ⟨251, 0, none⟩) 256 256, 0⟩, ⟨i6 3, .slice (some ⟨5450, 0, none⟩) 256 256, 2⟩, ⟨i6 4, .slice (some ⟨6495, 0, none⟩) 256 256, 3⟩] 4),
  (67, .cells [pt 49 0, pt 2 0, .string ⟨#[115, 116, 111, 114, 101]⟩, i6 5, .map (some 66), i6 0] 249 true),
  (68, .map [⟨i6 4, .bool true, 9⟩, ⟨i6 1, .bool true, 10⟩, ⟨i6 3, .bool true, 11⟩] 12),
  (69, .map [] 0),
  (70, .cells [i6 1, .map (some 68), .map (some 69), .slice none 0 0] 214 true),
  (71, .cells [pt 67 0, pt 70 0] 257 true),
  (73, .cells [pt 67 0, pt 70 0, pt 71 0, pt 2 0, pt 83 0, pt 3037 0, .slice (some ⟨9473, 0, none⟩) 2 2, i6 0, i6 3, i6 4, i6 0, i6 2, i6 5, i6 0, i6 0, i6 0, i6 0, i6 0, .slice (some ⟨9126, 0, none⟩) 2 2] 85 true),
  (83, .cells [pt 2 0, i6 2] 216 true),
  (225, .cells [i6 1, i6 0, .bool false, pt 5424 0, pt 49 1] 351 true),
  (423, .cells [.slice (some ⟨7726, 0, none⟩) 1280 1280, .slice (some ⟨9460, 0, none⟩) 1280 1280, .bool true] 130 true),
  (3016, .map [] 0),
  (3017, .cells [pt 2 0, .string ⟨#[111, 114, 105, 103, 105, 110, 97, 108]⟩, i6 5, i6 0, .map (some 3016)] 372 true),
  (3037, .cells [pt 71 0, pt 3017 0, pt 83 0] 233 true),
  (5424, .cells [i6 3, i6 0, .bool false, pt 6469 0, pt 225 0] 351 true),
  (5545, .cells [.slice (some ⟨5549, 0, none⟩) 2 2, .slice (some ⟨7863, 0, none⟩) 2 2, .bool true] 130 true),
  (5549, .cells (u8s [120, 121]) 5 false),
  (6469, .cells [i6 4, i6 0, .bool false, pt 49 1, pt 5424 0] 351 true),
  (7726, .cells (u8s [111, 99, 116, 97, 118, 111, 48, 49, 2] ++ u8z 5 ++ u8s [4, 0, 0, 0, 1, 2, 0, 0, 0, 5] ++ u8z 36 ++ u8s [152, 29, 250, 49, 111, 99, 116, 97, 118, 111, 48, 49, 3] ++ u8z 5 ++ u8s [4] ++ u8z 4 ++ u8s [2, 0, 0, 0, 5] ++ u8z 36 ++ u8s [123, 101, 15, 249] ++ u8z 128 ++ u8s [1, 0, 14, 0, 1, 0, 0, 0, 7, 23, 113, 182, 1] ++ u8z 5 ++ u8s [5, 0, 0, 0, 255, 255, 255, 255] ++ u8z 230 ++ u8s [3, 0, 9, 0, 2, 0, 0, 0, 5, 212, 242, 114, 1, 1, 0, 0, 0, 5] ++ u8z 238 ++ u8s [1, 0, 40, 0, 3, 0, 0, 0, 189, 203, 162, 90, 3] ++ u8z 5 ++ u8s [1, 0, 0, 0, 255, 255, 255, 255, 1] ++ u8z 4 ++ u8s [2] ++ u8z 8 ++ u8s [1, 0, 0, 0, 4, 0, 0, 0, 255, 255, 255, 255] ++ u8z 204 ++ u8s [3, 0, 17, 0, 4, 0, 0, 0, 178, 66, 147, 60, 2, 1, 0, 0, 0, 5, 0, 0, 0, 3, 0, 0, 0, 7] ++ u8z 230) 5 false),
  (7863, .cells (u8s [120, 121]) 5 false),
  (9126, .cells [i6 1, i6 3] 3 false),
  (9473, .cells [i6 1, i6 5, i6 3, i6 7] 119 false)], i6 0, 10685, [(2, some (.cells [i6 1048576, i6 17, .int .i64 (.negSucc 16), .bool false, .bool false, .map (some 1), .slice none 0 0] 61 true)),
  (68, some (.map [⟨i6 4, .bool true, 12⟩, ⟨i6 1, .bool true, 13⟩, ⟨i6 3, .bool true, 14⟩] 15)),
  (73, some (.cells [pt 67 0, pt 70 0, pt 71 0, pt 2 0, pt 83 0, pt 3037 0, .slice (some ⟨10667, 0, none⟩) 2 2, i6 1, i6 4, i6 4, i6 1, i6 2, i6 5, i6 0, i6 0, i6 0, i6 0, i6 0, .slice (some ⟨9126, 0, none⟩) 2 2] 85 true)),
  (423, some (.cells [.slice (some ⟨7726, 0, none⟩) 1280 1280, .slice (some ⟨10654, 0, none⟩) 1280 1280, .bool true] 130 true)),
  (7726, some (.cells (u8s [111, 99, 116, 97, 118, 111, 48, 49, 4] ++ u8z 5 ++ u8s [4, 0, 0, 0, 1, 2, 0, 0, 0, 5] ++ u8z 36 ++ u8s [247, 19, 33, 158, 111, 99, 116, 97, 118, 111, 48, 49, 3] ++ u8z 5 ++ u8s [4] ++ u8z 4 ++ u8s [2, 0, 0, 0, 5] ++ u8z 36 ++ u8s [123, 101, 15, 249] ++ u8z 128 ++ u8s [1, 0, 14, 0, 1, 0, 0, 0, 7, 23, 113, 182, 1] ++ u8z 5 ++ u8s [5, 0, 0, 0, 255, 255, 255, 255] ++ u8z 230 ++ u8s [3, 0, 9, 0, 2, 0, 0, 0, 5, 212, 242, 114, 1, 1, 0, 0, 0, 5] ++ u8z 238 ++ u8s [1, 0, 40, 0, 3, 0, 0, 0, 189, 203, 162, 90, 3] ++ u8z 5 ++ u8s [1, 0, 0, 0, 255, 255, 255, 255, 1] ++ u8z 4 ++ u8s [2] ++ u8z 8 ++ u8s [1, 0, 0, 0, 4, 0, 0, 0, 255, 255, 255, 255] ++ u8z 204 ++ u8s [3, 0, 17, 0, 4, 0, 0, 0, 178, 66, 147, 60, 2, 1, 0, 0, 0, 5, 0, 0, 0, 3, 0, 0, 0, 7] ++ u8z 230) 5 false)),
  (10654, some (.cells (u8s [111, 99, 116, 97, 118, 111, 48, 49, 4] ++ u8z 5 ++ u8s [4, 0, 0, 0, 1, 2, 0, 0, 0, 5] ++ u8z 36 ++ u8s [247, 19, 33, 158, 111, 99, 116, 97, 118, 111, 48, 49, 3] ++ u8z 5 ++ u8s [4] ++ u8z 4 ++ u8s [2, 0, 0, 0, 5] ++ u8z 36 ++ u8s [123, 101, 15, 249] ++ u8z 128 ++ u8s [1, 0, 14, 0, 1, 0, 0, 0, 7, 23, 113, 182, 1] ++ u8z 5 ++ u8s [5, 0, 0, 0, 255, 255, 255, 255] ++ u8z 230 ++ u8s [3, 0, 9, 0, 2, 0, 0, 0, 5, 212, 242, 114, 1, 1, 0, 0, 0, 5] ++ u8z 238 ++ u8s [1, 0, 40, 0, 3, 0, 0, 0, 189, 203, 162, 90, 3] ++ u8z 5 ++ u8s [1, 0, 0, 0, 255, 255, 255, 255, 1] ++ u8z 4 ++ u8s [2] ++ u8z 8 ++ u8s [1, 0, 0, 0, 4, 0, 0, 0, 255, 255, 255, 255] ++ u8z 204 ++ u8s [3, 0, 17, 0, 4, 0, 0, 0, 178, 66, 147, 60, 2, 1, 0, 0, 0, 5, 0, 0, 0, 3, 0, 0, 0, 7] ++ u8z 230) 5 false)),
  (10667, some (.cells [i6 1, i6 5, i6 3, i6 7] 119 false))]⟩
theorem m24_110_ok : m24_110.ok (call evT evF k24_110 100000 m24_110.f m24_110.args m24_110.preH) = true := by kernel_rfl
theorem q24_110 : HkOk Tryz.prog (hkMemo m24_110) := hkMemo_ok evT_ok evF_ok k24_110_ok rfl m24_110_ok
noncomputable def k24_115 : Hk := orHk (hkMemo m24_113) (orHk (hkMemo m24_114) (hkLib))
theorem k24_115_ok : HkOk Tryz.prog k24_115 := orHk_ok q24_113 (orHk_ok q24_114 (hkLib_ok))
noncomputable def m24_115 : Mm :=
  ⟨229, [pt 71 0, i6 1], 10786, [(1, .map [⟨.string ⟨#[111, 114, 105, 103, 105, 110, 97, 108]⟩, pt 32 0, 0⟩, ⟨.string ⟨#[115, 116, 111, 114, 101]⟩, pt 423 0, 1⟩, ⟨.string ⟨#[116, 97, 105, 108]⟩, pt 5545 0, 2⟩] 3),
  (2, .cells [i6 1048576, i6 17, .int .i64 (.negSucc 16), .bool false, .bool false, .map (some 1), .slice none 0 0] 61 true),
  (32, .cells [.slice (some ⟨34, 0, none⟩) 5 5, .slice (some ⟨35, 0, none⟩) 5 5, .bool true] 130 true),
  (34, .cells (u8s [97, 98, 99, 10, 100]) 5 false),
  (35, .cells (u8s [97, 98, 99, 10, 100]) 5 false),
  (48, .map [⟨i6 1, pt 225 0, 0⟩, ⟨i6 3, pt 5424 0, 2⟩, ⟨i6 4, pt 6469 0, 3⟩] 4),
  (49, .cells [i6 5, i6 0, i6 0, .bool false, pt 225 0, pt 6469 0, .map (some 48)] 357 true),
  (66, .map [⟨i6 1, .slice (some ⟨251, 0, none⟩) 256 256, 0⟩, ⟨i6 3, .slice (some ⟨5450, 0, none⟩) 256 256, 2⟩, ⟨i6 4, .slice (some ⟨6495, 0, none⟩) 256 256, 3⟩] 4),
  (67, .cells [pt 49 0, pt 2 0, .string ⟨#[115, 116, 111, 114, 101]⟩, i6 5, .map (some 66), i6 0] 249 true),
  (68, .map [⟨i6 4, .bool true, 12⟩, ⟨i6 1, .bool true, 13⟩, ⟨i6 3, .bool true, 14⟩] 15),
  (69, .map [] 0),
  (70, .cells [i6 1, .map (some 68), .map (some 69), .slice none 0 0] 214 true),
  (71, .cells [pt 67 0, pt 70 0] 257 true),
  (225, .cells [i6 1, i6 0, .bool false, pt 5424 0, pt 49 1] 351 true),
  (251, .cells (u8s [1, 0, 14, 0, 1, 0, 0, 0, 7, 23, 113, 182, 1] ++ u8z 5 ++ u8s [5, 0, 0, 0, 255, 255, 255, 255] ++ u8z 230) 5 false),
  (423, .cells [.slice (some ⟨7726, 0, none⟩) 1280 1280, .slice (some ⟨10654, 0, none⟩) 1280 1280, .bool true] 130 true),
  (5424, .cells [i6 3, i6 0, .bool false, pt 6469 0, pt 225 0] 351 true),
  (5545, .cells [.slice (some ⟨5549, 0, none⟩) 2 2, .slice (some ⟨7863, 0, none⟩) 2 2, .bool true] 130 true),
  (5549, .cells (u8s [120, 121]) 5 false),
  (6469, .cells [i6 4, i6 0, .bool false, pt 49 1, pt 5424 0] 351 true),
  (7863, .cells (u8s [120, 121]) 5 false)], .agg #[.bool true, .slice (some ⟨11232, 0, none⟩) 1 1, .slice none 0 0], 11247, [(11232, some (.cells [i6 0, i6 0, i6 5, .int .i64 (.negSucc 0)] 147 false))]⟩
theorem m24_115_ok : m24_115.ok (call evT evF k24_115 100000 m24_115.f m24_115.args m24_115.preH) = true := by kernel_rfl
theorem q24_115 : HkOk Tryz.prog (hkMemo m24_115) := hkMemo_ok evT_ok evF_ok k24_115_ok rfl m24_115_ok
noncomputable def k24_119 : Hk := orHk (hkMemo m24_117) (orHk (hkMemo m24_118) (hkLib))
theorem k24_119_ok : HkOk Tryz.prog k24_119 := orHk_ok q24_117 (orHk_ok q24_118 (hkLib_ok))
noncomputable def m24_119 : Mm :=
  ⟨229, [pt 71 0, i6 3], 11271, [(1, .map [⟨.string ⟨#[111, 114, 105, 103, 105, 110, 97, 108]⟩, pt 32 0, 0⟩, ⟨.string ⟨#[115, 116, 111, 114, 101]⟩, pt 423 0, 1⟩, ⟨.string ⟨#[116, 97, 105, 108]⟩, pt 5545 0, 2⟩] 3),
  (2, .cells [i6 1048576, i6 17, .int .i64 (.negSucc 16), .bool false, .bool false, .map (some 1), .slice none 0 0] 61 true),
  (32, .cells [.slice (some ⟨34, 0, none⟩) 5 5, .slice (some ⟨35, 0, none⟩) 5 5, .bool true] 130 true),
  (34, .cells (u8s [97, 98, 99, 10, 100]) 5 false),
  (35, .cells (u8s [97, 98, 99, 10, 100]) 5 false),
  (48, .map [⟨i6 1, pt 225 0, 0⟩, ⟨i6 3, pt 5424 0, 2⟩, ⟨i6 4, pt 6469 0, 3⟩] 4),
  (49, .cells [i6 5, i6 0, i6 0, .bool false, pt 225 0, pt 6469 0, .map (some 48)] 357 true),
  (66, .map [⟨i6 1, .slice (some ⟨251, 0, none⟩) 256 256, 0⟩, ⟨i6 3, .slice (some ⟨5450, 0, none⟩) 256 256, 2⟩, ⟨i6 4, .slice (some ⟨6495, 0, none⟩) 256 256, 3⟩] 4),
  (67, .cells [pt 49 0, pt 2 0, .string ⟨#[115, 116, 111, 114, 101]⟩, i6 5, .map (some 66), i6 0] 249 true),
  (68, .map [⟨i6 4, .bool true, 12⟩, ⟨i6 1, .bool true, 13⟩, ⟨i6 3, .bool true, 14⟩] 15),
  (69, .map [] 0),
  (70, .cells [i6 1, .map (some 68), .map (some 69), .slice none 0 0] 214 true),
  (71, .cells [pt 67 0, pt 70 0] 257 true),
  (225, .cells [i6 1, i6 0, .bool false, pt 5424 0, pt 49 1] 351 true),
  (423, .cells [.slice (some ⟨7726, 0, none⟩) 1280 1280, .slice (some ⟨10654, 0, none⟩) 1280 1280, .bool true] 130 true),
  (5424, .cells [i6 3, i6 0, .bool false, pt 6469 0, pt 225 0] 351 true),
  (5450, .cells (u8s [1, 0, 40, 0, 3, 0, 0, 0, 189, 203, 162, 90, 3] ++ u8z 5 ++ u8s [1, 0, 0, 0, 255, 255, 255, 255, 1] ++ u8z 4 ++ u8s [2] ++ u8z 8 ++ u8s [1, 0, 0, 0, 4, 0, 0, 0, 255, 255, 255, 255] ++ u8z 204) 5 false),
  (5545, .cells [.slice (some ⟨5549, 0, none⟩) 2 2, .slice (some ⟨7863, 0, none⟩) 2 2, .bool true] 130 true),
  (5549, .cells (u8s [120, 121]) 5 false),
  (6469, .cells [i6 4, i6 0, .bool false, pt 49 1, pt 5424 0] 351 true),
  (7863, .cells (u8s [120, 121]) 5 false)], .agg #[.bool true, .slice (some ⟨11977, 0, none⟩) 3 3, .slice none 0 0], 11998, [(49, some (.cells [i6 5, i6 0, i6 0, .bool false, pt 5424 0, pt 6469 0, .map (some 48)] 357 true)),
  (225, some (.cells [i6 1, i6 0, .bool false, pt 6469 0, pt 5424 0] 351 true)),
  (5424, some (.cells [i6 3, i6 0, .bool false, pt 225 0, pt 49 1] 351 true)),
  (6469, some (.cells [i6 4, i6 0, .bool false, pt 49 1, pt 225 0] 351 true)),
  (11977, some (.cells [i6 0, i6 0, i6 1, .int .i64 (.negSucc 0), i6 1, i6 0, i6 2, i6 0, i6 0, i6 1, i6 4, .int .i64 (.negSucc 0)] 147 false))]⟩
theorem m24_119_ok : m24_119.ok (call evT evF k24_119 100000 m24_119.f m24_119.args m24_119.preH) = true := by kernel_rfl
theorem q24_119 : HkOk Tryz.prog (hkMemo m24_119) := hkMemo_ok evT_ok evF_ok k24_119_ok rfl m24_119_ok
noncomputable def k24_123 : Hk := orHk (hkMemo m24_121) (orHk (hkMemo m24_122) (hkLib))
theorem k24_123_ok : HkOk Tryz.prog k24_123 := orHk_ok q24_121 (orHk_ok q24_122 (hkLib_ok))
noncomputable def m24_123 : Mm :=
  ⟨229, [pt 71 0, i6 3], 12029, [(1, .map [⟨.string ⟨#[111, 114, 105, 103, 105, 110, 97, 108]⟩, pt 32 0, 0⟩, ⟨.string ⟨#[115, 116, 111, 114, 101]⟩, pt 423 0, 1⟩, ⟨.string ⟨#[116, 97, 105, 108]⟩, pt 5545 0, 2⟩] 3),
  (2, .cells [i6 1048576, i6 17, .int .i64 (.negSucc 16), .bool false, .bool false, .map (some 1), .slice none 0 0] 61 true),
  (32, .cells [.slice (some ⟨34, 0, none⟩) 5 5, .slice (some ⟨35, 0, none⟩) 5 5, .bool true] 130 true),
  (34, .cells (u8s [97, 98, 99, 10, 100]) 5 false),
  (35, .cells (u8s [97, 98, 99, 10, 100]) 5 false),
  (48, .map [⟨i6 1, pt 225 0, 0⟩, ⟨i6 3, pt 5424 0, 2⟩, ⟨i6 4, pt 6469 0, 3⟩] 4),
  (49, .cells [i6 5, i6 0, i6 0, .bool false, pt 5424 0, pt 6469 0, .map (some 48)] 357 true),
  (66, .map [⟨i6 1, .slice (some ⟨251, 0, none⟩) 256 256, 0⟩, ⟨i6 3, .slice (some ⟨5450, 0, none⟩) 256 256, 2⟩, ⟨i6 4, .slice (some ⟨6495, 0, none⟩) 256 256, 3⟩] 4),
  (67, .cells [pt 49 0, pt 2 0, .string ⟨#[115, 116, 111, 114, 101]⟩, i6 5, .map (some 66), i6 0] 249 true),
  (68, .map [⟨i6 4, .bool true, 12⟩, ⟨i6 1, .bool true, 13⟩, ⟨i6 3, .bool true, 14⟩] 15),
  (69, .map [] 0),
  (70, .cells [i6 1, .map (some 68), .map (some 69), .slice none 0 0] 214 true),
  (71, .cells [pt 67 0, pt 70 0] 257 true),
  (225, .cells [i6 1, i6 0, .bool false, pt 6469 0, pt 5424 0] 351 true),
  (423, .cells [.slice (some ⟨7726, 0, none⟩) 1280 1280, .slice (some ⟨10654, 0, none⟩) 1280 1280, .bool true] 130 true),
  (5424, .cells [i6 3, i6 0, .bool false, pt 225 0, pt 49 1] 351 true),
  (5450, .cells (u8s [1, 0, 40, 0, 3, 0, 0, 0, 189, 203, 162, 90, 3] ++ u8z 5 ++ u8s [1, 0, 0, 0, 255, 255, 255, 255, 1] ++ u8z 4 ++ u8s [2] ++ u8z 8 ++ u8s [1, 0, 0, 0, 4, 0, 0, 0, 255, 255, 255, 255] ++ u8z 204) 5 false),
  (5545, .cells [.slice (some ⟨5549, 0, none⟩) 2 2, .slice (some ⟨7863, 0, none⟩) 2 2, .bool true] 130 true),
  (5549, .cells (u8s [120, 121]) 5 false),
  (6469, .cells [i6 4, i6 0, .bool false, pt 49 1, pt 225 0] 351 true),
  (7863, .cells (u8s [120, 121]) 5 false)], .agg #[.bool true, .slice (some ⟨12735, 0, none⟩) 3 3, .slice none 0 0], 12756, [(12735, some (.cells [i6 0, i6 0, i6 1, .int .i64 (.negSucc 0), i6 1, i6 0, i6 2, i6 0, i6 0, i6 1, i6 4, .int .i64 (.negSucc 0)] 147 false))]⟩
theorem m24_123_ok : m24_123.ok (call evT evF k24_123 100000 m24_123.f m24_123.args m24_123.preH) = true := by kernel_rfl
theorem q24_123 : HkOk Tryz.prog (hkMemo m24_123) := hkMemo_ok evT_ok evF_ok k24_123_ok rfl m24_123_ok
noncomputable def k24_142 : Hk := orHk (hkMemo m24_141) (hkLib)
theorem k24_142_ok : HkOk Tryz.prog k24_142 := orHk_ok q24_141 (hkLib_ok)
noncomputable def m24_142 : Mm :=
  ⟨123, [pt 71 0, .slice (some ⟨13842, 0, none⟩) 1 1], 13843, [(1, .map [⟨.string ⟨#[111, 114, 105, 103, 105, 110, 97, 108]⟩, pt 32 0, 0⟩, ⟨.string ⟨#[115, 116, 111, 114, 101]⟩, pt 423 0, 1⟩, ⟨.string ⟨#[116, 97, 105, 108]⟩, pt 5545 0, 2⟩] 3),
  (2, .cells [i6 1048576, i6 17, .int .i64 (.negSucc 16), .bool false, .bool false, .map (some 1), .slice none 0 0] 61 true),
  (32, .cells [.slice (some ⟨34, 0, none⟩) 5 5, .slice (some ⟨35, 0, none⟩) 5 5, .bool true] 130 true),
  (34, .cells (u8s [97, 98, 99, 10, 100]) 5 false),
  (35, .cells (u8s [97, 98, 99, 10, 100]) 5 false),
  (48, .map [⟨i6 1, pt 225 0, 0⟩, ⟨i6 3, pt 5424 0, 2⟩, ⟨i6 4, pt 6469 0, 3⟩, ⟨i6 2, pt 13396 0, 4⟩] 5),
  (49, .cells [i6 5, i6 0, i6 0, .bool false, pt 13396 0, pt 6469 0, .map (some 48)] 357 true),
  (66, .map [⟨i6 1, .slice (some ⟨251, 0, none⟩) 256 256, 0⟩, ⟨i6 3, .slice (some ⟨5450, 0, none⟩) 256 256, 2⟩, ⟨i6 4, .slice (some ⟨6495, 0, none⟩) 256 256, 3⟩, ⟨i6 2, .slice (some ⟨13422, 0, none⟩) 256 256, 4⟩] 5),
  (67, .cells [pt 49 0, pt 2 0, .string ⟨#[115, 116, 111, 114, 101]⟩, i6 5, .map (some 66), i6 0] 249 true),
  (68, .map [⟨i6 4, .bool true, 12⟩, ⟨i6 1, .bool true, 13⟩, ⟨i6 3, .bool true, 14⟩, ⟨i6 2, .bool true, 15⟩] 16),
  (69, .map [] 0),
  (70, .cells [i6 1, .map (some 68), .map (some 69), .slice (some ⟨13364, 0, none⟩) 1 1] 214 true),
  (71, .cells [pt 67 0, pt 70 0] 257 true),
  (225, .cells [i6 1, i6 0, .bool false, pt 6469 0, pt 5424 0] 351 true),
  (423, .cells [.slice (some ⟨7726, 0, none⟩) 1280 1280, .slice (some ⟨10654, 0, none⟩) 1280 1280, .bool true] 130 true),
  (5424, .cells [i6 3, i6 0, .bool false, pt 225 0, pt 13396 0] 351 true),
  (5545, .cells [.slice (some ⟨5549, 0, none⟩) 2 2, .slice (some ⟨7863, 0, none⟩) 2 2, .bool true] 130 true),
  (5549, .cells (u8s [120, 121]) 5 false),
  (6469, .cells [i6 4, i6 0, .bool false, pt 49 1, pt 225 0] 351 true),
  (7863, .cells (u8s [120, 121]) 5 false),
  (13364, .cells [i6 2] 3 false),
  (13396, .cells [i6 2, i6 0, .bool true, pt 5424 0, pt 49 1] 351 true),
  (13842, .cells [i6 0, i6 0, i6 7, .int .i64 (.negSucc 0)] 147 false)], .tuple #[i6 5, i6 0], 14045, [(48, some (.map [⟨i6 1, pt 225 0, 0⟩, ⟨i6 3, pt 5424 0, 2⟩, ⟨i6 4, pt 6469 0, 3⟩, ⟨i6 2, pt 13396 0, 4⟩, ⟨i6 5, pt 13982 0, 5⟩] 6)),
  (49, some (.cells [i6 5, i6 0, i6 0, .bool false, pt 13982 0, pt 6469 0, .map (some 48)] 357 true)),
  (66, some (.map [⟨i6 1, .slice (some ⟨251, 0, none⟩) 256 256, 0⟩, ⟨i6 3, .slice (some ⟨5450, 0, none⟩) 256 256, 2⟩, ⟨i6 4, .slice (some ⟨6495, 0, none⟩) 256 256, 3⟩, ⟨i6 2, .slice (some ⟨13422, 0, none⟩) 256 256, 4⟩, ⟨i6 5, .slice (some ⟨14008, 0, none⟩) 256 256, 5⟩] 6)),
  (68, some (.map [⟨i6 4, .bool true, 12⟩, ⟨i6 1, .bool true, 13⟩, ⟨i6 3, .bool true, 14⟩, ⟨i6 2, .bool true, 15⟩, ⟨i6 5, .bool true, 16⟩] 17)),
  (70, some (.cells [i6 1, .map (some 68), .map (some 69), .slice (some ⟨13950, 0, none⟩) 2 2] 214 true)),
  (13364, none),
  (13396, some (.cells [i6 2, i6 0, .bool true, pt 5424 0, pt 13982 0] 351 true)),
  (13950, some (.cells [i6 2, i6 5] 3 false)),
  (13982, some (.cells [i6 5, i6 0, .bool true, pt 13396 0, pt 49 1] 351 true)),
  (14008, some (.cells (u8s [1, 0, 14, 0, 5, 0, 0, 0, 2, 120, 233, 144, 1] ++ u8z 5 ++ u8s [7, 0, 0, 0, 255, 255, 255, 255] ++ u8z 230) 5 false))]⟩
theorem m24_142_ok : m24_142.ok (call evT evF k24_142 100000 m24_142.f m24_142.args m24_142.preH) = true := by kernel_rfl
theorem q24_142 : HkOk Tryz.prog (hkMemo m24_142) := hkMemo_ok evT_ok evF_ok k24_142_ok rfl m24_142_ok
noncomputable def k24_150 : Hk := orHk (hkMemo m24_146) (orHk (hkMemo m24_147) (orHk (hkMemo m24_149) (hkLib)))
theorem k24_150_ok : HkOk Tryz.prog k24_150 := orHk_ok q24_146 (orHk_ok q24_147 (orHk_ok q24_149 (hkLib_ok)))
noncomputable def m24_150 : Mm :=
  ⟨138, [.slice (some ⟨12767, 0, none⟩) 3 3, i6 5, i6 64], 14047, [(12767, .cells [i6 0, i6 0, i6 1, i6 1, i6 0, i6 2, i6 0, i6 1, i6 4] 145 false)], .tuple #[.agg #[i6 7, .slice none 0 0, .slice (some ⟨14502, 0, none⟩) 1 1], i6 0], 14503, [(14319, some (.cells [i6 0, .slice (some ⟨14491, 0, none⟩) 3 3] 175 false)),
  (14491, some (.cells [i6 0, i6 0, i6 1, i6 1, i6 0, i6 2, i6 0, i6 1, i6 4] 145 false)),
  (14502, some (.cells [.complex .f32 14320 1] 173 false))]⟩
theorem m24_150_ok : m24_150.ok (call evT evF k24_150 100000 m24_150.f m24_150.args m24_150.preH) = true := by kernel_rfl
theorem q24_150 : HkOk Tryz.prog (hkMemo m24_150) := hkMemo_ok evT_ok evF_ok k24_150_ok rfl m24_150_ok
noncomputable def k24_158 : Hk := orHk (hkMemo m24_157) (hkLib)
theorem k24_158_ok : HkOk Tryz.prog k24_158 := orHk_ok q24_157 (hkLib_ok)
noncomputable def m24_158 : Mm :=
  ⟨249, [pt 67 0, i6 5], 14790, [(1, .map [⟨.string ⟨#[111, 114, 105, 103, 105, 110, 97, 108]⟩, pt 32 0, 0⟩, ⟨.string ⟨#[115, 116, 111, 114, 101]⟩, pt 423 0, 1⟩, ⟨.string ⟨#[116, 97, 105, 108]⟩, pt 5545 0, 2⟩] 3),
  (2, .cells [i6 1048576, i6 18, .int .i64 (.negSucc 17), .bool false, .bool false, .map (some 1), .slice (some ⟨14781, 0, none⟩) 4 4] 61 true),
  (32, .cells [.slice (some ⟨34, 0, none⟩) 5 5, .slice (some ⟨35, 0, none⟩) 5 5, .bool true] 130 true),
  (34, .cells (u8s [97, 98, 99, 10, 100]) 5 false),
  (35, .cells (u8s [97, 98, 99, 10, 100]) 5 false),
  (48, .map [⟨i6 1, pt 225 0, 0⟩, ⟨i6 3, pt 5424 0, 2⟩, ⟨i6 2, pt 13396 0, 4⟩, ⟨i6 5, pt 13982 0, 5⟩, ⟨i6 6, pt 14604 0, 6⟩] 7),
  (49, .cells [i6 5, i6 0, i6 0, .bool false, pt 14604 0, pt 225 0, .map (some 48)] 357 true),
  (66, .map [⟨i6 1, .slice (some ⟨251, 0, none⟩) 256 256, 0⟩, ⟨i6 3, .slice (some ⟨5450, 0, none⟩) 256 256, 2⟩, ⟨i6 2, .slice (some ⟨13422, 0, none⟩) 256 256, 4⟩, ⟨i6 5, .slice (some ⟨14008, 0, none⟩) 256 256, 5⟩, ⟨i6 6, .slice (some ⟨14630, 0, none⟩) 256 256, 6⟩] 7),
  (67, .cells [pt 49 0, pt 2 0, .string ⟨#[115, 116, 111, 114, 101]⟩, i6 5, .map (some 66), i6 0] 249 true),
  (225, .cells [i6 1, i6 0, .bool false, pt 49 1, pt 5424 0] 351 true),
  (423, .cells [.slice (some ⟨7726, 0, none⟩) 1280 1280, .slice (some ⟨10654, 0, none⟩) 1280 1280, .bool true] 130 true),
  (5424, .cells [i6 3, i6 0, .bool false, pt 225 0, pt 13396 0] 351 true),
  (5545, .cells [.slice (some ⟨5549, 0, none⟩) 2 2, .slice (some ⟨7863, 0, none⟩) 2 2, .bool true] 130 true),
  (5549, .cells (u8s [120, 121]) 5 false),
  (7726, .cells (u8s [111, 99, 116, 97, 118, 111, 48, 49, 4] ++ u8z 5 ++ u8s [4, 0, 0, 0, 1, 2, 0, 0, 0, 5] ++ u8z 36 ++ u8s [247, 19, 33, 158, 111, 99, 116, 97, 118, 111, 48, 49, 3] ++ u8z 5 ++ u8s [4] ++ u8z 4 ++ u8s [2, 0, 0, 0, 5] ++ u8z 36 ++ u8s [123, 101, 15, 249] ++ u8z 128 ++ u8s [1, 0, 14, 0, 1, 0, 0, 0, 7, 23, 113, 182, 1] ++ u8z 5 ++ u8s [5, 0, 0, 0, 255, 255, 255, 255] ++ u8z 230 ++ u8s [1, 0, 27, 0, 2, 0, 0, 0, 69, 219, 48, 151, 2] ++ u8z 5 ++ u8s [1, 0, 0, 0, 255, 255, 255, 255, 0, 3, 0, 0, 0, 4, 0, 0, 0, 255, 255, 255, 255] ++ u8z 217 ++ u8s [1, 0, 40, 0, 3, 0, 0, 0, 189, 203, 162, 90, 3] ++ u8z 5 ++ u8s [1, 0, 0, 0, 255, 255, 255, 255, 1] ++ u8z 4 ++ u8s [2] ++ u8z 8 ++ u8s [1, 0, 0, 0, 4, 0, 0, 0, 255, 255, 255, 255] ++ u8z 204 ++ u8s [3, 0, 17, 0, 4, 0, 0, 0, 178, 66, 147, 60, 2, 1, 0, 0, 0, 5, 0, 0, 0, 3, 0, 0, 0, 7] ++ u8z 230) 5 false),
  (7863, .cells (u8s [120, 121]) 5 false),
  (13396, .cells [i6 2, i6 0, .bool false, pt 5424 0, pt 13982 0] 351 true),
  (13982, .cells [i6 5, i6 0, .bool true, pt 13396 0, pt 14604 0] 351 true),
  (14008, .cells (u8s [1, 0, 14, 0, 5, 0, 0, 0, 2, 120, 233, 144, 1] ++ u8z 5 ++ u8s [7, 0, 0, 0, 255, 255, 255, 255] ++ u8z 230) 5 false),
  (14604, .cells [i6 6, i6 0, .bool true, pt 13982 0, pt 49 1] 351 true),
  (14781, .cells [.string ⟨#[115, 116, 111, 114, 101]⟩, i6 512, .slice (some ⟨14696, 0, none⟩) 64 64, .string ⟨#[115, 116, 111, 114, 101]⟩, i6 576, .slice (some ⟨14724, 0, none⟩) 64 64, .string ⟨#[115, 116, 111, 114, 101]⟩, i6 640, .slice (some ⟨14752, 0, none⟩) 64 64, .string ⟨#[115, 116, 111, 114, 101]⟩, i6 704, .slice (some ⟨14780, 0, none⟩) 64 64] 134 false)], i6 0, 15461, [(2, some (.cells [i6 1048576, i6 19, .int .i64 (.negSucc 18), .bool false, .bool false, .map (some 1), .slice (some ⟨15452, 0, none⟩) 8 8] 61 true)),
  (423, some (.cells [.slice (some ⟨15348, 0, none⟩) 1536 1536, .slice (some ⟨10654, 0, none⟩) 1280 1280, .bool true] 130 true)),
  (7726, none),
  (13982, some (.cells [i6 5, i6 0, .bool false, pt 13396 0, pt 14604 0] 351 true)),
  (14781, none),
  (15348, some (.cells (u8s [111, 99, 116, 97, 118, 111, 48, 49, 4] ++ u8z 5 ++ u8s [4, 0, 0, 0, 1, 2, 0, 0, 0, 5] ++ u8z 36 ++ u8s [247, 19, 33, 158, 111, 99, 116, 97, 118, 111, 48, 49, 3] ++ u8z 5 ++ u8s [4] ++ u8z 4 ++ u8s [2, 0, 0, 0, 5] ++ u8z 36 ++ u8s [123, 101, 15, 249] ++ u8z 128 ++ u8s [1, 0, 14, 0, 1, 0, 0, 0, 7, 23, 113, 182, 1] ++ u8z 5 ++ u8s [5, 0, 0, 0, 255, 255, 255, 255] ++ u8z 230 ++ u8s [1, 0, 27, 0, 2, 0, 0, 0, 69, 219, 48, 151, 2] ++ u8z 5 ++ u8s [1, 0, 0, 0, 255, 255, 255, 255, 0, 3, 0, 0, 0, 4, 0, 0, 0, 255, 255, 255, 255] ++ u8z 217 ++ u8s [1, 0, 40, 0, 3, 0, 0, 0, 189, 203, 162, 90, 3] ++ u8z 5 ++ u8s [1, 0, 0, 0, 255, 255, 255, 255, 1] ++ u8z 4 ++ u8s [2] ++ u8z 8 ++ u8s [1, 0, 0, 0, 4, 0, 0, 0, 255, 255, 255, 255] ++ u8z 204 ++ u8s [3, 0, 17, 0, 4, 0, 0, 0, 178, 66, 147, 60, 2, 1, 0, 0, 0, 5, 0, 0, 0, 3, 0, 0, 0, 7] ++ u8z 230 ++ u8s [1, 0, 14, 0, 5, 0, 0, 0, 2, 120, 233, 144, 1] ++ u8z 5 ++ u8s [7, 0, 0, 0, 255, 255, 255, 255] ++ u8z 230) 5 false)),
  (15367, some (.cells (u8s [1, 0, 14, 0, 5, 0, 0, 0, 2, 120, 233, 144, 1] ++ u8z 5 ++ u8s [7, 0, 0, 0, 255, 255, 255, 255] ++ u8z 38) 5 false)),
  (15395, some (.cells (u8z 64) 5 false)),
  (15423, some (.cells (u8z 64) 5 false)),
  (15451, some (.cells (u8z 64) 5 false)),
  (15452, some (.cells [.string ⟨#[115, 116, 111, 114, 101]⟩, i6 512, .slice (some ⟨14696, 0, none⟩) 64 64, .string ⟨#[115, 116, 111, 114, 101]⟩, i6 576, .slice (some ⟨14724, 0, none⟩) 64 64, .string ⟨#[115, 116, 111, 114, 101]⟩, i6 640, .slice (some ⟨14752, 0, none⟩) 64 64, .string ⟨#[115, 116, 111, 114, 101]⟩, i6 704, .slice (some ⟨14780, 0, none⟩) 64 64, .string ⟨#[115, 116, 111, 114, 101]⟩, i6 1280, .slice (some ⟨15367, 0, none⟩) 64 64, .string ⟨#[115, 116, 111, 114, 101]⟩, i6 1344, .slice (some ⟨15395, 0, none⟩) 64 64, .string ⟨#[115, 116, 111, 114, 101]⟩, i6 1408, .slice (some ⟨15423, 0, none⟩) 64 64, .string ⟨#[115, 116, 111, 114, 101]⟩, i6 1472, .slice (some ⟨15451, 0, none⟩) 64 64] 134 false))]⟩
theorem m24_158_ok : m24_158.ok (call evT evF k24_158 100000 m24_158.f m24_158.args m24_158.preH) = true := by kernel_rfl
theorem q24_158 : HkOk Tryz.prog (hkMemo m24_158) := hkMemo_ok evT_ok evF_ok k24_158_ok rfl m24_158_ok
noncomputable def k24_161 : Hk := orHk (hkMemo m24_160) (hkLib)
theorem k24_161_ok : HkOk Tryz.prog k24_161 := orHk_ok q24_160 (hkLib_ok)
noncomputable def m24_161 : Mm :=
  ⟨249, [pt 67 0, i6 6], 15461, [(1, .map [⟨.string ⟨#[111, 114, 105, 103, 105, 110, 97, 108]⟩, pt 32 0, 0⟩, ⟨.string ⟨#[115, 116, 111, 114, 101]⟩, pt 423 0, 1⟩, ⟨.string ⟨#[116, 97, 105, 108]⟩, pt 5545 0, 2⟩] 3),
  (2, .cells [i6 1048576, i6 19, .int .i64 (.negSucc 18), .bool false, .bool false, .map (some 1), .slice (some ⟨15452, 0, none⟩) 8 8] 61 true),
  (32, .cells [.slice (some ⟨34, 0, none⟩) 5 5, .slice (some ⟨35, 0, none⟩) 5 5, .bool true] 130 true),
  (34, .cells (u8s [97, 98, 99, 10, 100]) 5 false),
  (35, .cells (u8s [97, 98, 99, 10, 100]) 5 false),
  (48, .map [⟨i6 1, pt 225 0, 0⟩, ⟨i6 3, pt 5424 0, 2⟩, ⟨i6 2, pt 13396 0, 4⟩, ⟨i6 5, pt 13982 0, 5⟩, ⟨i6 6, pt 14604 0, 6⟩] 7),
  (49, .cells [i6 5, i6 0, i6 0, .bool false, pt 14604 0, pt 225 0, .map (some 48)] 357 true),
  (66, .map [⟨i6 1, .slice (some ⟨251, 0, none⟩) 256 256, 0⟩, ⟨i6 3, .slice (some ⟨5450, 0, none⟩) 256 256, 2⟩, ⟨i6 2, .slice (some ⟨13422, 0, none⟩) 256 256, 4⟩, ⟨i6 5, .slice (some ⟨14008, 0, none⟩) 256 256, 5⟩, ⟨i6 6, .slice (some ⟨14630, 0, none⟩) 256 256, 6⟩] 7),
  (67, .cells [pt 49 0, pt 2 0, .string ⟨#[115, 116, 111, 114, 101]⟩, i6 5, .map (some 66), i6 0] 249 true),
  (225, .cells [i6 1, i6 0, .bool false, pt 49 1, pt 5424 0] 351 true),
  (423, .cells [.slice (some ⟨15348, 0, none⟩) 1536 1536, .slice (some ⟨10654, 0, none⟩) 1280 1280, .bool true] 130 true),
  (5424, .cells [i6 3, i6 0, .bool false, pt 225 0, pt 13396 0] 351 true),
  (5545, .cells [.slice (some ⟨5549, 0, none⟩) 2 2, .slice (some ⟨7863, 0, none⟩) 2 2, .bool true] 130 true),
  (5549, .cells (u8s [120, 121]) 5 false),
  (7863, .cells (u8s [120, 121]) 5 false),
  (13396, .cells [i6 2, i6 0, .bool false, pt 5424 0, pt 13982 0] 351 true),
  (13982, .cells [i6 5, i6 0, .bool false, pt 13396 0, pt 14604 0] 351 true),
  (14604, .cells [i6 6, i6 0, .bool true, pt 13982 0, pt 49 1] 351 true),
  (14630, .cells (u8s [3, 0, 17, 0, 6, 0, 0, 0, 87, 212, 48, 146, 2, 2, 0, 0, 0, 5, 0, 0, 0, 5, 0, 0, 0, 7] ++ u8z 230) 5 false),
  (15348, .cells (u8s [111, 99, 116, 97, 118, 111, 48, 49, 4] ++ u8z 5 ++ u8s [4, 0, 0, 0, 1, 2, 0, 0, 0, 5] ++ u8z 36 ++ u8s [247, 19, 33, 158, 111, 99, 116, 97, 118, 111, 48, 49, 3] ++ u8z 5 ++ u8s [4] ++ u8z 4 ++ u8s [2, 0, 0, 0, 5] ++ u8z 36 ++ u8s [123, 101, 15, 249] ++ u8z 128 ++ u8s [1, 0, 14, 0, 1, 0, 0, 0, 7, 23, 113, 182, 1] ++ u8z 5 ++ u8s [5, 0, 0, 0, 255, 255, 255, 255] ++ u8z 230 ++ u8s [1, 0, 27, 0, 2, 0, 0, 0, 69, 219, 48, 151, 2] ++ u8z 5 ++ u8s [1, 0, 0, 0, 255, 255, 255, 255, 0, 3, 0, 0, 0, 4, 0, 0, 0, 255, 255, 255, 255] ++ u8z 217 ++ u8s [1, 0, 40, 0, 3, 0, 0, 0, 189, 203, 162, 90, 3] ++ u8z 5 ++ u8s [1, 0, 0, 0, 255, 255, 255, 255, 1] ++ u8z 4 ++ u8s [2] ++ u8z 8 ++ u8s [1, 0, 0, 0, 4, 0, 0, 0, 255, 255, 255, 255] ++ u8z 204 ++ u8s [3, 0, 17, 0, 4, 0, 0, 0, 178, 66, 147, 60, 2, 1, 0, 0, 0, 5, 0, 0, 0, 3, 0, 0, 0, 7] ++ u8z 230 ++ u8s [1, 0, 14, 0, 5, 0, 0, 0, 2, 120, 233, 144, 1] ++ u8z 5 ++ u8s [7, 0, 0, 0, 255, 255, 255, 255] ++ u8z 230) 5 false),
  (15452, .cells [.string ⟨#[115, 116, 111, 114, 101]⟩, i6 512, .slice (some ⟨14696, 0, none⟩) 64 64, .string ⟨#[115, 116, 111, 114, 101]⟩, i6 576, .slice (some ⟨14724, 0, none⟩) 64 64, .string ⟨#[115, 116, 111, 114, 101]⟩, i6 640, .slice (some ⟨14752, 0, none⟩) 64 64, .string ⟨#[115, 116, 111, 114, 101]⟩, i6 704, .slice (some ⟨14780, 0, none⟩) 64 64, .string ⟨#[115, 116, 111, 114, 101]⟩, i6 1280, .slice (some ⟨15367, 0, none⟩) 64 64, .string ⟨#[115, 116, 111, 114, 101]⟩, i6 1344, .slice (some ⟨15395, 0, none⟩) 64 64, .string ⟨#[115, 116, 111, 114, 101]⟩, i6 1408, .slice (some ⟨15423, 0, none⟩) 64 64, .string ⟨#[115, 116, 111, 114, 101]⟩, i6 1472, .slice (some ⟨15451, 0, none⟩) 64 64] 134 false)], i6 0, 16132, [(2, some (.cells [i6 1048576, i6 20, .int .i64 (.negSucc 19), .bool false, .bool false, .map (some 1), .slice (some ⟨16123, 0, none⟩) 12 12] 61 true)),
  (423, some (.cells [.slice (some ⟨16019, 0, none⟩) 1792 1792, .slice (some ⟨10654, 0, none⟩) 1280 1280, .bool true] 130 true)),
  (14604, some (.cells [i6 6, i6 0, .bool false, pt 13982 0, pt 49 1] 351 true)),
  (15348, none),
  (15452, none),
  (16019, some (.cells (u8s [111, 99, 116, 97, 118, 111, 48, 49, 4] ++ u8z 5 ++ u8s [4, 0, 0, 0, 1, 2, 0, 0, 0, 5] ++ u8z 36 ++ u8s [247, 19, 33, 158, 111, 99, 116, 97, 118, 111, 48, 49, 3] ++ u8z 5 ++ u8s [4] ++ u8z 4 ++ u8s [2, 0, 0, 0, 5] ++ u8z 36 ++ u8s [123, 101, 15, 249] ++ u8z 128 ++ u8s [1, 0, 14, 0, 1, 0, 0, 0, 7, 23, 113, 182, 1] ++ u8z 5 ++ u8s [5, 0, 0, 0, 255, 255, 255, 255] ++ u8z 230 ++ u8s [1, 0, 27, 0, 2, 0, 0, 0, 69, 219, 48, 151, 2] ++ u8z 5 ++ u8s [1, 0, 0, 0, 255, 255, 255, 255, 0, 3, 0, 0, 0, 4, 0, 0, 0, 255, 255, 255, 255] ++ u8z 217 ++ u8s [1, 0, 40, 0, 3, 0, 0, 0, 189, 203, 162, 90, 3] ++ u8z 5 ++ u8s [1, 0, 0, 0, 255, 255, 255, 255, 1] ++ u8z 4 ++ u8s [2] ++ u8z 8 ++ u8s [1, 0, 0, 0, 4, 0, 0, 0, 255, 255, 255, 255] ++ u8z 204 ++ u8s [3, 0, 17, 0, 4, 0, 0, 0, 178, 66, 147, 60, 2, 1, 0, 0, 0, 5, 0, 0, 0, 3, 0, 0, 0, 7] ++ u8z 230 ++ u8s [1, 0, 14, 0, 5, 0, 0, 0, 2, 120, 233, 144, 1] ++ u8z 5 ++ u8s [7, 0, 0, 0, 255, 255, 255, 255] ++ u8z 230 ++ u8s [3, 0, 17, 0, 6, 0, 0, 0, 87, 212, 48, 146, 2, 2, 0, 0, 0, 5, 0, 0, 0, 5, 0, 0, 0, 7] ++ u8z 230) 5 false)),
  (16038, some (.cells (u8s [3, 0, 17, 0, 6, 0, 0, 0, 87, 212, 48, 146, 2, 2, 0, 0, 0, 5, 0, 0, 0, 5, 0, 0, 0, 7] ++ u8z 38) 5 false)),
  (16066, some (.cells (u8z 64) 5 false)),
  (16094, some (.cells (u8z 64) 5 false)),
  (16122, some (.cells (u8z 64) 5 false)),
  (16123, some (.cells [.string ⟨#[115, 116, 111, 114, 101]⟩, i6 512, .slice (some ⟨14696, 0, none⟩) 64 64, .string ⟨#[115, 116, 111, 114, 101]⟩, i6 576, .slice (some ⟨14724, 0, none⟩) 64 64, .string ⟨#[115, 116, 111, 114, 101]⟩, i6 640, .slice (some ⟨14752, 0, none⟩) 64 64, .string ⟨#[115, 116, 111, 114, 101]⟩, i6 704, .slice (some ⟨14780, 0, none⟩) 64 64, .string ⟨#[115, 116, 111, 114, 101]⟩, i6 1280, .slice (some ⟨15367, 0, none⟩) 64 64, .string ⟨#[115, 116, 111, 114, 101]⟩, i6 1344, .slice (some ⟨15395, 0, none⟩) 64 64, .string ⟨#[115, 116, 111, 114, 101]⟩, i6 1408, .slice (some ⟨15423, 0, none⟩) 64 64, .string ⟨#[115, 116, 111, 114, 101]⟩, i6 1472, .slice (some ⟨15451, 0, none⟩) 64 64, .string ⟨#[115, 116, 111, 114, 101]⟩, i6 1536, .slice (some ⟨16038, 0, none⟩) 64 64, .string ⟨#[115, 116, 111, 114, 101]⟩, i6 1600, .slice (some ⟨16066, 0, none⟩) 64 64, .string ⟨#[115, 116, 111, 114, 101]⟩, i6 1664, .slice (some ⟨16094, 0, none⟩) 64 64, .string ⟨#[115, 116, 111, 114, 101]⟩, i6 1728, .slice (some ⟨16122, 0, none⟩) 64 64] 134 false))]⟩
theorem m24_161_ok : m24_161.ok (call evT evF k24_161 100000 m24_161.f m24_161.args m24_161.preH) = true := by kernel_rfl
theorem q24_161 : HkOk Tryz.prog (hkMemo m24_161) := hkMemo_ok evT_ok evF_ok k24_161_ok rfl m24_161_ok
noncomputable def k24_168 : Hk := orHk (hkMemo m24_166) (orHk (hkMemo m24_167) (hkLib))
theorem k24_168_ok : HkOk Tryz.prog k24_168 := orHk_ok q24_166 (orHk_ok q24_167 (hkLib_ok))
noncomputable def m24_168 : Mm :=
  ⟨140, [.agg #[i6 5, i6 5, i6 6, i6 1, i6 2, i6 7, i6 7, .slice none 0 0, .slice (some ⟨14502, 0, none⟩) 1 1, .slice none 0 0]], 16251, [(14319, .cells [i6 0, .slice (some ⟨14491, 0, none⟩) 3 3] 175 false),
  (14491, .cells [i6 0, i6 0, i6 1, i6 1, i6 0, i6 2, i6 0, i6 1, i6 4] 145 false),
  (14502, .cells [.complex .f32 14320 1] 173 false)], .tuple #[.slice (some ⟨16594, 0, none⟩) 104 104, i6 0], 16595, [(16594, some (.cells (u8s [5, 0, 0, 0, 111, 99, 116, 97, 118, 111, 48, 49, 5] ++ u8z 5 ++ u8s [6, 0, 0, 0, 1, 2, 0, 0, 0, 7] ++ u8z 36 ++ u8s [163, 240, 239, 210, 7] ++ u8z 7 ++ u8s [1, 0, 0, 0, 1] ++ u8z 4 ++ u8s [3] ++ u8z 5 ++ u8s [1, 1] ++ u8z 4 ++ u8s [2, 0, 1, 0, 0, 0, 4]) 5 false))]⟩
theorem m24_168_ok : m24_168.ok (call evT evF k24_168 100000 m24_168.f m24_168.args m24_168.preH) = true := by kernel_rfl
theorem q24_168 : HkOk Tryz.prog (hkMemo m24_168) := hkMemo_ok evT_ok evF_ok k24_168_ok rfl m24_168_ok
noncomputable def k24_188 : Hk := orHk (hkMemo m24_176) (orHk (hkMemo m24_177) (orHk (hkMemo m24_180) (orHk (hkMemo m24_182) (orHk (hkMemo m24_185) (orHk (hkMemo m24_186) (orHk (hkMemo m24_187) (hkLib)))))))
theorem k24_188_ok : HkOk Tryz.prog k24_188 := orHk_ok q24_176 (orHk_ok q24_177 (orHk_ok q24_180 (orHk_ok q24_182 (orHk_ok q24_185 (orHk_ok q24_186 (orHk_ok q24_187 (hkLib_ok)))))))
noncomputable def m24_188 : Mm :=
  ⟨37, [pt 10747 0, i6 0, .bool false], 17343, [(1, .map [⟨.string ⟨#[111, 114, 105, 103, 105, 110, 97, 108]⟩, pt 32 0, 0⟩, ⟨.string ⟨#[115, 116, 111, 114, 101]⟩, pt 423 0, 1⟩, ⟨.string ⟨#[116, 97, 105, 108]⟩, pt 5545 0, 2⟩, ⟨.string ⟨#[106, 111, 117, 114, 110, 97, 108]⟩, pt 16616 0, 3⟩] 4),
  (2, .cells [i6 1048576, i6 28, .int .i64 (.negSucc 27), .bool false, .bool false, .map (some 1), .slice none 0 0] 61 true),
  (32, .cells [.slice (some ⟨16219, 0, none⟩) 7 7, .slice (some ⟨16249, 0, none⟩) 7 7, .bool true] 130 true),
  (48, .map [⟨i6 1, pt 225 0, 0⟩, ⟨i6 3, pt 5424 0, 2⟩, ⟨i6 2, pt 13396 0, 4⟩, ⟨i6 5, pt 13982 0, 5⟩, ⟨i6 6, pt 14604 0, 6⟩] 7),
  (49, .cells [i6 5, i6 0, i6 0, .bool false, pt 14604 0, pt 225 0, .map (some 48)] 357 true),
  (66, .map [⟨i6 1, .slice (some ⟨251, 0, none⟩) 256 256, 0⟩, ⟨i6 3, .slice (some ⟨5450, 0, none⟩) 256 256, 2⟩, ⟨i6 2, .slice (some ⟨13422, 0, none⟩) 256 256, 4⟩, ⟨i6 5, .slice (some ⟨14008, 0, none⟩) 256 256, 5⟩, ⟨i6 6, .slice (some ⟨14630, 0, none⟩) 256 256, 6⟩] 7),
  (67, .cells [pt 49 0, pt 2 0, .string ⟨#[115, 116, 111, 114, 101]⟩, i6 5, .map (some 66), i6 0] 249 true),
  (68, .map [⟨i6 4, .bool true, 12⟩, ⟨i6 1, .bool true, 13⟩, ⟨i6 3, .bool true, 14⟩, ⟨i6 2, .bool true, 15⟩, ⟨i6 5, .bool true, 16⟩, ⟨i6 6, .bool true, 17⟩] 18),
  (69, .map [] 0),
  (70, .cells [i6 1, .map (some 68), .map (some 69), .slice (some ⟨14549, 0, none⟩) 3 3] 214 true),
  (71, .cells [pt 67 0, pt 70 0] 257 true),
  (83, .cells [pt 2 0, i6 2] 216 true),
  (225, .cells [i6 1, i6 0, .bool false, pt 49 1, pt 5424 0] 351 true),
  (423, .cells [.slice (some ⟨16019, 0, none⟩) 1792 1792, .slice (some ⟨16143, 0, none⟩) 1792 1792, .bool true] 130 true),
  (3016, .map [] 0),
  (3017, .cells [pt 2 0, .string ⟨#[111, 114, 105, 103, 105, 110, 97, 108]⟩, i6 5, i6 0, .map (some 3016)] 372 true),
  (3037, .cells [pt 71 0, pt 3017 0, pt 83 0] 233 true),
  (5424, .cells [i6 3, i6 0, .bool false, pt 225 0, pt 13396 0] 351 true),
  (5545, .cells [.slice (some ⟨5549, 0, none⟩) 2 2, .slice (some ⟨16157, 0, none⟩) 2 2, .bool true] 130 true),
  (5549, .cells (u8s [120, 121]) 5 false),
  (9126, .cells [i6 1, i6 3] 3 false),
  (10667, .cells [i6 1, i6 5, i6 3, i6 7] 119 false),
  (10747, .cells [pt 2 0, i6 5, i6 5, i6 6, i6 1, i6 2, i6 7, i6 7, .slice none 0 0, .slice (some ⟨14502, 0, none⟩) 1 1, .slice none 0 0, i6 104, .int .u32 (.ofNat 233402013), pt 73 0, .slice (some ⟨12767, 0, none⟩) 3 3, .slice (some ⟨12010, 0, none⟩) 2 2, .slice (some ⟨14046, 0, none⟩) 2 2, i6 0, i6 2] 116 true),
  (11252, .cells [i6 0, i6 0, i6 5] 145 false),
  (12009, .cells [i6 0, i6 0, i6 1, i6 1, i6 0, i6 2, i6 0, i6 1, i6 4] 145 false),
  (12010, .cells [.slice (some ⟨11252, 0, none⟩) 1 1, .slice (some ⟨12009, 0, none⟩) 3 3] 113 false),
  (12767, .cells [i6 0, i6 0, i6 1, i6 1, i6 0, i6 2, i6 0, i6 1, i6 4] 145 false),
  (13396, .cells [i6 2, i6 0, .bool false, pt 5424 0, pt 13982 0] 351 true),
  (13982, .cells [i6 5, i6 0, .bool false, pt 13396 0, pt 14604 0] 351 true),
  (14046, .cells [i6 2, i6 5, i6 5, i6 7] 119 false),
  (14319, .cells [i6 0, .slice (some ⟨14491, 0, none⟩) 3 3] 175 false),
  (14491, .cells [i6 0, i6 0, i6 1, i6 1, i6 0, i6 2, i6 0, i6 1, i6 4] 145 false),
  (14502, .cells [.complex .f32 14320 1] 173 false),
  (14549, .cells [i6 2, i6 5, i6 6] 3 false),
  (14604, .cells [i6 6, i6 0, .bool false, pt 13982 0, pt 49 1] 351 true),
  (16019, .cells (u8s [111, 99, 116, 97, 118, 111, 48, 49, 4] ++ u8z 5 ++ u8s [4, 0, 0, 0, 1, 2, 0, 0, 0, 5] ++ u8z 36 ++ u8s [247, 19, 33, 158, 111, 99, 116, 97, 118, 111, 48, 49, 3] ++ u8z 5 ++ u8s [4] ++ u8z 4 ++ u8s [2, 0, 0, 0, 5] ++ u8z 36 ++ u8s [123, 101, 15, 249] ++ u8z 128 ++ u8s [1, 0, 14, 0, 1, 0, 0, 0, 7, 23, 113, 182, 1] ++ u8z 5 ++ u8s [5, 0, 0, 0, 255, 255, 255, 255] ++ u8z 230 ++ u8s [1, 0, 27, 0, 2, 0, 0, 0, 69, 219, 48, 151, 2] ++ u8z 5 ++ u8s [1, 0, 0, 0, 255, 255, 255, 255, 0, 3, 0, 0, 0, 4, 0, 0, 0, 255, 255, 255, 255] ++ u8z 217 ++ u8s [1, 0, 40, 0, 3, 0, 0, 0, 189, 203, 162, 90, 3] ++ u8z 5 ++ u8s [1, 0, 0, 0, 255, 255, 255, 255, 1] ++ u8z 4 ++ u8s [2] ++ u8z 8 ++ u8s [1, 0, 0, 0, 4, 0, 0, 0, 255, 255, 255, 255] ++ u8z 204 ++ u8s [3, 0, 17, 0, 4, 0, 0, 0, 178, 66, 147, 60, 2, 1, 0, 0, 0, 5, 0, 0, 0, 3, 0, 0, 0, 7] ++ u8z 230 ++ u8s [1, 0, 14, 0, 5, 0, 0, 0, 2, 120, 233, 144, 1] ++ u8z 5 ++ u8s [7, 0, 0, 0, 255, 255, 255, 255] ++ u8z 230 ++ u8s [3, 0, 17, 0, 6, 0, 0, 0, 87, 212, 48, 146, 2, 2, 0, 0, 0, 5, 0, 0, 0, 5, 0, 0, 0, 7] ++ u8z 230) 5 false),
  (16157, .cells (u8s [120, 121]) 5 false),
  (16219, .cells (u8s [97, 98, 99, 10, 100, 0, 0]) 5 false),
  (16249, .cells (u8s [97, 98, 99, 10, 100, 0, 0]) 5 false),
  (16616, .cells [.slice (some ⟨17128, 0, none⟩) 256 256, .slice (some ⟨17341, 0, none⟩) 256 256, .bool true] 130 true),
  (17128, .cells (u8s [111, 99, 116, 97, 118, 111, 45, 106] ++ u8z 5 ++ u8s [104, 0, 0, 0, 157, 110, 233, 13] ++ u8z 39 ++ u8s [135, 81, 132, 197, 5, 0, 0, 0, 111, 99, 116, 97, 118, 111, 48, 49, 5] ++ u8z 5 ++ u8s [6, 0, 0, 0, 1, 2, 0, 0, 0, 7] ++ u8z 36 ++ u8s [163, 240, 239, 210, 7] ++ u8z 7 ++ u8s [1, 0, 0, 0, 1] ++ u8z 4 ++ u8s [3] ++ u8z 5 ++ u8s [1, 1] ++ u8z 4 ++ u8s [2, 0, 1, 0, 0, 0, 4] ++ u8z 88) 5 false)], .tuple #[], 17835, [(2, some (.cells [i6 1048576, i6 41, .int .i64 (.negSucc 40), .bool false, .bool false, .map (some 1), .slice none 0 0] 61 true)),
  (32, some (.cells [.slice (some ⟨16219, 0, none⟩) 7 7, .slice (some ⟨17745, 0, none⟩) 7 7, .bool true] 130 true)),
  (423, some (.cells [.slice (some ⟨16019, 0, none⟩) 1792 1792, .slice (some ⟨17829, 0, none⟩) 1792 1792, .bool true] 130 true)),
  (16019, some (.cells (u8s [111, 99, 116, 97, 118, 111, 48, 49, 4] ++ u8z 5 ++ u8s [4, 0, 0, 0, 1, 2, 0, 0, 0, 5] ++ u8z 36 ++ u8s [247, 19, 33, 158, 111, 99, 116, 97, 118, 111, 48, 49, 5] ++ u8z 5 ++ u8s [6, 0, 0, 0, 1, 2, 0, 0, 0, 7] ++ u8z 36 ++ u8s [163, 240, 239, 210] ++ u8z 128 ++ u8s [1, 0, 14, 0, 1, 0, 0, 0, 7, 23, 113, 182, 1] ++ u8z 5 ++ u8s [5, 0, 0, 0, 255, 255, 255, 255] ++ u8z 230 ++ u8s [1, 0, 27, 0, 2, 0, 0, 0, 69, 219, 48, 151, 2] ++ u8z 5 ++ u8s [1, 0, 0, 0, 255, 255, 255, 255, 0, 3, 0, 0, 0, 4, 0, 0, 0, 255, 255, 255, 255] ++ u8z 217 ++ u8s [1, 0, 40, 0, 3, 0, 0, 0, 189, 203, 162, 90, 3] ++ u8z 5 ++ u8s [1, 0, 0, 0, 255, 255, 255, 255, 1] ++ u8z 4 ++ u8s [2] ++ u8z 8 ++ u8s [1, 0, 0, 0, 4, 0, 0, 0, 255, 255, 255, 255] ++ u8z 204 ++ u8s [3, 0, 17, 0, 4, 0, 0, 0, 178, 66, 147, 60, 2, 1, 0, 0, 0, 5, 0, 0, 0, 3, 0, 0, 0, 7] ++ u8z 230 ++ u8s [1, 0, 14, 0, 5, 0, 0, 0, 2, 120, 233, 144, 1] ++ u8z 5 ++ u8s [7, 0, 0, 0, 255, 255, 255, 255] ++ u8z 230 ++ u8s [3, 0, 17, 0, 6, 0, 0, 0, 87, 212, 48, 146, 2, 2, 0, 0, 0, 5, 0, 0, 0, 5, 0, 0, 0, 7] ++ u8z 230) 5 false)),
  (16219, some (.cells (u8s [97, 120, 121, 98, 99, 10, 100]) 5 false)),
  (16616, some (.cells [.slice (some ⟨17128, 0, none⟩) 0 256, .slice (some ⟨17833, 0, none⟩) 0 0, .bool true] 130 true)),
  (17128, some (.cells (u8s [111, 99, 116, 97, 118, 111, 45, 106, 1] ++ u8z 4 ++ u8s [104, 0, 0, 0, 157, 110, 233, 13] ++ u8z 39 ++ u8s [138, 173, 72, 172, 5, 0, 0, 0, 111, 99, 116, 97, 118, 111, 48, 49, 5] ++ u8z 5 ++ u8s [6, 0, 0, 0, 1, 2, 0, 0, 0, 7] ++ u8z 36 ++ u8s [163, 240, 239, 210, 7] ++ u8z 7 ++ u8s [1, 0, 0, 0, 1] ++ u8z 4 ++ u8s [3] ++ u8z 5 ++ u8s [1, 1] ++ u8z 4 ++ u8s [2, 0, 1, 0, 0, 0, 4] ++ u8z 24 ++ u8s [97, 120, 121, 98, 99, 10, 100] ++ u8z 57) 5 false)),
  (17745, some (.cells (u8s [97, 120, 121, 98, 99, 10, 100]) 5 false)),
  (17829, some (.cells (u8s [111, 99, 116, 97, 118, 111, 48, 49, 4] ++ u8z 5 ++ u8s [4, 0, 0, 0, 1, 2, 0, 0, 0, 5] ++ u8z 36 ++ u8s [247, 19, 33, 158, 111, 99, 116, 97, 118, 111, 48, 49, 5] ++ u8z 5 ++ u8s [6, 0, 0, 0, 1, 2, 0, 0, 0, 7] ++ u8z 36 ++ u8s [163, 240, 239, 210] ++ u8z 128 ++ u8s [1, 0, 14, 0, 1, 0, 0, 0, 7, 23, 113, 182, 1] ++ u8z 5 ++ u8s [5, 0, 0, 0, 255, 255, 255, 255] ++ u8z 230 ++ u8s [1, 0, 27, 0, 2, 0, 0, 0, 69, 219, 48, 151, 2] ++ u8z 5 ++ u8s [1, 0, 0, 0, 255, 255, 255, 255, 0, 3, 0, 0, 0, 4, 0, 0, 0, 255, 255, 255, 255] ++ u8z 217 ++ u8s [1, 0, 40, 0, 3, 0, 0, 0, 189, 203, 162, 90, 3] ++ u8z 5 ++ u8s [1, 0, 0, 0, 255, 255, 255, 255, 1] ++ u8z 4 ++ u8s [2] ++ u8z 8 ++ u8s [1, 0, 0, 0, 4, 0, 0, 0, 255, 255, 255, 255] ++ u8z 204 ++ u8s [3, 0, 17, 0, 4, 0, 0, 0, 178, 66, 147, 60, 2, 1, 0, 0, 0, 5, 0, 0, 0, 3, 0, 0, 0, 7] ++ u8z 230 ++ u8s [1, 0, 14, 0, 5, 0, 0, 0, 2, 120, 233, 144, 1] ++ u8z 5 ++ u8s [7, 0, 0, 0, 255, 255, 255, 255] ++ u8z 230 ++ u8s [3, 0, 17, 0, 6, 0, 0, 0, 87, 212, 48, 146, 2, 2, 0, 0, 0, 5, 0, 0, 0, 5, 0, 0, 0, 7] ++ u8z 230) 5 false)),
  (17833, some (.cells [] 5 true))]⟩
theorem m24_188_ok : m24_188.ok (call evT evF k24_188 100000 m24_188.f m24_188.args m24_188.preH) = true := by kernel_rfl
theorem q24_188 : HkOk Tryz.prog (hkMemo m24_188) := hkMemo_ok evT_ok evF_ok k24_188_ok rfl m24_188_ok
noncomputable def k24_192 : Hk := orHk (hkMemo m24_190) (orHk (hkMemo m24_191) (hkLib))
theorem k24_192_ok : HkOk Tryz.prog k24_192 := orHk_ok q24_190 (orHk_ok q24_191 (hkLib_ok))
noncomputable def m24_192 : Mm :=
  ⟨229, [pt 71 0, i6 2], 17884, [(1, .map [⟨.string ⟨#[111, 114, 105, 103, 105, 110, 97, 108]⟩, pt 32 0, 0⟩, ⟨.string ⟨#[115, 116, 111, 114, 101]⟩, pt 423 0, 1⟩, ⟨.string ⟨#[116, 97, 105, 108]⟩, pt 5545 0, 2⟩, ⟨.string ⟨#[106, 111, 117, 114, 110, 97, 108]⟩, pt 16616 0, 3⟩] 4),
  (2, .cells [i6 1048576, i6 41, .int .i64 (.negSucc 40), .bool false, .bool false, .map (some 1), .slice none 0 0] 61 true),
  (32, .cells [.slice (some ⟨16219, 0, none⟩) 7 7, .slice (some ⟨17745, 0, none⟩) 7 7, .bool true] 130 true),
  (48, .map [⟨i6 1, pt 225 0, 0⟩, ⟨i6 3, pt 5424 0, 2⟩, ⟨i6 2, pt 13396 0, 4⟩, ⟨i6 5, pt 13982 0, 5⟩, ⟨i6 6, pt 14604 0, 6⟩] 7),
  (49, .cells [i6 5, i6 0, i6 0, .bool false, pt 14604 0, pt 225 0, .map (some 48)] 357 true),
  (66, .map [⟨i6 1, .slice (some ⟨251, 0, none⟩) 256 256, 0⟩, ⟨i6 3, .slice (some ⟨5450, 0, none⟩) 256 256, 2⟩, ⟨i6 2, .slice (some ⟨13422, 0, none⟩) 256 256, 4⟩, ⟨i6 5, .slice (some ⟨14008, 0, none⟩) 256 256, 5⟩, ⟨i6 6, .slice (some ⟨14630, 0, none⟩) 256 256, 6⟩] 7),
  (67, .cells [pt 49 0, pt 2 0, .string ⟨#[115, 116, 111, 114, 101]⟩, i6 5, .map (some 66), i6 0] 249 true),
  (68, .map [⟨i6 4, .bool true, 12⟩, ⟨i6 1, .bool true, 13⟩, ⟨i6 3, .bool true, 14⟩, ⟨i6 2, .bool true, 15⟩, ⟨i6 5, .bool true, 16⟩, ⟨i6 6, .bool true, 17⟩] 18),
  (69, .map [] 0),
  (70, .cells [i6 1, .map (some 68), .map (some 69), .slice (some ⟨14549, 0, none⟩) 3 3] 214 true),
  (71, .cells [pt 67 0, pt 70 0] 257 true),
  (225, .cells [i6 1, i6 0, .bool false, pt 49 1, pt 5424 0] 351 true),
  (423, .cells [.slice (some ⟨16019, 0, none⟩) 1792 1792, .slice (some ⟨17829, 0, none⟩) 1792 1792, .bool true] 130 true),
  (5424, .cells [i6 3, i6 0, .bool false, pt 225 0, pt 13396 0] 351 true),
  (5545, .cells [.slice (some ⟨5549, 0, none⟩) 2 2, .slice (some ⟨16157, 0, none⟩) 2 2, .bool true] 130 true),
  (5549, .cells (u8s [120, 121]) 5 false),
  (13396, .cells [i6 2, i6 0, .bool false, pt 5424 0, pt 13982 0] 351 true),
  (13422, .cells (u8s [1, 0, 27, 0, 2, 0, 0, 0, 69, 219, 48, 151, 2] ++ u8z 5 ++ u8s [1, 0, 0, 0, 255, 255, 255, 255, 0, 3, 0, 0, 0, 4, 0, 0, 0, 255, 255, 255, 255] ++ u8z 217) 5 false),
  (13982, .cells [i6 5, i6 0, .bool false, pt 13396 0, pt 14604 0] 351 true),
  (14549, .cells [i6 2, i6 5, i6 6] 3 false),
  (14604, .cells [i6 6, i6 0, .bool false, pt 13982 0, pt 49 1] 351 true),
  (16157, .cells (u8s [120, 121]) 5 false),
  (16219, .cells (u8s [97, 120, 121, 98, 99, 10, 100]) 5 false),
  (16616, .cells [.slice (some ⟨17128, 0, none⟩) 0 256, .slice (some ⟨17833, 0, none⟩) 0 0, .bool true] 130 true),
  (17745, .cells (u8s [97, 120, 121, 98, 99, 10, 100]) 5 false),
  (17833, .cells [] 5 true)], .agg #[.bool true, .slice (some ⟨18460, 0, none⟩) 2 2, .slice none 0 0], 18478, [(49, some (.cells [i6 5, i6 0, i6 0, .bool false, pt 13396 0, pt 225 0, .map (some 48)] 357 true)),
  (5424, some (.cells [i6 3, i6 0, .bool false, pt 225 0, pt 13982 0] 351 true)),
  (13396, some (.cells [i6 2, i6 0, .bool false, pt 14604 0, pt 49 1] 351 true)),
  (13982, some (.cells [i6 5, i6 0, .bool false, pt 5424 0, pt 14604 0] 351 true)),
  (14604, some (.cells [i6 6, i6 0, .bool false, pt 13982 0, pt 13396 0] 351 true)),
  (18460, some (.cells [i6 0, i6 0, i6 1, .int .i64 (.negSucc 0), i6 0, i6 3, i6 4, .int .i64 (.negSucc 0)] 147 false))]⟩
theorem m24_192_ok : m24_192.ok (call evT evF k24_192 100000 m24_192.f m24_192.args m24_192.preH) = true := by kernel_rfl
theorem q24_192 : HkOk Tryz.prog (hkMemo m24_192) := hkMemo_ok evT_ok evF_ok k24_192_ok rfl m24_192_ok
noncomputable def k24_196 : Hk := orHk (hkMemo m24_194) (orHk (hkMemo m24_195) (hkLib))
theorem k24_196_ok : HkOk Tryz.prog k24_196 := orHk_ok q24_194 (orHk_ok q24_195 (hkLib_ok))
noncomputable def m24_196 : Mm :=
  ⟨229, [pt 71 0, i6 5], 18492, [(1, .map [⟨.string ⟨#[111, 114, 105, 103, 105, 110, 97, 108]⟩, pt 32 0, 0⟩, ⟨.string ⟨#[115, 116, 111, 114, 101]⟩, pt 423 0, 1⟩, ⟨.string ⟨#[116, 97, 105, 108]⟩, pt 5545 0, 2⟩, ⟨.string ⟨#[106, 111, 117, 114, 110, 97, 108]⟩, pt 16616 0, 3⟩] 4),
  (2, .cells [i6 1048576, i6 41, .int .i64 (.negSucc 40), .bool false, .bool false, .map (some 1), .slice none 0 0] 61 true),
  (32, .cells [.slice (some ⟨16219, 0, none⟩) 7 7, .slice (some ⟨17745, 0, none⟩) 7 7, .bool true] 130 true),
  (48, .map [⟨i6 1, pt 225 0, 0⟩, ⟨i6 3, pt 5424 0, 2⟩, ⟨i6 2, pt 13396 0, 4⟩, ⟨i6 5, pt 13982 0, 5⟩, ⟨i6 6, pt 14604 0, 6⟩] 7),
  (49, .cells [i6 5, i6 0, i6 0, .bool false, pt 13396 0, pt 225 0, .map (some 48)] 357 true),
  (66, .map [⟨i6 1, .slice (some ⟨251, 0, none⟩) 256 256, 0⟩, ⟨i6 3, .slice (some ⟨5450, 0, none⟩) 256 256, 2⟩, ⟨i6 2, .slice (some ⟨13422, 0, none⟩) 256 256, 4⟩, ⟨i6 5, .slice (some ⟨14008, 0, none⟩) 256 256, 5⟩, ⟨i6 6, .slice (some ⟨14630, 0, none⟩) 256 256, 6⟩] 7),
  (67, .cells [pt 49 0, pt 2 0, .string ⟨#[115, 116, 111, 114, 101]⟩, i6 5, .map (some 66), i6 0] 249 true),
  (68, .map [⟨i6 4, .bool true, 12⟩, ⟨i6 1, .bool true, 13⟩, ⟨i6 3, .bool true, 14⟩, ⟨i6 2, .bool true, 15⟩, ⟨i6 5, .bool true, 16⟩, ⟨i6 6, .bool true, 17⟩] 18),
  (69, .map [] 0),
  (70, .cells [i6 1, .map (some 68), .map (some 69), .slice (some ⟨14549, 0, none⟩) 3 3] 214 true),
  (71, .cells [pt 67 0, pt 70 0] 257 true),
  (225, .cells [i6 1, i6 0, .bool false, pt 49 1, pt 5424 0] 351 true),
  (423, .cells [.slice (some ⟨16019, 0, none⟩) 1792 1792, .slice (some ⟨17829, 0, none⟩) 1792 1792, .bool true] 130 true),
  (5424, .cells [i6 3, i6 0, .bool false, pt 225 0, pt 13982 0] 351 true),
  (5545, .cells [.slice (some ⟨5549, 0, none⟩) 2 2, .slice (some ⟨16157, 0, none⟩) 2 2, .bool true] 130 true),
  (5549, .cells (u8s [120, 121]) 5 false),
  (13396, .cells [i6 2, i6 0, .bool false, pt 14604 0, pt 49 1] 351 true),
  (13982, .cells [i6 5, i6 0, .bool false, pt 5424 0, pt 14604 0] 351 true),
  (14008, .cells (u8s [1, 0, 14, 0, 5, 0, 0, 0, 2, 120, 233, 144, 1] ++ u8z 5 ++ u8s [7, 0, 0, 0, 255, 255, 255, 255] ++ u8z 230) 5 false),
  (14549, .cells [i6 2, i6 5, i6 6] 3 false),
  (14604, .cells [i6 6, i6 0, .bool false, pt 13982 0, pt 13396 0] 351 true),
  (16157, .cells (u8s [120, 121]) 5 false),
  (16219, .cells (u8s [97, 120, 121, 98, 99, 10, 100]) 5 false),
  (16616, .cells [.slice (some ⟨17128, 0, none⟩) 0 256, .slice (some ⟨17833, 0, none⟩) 0 0, .bool true] 130 true),
  (17745, .cells (u8s [97, 120, 121, 98, 99, 10, 100]) 5 false),
  (17833, .cells [] 5 true)], .agg #[.bool true, .slice (some ⟨18938, 0, none⟩) 1 1, .slice none 0 0], 18953, [(49, some (.cells [i6 5, i6 0, i6 0, .bool false, pt 13982 0, pt 225 0, .map (some 48)] 357 true)),
  (5424, some (.cells [i6 3, i6 0, .bool false, pt 225 0, pt 14604 0] 351 true)),
  (13396, some (.cells [i6 2, i6 0, .bool false, pt 14604 0, pt 13982 0] 351 true)),
  (13982, some (.cells [i6 5, i6 0, .bool false, pt 13396 0, pt 49 1] 351 true)),
  (14604, some (.cells [i6 6, i6 0, .bool false, pt 5424 0, pt 13396 0] 351 true)),
  (18938, some (.cells [i6 0, i6 0, i6 7, .int .i64 (.negSucc 0)] 147 false))]⟩
theorem m24_196_ok : m24_196.ok (call evT evF k24_196 100000 m24_196.f m24_196.args m24_196.preH) = true := by kernel_rfl
theorem q24_196 : HkOk Tryz.prog (hkMemo m24_196) := hkMemo_ok evT_ok evF_ok k24_196_ok rfl m24_196_ok
end Go.Proofs.YtjclpdlijblpjaaGreat
