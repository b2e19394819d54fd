/-
  Calls that were reckoned out, one by one. Printed by a program.
-/
import Derived.Test.YtjclpdlijblpjaaGreatEvl
import Derived.Test.YtjclpdlijblpjaaGreatEvM24a
import Derived.Test.YtjclpdlijblpjaaGreatEvM24b
import Derived.Test.YtjclpdlijblpjaaGreatEvM24c
namespace Go.Proofs.YtjclpdlijblpjaaGreat
open Go.Ev
set_option maxRecDepth 1000000
noncomputable def k24_4 : Hk := orHk (hkMemo m24_1) (orHk (hkMemo m24_2) (orHk (hkMemo m24_3) (hkLib)))
theorem k24_4_ok : HkOk Tryz.prog k24_4 := orHk_ok q24_1 (orHk_ok q24_2 (orHk_ok q24_3 (hkLib_ok)))
noncomputable def m24_4 : Mm :=
  ⟨301, [pt 71 0, .agg #[.bool true, .slice (some ⟨140, 0, none⟩) 1 1, .slice none 0 0]], 146, [(1, .map [⟨.string ⟨#[111, 114, 105, 103, 105, 110, 97, 108]⟩, pt 32 0, 0⟩] 1),
  (2, .cells [i6 1048576, i6 0, i6 0, .bool false, .bool false, .map (some 1), .slice none 0 0] 61 true),
  (32, .cells [.slice (some ⟨34, 0, none⟩) 5 5, .slice (some ⟨35, 0, none⟩) 5 5, .bool true] 130 true),
  (34, .cells (u8s [97, 98, 99, 10, 100]) 5 false),
  (35, .cells (u8s [97, 98, 99, 10, 100]) 5 false),
  (48, .map [] 0),
  (49, .cells [i6 5, i6 0, i6 0, .bool false, pt 49 1, pt 49 1, .map (some 48)] 357 true),
  (66, .map [] 0),
  (67, .cells [pt 49 0, pt 2 0, .string ⟨#[115, 116, 111, 114, 101]⟩, i6 5, .map (some 66), i6 0] 249 true),
  (68, .map [] 0),
  (69, .map [] 0),
  (70, .cells [i6 1, .map (some 68), .map (some 69), .slice none 0 0] 214 true),
  (71, .cells [pt 67 0, pt 70 0] 257 true),
  (140, .cells [i6 0, i6 0, i6 5, .int .i64 (.negSucc 0)] 147 false)], .agg #[i6 1, i6 5, .int .i64 (.negSucc 0), i6 1], 285, [(48, some (.map [⟨i6 1, pt 225 0, 0⟩] 1)),
  (49, some (.cells [i6 5, i6 0, i6 0, .bool false, pt 225 0, pt 225 0, .map (some 48)] 357 true)),
  (66, some (.map [⟨i6 1, .slice (some ⟨251, 0, none⟩) 256 256, 0⟩] 1)),
  (68, some (.map [⟨i6 1, .bool true, 0⟩] 1)),
  (70, some (.cells [i6 1, .map (some 68), .map (some 69), .slice (some ⟨193, 0, none⟩) 1 1] 214 true)),
  (193, some (.cells [i6 1] 3 false)),
  (225, some (.cells [i6 1, i6 0, .bool true, pt 49 1, pt 49 1] 351 true)),
  (251, some (.cells (u8s [1, 0, 14, 0, 1, 0, 0, 0, 7, 23, 113, 182, 1] ++ u8z 5 ++ u8s [5, 0, 0, 0, 255, 255, 255, 255] ++ u8z 230) 5 false))]⟩
theorem m24_4_ok : m24_4.ok (call evT evF k24_4 100000 m24_4.f m24_4.args m24_4.preH) = true := by kernel_rfl
theorem q24_4 : HkOk Tryz.prog (hkMemo m24_4) := hkMemo_ok evT_ok evF_ok k24_4_ok rfl m24_4_ok
noncomputable def k24_9 : Hk := orHk (hkMemo m24_8) (hkLib)
theorem k24_9_ok : HkOk Tryz.prog k24_9 := orHk_ok q24_8 (hkLib_ok)
noncomputable def m24_9 : Mm :=
  ⟨11, [pt 2 0, .string ⟨#[115, 116, 111, 114, 101]⟩, i6 0, .slice (some ⟨403, 0, none⟩) 256 256], 406, [(1, .map [⟨.string ⟨#[111, 114, 105, 103, 105, 110, 97, 108]⟩, pt 32 0, 0⟩] 1),
  (2, .cells [i6 1048576, i6 0, i6 0, .bool false, .bool false, .map (some 1), .slice none 0 0] 61 true),
  (32, .cells [.slice (some ⟨34, 0, none⟩) 5 5, .slice (some ⟨35, 0, none⟩) 5 5, .bool true] 130 true),
  (34, .cells (u8s [97, 98, 99, 10, 100]) 5 false),
  (35, .cells (u8s [97, 98, 99, 10, 100]) 5 false),
  (403, .cells (u8z 256) 5 true)], i6 0, 1048, [(1, some (.map [⟨.string ⟨#[111, 114, 105, 103, 105, 110, 97, 108]⟩, pt 32 0, 0⟩, ⟨.string ⟨#[115, 116, 111, 114, 101]⟩, pt 423 0, 1⟩] 2)),
  (2, some (.cells [i6 1048576, i6 1, .int .i64 (.negSucc 0), .bool false, .bool false, .map (some 1), .slice (some ⟨1039, 0, none⟩) 4 4] 61 true)),
  (423, some (.cells [.slice (some ⟨935, 0, none⟩) 256 256, .slice none 0 0, .bool false] 130 true)),
  (935, some (.cells (u8z 256) 5 false)),
  (954, some (.cells (u8z 64) 5 false)),
  (982, some (.cells (u8z 64) 5 false)),
  (1010, some (.cells (u8z 64) 5 false)),
  (1038, some (.cells (u8z 64) 5 false)),
  (1039, some (.cells [.string ⟨#[115, 116, 111, 114, 101]⟩, i6 0, .slice (some ⟨954, 0, none⟩) 64 64, .string ⟨#[115, 116, 111, 114, 101]⟩, i6 64, .slice (some ⟨982, 0, none⟩) 64 64, .string ⟨#[115, 116, 111, 114, 101]⟩, i6 128, .slice (some ⟨1010, 0, none⟩) 64 64, .string ⟨#[115, 116, 111, 114, 101]⟩, i6 192, .slice (some ⟨1038, 0, none⟩) 64 64] 134 false))]⟩
theorem m24_9_ok : m24_9.ok (call evT evF k24_9 100000 m24_9.f m24_9.args m24_9.preH) = true := by kernel_rfl
theorem q24_9 : HkOk Tryz.prog (hkMemo m24_9) := hkMemo_ok evT_ok evF_ok k24_9_ok rfl m24_9_ok
noncomputable def k24_14 : Hk := orHk (hkMemo m24_13) (hkLib)
theorem k24_14_ok : HkOk Tryz.prog k24_14 := orHk_ok q24_13 (hkLib_ok)
noncomputable def m24_14 : Mm :=
  ⟨11, [pt 2 0, .string ⟨#[115, 116, 111, 114, 101]⟩, i6 512, .slice (some ⟨376, 0, none⟩) 256 256], 1737, [(1, .map [⟨.string ⟨#[111, 114, 105, 103, 105, 110, 97, 108]⟩, pt 32 0, 0⟩, ⟨.string ⟨#[115, 116, 111, 114, 101]⟩, pt 423 0, 1⟩] 2),
  (2, .cells [i6 1048576, i6 2, .int .i64 (.negSucc 1), .bool false, .bool false, .map (some 1), .slice (some ⟨1698, 0, none⟩) 8 8] 61 true),
  (32, .cells [.slice (some ⟨34, 0, none⟩) 5 5, .slice (some ⟨35, 0, none⟩) 5 5, .bool true] 130 true),
  (34, .cells (u8s [97, 98, 99, 10, 100]) 5 false),
  (35, .cells (u8s [97, 98, 99, 10, 100]) 5 false),
  (376, .cells (u8s [3, 0, 9, 0, 2, 0, 0, 0, 5, 212, 242, 114, 1, 1, 0, 0, 0, 5] ++ u8z 238) 5 false),
  (423, .cells [.slice (some ⟨1594, 0, none⟩) 512 512, .slice none 0 0, .bool false] 130 true),
  (1594, .cells (u8z 256 ++ u8s [1, 0, 14, 0, 1, 0, 0, 0, 7, 23, 113, 182, 1] ++ u8z 5 ++ u8s [5, 0, 0, 0, 255, 255, 255, 255] ++ u8z 230) 5 false),
  (1698, .cells [.string ⟨#[115, 116, 111, 114, 101]⟩, i6 0, .slice (some ⟨954, 0, none⟩) 64 64, .string ⟨#[115, 116, 111, 114, 101]⟩, i6 64, .slice (some ⟨982, 0, none⟩) 64 64, .string ⟨#[115, 116, 111, 114, 101]⟩, i6 128, .slice (some ⟨1010, 0, none⟩) 64 64, .string ⟨#[115, 116, 111, 114, 101]⟩, i6 192, .slice (some ⟨1038, 0, none⟩) 64 64, .string ⟨#[115, 116, 111, 114, 101]⟩, i6 256, .slice (some ⟨1613, 0, none⟩) 64 64, .string ⟨#[115, 116, 111, 114, 101]⟩, i6 320, .slice (some ⟨1641, 0, none⟩) 64 64, .string ⟨#[115, 116, 111, 114, 101]⟩, i6 384, .slice (some ⟨1669, 0, none⟩) 64 64, .string ⟨#[115, 116, 111, 114, 101]⟩, i6 448, .slice (some ⟨1697, 0, none⟩) 64 64] 134 false)], i6 0, 2378, [(2, some (.cells [i6 1048576, i6 3, .int .i64 (.negSucc 2), .bool false, .bool false, .map (some 1), .slice (some ⟨2369, 0, none⟩) 12 12] 61 true)),
  (423, some (.cells [.slice (some ⟨2265, 0, none⟩) 768 768, .slice none 0 0, .bool false] 130 true)),
  (1594, none),
  (1698, none),
  (2265, some (.cells (u8z 256 ++ u8s [1, 0, 14, 0, 1, 0, 0, 0, 7, 23, 113, 182, 1] ++ u8z 5 ++ u8s [5, 0, 0, 0, 255, 255, 255, 255] ++ u8z 230 ++ u8s [3, 0, 9, 0, 2, 0, 0, 0, 5, 212, 242, 114, 1, 1, 0, 0, 0, 5] ++ u8z 238) 5 false)),
  (2284, some (.cells (u8s [3, 0, 9, 0, 2, 0, 0, 0, 5, 212, 242, 114, 1, 1, 0, 0, 0, 5] ++ u8z 46) 5 false)),
  (2312, some (.cells (u8z 64) 5 false)),
  (2340, some (.cells (u8z 64) 5 false)),
  (2368, some (.cells (u8z 64) 5 false)),
  (2369, some (.cells [.string ⟨#[115, 116, 111, 114, 101]⟩, i6 0, .slice (some ⟨954, 0, none⟩) 64 64, .string ⟨#[115, 116, 111, 114, 101]⟩, i6 64, .slice (some ⟨982, 0, none⟩) 64 64, .string ⟨#[115, 116, 111, 114, 101]⟩, i6 128, .slice (some ⟨1010, 0, none⟩) 64 64, .string ⟨#[115, 116, 111, 114, 101]⟩, i6 192, .slice (some ⟨1038, 0, none⟩) 64 64, .string ⟨#[115, 116, 111, 114, 101]⟩, i6 256, .slice (some ⟨1613, 0, none⟩) 64 64, .string ⟨#[115, 116, 111, 114, 101]⟩, i6 320, .slice (some ⟨1641, 0, none⟩) 64 64, .string ⟨#[115, 116, 111, 114, 101]⟩, i6 384, .slice (some ⟨1669, 0, none⟩) 64 64, .string ⟨#[115, 116, 111, 114, 101]⟩, i6 448, .slice (some ⟨1697, 0, none⟩) 64 64, .string ⟨#[115, 116, 111, 114, 101]⟩, i6 512, .slice (some ⟨2284, 0, none⟩) 64 64, .string ⟨#[115, 116, 111, 114, 101]⟩, i6 576, .slice (some ⟨2312, 0, none⟩) 64 64, .string ⟨#[115, 116, 111, 114, 101]⟩, i6 640, .slice (some ⟨2340, 0, none⟩) 64 64, .string ⟨#[115, 116, 111, 114, 101]⟩, i6 704, .slice (some ⟨2368, 0, none⟩) 64 64] 134 false))]⟩
theorem m24_14_ok : m24_14.ok (call evT evF k24_14 100000 m24_14.f m24_14.args m24_14.preH) = true := by kernel_rfl
theorem q24_14 : HkOk Tryz.prog (hkMemo m24_14) := hkMemo_ok evT_ok evF_ok k24_14_ok rfl m24_14_ok
noncomputable def k24_25 : Hk := orHk (hkMemo m24_22) (orHk (hkMemo m24_23) (orHk (hkMemo m24_24) (hkLib)))
theorem k24_25_ok : HkOk Tryz.prog k24_25 := orHk_ok q24_22 (orHk_ok q24_23 (orHk_ok q24_24 (hkLib_ok)))
noncomputable def m24_25 : Mm :=
  ⟨205, [pt 73 0, .agg #[i6 1, i6 2, i6 0, i6 0, i6 5], .slice (some ⟨288, 0, none⟩) 1 1, .slice (some ⟨2920, 0, none⟩) 1 1], 2921, [(1, .map [⟨.string ⟨#[111, 114, 105, 103, 105, 110, 97, 108]⟩, pt 32 0, 0⟩, ⟨.string ⟨#[115, 116, 111, 114, 101]⟩, pt 423 0, 1⟩] 2),
  (2, .cells [i6 1048576, i6 4, .int .i64 (.negSucc 3), .bool false, .bool false, .map (some 1), .slice none 0 0] 61 true),
  (32, .cells [.slice (some ⟨34, 0, none⟩) 5 5, .slice (some ⟨35, 0, none⟩) 5 5, .bool true] 130 true),
  (34, .cells (u8s [97, 98, 99, 10, 100]) 5 false),
  (35, .cells (u8s [97, 98, 99, 10, 100]) 5 false),
  (48, .map [⟨i6 1, pt 225 0, 0⟩, ⟨i6 2, pt 350 0, 1⟩] 2),
  (49, .cells [i6 5, i6 0, i6 0, .bool false, pt 225 0, pt 350 0, .map (some 48)] 357 true),
  (66, .map [⟨i6 1, .slice (some ⟨251, 0, none⟩) 256 256, 0⟩, ⟨i6 2, .slice (some ⟨376, 0, none⟩) 256 256, 1⟩] 2),
  (67, .cells [pt 49 0, pt 2 0, .string ⟨#[115, 116, 111, 114, 101]⟩, i6 5, .map (some 66), i6 0] 249 true),
  (68, .map [⟨i6 1, .bool true, 0⟩, ⟨i6 2, .bool true, 1⟩] 2),
  (69, .map [] 0),
  (70, .cells [i6 1, .map (some 68), .map (some 69), .slice (some ⟨318, 0, none⟩) 2 2] 214 true),
  (71, .cells [pt 67 0, pt 70 0] 257 true),
  (73, .cells [pt 67 0, pt 70 0, pt 71 0, pt 2 0, pt 83 0, .pointer none, .slice none 0 0, i6 0, i6 0, i6 0, i6 0, i6 0, i6 5, i6 0, i6 0, i6 0, i6 0, i6 0, .slice none 0 0] 85 true),
  (83, .cells [pt 2 0, i6 0] 216 true),
  (225, .cells [i6 1, i6 0, .bool false, pt 350 0, pt 49 1] 351 true),
  (288, .cells [i6 1, i6 5] 119 true),
  (318, .cells [i6 1, i6 2] 3 false),
  (350, .cells [i6 2, i6 0, .bool false, pt 49 1, pt 225 0] 351 true),
  (423, .cells [.slice (some ⟨2265, 0, none⟩) 768 768, .slice (some ⟨2389, 0, none⟩) 768 768, .bool true] 130 true),
  (2265, .cells (u8z 256 ++ u8s [1, 0, 14, 0, 1, 0, 0, 0, 7, 23, 113, 182, 1] ++ u8z 5 ++ u8s [5, 0, 0, 0, 255, 255, 255, 255] ++ u8z 230 ++ u8s [3, 0, 9, 0, 2, 0, 0, 0, 5, 212, 242, 114, 1, 1, 0, 0, 0, 5] ++ u8z 238) 5 false),
  (2920, .cells [i6 1] 3 false)], i6 0, 3065, [(2, some (.cells [i6 1048576, i6 6, .int .i64 (.negSucc 5), .bool false, .bool false, .map (some 1), .slice none 0 0] 61 true)),
  (68, some (.map [⟨i6 2, .bool true, 2⟩, ⟨i6 1, .bool true, 3⟩] 4)),
  (70, some (.cells [i6 1, .map (some 68), .map (some 69), .slice none 0 0] 214 true)),
  (73, some (.cells [pt 67 0, pt 70 0, pt 71 0, pt 2 0, pt 83 0, pt 3037 0, .slice (some ⟨3048, 0, none⟩) 1 1, i6 0, i6 1, i6 2, i6 0, i6 0, i6 5, i6 0, i6 0, i6 0, i6 0, i6 0, .slice (some ⟨2920, 0, none⟩) 1 1] 85 true)),
  (423, some (.cells [.slice (some ⟨2265, 0, none⟩) 768 768, .slice (some ⟨3001, 0, none⟩) 768 768, .bool true] 130 true)),
  (2265, some (.cells (u8z 64 ++ u8s [111, 99, 116, 97, 118, 111, 48, 49, 1] ++ u8z 5 ++ u8s [2] ++ u8z 8 ++ u8s [5] ++ u8z 36 ++ u8s [73, 229, 12, 250] ++ u8z 128 ++ u8s [1, 0, 14, 0, 1, 0, 0, 0, 7, 23, 113, 182, 1] ++ u8z 5 ++ u8s [5, 0, 0, 0, 255, 255, 255, 255] ++ u8z 230 ++ u8s [3, 0, 9, 0, 2, 0, 0, 0, 5, 212, 242, 114, 1, 1, 0, 0, 0, 5] ++ u8z 238) 5 false)),
  (3001, some (.cells (u8z 64 ++ u8s [111, 99, 116, 97, 118, 111, 48, 49, 1] ++ u8z 5 ++ u8s [2] ++ u8z 8 ++ u8s [5] ++ u8z 36 ++ u8s [73, 229, 12, 250] ++ u8z 128 ++ u8s [1, 0, 14, 0, 1, 0, 0, 0, 7, 23, 113, 182, 1] ++ u8z 5 ++ u8s [5, 0, 0, 0, 255, 255, 255, 255] ++ u8z 230 ++ u8s [3, 0, 9, 0, 2, 0, 0, 0, 5, 212, 242, 114, 1, 1, 0, 0, 0, 5] ++ u8z 238) 5 false)),
  (3016, some (.map [] 0)),
  (3017, some (.cells [pt 2 0, .string ⟨#[111, 114, 105, 103, 105, 110, 97, 108]⟩, i6 5, i6 0, .map (some 3016)] 372 true)),
  (3037, some (.cells [pt 71 0, pt 3017 0, pt 83 0] 233 true)),
  (3048, some (.cells [i6 1, i6 5] 119 false))]⟩
theorem m24_25_ok : m24_25.ok (call evT evF k24_25 100000 m24_25.f m24_25.args m24_25.preH) = true := by kernel_rfl
theorem q24_25 : HkOk Tryz.prog (hkMemo m24_25) := hkMemo_ok evT_ok evF_ok k24_25_ok rfl m24_25_ok
noncomputable def k24_32 : Hk := orHk (hkMemo m24_31) (hkLib)
theorem k24_32_ok : HkOk Tryz.prog k24_32 := orHk_ok q24_31 (hkLib_ok)
noncomputable def m24_32 : Mm :=
  ⟨254, [i6 1, .slice (some ⟨3219, 0, none⟩) 256 256], 3220, [(3219, .cells (u8s [1, 0, 14, 0, 1, 0, 0, 0, 7, 23, 113, 182, 1] ++ u8z 5 ++ u8s [5, 0, 0, 0, 255, 255, 255, 255] ++ u8z 230) 5 false)], .tuple #[i6 1, .slice (some ⟨3409, 0, none⟩) 14 14, i6 0], 3450, [(3409, some (.cells (u8s [1] ++ u8z 5 ++ u8s [5, 0, 0, 0, 255, 255, 255, 255]) 5 false))]⟩
theorem m24_32_ok : m24_32.ok (call evT evF k24_32 100000 m24_32.f m24_32.args m24_32.preH) = true := by kernel_rfl
theorem q24_32 : HkOk Tryz.prog (hkMemo m24_32) := hkMemo_ok evT_ok evF_ok k24_32_ok rfl m24_32_ok
noncomputable def k24_41 : Hk := orHk (hkMemo m24_40) (hkLib)
theorem k24_41_ok : HkOk Tryz.prog k24_41 := orHk_ok q24_40 (hkLib_ok)
noncomputable def m24_41 : Mm :=
  ⟨254, [i6 1, .slice (some ⟨4182, 0, none⟩) 256 256], 4183, [(4182, .cells (u8s [1, 0, 14, 0, 1, 0, 0, 0, 7, 23, 113, 182, 1] ++ u8z 5 ++ u8s [5, 0, 0, 0, 255, 255, 255, 255] ++ u8z 230) 5 false)], .tuple #[i6 1, .slice (some ⟨4372, 0, none⟩) 14 14, i6 0], 4413, [(4372, some (.cells (u8s [1] ++ u8z 5 ++ u8s [5, 0, 0, 0, 255, 255, 255, 255]) 5 false))]⟩
theorem m24_41_ok : m24_41.ok (call evT evF k24_41 100000 m24_41.f m24_41.args m24_41.preH) = true := by kernel_rfl
theorem q24_41 : HkOk Tryz.prog (hkMemo m24_41) := hkMemo_ok evT_ok evF_ok k24_41_ok rfl m24_41_ok
noncomputable def k24_54 : Hk := orHk (hkMemo m24_50) (orHk (hkMemo m24_51) (orHk (hkMemo m24_52) (orHk (hkMemo m24_53) (hkLib))))
theorem k24_54_ok : HkOk Tryz.prog k24_54 := orHk_ok q24_50 (orHk_ok q24_51 (orHk_ok q24_52 (orHk_ok q24_53 (hkLib_ok))))
noncomputable def m24_54 : Mm :=
  ⟨242, [pt 71 0, .agg #[.bool true, .slice (some ⟨4733, 0, none⟩) 3 3, .slice none 0 0]], 5283, [(1, .map [⟨.string ⟨#[111, 114, 105, 103, 105, 110, 97, 108]⟩, pt 32 0, 0⟩, ⟨.string ⟨#[115, 116, 111, 114, 101]⟩, pt 423 0, 1⟩] 2),
  (2, .cells [i6 1048576, i6 6, .int .i64 (.negSucc 5), .bool false, .bool false, .map (some 1), .slice none 0 0] 61 true),
  (32, .cells [.slice (some ⟨34, 0, none⟩) 5 5, .slice (some ⟨35, 0, none⟩) 5 5, .bool true] 130 true),
  (34, .cells (u8s [97, 98, 99, 10, 100]) 5 false),
  (35, .cells (u8s [97, 98, 99, 10, 100]) 5 false),
  (48, .map [⟨i6 1, pt 225 0, 0⟩, ⟨i6 2, pt 350 0, 1⟩] 2),
  (49, .cells [i6 5, i6 0, i6 0, .bool false, pt 225 0, pt 350 0, .map (some 48)] 357 true),
  (66, .map [⟨i6 1, .slice (some ⟨251, 0, none⟩) 256 256, 0⟩, ⟨i6 2, .slice (some ⟨376, 0, none⟩) 256 256, 1⟩] 2),
  (67, .cells [pt 49 0, pt 2 0, .string ⟨#[115, 116, 111, 114, 101]⟩, i6 5, .map (some 66), i6 0] 249 true),
  (68, .map [⟨i6 2, .bool true, 2⟩, ⟨i6 1, .bool true, 3⟩] 4),
  (69, .map [] 0),
  (70, .cells [i6 1, .map (some 68), .map (some 69), .slice none 0 0] 214 true),
  (71, .cells [pt 67 0, pt 70 0] 257 true),
  (225, .cells [i6 1, i6 0, .bool false, pt 350 0, pt 49 1] 351 true),
  (350, .cells [i6 2, i6 0, .bool false, pt 49 1, pt 225 0] 351 true),
  (423, .cells [.slice (some ⟨2265, 0, none⟩) 768 768, .slice (some ⟨3001, 0, none⟩) 768 768, .bool true] 130 true),
  (4733, .cells [i6 0, i6 0, i6 1, .int .i64 (.negSucc 0), i6 1, i6 0, i6 2, i6 0, i6 0, i6 1, i6 4, .int .i64 (.negSucc 0)] 147 false)], .slice (some ⟨5509, 0, none⟩) 1 1, 5510, [(48, some (.map [⟨i6 1, pt 225 0, 0⟩, ⟨i6 2, pt 350 0, 1⟩, ⟨i6 3, pt 5424 0, 2⟩] 3)),
  (49, some (.cells [i6 5, i6 0, i6 0, .bool false, pt 5424 0, pt 350 0, .map (some 48)] 357 true)),
  (66, some (.map [⟨i6 1, .slice (some ⟨251, 0, none⟩) 256 256, 0⟩, ⟨i6 2, .slice (some ⟨376, 0, none⟩) 256 256, 1⟩, ⟨i6 3, .slice (some ⟨5450, 0, none⟩) 256 256, 2⟩] 3)),
  (68, some (.map [⟨i6 2, .bool true, 2⟩, ⟨i6 1, .bool true, 3⟩, ⟨i6 3, .bool true, 4⟩] 5)),
  (70, some (.cells [i6 1, .map (some 68), .map (some 69), .slice (some ⟨5392, 0, none⟩) 1 1] 214 true)),
  (225, some (.cells [i6 1, i6 0, .bool false, pt 350 0, pt 5424 0] 351 true)),
  (5392, some (.cells [i6 3] 3 false)),
  (5424, some (.cells [i6 3, i6 0, .bool true, pt 225 0, pt 49 1] 351 true)),
  (5450, some (.cells (u8s [1, 0, 40, 0, 3, 0, 0, 0, 189, 203, 162, 90, 3] ++ u8z 5 ++ u8s [1, 0, 0, 0, 255, 255, 255, 255, 1] ++ u8z 4 ++ u8s [2] ++ u8z 8 ++ u8s [1, 0, 0, 0, 4, 0, 0, 0, 255, 255, 255, 255] ++ u8z 204) 5 false)),
  (5509, some (.cells [i6 3, i6 7, .int .i64 (.negSucc 0), i6 3] 262 false))]⟩
theorem m24_54_ok : m24_54.ok (call evT evF k24_54 100000 m24_54.f m24_54.args m24_54.preH) = true := by kernel_rfl
theorem q24_54 : HkOk Tryz.prog (hkMemo m24_54) := hkMemo_ok evT_ok evF_ok k24_54_ok rfl m24_54_ok
noncomputable def k24_59 : Hk := orHk (hkMemo m24_58) (hkLib)
theorem k24_59_ok : HkOk Tryz.prog k24_59 := orHk_ok q24_58 (hkLib_ok)
noncomputable def m24_59 : Mm :=
  ⟨254, [i6 3, .slice (some ⟨5635, 0, none⟩) 256 256], 5636, [(5635, .cells (u8s [1, 0, 40, 0, 3, 0, 0, 0, 189, 203, 162, 90, 3] ++ u8z 5 ++ u8s [1, 0, 0, 0, 255, 255, 255, 255, 1] ++ u8z 4 ++ u8s [2] ++ u8z 8 ++ u8s [1, 0, 0, 0, 4, 0, 0, 0, 255, 255, 255, 255] ++ u8z 204) 5 false)], .tuple #[i6 1, .slice (some ⟨5825, 0, none⟩) 40 40, i6 0], 5866, [(5825, some (.cells (u8s [3] ++ u8z 5 ++ u8s [1, 0, 0, 0, 255, 255, 255, 255, 1] ++ u8z 4 ++ u8s [2] ++ u8z 8 ++ u8s [1, 0, 0, 0, 4, 0, 0, 0, 255, 255, 255, 255]) 5 false))]⟩
theorem m24_59_ok : m24_59.ok (call evT evF k24_59 100000 m24_59.f m24_59.args m24_59.preH) = true := by kernel_rfl
theorem q24_59 : HkOk Tryz.prog (hkMemo m24_59) := hkMemo_ok evT_ok evF_ok k24_59_ok rfl m24_59_ok
noncomputable def k24_70 : Hk := orHk (hkMemo m24_69) (hkLib)
theorem k24_70_ok : HkOk Tryz.prog k24_70 := orHk_ok q24_69 (hkLib_ok)
noncomputable def m24_70 : Mm :=
  ⟨11, [pt 2 0, .string ⟨#[115, 116, 111, 114, 101]⟩, i6 1024, .slice (some ⟨6495, 0, none⟩) 256 256], 7198, [(1, .map [⟨.string ⟨#[111, 114, 105, 103, 105, 110, 97, 108]⟩, pt 32 0, 0⟩, ⟨.string ⟨#[115, 116, 111, 114, 101]⟩, pt 423 0, 1⟩, ⟨.string ⟨#[116, 97, 105, 108]⟩, pt 5545 0, 2⟩] 3),
  (2, .cells [i6 1048576, i6 8, .int .i64 (.negSucc 7), .bool false, .bool false, .map (some 1), .slice (some ⟨7159, 0, none⟩) 5 5] 61 true),
  (32, .cells [.slice (some ⟨34, 0, none⟩) 5 5, .slice (some ⟨35, 0, none⟩) 5 5, .bool true] 130 true),
  (34, .cells (u8s [97, 98, 99, 10, 100]) 5 false),
  (35, .cells (u8s [97, 98, 99, 10, 100]) 5 false),
  (423, .cells [.slice (some ⟨7055, 0, none⟩) 1024 1024, .slice (some ⟨3001, 0, none⟩) 768 768, .bool true] 130 true),
  (5545, .cells [.slice (some ⟨5549, 0, none⟩) 2 2, .slice none 0 0, .bool false] 130 true),
  (5549, .cells (u8s [120, 121]) 5 false),
  (5568, .cells (u8s [120, 121]) 5 false),
  (6495, .cells (u8s [3, 0, 17, 0, 4, 0, 0, 0, 178, 66, 147, 60, 2, 1, 0, 0, 0, 5, 0, 0, 0, 3, 0, 0, 0, 7] ++ u8z 230) 5 false),
  (7055, .cells (u8z 64 ++ u8s [111, 99, 116, 97, 118, 111, 48, 49, 1] ++ u8z 5 ++ u8s [2] ++ u8z 8 ++ u8s [5] ++ u8z 36 ++ u8s [73, 229, 12, 250] ++ u8z 128 ++ u8s [1, 0, 14, 0, 1, 0, 0, 0, 7, 23, 113, 182, 1] ++ u8z 5 ++ u8s [5, 0, 0, 0, 255, 255, 255, 255] ++ u8z 230 ++ u8s [3, 0, 9, 0, 2, 0, 0, 0, 5, 212, 242, 114, 1, 1, 0, 0, 0, 5] ++ u8z 238 ++ u8s [1, 0, 40, 0, 3, 0, 0, 0, 189, 203, 162, 90, 3] ++ u8z 5 ++ u8s [1, 0, 0, 0, 255, 255, 255, 255, 1] ++ u8z 4 ++ u8s [2] ++ u8z 8 ++ u8s [1, 0, 0, 0, 4, 0, 0, 0, 255, 255, 255, 255] ++ u8z 204) 5 false),
  (7159, .cells [.string ⟨#[116, 97, 105, 108]⟩, i6 0, .slice (some ⟨5568, 0, none⟩) 2 2, .string ⟨#[115, 116, 111, 114, 101]⟩, i6 768, .slice (some ⟨7074, 0, none⟩) 64 64, .string ⟨#[115, 116, 111, 114, 101]⟩, i6 832, .slice (some ⟨7102, 0, none⟩) 64 64, .string ⟨#[115, 116, 111, 114, 101]⟩, i6 896, .slice (some ⟨7130, 0, none⟩) 64 64, .string ⟨#[115, 116, 111, 114, 101]⟩, i6 960, .slice (some ⟨7158, 0, none⟩) 64 64] 134 false)], i6 0, 7839, [(2, some (.cells [i6 1048576, i6 9, .int .i64 (.negSucc 8), .bool false, .bool false, .map (some 1), .slice (some ⟨7830, 0, none⟩) 9 9] 61 true)),
  (423, some (.cells [.slice (some ⟨7726, 0, none⟩) 1280 1280, .slice (some ⟨3001, 0, none⟩) 768 768, .bool true] 130 true)),
  (7055, none),
  (7159, none),
  (7726, some (.cells (u8z 64 ++ u8s [111, 99, 116, 97, 118, 111, 48, 49, 1] ++ u8z 5 ++ u8s [2] ++ u8z 8 ++ u8s [5] ++ u8z 36 ++ u8s [73, 229, 12, 250] ++ u8z 128 ++ u8s [1, 0, 14, 0, 1, 0, 0, 0, 7, 23, 113, 182, 1] ++ u8z 5 ++ u8s [5, 0, 0, 0, 255, 255, 255, 255] ++ u8z 230 ++ u8s [3, 0, 9, 0, 2, 0, 0, 0, 5, 212, 242, 114, 1, 1, 0, 0, 0, 5] ++ u8z 238 ++ u8s [1, 0, 40, 0, 3, 0, 0, 0, 189, 203, 162, 90, 3] ++ u8z 5 ++ u8s [1, 0, 0, 0, 255, 255, 255, 255, 1] ++ u8z 4 ++ u8s [2] ++ u8z 8 ++ u8s [1, 0, 0, 0, 4, 0, 0, 0, 255, 255, 255, 255] ++ u8z 204 ++ u8s [3, 0, 17, 0, 4, 0, 0, 0, 178, 66, 147, 60, 2, 1, 0, 0, 0, 5, 0, 0, 0, 3, 0, 0, 0, 7] ++ u8z 230) 5 false)),
  (7745, some (.cells (u8s [3, 0, 17, 0, 4, 0, 0, 0, 178, 66, 147, 60, 2, 1, 0, 0, 0, 5, 0, 0, 0, 3, 0, 0, 0, 7] ++ u8z 38) 5 false)),
  (7773, some (.cells (u8z 64) 5 false)),
  (7801, some (.cells (u8z 64) 5 false)),
  (7829, some (.cells (u8z 64) 5 false)),
  (7830, some (.cells [.string ⟨#[116, 97, 105, 108]⟩, i6 0, .slice (some ⟨5568, 0, none⟩) 2 2, .string ⟨#[115, 116, 111, 114, 101]⟩, i6 768, .slice (some ⟨7074, 0, none⟩) 64 64, .string ⟨#[115, 116, 111, 114, 101]⟩, i6 832, .slice (some ⟨7102, 0, none⟩) 64 64, .string ⟨#[115, 116, 111, 114, 101]⟩, i6 896, .slice (some ⟨7130, 0, none⟩) 64 64, .string ⟨#[115, 116, 111, 114, 101]⟩, i6 960, .slice (some ⟨7158, 0, none⟩) 64 64, .string ⟨#[115, 116, 111, 114, 101]⟩, i6 1024, .slice (some ⟨7745, 0, none⟩) 64 64, .string ⟨#[115, 116, 111, 114, 101]⟩, i6 1088, .slice (some ⟨7773, 0, none⟩) 64 64, .string ⟨#[115, 116, 111, 114, 101]⟩, i6 1152, .slice (some ⟨7801, 0, none⟩) 64 64, .string ⟨#[115, 116, 111, 114, 101]⟩, i6 1216, .slice (some ⟨7829, 0, none⟩) 64 64] 134 false))]⟩
theorem m24_70_ok : m24_70.ok (call evT evF k24_70 100000 m24_70.f m24_70.args m24_70.preH) = true := by kernel_rfl
theorem q24_70 : HkOk Tryz.prog (hkMemo m24_70) := hkMemo_ok evT_ok evF_ok k24_70_ok rfl m24_70_ok
noncomputable def k24_79 : Hk := orHk (hkMemo m24_78) (hkLib)
theorem k24_79_ok : HkOk Tryz.prog k24_79 := orHk_ok q24_78 (hkLib_ok)
noncomputable def m24_79 : Mm :=
  ⟨254, [i6 3, .slice (some ⟨8427, 0, none⟩) 256 256], 8428, [(8427, .cells (u8s [1, 0, 40, 0, 3, 0, 0, 0, 189, 203, 162, 90, 3] ++ u8z 5 ++ u8s [1, 0, 0, 0, 255, 255, 255, 255, 1] ++ u8z 4 ++ u8s [2] ++ u8z 8 ++ u8s [1, 0, 0, 0, 4, 0, 0, 0, 255, 255, 255, 255] ++ u8z 204) 5 false)], .tuple #[i6 1, .slice (some ⟨8617, 0, none⟩) 40 40, i6 0], 8658, [(8617, some (.cells (u8s [3] ++ u8z 5 ++ u8s [1, 0, 0, 0, 255, 255, 255, 255, 1] ++ u8z 4 ++ u8s [2] ++ u8z 8 ++ u8s [1, 0, 0, 0, 4, 0, 0, 0, 255, 255, 255, 255]) 5 false))]⟩
theorem m24_79_ok : m24_79.ok (call evT evF k24_79 100000 m24_79.f m24_79.args m24_79.preH) = true := by kernel_rfl
theorem q24_79 : HkOk Tryz.prog (hkMemo m24_79) := hkMemo_ok evT_ok evF_ok k24_79_ok rfl m24_79_ok
noncomputable def k24_86 : Hk := orHk (hkMemo m24_83) (orHk (hkMemo m24_84) (orHk (hkMemo m24_85) (hkLib)))
theorem k24_86_ok : HkOk Tryz.prog k24_86 := orHk_ok q24_83 (orHk_ok q24_84 (orHk_ok q24_85 (hkLib_ok)))
noncomputable def m24_86 : Mm :=
  ⟨205, [pt 73 0, .agg #[i6 2, i6 4, i6 1, i6 2, i6 5], .slice (some ⟨6399, 0, none⟩) 2 2, .slice (some ⟨9126, 0, none⟩) 2 2], 9175, [(1, .map [⟨.string ⟨#[111, 114, 105, 103, 105, 110, 97, 108]⟩, pt 32 0, 0⟩, ⟨.string ⟨#[115, 116, 111, 114, 101]⟩, pt 423 0, 1⟩, ⟨.string ⟨#[116, 97, 105, 108]⟩, pt 5545 0, 2⟩] 3),
  (2, .cells [i6 1048576, i6 11, .int .i64 (.negSucc 10), .bool false, .bool false, .map (some 1), .slice none 0 0] 61 true),
  (32, .cells [.slice (some ⟨34, 0, none⟩) 5 5, .slice (some ⟨35, 0, none⟩) 5 5, .bool true] 130 true),
  (34, .cells (u8s [97, 98, 99, 10, 100]) 5 false),
  (35, .cells (u8s [97, 98, 99, 10, 100]) 5 false),
  (48, .map [⟨i6 1, pt 225 0, 0⟩, ⟨i6 2, pt 350 0, 1⟩, ⟨i6 3, pt 5424 0, 2⟩, ⟨i6 4, pt 6469 0, 3⟩] 4),
  (49, .cells [i6 5, i6 0, i6 0, .bool false, pt 5424 0, pt 350 0, .map (some 48)] 357 true),
  (66, .map [⟨i6 1, .slice (some ⟨251, 0, none⟩) 256 256, 0⟩, ⟨i6 2, .slice (some ⟨376, 0, none⟩) 256 256, 1⟩, ⟨i6 3, .slice (some ⟨5450, 0, none⟩) 256 256, 2⟩, ⟨i6 4, .slice (some ⟨6495, 0, none⟩) 256 256, 3⟩] 4),
  (67, .cells [pt 49 0, pt 2 0, .string ⟨#[115, 116, 111, 114, 101]⟩, i6 5, .map (some 66), i6 0] 249 true),
  (68, .map [⟨i6 2, .bool true, 2⟩, ⟨i6 1, .bool true, 3⟩, ⟨i6 3, .bool true, 4⟩, ⟨i6 4, .bool true, 5⟩] 6),
  (69, .map [] 0),
  (70, .cells [i6 1, .map (some 68), .map (some 69), .slice (some ⟨6437, 0, none⟩) 2 2] 214 true),
  (71, .cells [pt 67 0, pt 70 0] 257 true),
  (73, .cells [pt 67 0, pt 70 0, pt 71 0, pt 2 0, pt 83 0, pt 3037 0, .slice (some ⟨3048, 0, none⟩) 1 1, i6 0, i6 1, i6 2, i6 0, i6 0, i6 5, i6 0, i6 0, i6 0, i6 0, i6 0, .slice (some ⟨2920, 0, none⟩) 1 1] 85 true),
  (83, .cells [pt 2 0, i6 2] 216 true),
  (225, .cells [i6 1, i6 0, .bool false, pt 6469 0, pt 5424 0] 351 true),
  (350, .cells [i6 2, i6 0, .bool false, pt 49 1, pt 6469 0] 351 true),
  (423, .cells [.slice (some ⟨7726, 0, none⟩) 1280 1280, .slice (some ⟨7850, 0, none⟩) 1280 1280, .bool true] 130 true),
  (2920, .cells [i6 1] 3 false),
  (3016, .map [] 0),
  (3017, .cells [pt 2 0, .string ⟨#[111, 114, 105, 103, 105, 110, 97, 108]⟩, i6 5, i6 0, .map (some 3016)] 372 true),
  (3037, .cells [pt 71 0, pt 3017 0, pt 83 0] 233 true),
  (3048, .cells [i6 1, i6 5] 119 false),
  (5424, .cells [i6 3, i6 0, .bool false, pt 225 0, pt 49 1] 351 true),
  (5545, .cells [.slice (some ⟨5549, 0, none⟩) 2 2, .slice (some ⟨7863, 0, none⟩) 2 2, .bool true] 130 true),
  (5549, .cells (u8s [120, 121]) 5 false),
  (6399, .cells [i6 1, i6 5, i6 3, i6 7] 119 false),
  (6437, .cells [i6 3, i6 4] 3 false),
  (6469, .cells [i6 4, i6 0, .bool false, pt 350 0, pt 225 0] 351 true),
  (7726, .cells (u8z 64 ++ u8s [111, 99, 116, 97, 118, 111, 48, 49, 1] ++ u8z 5 ++ u8s [2] ++ u8z 8 ++ u8s [5] ++ u8z 36 ++ u8s [73, 229, 12, 250] ++ u8z 128 ++ u8s [1, 0, 14, 0, 1, 0, 0, 0, 7, 23, 113, 182, 1] ++ u8z 5 ++ u8s [5, 0, 0, 0, 255, 255, 255, 255] ++ u8z 230 ++ u8s [3, 0, 9, 0, 2, 0, 0, 0, 5, 212, 242, 114, 1, 1, 0, 0, 0, 5] ++ u8z 238 ++ u8s [1, 0, 40, 0, 3, 0, 0, 0, 189, 203, 162, 90, 3] ++ u8z 5 ++ u8s [1, 0, 0, 0, 255, 255, 255, 255, 1] ++ u8z 4 ++ u8s [2] ++ u8z 8 ++ u8s [1, 0, 0, 0, 4, 0, 0, 0, 255, 255, 255, 255] ++ u8z 204 ++ u8s [3, 0, 17, 0, 4, 0, 0, 0, 178, 66, 147, 60, 2, 1, 0, 0, 0, 5, 0, 0, 0, 3, 0, 0, 0, 7] ++ u8z 230) 5 false),
  (7863, .cells (u8s [120, 121]) 5 false),
  (9126, .cells [i6 1, i6 3] 3 false)], i6 0, 9307, [(2, some (.cells [i6 1048576, i6 13, .int .i64 (.negSucc 12), .bool false, .bool false, .map (some 1), .slice none 0 0] 61 true)),
  (48, some (.map [⟨i6 1, pt 225 0, 0⟩, ⟨i6 3, pt 5424 0, 2⟩, ⟨i6 4, pt 6469 0, 3⟩] 4)),
  (49, some (.cells [i6 5, i6 0, i6 0, .bool false, pt 5424 0, pt 6469 0, .map (some 48)] 357 true)),
  (66, some (.map [⟨i6 1, .slice (some ⟨251, 0, none⟩) 256 256, 0⟩, ⟨i6 3, .slice (some ⟨5450, 0, none⟩) 256 256, 2⟩, ⟨i6 4, .slice (some ⟨6495, 0, none⟩) 256 256, 3⟩] 4)),
  (68, some (.map [⟨i6 4, .bool true, 6⟩, ⟨i6 1, .bool true, 7⟩, ⟨i6 3, .bool true, 8⟩] 9)),
  (70, some (.cells [i6 1, .map (some 68), .map (some 69), .slice none 0 0] 214 true)),
  (73, some (.cells [pt 67 0, pt 70 0, pt 71 0, pt 2 0, pt 83 0, pt 3037 0, .slice (some ⟨9268, 0, none⟩) 2 2, i6 1, i6 2, i6 4, i6 1, i6 2, i6 5, i6 0, i6 0, i6 0, i6 0, i6 0, .slice (some ⟨9126, 0, none⟩) 2 2] 85 true)),
  (423, some (.cells [.slice (some ⟨7726, 0, none⟩) 1280 1280, .slice (some ⟨9255, 0, none⟩) 1280 1280, .bool true] 130 true)),
  (6469, some (.cells [i6 4, i6 0, .bool false, pt 49 1, pt 225 0] 351 true)),
  (7726, some (.cells (u8s [111, 99, 116, 97, 118, 111, 48, 49, 2] ++ u8z 5 ++ u8s [4, 0, 0, 0, 1, 2, 0, 0, 0, 5] ++ u8z 36 ++ u8s [152, 29, 250, 49, 111, 99, 116, 97, 118, 111, 48, 49, 1] ++ u8z 5 ++ u8s [2] ++ u8z 8 ++ u8s [5] ++ u8z 36 ++ u8s [73, 229, 12, 250] ++ u8z 128 ++ u8s [1, 0, 14, 0, 1, 0, 0, 0, 7, 23, 113, 182, 1] ++ u8z 5 ++ u8s [5, 0, 0, 0, 255, 255, 255, 255] ++ u8z 230 ++ u8s [3, 0, 9, 0, 2, 0, 0, 0, 5, 212, 242, 114, 1, 1, 0, 0, 0, 5] ++ u8z 238 ++ u8s [1, 0, 40, 0, 3, 0, 0, 0, 189, 203, 162, 90, 3] ++ u8z 5 ++ u8s [1, 0, 0, 0, 255, 255, 255, 255, 1] ++ u8z 4 ++ u8s [2] ++ u8z 8 ++ u8s [1, 0, 0, 0, 4, 0, 0, 0, 255, 255, 255, 255] ++ u8z 204 ++ u8s [3, 0, 17, 0, 4, 0, 0, 0, 178, 66, 147, 60, 2, 1, 0, 0, 0, 5, 0, 0, 0, 3, 0, 0, 0, 7] ++ u8z 230) 5 false)),
  (9255, some (.cells (u8s [111, 99, 116, 97, 118, 111, 48, 49, 2] ++ u8z 5 ++ u8s [4, 0, 0, 0, 1, 2, 0, 0, 0, 5] ++ u8z 36 ++ u8s [152, 29, 250, 49, 111, 99, 116, 97, 118, 111, 48, 49, 1] ++ u8z 5 ++ u8s [2] ++ u8z 8 ++ u8s [5] ++ u8z 36 ++ u8s [73, 229, 12, 250] ++ u8z 128 ++ u8s [1, 0, 14, 0, 1, 0, 0, 0, 7, 23, 113, 182, 1] ++ u8z 5 ++ u8s [5, 0, 0, 0, 255, 255, 255, 255] ++ u8z 230 ++ u8s [3, 0, 9, 0, 2, 0, 0, 0, 5, 212, 242, 114, 1, 1, 0, 0, 0, 5] ++ u8z 238 ++ u8s [1, 0, 40, 0, 3, 0, 0, 0, 189, 203, 162, 90, 3] ++ u8z 5 ++ u8s [1, 0, 0, 0, 255, 255, 255, 255, 1] ++ u8z 4 ++ u8s [2] ++ u8z 8 ++ u8s [1, 0, 0, 0, 4, 0, 0, 0, 255, 255, 255, 255] ++ u8z 204 ++ u8s [3, 0, 17, 0, 4, 0, 0, 0, 178, 66, 147, 60, 2, 1, 0, 0, 0, 5, 0, 0, 0, 3, 0, 0, 0, 7] ++ u8z 230) 5 false)),
  (9268, some (.cells [i6 1, i6 5, i6 3, i6 7] 119 false))]⟩
theorem m24_86_ok : m24_86.ok (call evT evF k24_86 100000 m24_86.f m24_86.args m24_86.preH) = true := by kernel_rfl
theorem q24_86 : HkOk Tryz.prog (hkMemo m24_86) := hkMemo_ok evT_ok evF_ok k24_86_ok rfl m24_86_ok
noncomputable def k24_93 : Hk := orHk (hkMemo m24_90) (orHk (hkMemo m24_91) (orHk (hkMemo m24_92) (hkLib)))
theorem k24_93_ok : HkOk Tryz.prog k24_93 := orHk_ok q24_90 (orHk_ok q24_91 (orHk_ok q24_92 (hkLib_ok)))
noncomputable def m24_93 : Mm :=
  ⟨205, [pt 73 0, .agg #[i6 3, i6 4, i6 0, i6 2, i6 5], .slice (some ⟨9358, 0, none⟩) 2 2, .slice (some ⟨9126, 0, none⟩) 2 2], 9380, [(1, .map [⟨.string ⟨#[111, 114, 105, 103, 105, 110, 97, 108]⟩, pt 32 0, 0⟩, ⟨.string ⟨#[115, 116, 111, 114, 101]⟩, pt 423 0, 1⟩, ⟨.string ⟨#[116, 97, 105, 108]⟩, pt 5545 0, 2⟩] 3),
  (2, .cells [i6 1048576, i6 13, .int .i64 (.negSucc 12), .bool false, .bool false, .map (some 1), .slice none 0 0] 61 true),
  (32, .cells [.slice (some ⟨34, 0, none⟩) 5 5, .slice (some ⟨35, 0, none⟩) 5 5, .bool true] 130 true),
  (34, .cells (u8s [97, 98, 99, 10, 100]) 5 false),
  (35, .cells (u8s [97, 98, 99, 10, 100]) 5 false),
  (48, .map [⟨i6 1, pt 225 0, 0⟩, ⟨i6 3, pt 5424 0, 2⟩, ⟨i6 4, pt 6469 0, 3⟩] 4),
  (49, .cells [i6 5, i6 0, i6 0, .bool false, pt 5424 0, pt 6469 0, .map (some 48)] 357 true),
  (66, .map [⟨i6 1, .slice (some ⟨251, 0, none⟩) 256 256, 0⟩, ⟨i6 3, .slice (some ⟨5450, 0, none⟩) 256 256, 2⟩, ⟨i6 4, .slice (some ⟨6495, 0, none⟩) 256 256, 3⟩] 4),
  (67, .cells [pt 49 0, pt 2 0, .string ⟨#[115, 116, 111, 114, 101]⟩, i6 5, .map (some 66), i6 0] 249 true),
  (68, .map [⟨i6 4, .bool true, 6⟩, ⟨i6 1, .bool true, 7⟩, ⟨i6 3, .bool true, 8⟩] 9),
  (69, .map [] 0),
  (70, .cells [i6 1, .map (some 68), .map (some 69), .slice none 0 0] 214 true),
  (71, .cells [pt 67 0, pt 70 0] 257 true),
  (73, .cells [pt 67 0, pt 70 0, pt 71 0, pt 2 0, pt 83 0, pt 3037 0, .slice (some ⟨9268, 0, none⟩) 2 2, i6 1, i6 2, i6 4, i6 1, i6 2, i6 5, i6 0, i6 0, i6 0, i6 0, i6 0, .slice (some ⟨9126, 0, none⟩) 2 2] 85 true),
  (83, .cells [pt 2 0, i6 2] 216 true),
  (225, .cells [i6 1, i6 0, .bool false, pt 6469 0, pt 5424 0] 351 true),
  (423, .cells [.slice (some ⟨7726, 0, none⟩) 1280 1280, .slice (some ⟨9255, 0, none⟩) 1280 1280, .bool true] 130 true),
  (3016, .map [] 0),
  (3017, .cells [pt 2 0, .string ⟨#[111, 114, 105, 103, 105, 110, 97, 108]⟩, i6 5, i6 0, .map (some 3016)] 372 true),
  (3037, .cells [pt 71 0, pt 3017 0, pt 83 0] 233 true),
  (5424, .cells [i6 3, i6 0, .bool false, pt 225 0, pt 49 1] 351 true),
  (5545, .cells [.slice (some ⟨5549, 0, none⟩) 2 2, .slice (some ⟨7863, 0, none⟩) 2 2, .bool true] 130 true),
  (5549, .cells (u8s [120, 121]) 5 false),
  (6469, .cells [i6 4, i6 0, .bool false, pt 49 1, pt 225 0] 351 true),
  (7726, .cells (u8s [111, 99, 116, 97, 118, 111, 48, 49, 2] ++ u8z 5 ++ u8s [4, 0, 0, 0, 1, 2, 0, 0, 0, 5] ++ u8z 36 ++ u8s [152, 29, 250, 49, 111, 99, 116, 97, 118, 111, 48, 49, 1] ++ u8z 5 ++ u8s [2] ++ u8z 8 ++ u8s [5] ++ u8z 36 ++ u8s [73, 229, 12, 250] ++ u8z 128 ++ u8s [1, 0, 14, 0, 1, 0, 0, 0, 7, 23, 113, 182, 1] ++ u8z 5 ++ u8s [5, 0, 0, 0, 255, 255, 255, 255] ++ u8z 230 ++ u8s [3, 0, 9, 0, 2, 0, 0, 0, 5, 212, 242, 114, 1, 1, 0, 0, 0, 5] ++ u8z 238 ++ u8s [1, 0, 40, 0, 3, 0, 0, 0, 189, 203, 162, 90, 3] ++ u8z 5 ++ u8s [1, 0, 0, 0, 255, 255, 255, 255, 1] ++ u8z 4 ++ u8s [2] ++ u8z 8 ++ u8s [1, 0, 0, 0, 4, 0, 0, 0, 255, 255, 255, 255] ++ u8z 204 ++ u8s [3, 0, 17, 0, 4, 0, 0, 0, 178, 66, 147, 60, 2, 1, 0, 0, 0, 5, 0, 0, 0, 3, 0, 0, 0, 7] ++ u8z 230) 5 false),
  (7863, .cells (u8s [120, 121]) 5 false),
  (9126, .cells [i6 1, i6 3] 3 false),
  (9268, .cells [i6 1, i6 5, i6 3, i6 7] 119 false),
  (9358, .cells [i6 1, i6 5, i6 3, i6 7] 119 false)], i6 0, 9491, [(2, some (.cells [i6 1048576, i6 15, .int .i64 (.negSucc 14), .bool false, .bool false, .map (some 1), .slice none 0 0] 61 true)),
  (68, some (.map [⟨i6 4, .bool true, 9⟩, ⟨i6 1, .bool true, 10⟩, ⟨i6 3, .bool true, 11⟩] 12)),
  (73, some (.cells [pt 67 0, pt 70 0, pt 71 0, pt 2 0, pt 83 0, pt 3037 0, .slice (some ⟨9473, 0, none⟩) 2 2, i6 0, i6 3, i6 4, i6 0, i6 2, i6 5, i6 0, i6 0, i6 0, i6 0, i6 0, .slice (some ⟨9126, 0, none⟩) 2 2] 85 true)),
  (423, some (.cells [.slice (some ⟨7726, 0, none⟩) 1280 1280, .slice (some ⟨9460, 0, none⟩) 1280 1280, .bool true] 130 true)),
  (7726, some (.cells (u8s [111, 99, 116, 97, 118, 111, 48, 49, 2] ++ u8z 5 ++ u8s [4, 0, 0, 0, 1, 2, 0, 0, 0, 5] ++ u8z 36 ++ u8s [152, 29, 250, 49, 111, 99, 116, 97, 118, 111, 48, 49, 3] ++ u8z 5 ++ u8s [4] ++ u8z 4 ++ u8s [2, 0, 0, 0, 5] ++ u8z 36 ++ u8s [123, 101, 15, 249] ++ u8z 128 ++ u8s [1, 0, 14, 0, 1, 0, 0, 0, 7, 23, 113, 182, 1] ++ u8z 5 ++ u8s [5, 0, 0, 0, 255, 255, 255, 255] ++ u8z 230 ++ u8s [3, 0, 9, 0, 2, 0, 0, 0, 5, 212, 242, 114, 1, 1, 0, 0, 0, 5] ++ u8z 238 ++ u8s [1, 0, 40, 0, 3, 0, 0, 0, 189, 203, 162, 90, 3] ++ u8z 5 ++ u8s [1, 0, 0, 0, 255, 255, 255, 255, 1] ++ u8z 4 ++ u8s [2] ++ u8z 8 ++ u8s [1, 0, 0, 0, 4, 0, 0, 0, 255, 255, 255, 255] ++ u8z 204 ++ u8s [3, 0, 17, 0, 4, 0, 0, 0, 178, 66, 147, 60, 2, 1, 0, 0, 0, 5, 0, 0, 0, 3, 0, 0, 0, 7] ++ u8z 230) 5 false)),
  (9460, some (.cells (u8s [111, 99, 116, 97, 118, 111, 48, 49, 2] ++ u8z 5 ++ u8s [4, 0, 0, 0, 1, 2, 0, 0, 0, 5] ++ u8z 36 ++ u8s [152, 29, 250, 49, 111, 99, 116, 97, 118, 111, 48, 49, 3] ++ u8z 5 ++ u8s [4] ++ u8z 4 ++ u8s [2, 0, 0, 0, 5] ++ u8z 36 ++ u8s [123, 101, 15, 249] ++ u8z 128 ++ u8s [1, 0, 14, 0, 1, 0, 0, 0, 7, 23, 113, 182, 1] ++ u8z 5 ++ u8s [5, 0, 0, 0, 255, 255, 255, 255] ++ u8z 230 ++ u8s [3, 0, 9, 0, 2, 0, 0, 0, 5, 212, 242, 114, 1, 1, 0, 0, 0, 5] ++ u8z 238 ++ u8s [1, 0, 40, 0, 3, 0, 0, 0, 189, 203, 162, 90, 3] ++ u8z 5 ++ u8s [1, 0, 0, 0, 255, 255, 255, 255, 1] ++ u8z 4 ++ u8s [2] ++ u8z 8 ++ u8s [1, 0, 0, 0, 4, 0, 0, 0, 255, 255, 255, 255] ++ u8z 204 ++ u8s [3, 0, 17, 0, 4, 0, 0, 0, 178, 66, 147, 60, 2, 1, 0, 0, 0, 5, 0, 0, 0, 3, 0, 0, 0, 7] ++ u8z 230) 5 false)),
  (9473, some (.cells [i6 1, i6 5, i6 3, i6 7] 119 false))]⟩
theorem m24_93_ok : m24_93.ok (call evT evF k24_93 100000 m24_93.f m24_93.args m24_93.preH) = true := by kernel_rfl
theorem q24_93 : HkOk Tryz.prog (hkMemo m24_93) := hkMemo_ok evT_ok evF_ok k24_93_ok rfl m24_93_ok
noncomputable def k24_102 : Hk := orHk (hkMemo m24_101) (hkLib)
theorem k24_102_ok : HkOk Tryz.prog k24_102 := orHk_ok q24_101 (hkLib_ok)
noncomputable def m24_102 : Mm :=
  ⟨254, [i6 1, .slice (some ⟨10090, 0, none⟩) 256 256], 10091, [(10090, .cells (u8s [1, 0, 14, 0, 1, 0, 0, 0, 7, 23, 113, 182, 1] ++ u8z 5 ++ u8s [5, 0, 0, 0, 255, 255, 255, 255] ++ u8z 230) 5 false)], .tuple #[i6 1, .slice (some ⟨10280, 0, none⟩) 14 14, i6 0], 10321, [(10280, some (.cells (u8s [1] ++ u8z 5 ++ u8s [5, 0, 0, 0, 255, 255, 255, 255]) 5 false))]⟩
theorem m24_102_ok : m24_102.ok (call evT evF k24_102 100000 m24_102.f m24_102.args m24_102.preH) = true := by kernel_rfl
theorem q24_102 : HkOk Tryz.prog (hkMemo m24_102) := hkMemo_ok evT_ok evF_ok k24_102_ok rfl m24_102_ok
noncomputable def k24_117 : Hk := orHk (hkMemo m24_116) (hkLib)
theorem k24_117_ok : HkOk Tryz.prog k24_117 := orHk_ok q24_116 (hkLib_ok)
noncomputable def m24_117 : Mm :=
  ⟨254, [i6 3, .slice (some ⟨11311, 0, none⟩) 256 256], 11312, [(11311, .cells (u8s [1, 0, 40, 0, 3, 0, 0, 0, 189, 203, 162, 90, 3] ++ u8z 5 ++ u8s [1, 0, 0, 0, 255, 255, 255, 255, 1] ++ u8z 4 ++ u8s [2] ++ u8z 8 ++ u8s [1, 0, 0, 0, 4, 0, 0, 0, 255, 255, 255, 255] ++ u8z 204) 5 false)], .tuple #[i6 1, .slice (some ⟨11501, 0, none⟩) 40 40, i6 0], 11542, [(11501, some (.cells (u8s [3] ++ u8z 5 ++ u8s [1, 0, 0, 0, 255, 255, 255, 255, 1] ++ u8z 4 ++ u8s [2] ++ u8z 8 ++ u8s [1, 0, 0, 0, 4, 0, 0, 0, 255, 255, 255, 255]) 5 false))]⟩
theorem m24_117_ok : m24_117.ok (call evT evF k24_117 100000 m24_117.f m24_117.args m24_117.preH) = true := by kernel_rfl
theorem q24_117 : HkOk Tryz.prog (hkMemo m24_117) := hkMemo_ok evT_ok evF_ok k24_117_ok rfl m24_117_ok
noncomputable def k24_141 : Hk := orHk (hkMemo m24_138) (orHk (hkMemo m24_139) (orHk (hkMemo m24_140) (hkLib)))
theorem k24_141_ok : HkOk Tryz.prog k24_141 := orHk_ok q24_138 (orHk_ok q24_139 (orHk_ok q24_140 (hkLib_ok)))
noncomputable def m24_141 : Mm :=
  ⟨301, [pt 71 0, .agg #[.bool true, .slice (some ⟨13897, 0, none⟩) 1 1, .slice none 0 0]], 13903, [(1, .map [⟨.string ⟨#[111, 114, 105, 103, 105, 110, 97, 108]⟩, pt 32 0, 0⟩, ⟨.string ⟨#[115, 116, 111, 114, 101]⟩, pt 423 0, 1⟩, ⟨.string ⟨#[116, 97, 105, 108]⟩, pt 5545 0, 2⟩] 3),
  (2, .cells [i6 1048576, i6 17, .int .i64 (.negSucc 16), .bool false, .bool false, .map (some 1), .slice none 0 0] 61 true),
  (32, .cells [.slice (some ⟨34, 0, none⟩) 5 5, .slice (some ⟨35, 0, none⟩) 5 5, .bool true] 130 true),
  (34, .cells (u8s [97, 98, 99, 10, 100]) 5 false),
  (35, .cells (u8s [97, 98, 99, 10, 100]) 5 false),
  (48, .map [⟨i6 1, pt 225 0, 0⟩, ⟨i6 3, pt 5424 0, 2⟩, ⟨i6 4, pt 6469 0, 3⟩, ⟨i6 2, pt 13396 0, 4⟩] 5),
  (49, .cells [i6 5, i6 0, i6 0, .bool false, pt 13396 0, pt 6469 0, .map (some 48)] 357 true),
  (66, .map [⟨i6 1, .slice (some ⟨251, 0, none⟩) 256 256, 0⟩, ⟨i6 3, .slice (some ⟨5450, 0, none⟩) 256 256, 2⟩, ⟨i6 4, .slice (some ⟨6495, 0, none⟩) 256 256, 3⟩, ⟨i6 2, .slice (some ⟨13422, 0, none⟩) 256 256, 4⟩] 5),
  (67, .cells [pt 49 0, pt 2 0, .string ⟨#[115, 116, 111, 114, 101]⟩, i6 5, .map (some 66), i6 0] 249 true),
  (68, .map [⟨i6 4, .bool true, 12⟩, ⟨i6 1, .bool true, 13⟩, ⟨i6 3, .bool true, 14⟩, ⟨i6 2, .bool true, 15⟩] 16),
  (69, .map [] 0),
  (70, .cells [i6 1, .map (some 68), .map (some 69), .slice (some ⟨13364, 0, none⟩) 1 1] 214 true),
  (71, .cells [pt 67 0, pt 70 0] 257 true),
  (225, .cells [i6 1, i6 0, .bool false, pt 6469 0, pt 5424 0] 351 true),
  (423, .cells [.slice (some ⟨7726, 0, none⟩) 1280 1280, .slice (some ⟨10654, 0, none⟩) 1280 1280, .bool true] 130 true),
  (5424, .cells [i6 3, i6 0, .bool false, pt 225 0, pt 13396 0] 351 true),
  (5545, .cells [.slice (some ⟨5549, 0, none⟩) 2 2, .slice (some ⟨7863, 0, none⟩) 2 2, .bool true] 130 true),
  (5549, .cells (u8s [120, 121]) 5 false),
  (6469, .cells [i6 4, i6 0, .bool false, pt 49 1, pt 225 0] 351 true),
  (7863, .cells (u8s [120, 121]) 5 false),
  (13364, .cells [i6 2] 3 false),
  (13396, .cells [i6 2, i6 0, .bool true, pt 5424 0, pt 49 1] 351 true),
  (13897, .cells [i6 0, i6 0, i6 7, .int .i64 (.negSucc 0)] 147 false)], .agg #[i6 5, i6 7, .int .i64 (.negSucc 0), i6 1], 14042, [(48, some (.map [⟨i6 1, pt 225 0, 0⟩, ⟨i6 3, pt 5424 0, 2⟩, ⟨i6 4, pt 6469 0, 3⟩, ⟨i6 2, pt 13396 0, 4⟩, ⟨i6 5, pt 13982 0, 5⟩] 6)),
  (49, some (.cells [i6 5, i6 0, i6 0, .bool false, pt 13982 0, pt 6469 0, .map (some 48)] 357 true)),
  (66, some (.map [⟨i6 1, .slice (some ⟨251, 0, none⟩) 256 256, 0⟩, ⟨i6 3, .slice (some ⟨5450, 0, none⟩) 256 256, 2⟩, ⟨i6 4, .slice (some ⟨6495, 0, none⟩) 256 256, 3⟩, ⟨i6 2, .slice (some ⟨13422, 0, none⟩) 256 256, 4⟩, ⟨i6 5, .slice (some ⟨14008, 0, none⟩) 256 256, 5⟩] 6)),
  (68, some (.map [⟨i6 4, .bool true, 12⟩, ⟨i6 1, .bool true, 13⟩, ⟨i6 3, .bool true, 14⟩, ⟨i6 2, .bool true, 15⟩, ⟨i6 5, .bool true, 16⟩] 17)),
  (70, some (.cells [i6 1, .map (some 68), .map (some 69), .slice (some ⟨13950, 0, none⟩) 2 2] 214 true)),
  (13364, none),
  (13396, some (.cells [i6 2, i6 0, .bool true, pt 5424 0, pt 13982 0] 351 true)),
  (13950, some (.cells [i6 2, i6 5] 3 false)),
  (13982, some (.cells [i6 5, i6 0, .bool true, pt 13396 0, pt 49 1] 351 true)),
  (14008, some (.cells (u8s [1, 0, 14, 0, 5, 0, 0, 0, 2, 120, 233, 144, 1] ++ u8z 5 ++ u8s [7, 0, 0, 0, 255, 255, 255, 255] ++ u8z 230) 5 false))]⟩
theorem m24_141_ok : m24_141.ok (call evT evF k24_141 100000 m24_141.f m24_141.args m24_141.preH) = true := by kernel_rfl
theorem q24_141 : HkOk Tryz.prog (hkMemo m24_141) := hkMemo_ok evT_ok evF_ok k24_141_ok rfl m24_141_ok
noncomputable def k24_146 : Hk := orHk (hkMemo m24_144) (orHk (hkMemo m24_145) (hkLib))
theorem k24_146_ok : HkOk Tryz.prog k24_146 := orHk_ok q24_144 (orHk_ok q24_145 (hkLib_ok))
noncomputable def m24_146 : Mm :=
  ⟨220, [.slice (some ⟨12767, 0, none⟩) 3 3, i6 7], 14065, [(12767, .cells [i6 0, i6 0, i6 1, i6 1, i6 0, i6 2, i6 0, i6 1, i6 4] 145 false)], .tuple #[.slice (some ⟨14227, 0, none⟩) 3 3, .slice none 0 0, i6 0], 14262, [(14227, some (.cells [i6 0, i6 0, i6 1, i6 1, i6 0, i6 2, i6 0, i6 1, i6 4] 145 false))]⟩
theorem m24_146_ok : m24_146.ok (call evT evF k24_146 100000 m24_146.f m24_146.args m24_146.preH) = true := by kernel_rfl
theorem q24_146 : HkOk Tryz.prog (hkMemo m24_146) := hkMemo_ok evT_ok evF_ok k24_146_ok rfl m24_146_ok
noncomputable def k24_155 : Hk := orHk (hkMemo m24_154) (hkLib)
theorem k24_155_ok : HkOk Tryz.prog k24_155 := orHk_ok q24_154 (hkLib_ok)
noncomputable def m24_155 : Mm :=
  ⟨249, [pt 67 0, i6 2], 14632, [(1, .map [⟨.string ⟨#[111, 114, 105, 103, 105, 110, 97, 108]⟩, pt 32 0, 0⟩, ⟨.string ⟨#[115, 116, 111, 114, 101]⟩, pt 423 0, 1⟩, ⟨.string ⟨#[116, 97, 105, 108]⟩, pt 5545 0, 2⟩] 3),
  (2, .cells [i6 1048576, i6 17, .int .i64 (.negSucc 16), .bool false, .bool false, .map (some 1), .slice none 0 0] 61 true),
  (32, .cells [.slice (some ⟨34, 0, none⟩) 5 5, .slice (some ⟨35, 0, none⟩) 5 5, .bool true] 130 true),
  (34, .cells (u8s [97, 98, 99, 10, 100]) 5 false),
  (35, .cells (u8s [97, 98, 99, 10, 100]) 5 false),
  (48, .map [⟨i6 1, pt 225 0, 0⟩, ⟨i6 3, pt 5424 0, 2⟩, ⟨i6 2, pt 13396 0, 4⟩, ⟨i6 5, pt 13982 0, 5⟩, ⟨i6 6, pt 14604 0, 6⟩] 7),
  (49, .cells [i6 5, i6 0, i6 0, .bool false, pt 14604 0, pt 225 0, .map (some 48)] 357 true),
  (66, .map [⟨i6 1, .slice (some ⟨251, 0, none⟩) 256 256, 0⟩, ⟨i6 3, .slice (some ⟨5450, 0, none⟩) 256 256, 2⟩, ⟨i6 2, .slice (some ⟨13422, 0, none⟩) 256 256, 4⟩, ⟨i6 5, .slice (some ⟨14008, 0, none⟩) 256 256, 5⟩, ⟨i6 6, .slice (some ⟨14630, 0, none⟩) 256 256, 6⟩] 7),
  (67, .cells [pt 49 0, pt 2 0, .string ⟨#[115, 116, 111, 114, 101]⟩, i6 5, .map (some 66), i6 0] 249 true),
  (225, .cells [i6 1, i6 0, .bool false, pt 49 1, pt 5424 0] 351 true),
  (423, .cells [.slice (some ⟨7726, 0, none⟩) 1280 1280, .slice (some ⟨10654, 0, none⟩) 1280 1280, .bool true] 130 true),
  (5424, .cells [i6 3, i6 0, .bool false, pt 225 0, pt 13396 0] 351 true),
  (5545, .cells [.slice (some ⟨5549, 0, none⟩) 2 2, .slice (some ⟨7863, 0, none⟩) 2 2, .bool true] 130 true),
  (5549, .cells (u8s [120, 121]) 5 false),
  (7726, .cells (u8s [111, 99, 116, 97, 118, 111, 48, 49, 4] ++ u8z 5 ++ u8s [4, 0, 0, 0, 1, 2, 0, 0, 0, 5] ++ u8z 36 ++ u8s [247, 19, 33, 158, 111, 99, 116, 97, 118, 111, 48, 49, 3] ++ u8z 5 ++ u8s [4] ++ u8z 4 ++ u8s [2, 0, 0, 0, 5] ++ u8z 36 ++ u8s [123, 101, 15, 249] ++ u8z 128 ++ u8s [1, 0, 14, 0, 1, 0, 0, 0, 7, 23, 113, 182, 1] ++ u8z 5 ++ u8s [5, 0, 0, 0, 255, 255, 255, 255] ++ u8z 230 ++ u8s [3, 0, 9, 0, 2, 0, 0, 0, 5, 212, 242, 114, 1, 1, 0, 0, 0, 5] ++ u8z 238 ++ u8s [1, 0, 40, 0, 3, 0, 0, 0, 189, 203, 162, 90, 3] ++ u8z 5 ++ u8s [1, 0, 0, 0, 255, 255, 255, 255, 1] ++ u8z 4 ++ u8s [2] ++ u8z 8 ++ u8s [1, 0, 0, 0, 4, 0, 0, 0, 255, 255, 255, 255] ++ u8z 204 ++ u8s [3, 0, 17, 0, 4, 0, 0, 0, 178, 66, 147, 60, 2, 1, 0, 0, 0, 5, 0, 0, 0, 3, 0, 0, 0, 7] ++ u8z 230) 5 false),
  (7863, .cells (u8s [120, 121]) 5 false),
  (13396, .cells [i6 2, i6 0, .bool true, pt 5424 0, pt 13982 0] 351 true),
  (13422, .cells (u8s [1, 0, 27, 0, 2, 0, 0, 0, 69, 219, 48, 151, 2] ++ u8z 5 ++ u8s [1, 0, 0, 0, 255, 255, 255, 255, 0, 3, 0, 0, 0, 4, 0, 0, 0, 255, 255, 255, 255] ++ u8z 217) 5 false),
  (13982, .cells [i6 5, i6 0, .bool true, pt 13396 0, pt 14604 0] 351 true),
  (14604, .cells [i6 6, i6 0, .bool true, pt 13982 0, pt 49 1] 351 true)], i6 0, 14790, [(2, some (.cells [i6 1048576, i6 18, .int .i64 (.negSucc 17), .bool false, .bool false, .map (some 1), .slice (some ⟨14781, 0, none⟩) 4 4] 61 true)),
  (7726, some (.cells (u8s [111, 99, 116, 97, 118, 111, 48, 49, 4] ++ u8z 5 ++ u8s [4, 0, 0, 0, 1, 2, 0, 0, 0, 5] ++ u8z 36 ++ u8s [247, 19, 33, 158, 111, 99, 116, 97, 118, 111, 48, 49, 3] ++ u8z 5 ++ u8s [4] ++ u8z 4 ++ u8s [2, 0, 0, 0, 5] ++ u8z 36 ++ u8s [123, 101, 15, 249] ++ u8z 128 ++ u8s [1, 0, 14, 0, 1, 0, 0, 0, 7, 23, 113, 182, 1] ++ u8z 5 ++ u8s [5, 0, 0, 0, 255, 255, 255, 255] ++ u8z 230 ++ u8s [1, 0, 27, 0, 2, 0, 0, 0, 69, 219, 48, 151, 2] ++ u8z 5 ++ u8s [1, 0, 0, 0, 255, 255, 255, 255, 0, 3, 0, 0, 0, 4, 0, 0, 0, 255, 255, 255, 255] ++ u8z 217 ++ u8s [1, 0, 40, 0, 3, 0, 0, 0, 189, 203, 162, 90, 3] ++ u8z 5 ++ u8s [1, 0, 0, 0, 255, 255, 255, 255, 1] ++ u8z 4 ++ u8s [2] ++ u8z 8 ++ u8s [1, 0, 0, 0, 4, 0, 0, 0, 255, 255, 255, 255] ++ u8z 204 ++ u8s [3, 0, 17, 0, 4, 0, 0, 0, 178, 66, 147, 60, 2, 1, 0, 0, 0, 5, 0, 0, 0, 3, 0, 0, 0, 7] ++ u8z 230) 5 false)),
  (13396, some (.cells [i6 2, i6 0, .bool false, pt 5424 0, pt 13982 0] 351 true)),
  (14696, some (.cells (u8s [1, 0, 27, 0, 2, 0, 0, 0, 69, 219, 48, 151, 2] ++ u8z 5 ++ u8s [1, 0, 0, 0, 255, 255, 255, 255, 0, 3, 0, 0, 0, 4, 0, 0, 0, 255, 255, 255, 255] ++ u8z 25) 5 false)),
  (14724, some (.cells (u8z 64) 5 false)),
  (14752, some (.cells (u8z 64) 5 false)),
  (14780, some (.cells (u8z 64) 5 false)),
  (14781, some (.cells [.string ⟨#[115, 116, 111, 114, 101]⟩, i6 512, .slice (some ⟨14696, 0, none⟩) 64 64, .string ⟨#[115, 116, 111, 114, 101]⟩, i6 576, .slice (some ⟨14724, 0, none⟩) 64 64, .string ⟨#[115, 116, 111, 114, 101]⟩, i6 640, .slice (some ⟨14752, 0, none⟩) 64 64, .string ⟨#[115, 116, 111, 114, 101]⟩, i6 704, .slice (some ⟨14780, 0, none⟩) 64 64] 134 false))]⟩
theorem m24_155_ok : m24_155.ok (call evT evF k24_155 100000 m24_155.f m24_155.args m24_155.preH) = true := by kernel_rfl
theorem q24_155 : HkOk Tryz.prog (hkMemo m24_155) := hkMemo_ok evT_ok evF_ok k24_155_ok rfl m24_155_ok
noncomputable def k24_160 : Hk := orHk (hkMemo m24_159) (hkLib)
theorem k24_160_ok : HkOk Tryz.prog k24_160 := orHk_ok q24_159 (hkLib_ok)
noncomputable def m24_160 : Mm :=
  ⟨11, [pt 2 0, .string ⟨#[115, 116, 111, 114, 101]⟩, i6 1536, .slice (some ⟨14630, 0, none⟩) 256 256], 15491, [(1, .map [⟨.string ⟨#[111, 114, 105, 103, 105, 110, 97, 108]⟩, pt 32 0, 0⟩, ⟨.string ⟨#[115, 116, 111, 114, 101]⟩, pt 423 0, 1⟩, ⟨.string ⟨#[116, 97, 105, 108]⟩, pt 5545 0, 2⟩] 3),
  (2, .cells [i6 1048576, i6 19, .int .i64 (.negSucc 18), .bool false, .bool false, .map (some 1), .slice (some ⟨15452, 0, none⟩) 8 8] 61 true),
  (32, .cells [.slice (some ⟨34, 0, none⟩) 5 5, .slice (some ⟨35, 0, none⟩) 5 5, .bool true] 130 true),
  (34, .cells (u8s [97, 98, 99, 10, 100]) 5 false),
  (35, .cells (u8s [97, 98, 99, 10, 100]) 5 false),
  (423, .cells [.slice (some ⟨15348, 0, none⟩) 1536 1536, .slice (some ⟨10654, 0, none⟩) 1280 1280, .bool true] 130 true),
  (5545, .cells [.slice (some ⟨5549, 0, none⟩) 2 2, .slice (some ⟨7863, 0, none⟩) 2 2, .bool true] 130 true),
  (5549, .cells (u8s [120, 121]) 5 false),
  (7863, .cells (u8s [120, 121]) 5 false),
  (14630, .cells (u8s [3, 0, 17, 0, 6, 0, 0, 0, 87, 212, 48, 146, 2, 2, 0, 0, 0, 5, 0, 0, 0, 5, 0, 0, 0, 7] ++ u8z 230) 5 false),
  (15348, .cells (u8s [111, 99, 116, 97, 118, 111, 48, 49, 4] ++ u8z 5 ++ u8s [4, 0, 0, 0, 1, 2, 0, 0, 0, 5] ++ u8z 36 ++ u8s [247, 19, 33, 158, 111, 99, 116, 97, 118, 111, 48, 49, 3] ++ u8z 5 ++ u8s [4] ++ u8z 4 ++ u8s [2, 0, 0, 0, 5] ++ u8z 36 ++ u8s [123, 101, 15, 249] ++ u8z 128 ++ u8s [1, 0, 14, 0, 1, 0, 0, 0, 7, 23, 113, 182, 1] ++ u8z 5 ++ u8s [5, 0, 0, 0, 255, 255, 255, 255] ++ u8z 230 ++ u8s [1, 0, 27, 0, 2, 0, 0, 0, 69, 219, 48, 151, 2] ++ u8z 5 ++ u8s [1, 0, 0, 0, 255, 255, 255, 255, 0, 3, 0, 0, 0, 4, 0, 0, 0, 255, 255, 255, 255] ++ u8z 217 ++ u8s [1, 0, 40, 0, 3, 0, 0, 0, 189, 203, 162, 90, 3] ++ u8z 5 ++ u8s [1, 0, 0, 0, 255, 255, 255, 255, 1] ++ u8z 4 ++ u8s [2] ++ u8z 8 ++ u8s [1, 0, 0, 0, 4, 0, 0, 0, 255, 255, 255, 255] ++ u8z 204 ++ u8s [3, 0, 17, 0, 4, 0, 0, 0, 178, 66, 147, 60, 2, 1, 0, 0, 0, 5, 0, 0, 0, 3, 0, 0, 0, 7] ++ u8z 230 ++ u8s [1, 0, 14, 0, 5, 0, 0, 0, 2, 120, 233, 144, 1] ++ u8z 5 ++ u8s [7, 0, 0, 0, 255, 255, 255, 255] ++ u8z 230) 5 false),
  (15452, .cells [.string ⟨#[115, 116, 111, 114, 101]⟩, i6 512, .slice (some ⟨14696, 0, none⟩) 64 64, .string ⟨#[115, 116, 111, 114, 101]⟩, i6 576, .slice (some ⟨14724, 0, none⟩) 64 64, .string ⟨#[115, 116, 111, 114, 101]⟩, i6 640, .slice (some ⟨14752, 0, none⟩) 64 64, .string ⟨#[115, 116, 111, 114, 101]⟩, i6 704, .slice (some ⟨14780, 0, none⟩) 64 64, .string ⟨#[115, 116, 111, 114, 101]⟩, i6 1280, .slice (some ⟨15367, 0, none⟩) 64 64, .string ⟨#[115, 116, 111, 114, 101]⟩, i6 1344, .slice (some ⟨15395, 0, none⟩) 64 64, .string ⟨#[115, 116, 111, 114, 101]⟩, i6 1408, .slice (some ⟨15423, 0, none⟩) 64 64, .string ⟨#[115, 116, 111, 114, 101]⟩, i6 1472, .slice (some ⟨15451, 0, none⟩) 64 64] 134 false)], i6 0, 16132, [(2, some (.cells [i6 1048576, i6 20, .int .i64 (.negSucc 19), .bool false, .bool false, .map (some 1), .slice (some ⟨16123, 0, none⟩) 12 12] 61 true)),
  (423, some (.cells [.slice (some ⟨16019, 0, none⟩) 1792 1792, .slice (some ⟨10654, 0, none⟩) 1280 1280, .bool true] 130 true)),
  (15348, none),
  (15452, none),
  (16019, some (.cells (u8s [111, 99, 116, 97, 118, 111, 48, 49, 4] ++ u8z 5 ++ u8s [4, 0, 0, 0, 1, 2, 0, 0, 0, 5] ++ u8z 36 ++ u8s [247, 19, 33, 158, 111, 99, 116, 97, 118, 111, 48, 49, 3] ++ u8z 5 ++ u8s [4] ++ u8z 4 ++ u8s [2, 0, 0, 0, 5] ++ u8z 36 ++ u8s [123, 101, 15, 249] ++ u8z 128 ++ u8s [1, 0, 14, 0, 1, 0, 0, 0, 7, 23, 113, 182, 1] ++ u8z 5 ++ u8s [5, 0, 0, 0, 255, 255, 255, 255] ++ u8z 230 ++ u8s [1, 0, 27, 0, 2, 0, 0, 0, 69, 219, 48, 151, 2] ++ u8z 5 ++ u8s [1, 0, 0, 0, 255, 255, 255, 255, 0, 3, 0, 0, 0, 4, 0, 0, 0, 255, 255, 255, 255] ++ u8z 217 ++ u8s [1, 0, 40, 0, 3, 0, 0, 0, 189, 203, 162, 90, 3] ++ u8z 5 ++ u8s [1, 0, 0, 0, 255, 255, 255, 255, 1] ++ u8z 4 ++ u8s [2] ++ u8z 8 ++ u8s [1, 0, 0, 0, 4, 0, 0, 0, 255, 255, 255, 255] ++ u8z 204 ++ u8s [3, 0, 17, 0, 4, 0, 0, 0, 178, 66, 147, 60, 2, 1, 0, 0, 0, 5, 0, 0, 0, 3, 0, 0, 0, 7] ++ u8z 230 ++ u8s [1, 0, 14, 0, 5, 0, 0, 0, 2, 120, 233, 144, 1] ++ u8z 5 ++ u8s [7, 0, 0, 0, 255, 255, 255, 255] ++ u8z 230 ++ u8s [3, 0, 17, 0, 6, 0, 0, 0, 87, 212, 48, 146, 2, 2, 0, 0, 0, 5, 0, 0, 0, 5, 0, 0, 0, 7] ++ u8z 230) 5 false)),
  (16038, some (.cells (u8s [3, 0, 17, 0, 6, 0, 0, 0, 87, 212, 48, 146, 2, 2, 0, 0, 0, 5, 0, 0, 0, 5, 0, 0, 0, 7] ++ u8z 38) 5 false)),
  (16066, some (.cells (u8z 64) 5 false)),
  (16094, some (.cells (u8z 64) 5 false)),
  (16122, some (.cells (u8z 64) 5 false)),
  (16123, some (.cells [.string ⟨#[115, 116, 111, 114, 101]⟩, i6 512, .slice (some ⟨14696, 0, none⟩) 64 64, .string ⟨#[115, 116, 111, 114, 101]⟩, i6 576, .slice (some ⟨14724, 0, none⟩) 64 64, .string ⟨#[115, 116, 111, 114, 101]⟩, i6 640, .slice (some ⟨14752, 0, none⟩) 64 64, .string ⟨#[115, 116, 111, 114, 101]⟩, i6 704, .slice (some ⟨14780, 0, none⟩) 64 64, .string ⟨#[115, 116, 111, 114, 101]⟩, i6 1280, .slice (some ⟨15367, 0, none⟩) 64 64, .string ⟨#[115, 116, 111, 114, 101]⟩, i6 1344, .slice (some ⟨15395, 0, none⟩) 64 64, .string ⟨#[115, 116, 111, 114, 101]⟩, i6 1408, .slice (some ⟨15423, 0, none⟩) 64 64, .string ⟨#[115, 116, 111, 114, 101]⟩, i6 1472, .slice (some ⟨15451, 0, none⟩) 64 64, .string ⟨#[115, 116, 111, 114, 101]⟩, i6 1536, .slice (some ⟨16038, 0, none⟩) 64 64, .string ⟨#[115, 116, 111, 114, 101]⟩, i6 1600, .slice (some ⟨16066, 0, none⟩) 64 64, .string ⟨#[115, 116, 111, 114, 101]⟩, i6 1664, .slice (some ⟨16094, 0, none⟩) 64 64, .string ⟨#[115, 116, 111, 114, 101]⟩, i6 1728, .slice (some ⟨16122, 0, none⟩) 64 64] 134 false))]⟩
theorem m24_160_ok : m24_160.ok (call evT evF k24_160 100000 m24_160.f m24_160.args m24_160.preH) = true := by kernel_rfl
theorem q24_160 : HkOk Tryz.prog (hkMemo m24_160) := hkMemo_ok evT_ok evF_ok k24_160_ok rfl m24_160_ok
noncomputable def k24_182 : Hk := orHk (hkMemo m24_181) (hkLib)
theorem k24_182_ok : HkOk Tryz.prog k24_182 := orHk_ok q24_181 (hkLib_ok)
noncomputable def m24_182 : Mm :=
  ⟨111, [pt 10747 0, .complex .f32 14320 1], 17553, [(1, .map [⟨.string ⟨#[111, 114, 105, 103, 105, 110, 97, 108]⟩, pt 32 0, 0⟩, ⟨.string ⟨#[115, 116, 111, 114, 101]⟩, pt 423 0, 1⟩, ⟨.string ⟨#[116, 97, 105, 108]⟩, pt 5545 0, 2⟩, ⟨.string ⟨#[106, 111, 117, 114, 110, 97, 108]⟩, pt 16616 0, 3⟩] 4),
  (2, .cells [i6 1048576, i6 32, .int .i64 (.negSucc 31), .bool false, .bool false, .map (some 1), .slice none 0 0] 61 true),
  (32, .cells [.slice (some ⟨16219, 0, none⟩) 7 7, .slice (some ⟨16249, 0, none⟩) 7 7, .bool true] 130 true),
  (48, .map [⟨i6 1, pt 225 0, 0⟩, ⟨i6 3, pt 5424 0, 2⟩, ⟨i6 2, pt 13396 0, 4⟩, ⟨i6 5, pt 13982 0, 5⟩, ⟨i6 6, pt 14604 0, 6⟩] 7),
  (49, .cells [i6 5, i6 0, i6 0, .bool false, pt 14604 0, pt 225 0, .map (some 48)] 357 true),
  (66, .map [⟨i6 1, .slice (some ⟨251, 0, none⟩) 256 256, 0⟩, ⟨i6 3, .slice (some ⟨5450, 0, none⟩) 256 256, 2⟩, ⟨i6 2, .slice (some ⟨13422, 0, none⟩) 256 256, 4⟩, ⟨i6 5, .slice (some ⟨14008, 0, none⟩) 256 256, 5⟩, ⟨i6 6, .slice (some ⟨14630, 0, none⟩) 256 256, 6⟩] 7),
  (67, .cells [pt 49 0, pt 2 0, .string ⟨#[115, 116, 111, 114, 101]⟩, i6 5, .map (some 66), i6 0] 249 true),
  (68, .map [⟨i6 4, .bool true, 12⟩, ⟨i6 1, .bool true, 13⟩, ⟨i6 3, .bool true, 14⟩, ⟨i6 2, .bool true, 15⟩, ⟨i6 5, .bool true, 16⟩, ⟨i6 6, .bool true, 17⟩] 18),
  (69, .map [] 0),
  (70, .cells [i6 1, .map (some 68), .map (some 69), .slice (some ⟨14549, 0, none⟩) 3 3] 214 true),
  (71, .cells [pt 67 0, pt 70 0] 257 true),
  (83, .cells [pt 2 0, i6 2] 216 true),
  (225, .cells [i6 1, i6 0, .bool false, pt 49 1, pt 5424 0] 351 true),
  (423, .cells [.slice (some ⟨16019, 0, none⟩) 1792 1792, .slice (some ⟨16143, 0, none⟩) 1792 1792, .bool true] 130 true),
  (3016, .map [] 0),
  (3017, .cells [pt 2 0, .string ⟨#[111, 114, 105, 103, 105, 110, 97, 108]⟩, i6 5, i6 0, .map (some 3016)] 372 true),
  (3037, .cells [pt 71 0, pt 3017 0, pt 83 0] 233 true),
  (5424, .cells [i6 3, i6 0, .bool false, pt 225 0, pt 13396 0] 351 true),
  (5545, .cells [.slice (some ⟨5549, 0, none⟩) 2 2, .slice (some ⟨16157, 0, none⟩) 2 2, .bool true] 130 true),
  (5549, .cells (u8s [120, 121]) 5 false),
  (9126, .cells [i6 1, i6 3] 3 false),
  (10667, .cells [i6 1, i6 5, i6 3, i6 7] 119 false),
  (10747, .cells [pt 2 0, i6 5, i6 5, i6 6, i6 1, i6 2, i6 7, i6 7, .slice none 0 0, .slice (some ⟨14502, 0, none⟩) 1 1, .slice none 0 0, i6 104, .int .u32 (.ofNat 233402013), pt 73 0, .slice (some ⟨12767, 0, none⟩) 3 3, .slice (some ⟨12010, 0, none⟩) 2 2, .slice (some ⟨14046, 0, none⟩) 2 2, i6 0, i6 2] 116 true),
  (11252, .cells [i6 0, i6 0, i6 5] 145 false),
  (12009, .cells [i6 0, i6 0, i6 1, i6 1, i6 0, i6 2, i6 0, i6 1, i6 4] 145 false),
  (12010, .cells [.slice (some ⟨11252, 0, none⟩) 1 1, .slice (some ⟨12009, 0, none⟩) 3 3] 113 false),
  (12767, .cells [i6 0, i6 0, i6 1, i6 1, i6 0, i6 2, i6 0, i6 1, i6 4] 145 false),
  (13396, .cells [i6 2, i6 0, .bool false, pt 5424 0, pt 13982 0] 351 true),
  (13982, .cells [i6 5, i6 0, .bool false, pt 13396 0, pt 14604 0] 351 true),
  (14046, .cells [i6 2, i6 5, i6 5, i6 7] 119 false),
  (14319, .cells [i6 0, .slice (some ⟨14491, 0, none⟩) 3 3] 175 false),
  (14491, .cells [i6 0, i6 0, i6 1, i6 1, i6 0, i6 2, i6 0, i6 1, i6 4] 145 false),
  (14502, .cells [.complex .f32 14320 1] 173 false),
  (14549, .cells [i6 2, i6 5, i6 6] 3 false),
  (14604, .cells [i6 6, i6 0, .bool false, pt 13982 0, pt 49 1] 351 true),
  (16157, .cells (u8s [120, 121]) 5 false),
  (16219, .cells (u8s [97, 98, 99, 10, 100, 0, 0]) 5 false),
  (16249, .cells (u8s [97, 98, 99, 10, 100, 0, 0]) 5 false),
  (16616, .cells [.slice (some ⟨17128, 0, none⟩) 256 256, .slice (some ⟨17551, 0, none⟩) 256 256, .bool true] 130 true),
  (17128, .cells (u8s [111, 99, 116, 97, 118, 111, 45, 106] ++ u8z 4 ++ u8s [1, 104, 0, 0, 0, 157, 110, 233, 13] ++ u8z 39 ++ u8s [91, 189, 53, 248, 5, 0, 0, 0, 111, 99, 116, 97, 118, 111, 48, 49, 5] ++ u8z 5 ++ u8s [6, 0, 0, 0, 1, 2, 0, 0, 0, 7] ++ u8z 36 ++ u8s [163, 240, 239, 210, 7] ++ u8z 7 ++ u8s [1, 0, 0, 0, 1] ++ u8z 4 ++ u8s [3] ++ u8z 5 ++ u8s [1, 1] ++ u8z 4 ++ u8s [2, 0, 1, 0, 0, 0, 4] ++ u8z 24 ++ u8s [97, 120, 121, 98, 99, 10, 100] ++ u8z 57) 5 false)], .tuple #[], 17637, [(2, some (.cells [i6 1048576, i6 34, .int .i64 (.negSucc 33), .bool false, .bool false, .map (some 1), .slice none 0 0] 61 true)),
  (32, some (.cells [.slice (some ⟨16219, 0, none⟩) 7 7, .slice (some ⟨17635, 0, none⟩) 7 7, .bool true] 130 true)),
  (16219, some (.cells (u8s [97, 120, 121, 98, 99, 10, 100]) 5 false)),
  (17635, some (.cells (u8s [97, 120, 121, 98, 99, 10, 100]) 5 false))]⟩
theorem m24_182_ok : m24_182.ok (call evT evF k24_182 100000 m24_182.f m24_182.args m24_182.preH) = true := by kernel_rfl
theorem q24_182 : HkOk Tryz.prog (hkMemo m24_182) := hkMemo_ok evT_ok evF_ok k24_182_ok rfl m24_182_ok
noncomputable def k24_185 : Hk := orHk (hkMemo m24_183) (orHk (hkMemo m24_184) (hkLib))
theorem k24_185_ok : HkOk Tryz.prog k24_185 := orHk_ok q24_183 (orHk_ok q24_184 (hkLib_ok))
noncomputable def m24_185 : Mm :=
  ⟨61, [pt 10747 0, i6 1, .bool false], 17637, [(1, .map [⟨.string ⟨#[111, 114, 105, 103, 105, 110, 97, 108]⟩, pt 32 0, 0⟩, ⟨.string ⟨#[115, 116, 111, 114, 101]⟩, pt 423 0, 1⟩, ⟨.string ⟨#[116, 97, 105, 108]⟩, pt 5545 0, 2⟩, ⟨.string ⟨#[106, 111, 117, 114, 110, 97, 108]⟩, pt 16616 0, 3⟩] 4),
  (2, .cells [i6 1048576, i6 34, .int .i64 (.negSucc 33), .bool false, .bool false, .map (some 1), .slice none 0 0] 61 true),
  (32, .cells [.slice (some ⟨16219, 0, none⟩) 7 7, .slice (some ⟨17635, 0, none⟩) 7 7, .bool true] 130 true),
  (48, .map [⟨i6 1, pt 225 0, 0⟩, ⟨i6 3, pt 5424 0, 2⟩, ⟨i6 2, pt 13396 0, 4⟩, ⟨i6 5, pt 13982 0, 5⟩, ⟨i6 6, pt 14604 0, 6⟩] 7),
  (49, .cells [i6 5, i6 0, i6 0, .bool false, pt 14604 0, pt 225 0, .map (some 48)] 357 true),
  (66, .map [⟨i6 1, .slice (some ⟨251, 0, none⟩) 256 256, 0⟩, ⟨i6 3, .slice (some ⟨5450, 0, none⟩) 256 256, 2⟩, ⟨i6 2, .slice (some ⟨13422, 0, none⟩) 256 256, 4⟩, ⟨i6 5, .slice (some ⟨14008, 0, none⟩) 256 256, 5⟩, ⟨i6 6, .slice (some ⟨14630, 0, none⟩) 256 256, 6⟩] 7),
  (67, .cells [pt 49 0, pt 2 0, .string ⟨#[115, 116, 111, 114, 101]⟩, i6 5, .map (some 66), i6 0] 249 true),
  (68, .map [⟨i6 4, .bool true, 12⟩, ⟨i6 1, .bool true, 13⟩, ⟨i6 3, .bool true, 14⟩, ⟨i6 2, .bool true, 15⟩, ⟨i6 5, .bool true, 16⟩, ⟨i6 6, .bool true, 17⟩] 18),
  (69, .map [] 0),
  (70, .cells [i6 1, .map (some 68), .map (some 69), .slice (some ⟨14549, 0, none⟩) 3 3] 214 true),
  (71, .cells [pt 67 0, pt 70 0] 257 true),
  (83, .cells [pt 2 0, i6 2] 216 true),
  (225, .cells [i6 1, i6 0, .bool false, pt 49 1, pt 5424 0] 351 true),
  (423, .cells [.slice (some ⟨16019, 0, none⟩) 1792 1792, .slice (some ⟨16143, 0, none⟩) 1792 1792, .bool true] 130 true),
  (3016, .map [] 0),
  (3017, .cells [pt 2 0, .string ⟨#[111, 114, 105, 103, 105, 110, 97, 108]⟩, i6 5, i6 0, .map (some 3016)] 372 true),
  (3037, .cells [pt 71 0, pt 3017 0, pt 83 0] 233 true),
  (5424, .cells [i6 3, i6 0, .bool false, pt 225 0, pt 13396 0] 351 true),
  (5545, .cells [.slice (some ⟨5549, 0, none⟩) 2 2, .slice (some ⟨16157, 0, none⟩) 2 2, .bool true] 130 true),
  (5549, .cells (u8s [120, 121]) 5 false),
  (9126, .cells [i6 1, i6 3] 3 false),
  (10667, .cells [i6 1, i6 5, i6 3, i6 7] 119 false),
  (10747, .cells [pt 2 0, i6 5, i6 5, i6 6, i6 1, i6 2, i6 7, i6 7, .slice none 0 0, .slice (some ⟨14502, 0, none⟩) 1 1, .slice none 0 0, i6 104, .int .u32 (.ofNat 233402013), pt 73 0, .slice (some ⟨12767, 0, none⟩) 3 3, .slice (some ⟨12010, 0, none⟩) 2 2, .slice (some ⟨14046, 0, none⟩) 2 2, i6 0, i6 2] 116 true),
  (11252, .cells [i6 0, i6 0, i6 5] 145 false),
  (12009, .cells [i6 0, i6 0, i6 1, i6 1, i6 0, i6 2, i6 0, i6 1, i6 4] 145 false),
  (12010, .cells [.slice (some ⟨11252, 0, none⟩) 1 1, .slice (some ⟨12009, 0, none⟩) 3 3] 113 false),
  (12767, .cells [i6 0, i6 0, i6 1, i6 1, i6 0, i6 2, i6 0, i6 1, i6 4] 145 false),
  (13396, .cells [i6 2, i6 0, .bool false, pt 5424 0, pt 13982 0] 351 true),
  (13982, .cells [i6 5, i6 0, .bool false, pt 13396 0, pt 14604 0] 351 true),
  (14046, .cells [i6 2, i6 5, i6 5, i6 7] 119 false),
  (14319, .cells [i6 0, .slice (some ⟨14491, 0, none⟩) 3 3] 175 false),
  (14491, .cells [i6 0, i6 0, i6 1, i6 1, i6 0, i6 2, i6 0, i6 1, i6 4] 145 false),
  (14502, .cells [.complex .f32 14320 1] 173 false),
  (14549, .cells [i6 2, i6 5, i6 6] 3 false),
  (14604, .cells [i6 6, i6 0, .bool false, pt 13982 0, pt 49 1] 351 true),
  (16157, .cells (u8s [120, 121]) 5 false),
  (16219, .cells (u8s [97, 120, 121, 98, 99, 10, 100]) 5 false),
  (16616, .cells [.slice (some ⟨17128, 0, none⟩) 256 256, .slice (some ⟨17551, 0, none⟩) 256 256, .bool true] 130 true),
  (17128, .cells (u8s [111, 99, 116, 97, 118, 111, 45, 106] ++ u8z 4 ++ u8s [1, 104, 0, 0, 0, 157, 110, 233, 13] ++ u8z 39 ++ u8s [91, 189, 53, 248, 5, 0, 0, 0, 111, 99, 116, 97, 118, 111, 48, 49, 5] ++ u8z 5 ++ u8s [6, 0, 0, 0, 1, 2, 0, 0, 0, 7] ++ u8z 36 ++ u8s [163, 240, 239, 210, 7] ++ u8z 7 ++ u8s [1, 0, 0, 0, 1] ++ u8z 4 ++ u8s [3] ++ u8z 5 ++ u8s [1, 1] ++ u8z 4 ++ u8s [2, 0, 1, 0, 0, 0, 4] ++ u8z 24 ++ u8s [97, 120, 121, 98, 99, 10, 100] ++ u8z 57) 5 false),
  (17635, .cells (u8s [97, 120, 121, 98, 99, 10, 100]) 5 false)], .tuple #[], 17732, [(2, some (.cells [i6 1048576, i6 36, .int .i64 (.negSucc 35), .bool false, .bool false, .map (some 1), .slice none 0 0] 61 true)),
  (16616, some (.cells [.slice (some ⟨17128, 0, none⟩) 256 256, .slice (some ⟨17730, 0, none⟩) 256 256, .bool true] 130 true)),
  (17128, some (.cells (u8s [111, 99, 116, 97, 118, 111, 45, 106, 1] ++ u8z 4 ++ u8s [104, 0, 0, 0, 157, 110, 233, 13] ++ u8z 39 ++ u8s [138, 173, 72, 172, 5, 0, 0, 0, 111, 99, 116, 97, 118, 111, 48, 49, 5] ++ u8z 5 ++ u8s [6, 0, 0, 0, 1, 2, 0, 0, 0, 7] ++ u8z 36 ++ u8s [163, 240, 239, 210, 7] ++ u8z 7 ++ u8s [1, 0, 0, 0, 1] ++ u8z 4 ++ u8s [3] ++ u8z 5 ++ u8s [1, 1] ++ u8z 4 ++ u8s [2, 0, 1, 0, 0, 0, 4] ++ u8z 24 ++ u8s [97, 120, 121, 98, 99, 10, 100] ++ u8z 57) 5 false)),
  (17730, some (.cells (u8s [111, 99, 116, 97, 118, 111, 45, 106, 1] ++ u8z 4 ++ u8s [104, 0, 0, 0, 157, 110, 233, 13] ++ u8z 39 ++ u8s [138, 173, 72, 172, 5, 0, 0, 0, 111, 99, 116, 97, 118, 111, 48, 49, 5] ++ u8z 5 ++ u8s [6, 0, 0, 0, 1, 2, 0, 0, 0, 7] ++ u8z 36 ++ u8s [163, 240, 239, 210, 7] ++ u8z 7 ++ u8s [1, 0, 0, 0, 1] ++ u8z 4 ++ u8s [3] ++ u8z 5 ++ u8s [1, 1] ++ u8z 4 ++ u8s [2, 0, 1, 0, 0, 0, 4] ++ u8z 24 ++ u8s [97, 120, 121, 98, 99, 10, 100] ++ u8z 57) 5 false))]⟩
theorem m24_185_ok : m24_185.ok (call evT evF k24_185 100000 m24_185.f m24_185.args m24_185.preH) = true := by kernel_rfl
theorem q24_185 : HkOk Tryz.prog (hkMemo m24_185) := hkMemo_ok evT_ok evF_ok k24_185_ok rfl m24_185_ok
noncomputable def k24_190 : Hk := orHk (hkMemo m24_189) (hkLib)
theorem k24_190_ok : HkOk Tryz.prog k24_190 := orHk_ok q24_189 (hkLib_ok)
noncomputable def m24_190 : Mm :=
  ⟨254, [i6 2, .slice (some ⟨17924, 0, none⟩) 256 256], 17925, [(17924, .cells (u8s [1, 0, 27, 0, 2, 0, 0, 0, 69, 219, 48, 151, 2] ++ u8z 5 ++ u8s [1, 0, 0, 0, 255, 255, 255, 255, 0, 3, 0, 0, 0, 4, 0, 0, 0, 255, 255, 255, 255] ++ u8z 217) 5 false)], .tuple #[i6 1, .slice (some ⟨18114, 0, none⟩) 27 27, i6 0], 18155, [(18114, some (.cells (u8s [2] ++ u8z 5 ++ u8s [1, 0, 0, 0, 255, 255, 255, 255, 0, 3, 0, 0, 0, 4, 0, 0, 0, 255, 255, 255, 255]) 5 false))]⟩
theorem m24_190_ok : m24_190.ok (call evT evF k24_190 100000 m24_190.f m24_190.args m24_190.preH) = true := by kernel_rfl
theorem q24_190 : HkOk Tryz.prog (hkMemo m24_190) := hkMemo_ok evT_ok evF_ok k24_190_ok rfl m24_190_ok
end Go.Proofs.YtjclpdlijblpjaaGreat
