/-
  Calls that were reckoned out, one by one. Printed by a program.
-/
import Derived.Test.YtjclpdlijblpjaaGreatEvl
import Derived.Test.YtjclpdlijblpjaaGreatEvM24a
import Derived.Test.YtjclpdlijblpjaaGreatEvM24c
import Derived.Test.YtjclpdlijblpjaaGreatEvM24d
import Derived.Test.YtjclpdlijblpjaaGreatEvM24e
import Derived.Test.YtjclpdlijblpjaaGreatEvM24f
namespace Go.Proofs.YtjclpdlijblpjaaGreat
open Go.Ev
set_option maxRecDepth 1000000
noncomputable def k24_16 : Hk := orHk (hkMemo m24_12) (orHk (hkMemo m24_15) (hkLib))
theorem k24_16_ok : HkOk Tryz.prog k24_16 := orHk_ok q24_12 (orHk_ok q24_15 (hkLib_ok))
noncomputable def m24_16 : Mm :=
  ⟨264, [pt 67 0], 377, [(1, .map [⟨.string ⟨#[111, 114, 105, 103, 105, 110, 97, 108]⟩, pt 32 0, 0⟩] 1),
  (2, .cells [i6 1048576, i6 0, i6 0, .bool false, .bool false, .map (some 1), .slice none 0 0] 61 true),
  (32, .cells [.slice (some ⟨34, 0, none⟩) 5 5, .slice (some ⟨35, 0, none⟩) 5 5, .bool true] 130 true),
  (34, .cells (u8s [97, 98, 99, 10, 100]) 5 false),
  (35, .cells (u8s [97, 98, 99, 10, 100]) 5 false),
  (48, .map [⟨i6 1, pt 225 0, 0⟩, ⟨i6 2, pt 350 0, 1⟩] 2),
  (49, .cells [i6 5, i6 0, i6 0, .bool false, pt 350 0, pt 225 0, .map (some 48)] 357 true),
  (66, .map [⟨i6 1, .slice (some ⟨251, 0, none⟩) 256 256, 0⟩, ⟨i6 2, .slice (some ⟨376, 0, none⟩) 256 256, 1⟩] 2),
  (67, .cells [pt 49 0, pt 2 0, .string ⟨#[115, 116, 111, 114, 101]⟩, i6 5, .map (some 66), i6 0] 249 true),
  (225, .cells [i6 1, i6 0, .bool true, pt 49 1, pt 350 0] 351 true),
  (251, .cells (u8s [1, 0, 14, 0, 1, 0, 0, 0, 7, 23, 113, 182, 1] ++ u8z 5 ++ u8s [5, 0, 0, 0, 255, 255, 255, 255] ++ u8z 230) 5 false),
  (350, .cells [i6 2, i6 0, .bool true, pt 225 0, pt 49 1] 351 true),
  (376, .cells (u8s [3, 0, 9, 0, 2, 0, 0, 0, 5, 212, 242, 114, 1, 1, 0, 0, 0, 5] ++ u8z 238) 5 false)], i6 0, 2402, [(1, some (.map [⟨.string ⟨#[111, 114, 105, 103, 105, 110, 97, 108]⟩, pt 32 0, 0⟩, ⟨.string ⟨#[115, 116, 111, 114, 101]⟩, pt 423 0, 1⟩] 2)),
  (2, some (.cells [i6 1048576, i6 4, .int .i64 (.negSucc 3), .bool false, .bool false, .map (some 1), .slice none 0 0] 61 true)),
  (225, some (.cells [i6 1, i6 0, .bool false, pt 49 1, pt 350 0] 351 true)),
  (350, some (.cells [i6 2, i6 0, .bool false, pt 225 0, pt 49 1] 351 true)),
  (423, some (.cells [.slice (some ⟨2265, 0, none⟩) 768 768, .slice (some ⟨2389, 0, none⟩) 768 768, .bool true] 130 true)),
  (2265, some (.cells (u8z 256 ++ u8s [1, 0, 14, 0, 1, 0, 0, 0, 7, 23, 113, 182, 1] ++ u8z 5 ++ u8s [5, 0, 0, 0, 255, 255, 255, 255] ++ u8z 230 ++ u8s [3, 0, 9, 0, 2, 0, 0, 0, 5, 212, 242, 114, 1, 1, 0, 0, 0, 5] ++ u8z 238) 5 false)),
  (2389, some (.cells (u8z 256 ++ u8s [1, 0, 14, 0, 1, 0, 0, 0, 7, 23, 113, 182, 1] ++ u8z 5 ++ u8s [5, 0, 0, 0, 255, 255, 255, 255] ++ u8z 230 ++ u8s [3, 0, 9, 0, 2, 0, 0, 0, 5, 212, 242, 114, 1, 1, 0, 0, 0, 5] ++ u8z 238) 5 false))]⟩
theorem m24_16_ok : m24_16.ok (call evT evF k24_16 100000 m24_16.f m24_16.args m24_16.preH) = true := by kernel_rfl
theorem q24_16 : HkOk Tryz.prog (hkMemo m24_16) := hkMemo_ok evT_ok evF_ok k24_16_ok rfl m24_16_ok
noncomputable def k24_35 : Hk := orHk (hkMemo m24_34) (hkLib)
theorem k24_35_ok : HkOk Tryz.prog k24_35 := orHk_ok q24_34 (hkLib_ok)
noncomputable def m24_35 : Mm :=
  ⟨146, [pt 71 0, i6 1], 3177, [(1, .map [⟨.string ⟨#[111, 114, 105, 103, 105, 110, 97, 108]⟩, pt 32 0, 0⟩, ⟨.string ⟨#[115, 116, 111, 114, 101]⟩, pt 423 0, 1⟩] 2),
  (2, .cells [i6 1048576, i6 6, .int .i64 (.negSucc 5), .bool false, .bool false, .map (some 1), .slice none 0 0] 61 true),
  (32, .cells [.slice (some ⟨34, 0, none⟩) 5 5, .slice (some ⟨35, 0, none⟩) 5 5, .bool true] 130 true),
  (34, .cells (u8s [97, 98, 99, 10, 100]) 5 false),
  (35, .cells (u8s [97, 98, 99, 10, 100]) 5 false),
  (48, .map [⟨i6 1, pt 225 0, 0⟩, ⟨i6 2, pt 350 0, 1⟩] 2),
  (49, .cells [i6 5, i6 0, i6 0, .bool false, pt 225 0, pt 350 0, .map (some 48)] 357 true),
  (66, .map [⟨i6 1, .slice (some ⟨251, 0, none⟩) 256 256, 0⟩, ⟨i6 2, .slice (some ⟨376, 0, none⟩) 256 256, 1⟩] 2),
  (67, .cells [pt 49 0, pt 2 0, .string ⟨#[115, 116, 111, 114, 101]⟩, i6 5, .map (some 66), i6 0] 249 true),
  (68, .map [⟨i6 2, .bool true, 2⟩, ⟨i6 1, .bool true, 3⟩] 4),
  (69, .map [] 0),
  (70, .cells [i6 1, .map (some 68), .map (some 69), .slice none 0 0] 214 true),
  (71, .cells [pt 67 0, pt 70 0] 257 true),
  (225, .cells [i6 1, i6 0, .bool false, pt 350 0, pt 49 1] 351 true),
  (251, .cells (u8s [1, 0, 14, 0, 1, 0, 0, 0, 7, 23, 113, 182, 1] ++ u8z 5 ++ u8s [5, 0, 0, 0, 255, 255, 255, 255] ++ u8z 230) 5 false),
  (350, .cells [i6 2, i6 0, .bool false, pt 49 1, pt 225 0] 351 true),
  (423, .cells [.slice (some ⟨2265, 0, none⟩) 768 768, .slice (some ⟨3001, 0, none⟩) 768 768, .bool true] 130 true)], .tuple #[i6 5, i6 0], 3673, []⟩
theorem m24_35_ok : m24_35.ok (call evT evF k24_35 100000 m24_35.f m24_35.args m24_35.preH) = true := by kernel_rfl
theorem q24_35 : HkOk Tryz.prog (hkMemo m24_35) := hkMemo_ok evT_ok evF_ok k24_35_ok rfl m24_35_ok
noncomputable def k24_49 : Hk := orHk (hkMemo m24_48) (hkLib)
theorem k24_49_ok : HkOk Tryz.prog k24_49 := orHk_ok q24_48 (hkLib_ok)
noncomputable def m24_49 : Mm :=
  ⟨166, [pt 71 0, i6 1], 4734, [(1, .map [⟨.string ⟨#[111, 114, 105, 103, 105, 110, 97, 108]⟩, pt 32 0, 0⟩, ⟨.string ⟨#[115, 116, 111, 114, 101]⟩, pt 423 0, 1⟩] 2),
  (2, .cells [i6 1048576, i6 6, .int .i64 (.negSucc 5), .bool false, .bool false, .map (some 1), .slice none 0 0] 61 true),
  (32, .cells [.slice (some ⟨34, 0, none⟩) 5 5, .slice (some ⟨35, 0, none⟩) 5 5, .bool true] 130 true),
  (34, .cells (u8s [97, 98, 99, 10, 100]) 5 false),
  (35, .cells (u8s [97, 98, 99, 10, 100]) 5 false),
  (48, .map [⟨i6 1, pt 225 0, 0⟩, ⟨i6 2, pt 350 0, 1⟩] 2),
  (49, .cells [i6 5, i6 0, i6 0, .bool false, pt 225 0, pt 350 0, .map (some 48)] 357 true),
  (66, .map [⟨i6 1, .slice (some ⟨251, 0, none⟩) 256 256, 0⟩, ⟨i6 2, .slice (some ⟨376, 0, none⟩) 256 256, 1⟩] 2),
  (67, .cells [pt 49 0, pt 2 0, .string ⟨#[115, 116, 111, 114, 101]⟩, i6 5, .map (some 66), i6 0] 249 true),
  (68, .map [⟨i6 2, .bool true, 2⟩, ⟨i6 1, .bool true, 3⟩] 4),
  (69, .map [] 0),
  (70, .cells [i6 1, .map (some 68), .map (some 69), .slice none 0 0] 214 true),
  (71, .cells [pt 67 0, pt 70 0] 257 true),
  (225, .cells [i6 1, i6 0, .bool false, pt 350 0, pt 49 1] 351 true),
  (251, .cells (u8s [1, 0, 14, 0, 1, 0, 0, 0, 7, 23, 113, 182, 1] ++ u8z 5 ++ u8s [5, 0, 0, 0, 255, 255, 255, 255] ++ u8z 230) 5 false),
  (350, .cells [i6 2, i6 0, .bool false, pt 49 1, pt 225 0] 351 true),
  (423, .cells [.slice (some ⟨2265, 0, none⟩) 768 768, .slice (some ⟨3001, 0, none⟩) 768 768, .bool true] 130 true)], .agg #[i6 1, i6 5, .int .i64 (.negSucc 0), i6 1, i6 0], 5231, []⟩
theorem m24_49_ok : m24_49.ok (call evT evF k24_49 100000 m24_49.f m24_49.args m24_49.preH) = true := by kernel_rfl
theorem q24_49 : HkOk Tryz.prog (hkMemo m24_49) := hkMemo_ok evT_ok evF_ok k24_49_ok rfl m24_49_ok
noncomputable def k24_72 : Hk := orHk (hkMemo m24_68) (orHk (hkMemo m24_71) (hkLib))
theorem k24_72_ok : HkOk Tryz.prog k24_72 := orHk_ok q24_68 (orHk_ok q24_71 (hkLib_ok))
noncomputable def m24_72 : Mm :=
  ⟨264, [pt 67 0], 6496, [(1, .map [⟨.string ⟨#[111, 114, 105, 103, 105, 110, 97, 108]⟩, pt 32 0, 0⟩, ⟨.string ⟨#[115, 116, 111, 114, 101]⟩, pt 423 0, 1⟩, ⟨.string ⟨#[116, 97, 105, 108]⟩, pt 5545 0, 2⟩] 3),
  (2, .cells [i6 1048576, i6 7, .int .i64 (.negSucc 6), .bool false, .bool false, .map (some 1), .slice (some ⟨5569, 0, none⟩) 1 1] 61 true),
  (32, .cells [.slice (some ⟨34, 0, none⟩) 5 5, .slice (some ⟨35, 0, none⟩) 5 5, .bool true] 130 true),
  (34, .cells (u8s [97, 98, 99, 10, 100]) 5 false),
  (35, .cells (u8s [97, 98, 99, 10, 100]) 5 false),
  (48, .map [⟨i6 1, pt 225 0, 0⟩, ⟨i6 2, pt 350 0, 1⟩, ⟨i6 3, pt 5424 0, 2⟩, ⟨i6 4, pt 6469 0, 3⟩] 4),
  (49, .cells [i6 5, i6 0, i6 0, .bool false, pt 6469 0, pt 350 0, .map (some 48)] 357 true),
  (66, .map [⟨i6 1, .slice (some ⟨251, 0, none⟩) 256 256, 0⟩, ⟨i6 2, .slice (some ⟨376, 0, none⟩) 256 256, 1⟩, ⟨i6 3, .slice (some ⟨5450, 0, none⟩) 256 256, 2⟩, ⟨i6 4, .slice (some ⟨6495, 0, none⟩) 256 256, 3⟩] 4),
  (67, .cells [pt 49 0, pt 2 0, .string ⟨#[115, 116, 111, 114, 101]⟩, i6 5, .map (some 66), i6 0] 249 true),
  (225, .cells [i6 1, i6 0, .bool false, pt 350 0, pt 5424 0] 351 true),
  (350, .cells [i6 2, i6 0, .bool false, pt 49 1, pt 225 0] 351 true),
  (423, .cells [.slice (some ⟨2265, 0, none⟩) 768 768, .slice (some ⟨3001, 0, none⟩) 768 768, .bool true] 130 true),
  (2265, .cells (u8z 64 ++ u8s [111, 99, 116, 97, 118, 111, 48, 49, 1] ++ u8z 5 ++ u8s [2] ++ u8z 8 ++ u8s [5] ++ u8z 36 ++ u8s [73, 229, 12, 250] ++ u8z 128 ++ u8s [1, 0, 14, 0, 1, 0, 0, 0, 7, 23, 113, 182, 1] ++ u8z 5 ++ u8s [5, 0, 0, 0, 255, 255, 255, 255] ++ u8z 230 ++ u8s [3, 0, 9, 0, 2, 0, 0, 0, 5, 212, 242, 114, 1, 1, 0, 0, 0, 5] ++ u8z 238) 5 false),
  (5424, .cells [i6 3, i6 0, .bool true, pt 225 0, pt 6469 0] 351 true),
  (5450, .cells (u8s [1, 0, 40, 0, 3, 0, 0, 0, 189, 203, 162, 90, 3] ++ u8z 5 ++ u8s [1, 0, 0, 0, 255, 255, 255, 255, 1] ++ u8z 4 ++ u8s [2] ++ u8z 8 ++ u8s [1, 0, 0, 0, 4, 0, 0, 0, 255, 255, 255, 255] ++ u8z 204) 5 false),
  (5545, .cells [.slice (some ⟨5549, 0, none⟩) 2 2, .slice none 0 0, .bool false] 130 true),
  (5549, .cells (u8s [120, 121]) 5 false),
  (5568, .cells (u8s [120, 121]) 5 false),
  (5569, .cells [.string ⟨#[116, 97, 105, 108]⟩, i6 0, .slice (some ⟨5568, 0, none⟩) 2 2] 134 false),
  (6469, .cells [i6 4, i6 0, .bool true, pt 5424 0, pt 49 1] 351 true),
  (6495, .cells (u8s [3, 0, 17, 0, 4, 0, 0, 0, 178, 66, 147, 60, 2, 1, 0, 0, 0, 5, 0, 0, 0, 3, 0, 0, 0, 7] ++ u8z 230) 5 false)], i6 0, 7862, [(2, some (.cells [i6 1048576, i6 10, .int .i64 (.negSucc 9), .bool false, .bool false, .map (some 1), .slice (some ⟨7853, 0, none⟩) 1 1] 61 true)),
  (423, some (.cells [.slice (some ⟨7726, 0, none⟩) 1280 1280, .slice (some ⟨7850, 0, none⟩) 1280 1280, .bool true] 130 true)),
  (2265, none),
  (5424, some (.cells [i6 3, i6 0, .bool false, pt 225 0, pt 6469 0] 351 true)),
  (5569, none),
  (6469, some (.cells [i6 4, i6 0, .bool false, pt 5424 0, pt 49 1] 351 true)),
  (7726, some (.cells (u8z 64 ++ u8s [111, 99, 116, 97, 118, 111, 48, 49, 1] ++ u8z 5 ++ u8s [2] ++ u8z 8 ++ u8s [5] ++ u8z 36 ++ u8s [73, 229, 12, 250] ++ u8z 128 ++ u8s [1, 0, 14, 0, 1, 0, 0, 0, 7, 23, 113, 182, 1] ++ u8z 5 ++ u8s [5, 0, 0, 0, 255, 255, 255, 255] ++ u8z 230 ++ u8s [3, 0, 9, 0, 2, 0, 0, 0, 5, 212, 242, 114, 1, 1, 0, 0, 0, 5] ++ u8z 238 ++ u8s [1, 0, 40, 0, 3, 0, 0, 0, 189, 203, 162, 90, 3] ++ u8z 5 ++ u8s [1, 0, 0, 0, 255, 255, 255, 255, 1] ++ u8z 4 ++ u8s [2] ++ u8z 8 ++ u8s [1, 0, 0, 0, 4, 0, 0, 0, 255, 255, 255, 255] ++ u8z 204 ++ u8s [3, 0, 17, 0, 4, 0, 0, 0, 178, 66, 147, 60, 2, 1, 0, 0, 0, 5, 0, 0, 0, 3, 0, 0, 0, 7] ++ u8z 230) 5 false)),
  (7850, some (.cells (u8z 64 ++ u8s [111, 99, 116, 97, 118, 111, 48, 49, 1] ++ u8z 5 ++ u8s [2] ++ u8z 8 ++ u8s [5] ++ u8z 36 ++ u8s [73, 229, 12, 250] ++ u8z 128 ++ u8s [1, 0, 14, 0, 1, 0, 0, 0, 7, 23, 113, 182, 1] ++ u8z 5 ++ u8s [5, 0, 0, 0, 255, 255, 255, 255] ++ u8z 230 ++ u8s [3, 0, 9, 0, 2, 0, 0, 0, 5, 212, 242, 114, 1, 1, 0, 0, 0, 5] ++ u8z 238 ++ u8s [1, 0, 40, 0, 3, 0, 0, 0, 189, 203, 162, 90, 3] ++ u8z 5 ++ u8s [1, 0, 0, 0, 255, 255, 255, 255, 1] ++ u8z 4 ++ u8s [2] ++ u8z 8 ++ u8s [1, 0, 0, 0, 4, 0, 0, 0, 255, 255, 255, 255] ++ u8z 204 ++ u8s [3, 0, 17, 0, 4, 0, 0, 0, 178, 66, 147, 60, 2, 1, 0, 0, 0, 5, 0, 0, 0, 3, 0, 0, 0, 7] ++ u8z 230) 5 false)),
  (7853, some (.cells [.string ⟨#[116, 97, 105, 108]⟩, i6 0, .slice (some ⟨5568, 0, none⟩) 2 2] 134 false))]⟩
theorem m24_72_ok : m24_72.ok (call evT evF k24_72 100000 m24_72.f m24_72.args m24_72.preH) = true := by kernel_rfl
theorem q24_72 : HkOk Tryz.prog (hkMemo m24_72) := hkMemo_ok evT_ok evF_ok k24_72_ok rfl m24_72_ok
noncomputable def k24_82 : Hk := orHk (hkMemo m24_77) (orHk (hkMemo m24_81) (hkLib))
theorem k24_82_ok : HkOk Tryz.prog k24_82 := orHk_ok q24_77 (orHk_ok q24_81 (hkLib_ok))
noncomputable def m24_82 : Mm :=
  ⟨121, [pt 71 0, .slice (some ⟨6399, 0, none⟩) 2 2], 7905, [(1, .map [⟨.string ⟨#[111, 114, 105, 103, 105, 110, 97, 108]⟩, pt 32 0, 0⟩, ⟨.string ⟨#[115, 116, 111, 114, 101]⟩, pt 423 0, 1⟩, ⟨.string ⟨#[116, 97, 105, 108]⟩, pt 5545 0, 2⟩] 3),
  (2, .cells [i6 1048576, i6 11, .int .i64 (.negSucc 10), .bool false, .bool false, .map (some 1), .slice none 0 0] 61 true),
  (32, .cells [.slice (some ⟨34, 0, none⟩) 5 5, .slice (some ⟨35, 0, none⟩) 5 5, .bool true] 130 true),
  (34, .cells (u8s [97, 98, 99, 10, 100]) 5 false),
  (35, .cells (u8s [97, 98, 99, 10, 100]) 5 false),
  (48, .map [⟨i6 1, pt 225 0, 0⟩, ⟨i6 2, pt 350 0, 1⟩, ⟨i6 3, pt 5424 0, 2⟩, ⟨i6 4, pt 6469 0, 3⟩] 4),
  (49, .cells [i6 5, i6 0, i6 0, .bool false, pt 6469 0, pt 350 0, .map (some 48)] 357 true),
  (66, .map [⟨i6 1, .slice (some ⟨251, 0, none⟩) 256 256, 0⟩, ⟨i6 2, .slice (some ⟨376, 0, none⟩) 256 256, 1⟩, ⟨i6 3, .slice (some ⟨5450, 0, none⟩) 256 256, 2⟩, ⟨i6 4, .slice (some ⟨6495, 0, none⟩) 256 256, 3⟩] 4),
  (67, .cells [pt 49 0, pt 2 0, .string ⟨#[115, 116, 111, 114, 101]⟩, i6 5, .map (some 66), i6 0] 249 true),
  (68, .map [⟨i6 2, .bool true, 2⟩, ⟨i6 1, .bool true, 3⟩, ⟨i6 3, .bool true, 4⟩, ⟨i6 4, .bool true, 5⟩] 6),
  (69, .map [] 0),
  (70, .cells [i6 1, .map (some 68), .map (some 69), .slice (some ⟨6437, 0, none⟩) 2 2] 214 true),
  (71, .cells [pt 67 0, pt 70 0] 257 true),
  (225, .cells [i6 1, i6 0, .bool false, pt 350 0, pt 5424 0] 351 true),
  (251, .cells (u8s [1, 0, 14, 0, 1, 0, 0, 0, 7, 23, 113, 182, 1] ++ u8z 5 ++ u8s [5, 0, 0, 0, 255, 255, 255, 255] ++ u8z 230) 5 false),
  (350, .cells [i6 2, i6 0, .bool false, pt 49 1, pt 225 0] 351 true),
  (423, .cells [.slice (some ⟨7726, 0, none⟩) 1280 1280, .slice (some ⟨7850, 0, none⟩) 1280 1280, .bool true] 130 true),
  (5424, .cells [i6 3, i6 0, .bool false, pt 225 0, pt 6469 0] 351 true),
  (5450, .cells (u8s [1, 0, 40, 0, 3, 0, 0, 0, 189, 203, 162, 90, 3] ++ u8z 5 ++ u8s [1, 0, 0, 0, 255, 255, 255, 255, 1] ++ u8z 4 ++ u8s [2] ++ u8z 8 ++ u8s [1, 0, 0, 0, 4, 0, 0, 0, 255, 255, 255, 255] ++ u8z 204) 5 false),
  (5545, .cells [.slice (some ⟨5549, 0, none⟩) 2 2, .slice (some ⟨7863, 0, none⟩) 2 2, .bool true] 130 true),
  (5549, .cells (u8s [120, 121]) 5 false),
  (6399, .cells [i6 1, i6 5, i6 3, i6 7] 119 false),
  (6437, .cells [i6 3, i6 4] 3 false),
  (6469, .cells [i6 4, i6 0, .bool false, pt 5424 0, pt 49 1] 351 true),
  (7863, .cells (u8s [120, 121]) 5 false)], .tuple #[.slice (some ⟨9126, 0, none⟩) 2 2, i6 0], 9175, [(49, some (.cells [i6 5, i6 0, i6 0, .bool false, pt 5424 0, pt 350 0, .map (some 48)] 357 true)),
  (225, some (.cells [i6 1, i6 0, .bool false, pt 6469 0, pt 5424 0] 351 true)),
  (350, some (.cells [i6 2, i6 0, .bool false, pt 49 1, pt 6469 0] 351 true)),
  (5424, some (.cells [i6 3, i6 0, .bool false, pt 225 0, pt 49 1] 351 true)),
  (6469, some (.cells [i6 4, i6 0, .bool false, pt 350 0, pt 225 0] 351 true)),
  (9126, some (.cells [i6 1, i6 3] 3 false))]⟩
theorem m24_82_ok : m24_82.ok (call evT evF k24_82 100000 m24_82.f m24_82.args m24_82.preH) = true := by kernel_rfl
theorem q24_82 : HkOk Tryz.prog (hkMemo m24_82) := hkMemo_ok evT_ok evF_ok k24_82_ok rfl m24_82_ok
noncomputable def k24_95 : Hk := orHk (hkMemo m24_94) (hkLib)
theorem k24_95_ok : HkOk Tryz.prog k24_95 := orHk_ok q24_94 (hkLib_ok)
noncomputable def m24_95 : Mm :=
  ⟨92, [pt 3065 0, .func (.func 93) #[] #[pt 9347 0]], 9348, [(1, .map [⟨.string ⟨#[111, 114, 105, 103, 105, 110, 97, 108]⟩, pt 32 0, 0⟩, ⟨.string ⟨#[115, 116, 111, 114, 101]⟩, pt 423 0, 1⟩, ⟨.string ⟨#[116, 97, 105, 108]⟩, pt 5545 0, 2⟩] 3),
  (2, .cells [i6 1048576, i6 13, .int .i64 (.negSucc 12), .bool false, .bool false, .map (some 1), .slice none 0 0] 61 true),
  (32, .cells [.slice (some ⟨34, 0, none⟩) 5 5, .slice (some ⟨35, 0, none⟩) 5 5, .bool true] 130 true),
  (34, .cells (u8s [97, 98, 99, 10, 100]) 5 false),
  (35, .cells (u8s [97, 98, 99, 10, 100]) 5 false),
  (48, .map [⟨i6 1, pt 225 0, 0⟩, ⟨i6 3, pt 5424 0, 2⟩, ⟨i6 4, pt 6469 0, 3⟩] 4),
  (49, .cells [i6 5, i6 0, i6 0, .bool false, pt 5424 0, pt 6469 0, .map (some 48)] 357 true),
  (66, .map [⟨i6 1, .slice (some ⟨251, 0, none⟩) 256 256, 0⟩, ⟨i6 3, .slice (some ⟨5450, 0, none⟩) 256 256, 2⟩, ⟨i6 4, .slice (some ⟨6495, 0, none⟩) 256 256, 3⟩] 4),
  (67, .cells [pt 49 0, pt 2 0, .string ⟨#[115, 116, 111, 114, 101]⟩, i6 5, .map (some 66), i6 0] 249 true),
  (68, .map [⟨i6 4, .bool true, 6⟩, ⟨i6 1, .bool true, 7⟩, ⟨i6 3, .bool true, 8⟩] 9),
  (69, .map [] 0),
  (70, .cells [i6 1, .map (some 68), .map (some 69), .slice none 0 0] 214 true),
  (71, .cells [pt 67 0, pt 70 0] 257 true),
  (73, .cells [pt 67 0, pt 70 0, pt 71 0, pt 2 0, pt 83 0, pt 3037 0, .slice (some ⟨9268, 0, none⟩) 2 2, i6 1, i6 2, i6 4, i6 1, i6 2, i6 5, i6 0, i6 0, i6 0, i6 0, i6 0, .slice (some ⟨9126, 0, none⟩) 2 2] 85 true),
  (83, .cells [pt 2 0, i6 2] 216 true),
  (225, .cells [i6 1, i6 0, .bool false, pt 6469 0, pt 5424 0] 351 true),
  (423, .cells [.slice (some ⟨7726, 0, none⟩) 1280 1280, .slice (some ⟨9255, 0, none⟩) 1280 1280, .bool true] 130 true),
  (3016, .map [] 0),
  (3017, .cells [pt 2 0, .string ⟨#[111, 114, 105, 103, 105, 110, 97, 108]⟩, i6 5, i6 0, .map (some 3016)] 372 true),
  (3037, .cells [pt 71 0, pt 3017 0, pt 83 0] 233 true),
  (3065, .cells [pt 73 0, pt 2 0, i6 9, i6 3, i6 7, .bool false, .bool false] 137 true),
  (5424, .cells [i6 3, i6 0, .bool false, pt 225 0, pt 49 1] 351 true),
  (5545, .cells [.slice (some ⟨5549, 0, none⟩) 2 2, .slice (some ⟨7863, 0, none⟩) 2 2, .bool true] 130 true),
  (5549, .cells (u8s [120, 121]) 5 false),
  (6469, .cells [i6 4, i6 0, .bool false, pt 49 1, pt 225 0] 351 true),
  (7726, .cells (u8s [111, 99, 116, 97, 118, 111, 48, 49, 2] ++ u8z 5 ++ u8s [4, 0, 0, 0, 1, 2, 0, 0, 0, 5] ++ u8z 36 ++ u8s [152, 29, 250, 49, 111, 99, 116, 97, 118, 111, 48, 49, 1] ++ u8z 5 ++ u8s [2] ++ u8z 8 ++ u8s [5] ++ u8z 36 ++ u8s [73, 229, 12, 250] ++ u8z 128 ++ u8s [1, 0, 14, 0, 1, 0, 0, 0, 7, 23, 113, 182, 1] ++ u8z 5 ++ u8s [5, 0, 0, 0, 255, 255, 255, 255] ++ u8z 230 ++ u8s [3, 0, 9, 0, 2, 0, 0, 0, 5, 212, 242, 114, 1, 1, 0, 0, 0, 5] ++ u8z 238 ++ u8s [1, 0, 40, 0, 3, 0, 0, 0, 189, 203, 162, 90, 3] ++ u8z 5 ++ u8s [1, 0, 0, 0, 255, 255, 255, 255, 1] ++ u8z 4 ++ u8s [2] ++ u8z 8 ++ u8s [1, 0, 0, 0, 4, 0, 0, 0, 255, 255, 255, 255] ++ u8z 204 ++ u8s [3, 0, 17, 0, 4, 0, 0, 0, 178, 66, 147, 60, 2, 1, 0, 0, 0, 5, 0, 0, 0, 3, 0, 0, 0, 7] ++ u8z 230) 5 false),
  (7863, .cells (u8s [120, 121]) 5 false),
  (9126, .cells [i6 1, i6 3] 3 false),
  (9268, .cells [i6 1, i6 5, i6 3, i6 7] 119 false),
  (9347, .cells [pt 3065 0] 39 true)], i6 0, 9531, [(2, some (.cells [i6 1048576, i6 15, .int .i64 (.negSucc 14), .bool false, .bool false, .map (some 1), .slice none 0 0] 61 true)),
  (68, some (.map [⟨i6 4, .bool true, 9⟩, ⟨i6 1, .bool true, 10⟩, ⟨i6 3, .bool true, 11⟩] 12)),
  (73, some (.cells [pt 67 0, pt 70 0, pt 71 0, pt 2 0, pt 83 0, pt 3037 0, .slice (some ⟨9473, 0, none⟩) 2 2, i6 0, i6 3, i6 4, i6 0, i6 2, i6 5, i6 0, i6 0, i6 0, i6 0, i6 0, .slice (some ⟨9126, 0, none⟩) 2 2] 85 true)),
  (423, some (.cells [.slice (some ⟨7726, 0, none⟩) 1280 1280, .slice (some ⟨9460, 0, none⟩) 1280 1280, .bool true] 130 true)),
  (3065, some (.cells [pt 73 0, pt 2 0, i6 9, i6 1, i6 5, .bool false, .bool false] 137 true)),
  (7726, some (.cells (u8s [111, 99, 116, 97, 118, 111, 48, 49, 2] ++ u8z 5 ++ u8s [4, 0, 0, 0, 1, 2, 0, 0, 0, 5] ++ u8z 36 ++ u8s [152, 29, 250, 49, 111, 99, 116, 97, 118, 111, 48, 49, 3] ++ u8z 5 ++ u8s [4] ++ u8z 4 ++ u8s [2, 0, 0, 0, 5] ++ u8z 36 ++ u8s [123, 101, 15, 249] ++ u8z 128 ++ u8s [1, 0, 14, 0, 1, 0, 0, 0, 7, 23, 113, 182, 1] ++ u8z 5 ++ u8s [5, 0, 0, 0, 255, 255, 255, 255] ++ u8z 230 ++ u8s [3, 0, 9, 0, 2, 0, 0, 0, 5, 212, 242, 114, 1, 1, 0, 0, 0, 5] ++ u8z 238 ++ u8s [1, 0, 40, 0, 3, 0, 0, 0, 189, 203, 162, 90, 3] ++ u8z 5 ++ u8s [1, 0, 0, 0, 255, 255, 255, 255, 1] ++ u8z 4 ++ u8s [2] ++ u8z 8 ++ u8s [1, 0, 0, 0, 4, 0, 0, 0, 255, 255, 255, 255] ++ u8z 204 ++ u8s [3, 0, 17, 0, 4, 0, 0, 0, 178, 66, 147, 60, 2, 1, 0, 0, 0, 5, 0, 0, 0, 3, 0, 0, 0, 7] ++ u8z 230) 5 false)),
  (9460, some (.cells (u8s [111, 99, 116, 97, 118, 111, 48, 49, 2] ++ u8z 5 ++ u8s [4, 0, 0, 0, 1, 2, 0, 0, 0, 5] ++ u8z 36 ++ u8s [152, 29, 250, 49, 111, 99, 116, 97, 118, 111, 48, 49, 3] ++ u8z 5 ++ u8s [4] ++ u8z 4 ++ u8s [2, 0, 0, 0, 5] ++ u8z 36 ++ u8s [123, 101, 15, 249] ++ u8z 128 ++ u8s [1, 0, 14, 0, 1, 0, 0, 0, 7, 23, 113, 182, 1] ++ u8z 5 ++ u8s [5, 0, 0, 0, 255, 255, 255, 255] ++ u8z 230 ++ u8s [3, 0, 9, 0, 2, 0, 0, 0, 5, 212, 242, 114, 1, 1, 0, 0, 0, 5] ++ u8z 238 ++ u8s [1, 0, 40, 0, 3, 0, 0, 0, 189, 203, 162, 90, 3] ++ u8z 5 ++ u8s [1, 0, 0, 0, 255, 255, 255, 255, 1] ++ u8z 4 ++ u8s [2] ++ u8z 8 ++ u8s [1, 0, 0, 0, 4, 0, 0, 0, 255, 255, 255, 255] ++ u8z 204 ++ u8s [3, 0, 17, 0, 4, 0, 0, 0, 178, 66, 147, 60, 2, 1, 0, 0, 0, 5, 0, 0, 0, 3, 0, 0, 0, 7] ++ u8z 230) 5 false)),
  (9473, some (.cells [i6 1, i6 5, i6 3, i6 7] 119 false))]⟩
theorem m24_95_ok : m24_95.ok (call evT evF k24_95 100000 m24_95.f m24_95.args m24_95.preH) = true := by kernel_rfl
theorem q24_95 : HkOk Tryz.prog (hkMemo m24_95) := hkMemo_ok evT_ok evF_ok k24_95_ok rfl m24_95_ok
noncomputable def k24_100 : Hk := orHk (hkMemo m24_99) (hkLib)
theorem k24_100_ok : HkOk Tryz.prog k24_100 := orHk_ok q24_99 (hkLib_ok)
noncomputable def m24_100 : Mm :=
  ⟨146, [pt 71 0, i6 1], 9553, [(1, .map [⟨.string ⟨#[111, 114, 105, 103, 105, 110, 97, 108]⟩, pt 32 0, 0⟩, ⟨.string ⟨#[115, 116, 111, 114, 101]⟩, pt 423 0, 1⟩, ⟨.string ⟨#[116, 97, 105, 108]⟩, pt 5545 0, 2⟩] 3),
  (2, .cells [i6 1048576, i6 15, .int .i64 (.negSucc 14), .bool false, .bool false, .map (some 1), .slice none 0 0] 61 true),
  (32, .cells [.slice (some ⟨34, 0, none⟩) 5 5, .slice (some ⟨35, 0, none⟩) 5 5, .bool true] 130 true),
  (34, .cells (u8s [97, 98, 99, 10, 100]) 5 false),
  (35, .cells (u8s [97, 98, 99, 10, 100]) 5 false),
  (48, .map [⟨i6 1, pt 225 0, 0⟩, ⟨i6 3, pt 5424 0, 2⟩, ⟨i6 4, pt 6469 0, 3⟩] 4),
  (49, .cells [i6 5, i6 0, i6 0, .bool false, pt 5424 0, pt 6469 0, .map (some 48)] 357 true),
  (66, .map [⟨i6 1, .slice (some ⟨251, 0, none⟩) 256 256, 0⟩, ⟨i6 3, .slice (some ⟨5450, 0, none⟩) 256 256, 2⟩, ⟨i6 4, .slice (some ⟨6495, 0, none⟩) 256 256, 3⟩] 4),
  (67, .cells [pt 49 0, pt 2 0, .string ⟨#[115, 116, 111, 114, 101]⟩, i6 5, .map (some 66), i6 0] 249 true),
  (68, .map [⟨i6 4, .bool true, 9⟩, ⟨i6 1, .bool true, 10⟩, ⟨i6 3, .bool true, 11⟩] 12),
  (69, .map [] 0),
  (70, .cells [i6 1, .map (some 68), .map (some 69), .slice none 0 0] 214 true),
  (71, .cells [pt 67 0, pt 70 0] 257 true),
  (225, .cells [i6 1, i6 0, .bool false, pt 6469 0, pt 5424 0] 351 true),
  (251, .cells (u8s [1, 0, 14, 0, 1, 0, 0, 0, 7, 23, 113, 182, 1] ++ u8z 5 ++ u8s [5, 0, 0, 0, 255, 255, 255, 255] ++ u8z 230) 5 false),
  (423, .cells [.slice (some ⟨7726, 0, none⟩) 1280 1280, .slice (some ⟨9460, 0, none⟩) 1280 1280, .bool true] 130 true),
  (5424, .cells [i6 3, i6 0, .bool false, pt 225 0, pt 49 1] 351 true),
  (5545, .cells [.slice (some ⟨5549, 0, none⟩) 2 2, .slice (some ⟨7863, 0, none⟩) 2 2, .bool true] 130 true),
  (5549, .cells (u8s [120, 121]) 5 false),
  (6469, .cells [i6 4, i6 0, .bool false, pt 49 1, pt 225 0] 351 true),
  (7863, .cells (u8s [120, 121]) 5 false)], .tuple #[i6 5, i6 0], 10049, [(49, some (.cells [i6 5, i6 0, i6 0, .bool false, pt 225 0, pt 6469 0, .map (some 48)] 357 true)),
  (225, some (.cells [i6 1, i6 0, .bool false, pt 5424 0, pt 49 1] 351 true)),
  (5424, some (.cells [i6 3, i6 0, .bool false, pt 6469 0, pt 225 0] 351 true)),
  (6469, some (.cells [i6 4, i6 0, .bool false, pt 49 1, pt 5424 0] 351 true))]⟩
theorem m24_100_ok : m24_100.ok (call evT evF k24_100 100000 m24_100.f m24_100.args m24_100.preH) = true := by kernel_rfl
theorem q24_100 : HkOk Tryz.prog (hkMemo m24_100) := hkMemo_ok evT_ok evF_ok k24_100_ok rfl m24_100_ok
noncomputable def k24_111 : Hk := orHk (hkMemo m24_110) (hkLib)
theorem k24_111_ok : HkOk Tryz.prog k24_111 := orHk_ok q24_110 (hkLib_ok)
noncomputable def m24_111 : Mm :=
  ⟨92, [pt 3065 0, .func (.func 95) #[] #[pt 10536 0]], 10537, [(1, .map [⟨.string ⟨#[111, 114, 105, 103, 105, 110, 97, 108]⟩, pt 32 0, 0⟩, ⟨.string ⟨#[115, 116, 111, 114, 101]⟩, pt 423 0, 1⟩, ⟨.string ⟨#[116, 97, 105, 108]⟩, pt 5545 0, 2⟩] 3),
  (2, .cells [i6 1048576, i6 15, .int .i64 (.negSucc 14), .bool false, .bool false, .map (some 1), .slice none 0 0] 61 true),
  (32, .cells [.slice (some ⟨34, 0, none⟩) 5 5, .slice (some ⟨35, 0, none⟩) 5 5, .bool true] 130 true),
  (34, .cells (u8s [97, 98, 99, 10, 100]) 5 false),
  (35, .cells (u8s [97, 98, 99, 10, 100]) 5 false),
  (48, .map [⟨i6 1, pt 225 0, 0⟩, ⟨i6 3, pt 5424 0, 2⟩, ⟨i6 4, pt 6469 0, 3⟩] 4),
  (49, .cells [i6 5, i6 0, i6 0, .bool false, pt 225 0, pt 6469 0, .map (some 48)] 357 true),
  (66, .map [⟨i6 1, .slice (some ⟨251, 0, none⟩) 256 256, 0⟩, ⟨i6 3, .slice (some ⟨5450, 0, none⟩) 256 256, 2⟩, ⟨i6 4, .slice (some ⟨6495, 0, none⟩) 256 256, 3⟩] 4),
  (67, .cells [pt 49 0, pt 2 0, .string ⟨#[115, 116, 111, 114, 101]⟩, i6 5, .map (some 66), i6 0] 249 true),
  (68, .map [⟨i6 4, .bool true, 9⟩, ⟨i6 1, .bool true, 10⟩, ⟨i6 3, .bool true, 11⟩] 12),
  (69, .map [] 0),
  (70, .cells [i6 1, .map (some 68), .map (some 69), .slice none 0 0] 214 true),
  (71, .cells [pt 67 0, pt 70 0] 257 true),
  (73, .cells [pt 67 0, pt 70 0, pt 71 0, pt 2 0, pt 83 0, pt 3037 0, .slice (some ⟨9473, 0, none⟩) 2 2, i6 0, i6 3, i6 4, i6 0, i6 2, i6 5, i6 0, i6 0, i6 0, i6 0, i6 0, .slice (some ⟨9126, 0, none⟩) 2 2] 85 true),
  (83, .cells [pt 2 0, i6 2] 216 true),
  (225, .cells [i6 1, i6 0, .bool false, pt 5424 0, pt 49 1] 351 true),
  (423, .cells [.slice (some ⟨7726, 0, none⟩) 1280 1280, .slice (some ⟨9460, 0, none⟩) 1280 1280, .bool true] 130 true),
  (3016, .map [] 0),
  (3017, .cells [pt 2 0, .string ⟨#[111, 114, 105, 103, 105, 110, 97, 108]⟩, i6 5, i6 0, .map (some 3016)] 372 true),
  (3037, .cells [pt 71 0, pt 3017 0, pt 83 0] 233 true),
  (3065, .cells [pt 73 0, pt 2 0, i6 9, i6 1, i6 5, .bool false, .bool false] 137 true),
  (5424, .cells [i6 3, i6 0, .bool false, pt 6469 0, pt 225 0] 351 true),
  (5545, .cells [.slice (some ⟨5549, 0, none⟩) 2 2, .slice (some ⟨7863, 0, none⟩) 2 2, .bool true] 130 true),
  (5549, .cells (u8s [120, 121]) 5 false),
  (6469, .cells [i6 4, i6 0, .bool false, pt 49 1, pt 5424 0] 351 true),
  (7726, .cells (u8s [111, 99, 116, 97, 118, 111, 48, 49, 2] ++ u8z 5 ++ u8s [4, 0, 0, 0, 1, 2, 0, 0, 0, 5] ++ u8z 36 ++ u8s [152, 29, 250, 49, 111, 99, 116, 97, 118, 111, 48, 49, 3] ++ u8z 5 ++ u8s [4] ++ u8z 4 ++ u8s [2, 0, 0, 0, 5] ++ u8z 36 ++ u8s [123, 101, 15, 249] ++ u8z 128 ++ u8s [1, 0, 14, 0, 1, 0, 0, 0, 7, 23, 113, 182, 1] ++ u8z 5 ++ u8s [5, 0, 0, 0, 255, 255, 255, 255] ++ u8z 230 ++ u8s [3, 0, 9, 0, 2, 0, 0, 0, 5, 212, 242, 114, 1, 1, 0, 0, 0, 5] ++ u8z 238 ++ u8s [1, 0, 40, 0, 3, 0, 0, 0, 189, 203, 162, 90, 3] ++ u8z 5 ++ u8s [1, 0, 0, 0, 255, 255, 255, 255, 1] ++ u8z 4 ++ u8s [2] ++ u8z 8 ++ u8s [1, 0, 0, 0, 4, 0, 0, 0, 255, 255, 255, 255] ++ u8z 204 ++ u8s [3, 0, 17, 0, 4, 0, 0, 0, 178, 66, 147, 60, 2, 1, 0, 0, 0, 5, 0, 0, 0, 3, 0, 0, 0, 7] ++ u8z 230) 5 false),
  (7863, .cells (u8s [120, 121]) 5 false),
  (9126, .cells [i6 1, i6 3] 3 false),
  (9473, .cells [i6 1, i6 5, i6 3, i6 7] 119 false),
  (10536, .cells [pt 3065 0] 39 true)], i6 0, 10725, [(2, some (.cells [i6 1048576, i6 17, .int .i64 (.negSucc 16), .bool false, .bool false, .map (some 1), .slice none 0 0] 61 true)),
  (68, some (.map [⟨i6 4, .bool true, 12⟩, ⟨i6 1, .bool true, 13⟩, ⟨i6 3, .bool true, 14⟩] 15)),
  (73, some (.cells [pt 67 0, pt 70 0, pt 71 0, pt 2 0, pt 83 0, pt 3037 0, .slice (some ⟨10667, 0, none⟩) 2 2, i6 1, i6 4, i6 4, i6 1, i6 2, i6 5, i6 0, i6 0, i6 0, i6 0, i6 0, .slice (some ⟨9126, 0, none⟩) 2 2] 85 true)),
  (423, some (.cells [.slice (some ⟨7726, 0, none⟩) 1280 1280, .slice (some ⟨10654, 0, none⟩) 1280 1280, .bool true] 130 true)),
  (3065, some (.cells [pt 73 0, pt 2 0, i6 9, i6 3, i6 7, .bool false, .bool false] 137 true)),
  (7726, some (.cells (u8s [111, 99, 116, 97, 118, 111, 48, 49, 4] ++ u8z 5 ++ u8s [4, 0, 0, 0, 1, 2, 0, 0, 0, 5] ++ u8z 36 ++ u8s [247, 19, 33, 158, 111, 99, 116, 97, 118, 111, 48, 49, 3] ++ u8z 5 ++ u8s [4] ++ u8z 4 ++ u8s [2, 0, 0, 0, 5] ++ u8z 36 ++ u8s [123, 101, 15, 249] ++ u8z 128 ++ u8s [1, 0, 14, 0, 1, 0, 0, 0, 7, 23, 113, 182, 1] ++ u8z 5 ++ u8s [5, 0, 0, 0, 255, 255, 255, 255] ++ u8z 230 ++ u8s [3, 0, 9, 0, 2, 0, 0, 0, 5, 212, 242, 114, 1, 1, 0, 0, 0, 5] ++ u8z 238 ++ u8s [1, 0, 40, 0, 3, 0, 0, 0, 189, 203, 162, 90, 3] ++ u8z 5 ++ u8s [1, 0, 0, 0, 255, 255, 255, 255, 1] ++ u8z 4 ++ u8s [2] ++ u8z 8 ++ u8s [1, 0, 0, 0, 4, 0, 0, 0, 255, 255, 255, 255] ++ u8z 204 ++ u8s [3, 0, 17, 0, 4, 0, 0, 0, 178, 66, 147, 60, 2, 1, 0, 0, 0, 5, 0, 0, 0, 3, 0, 0, 0, 7] ++ u8z 230) 5 false)),
  (10654, some (.cells (u8s [111, 99, 116, 97, 118, 111, 48, 49, 4] ++ u8z 5 ++ u8s [4, 0, 0, 0, 1, 2, 0, 0, 0, 5] ++ u8z 36 ++ u8s [247, 19, 33, 158, 111, 99, 116, 97, 118, 111, 48, 49, 3] ++ u8z 5 ++ u8s [4] ++ u8z 4 ++ u8s [2, 0, 0, 0, 5] ++ u8z 36 ++ u8s [123, 101, 15, 249] ++ u8z 128 ++ u8s [1, 0, 14, 0, 1, 0, 0, 0, 7, 23, 113, 182, 1] ++ u8z 5 ++ u8s [5, 0, 0, 0, 255, 255, 255, 255] ++ u8z 230 ++ u8s [3, 0, 9, 0, 2, 0, 0, 0, 5, 212, 242, 114, 1, 1, 0, 0, 0, 5] ++ u8z 238 ++ u8s [1, 0, 40, 0, 3, 0, 0, 0, 189, 203, 162, 90, 3] ++ u8z 5 ++ u8s [1, 0, 0, 0, 255, 255, 255, 255, 1] ++ u8z 4 ++ u8s [2] ++ u8z 8 ++ u8s [1, 0, 0, 0, 4, 0, 0, 0, 255, 255, 255, 255] ++ u8z 204 ++ u8s [3, 0, 17, 0, 4, 0, 0, 0, 178, 66, 147, 60, 2, 1, 0, 0, 0, 5, 0, 0, 0, 3, 0, 0, 0, 7] ++ u8z 230) 5 false)),
  (10667, some (.cells [i6 1, i6 5, i6 3, i6 7] 119 false))]⟩
theorem m24_111_ok : m24_111.ok (call evT evF k24_111 100000 m24_111.f m24_111.args m24_111.preH) = true := by kernel_rfl
theorem q24_111 : HkOk Tryz.prog (hkMemo m24_111) := hkMemo_ok evT_ok evF_ok k24_111_ok rfl m24_111_ok
noncomputable def k24_143 : Hk := orHk (hkMemo m24_124) (orHk (hkMemo m24_127) (orHk (hkMemo m24_128) (orHk (hkMemo m24_129) (orHk (hkMemo m24_134) (orHk (hkMemo m24_137) (orHk (hkMemo m24_142) (hkLib)))))))
theorem k24_143_ok : HkOk Tryz.prog k24_143 := orHk_ok q24_124 (orHk_ok q24_127 (orHk_ok q24_128 (orHk_ok q24_129 (orHk_ok q24_134 (orHk_ok q24_137 (orHk_ok q24_142 (hkLib_ok)))))))
noncomputable def m24_143 : Mm :=
  ⟨137, [pt 10747 0], 12779, [(1, .map [⟨.string ⟨#[111, 114, 105, 103, 105, 110, 97, 108]⟩, pt 32 0, 0⟩, ⟨.string ⟨#[115, 116, 111, 114, 101]⟩, pt 423 0, 1⟩, ⟨.string ⟨#[116, 97, 105, 108]⟩, pt 5545 0, 2⟩] 3),
  (2, .cells [i6 1048576, i6 17, .int .i64 (.negSucc 16), .bool false, .bool false, .map (some 1), .slice none 0 0] 61 true),
  (32, .cells [.slice (some ⟨34, 0, none⟩) 5 5, .slice (some ⟨35, 0, none⟩) 5 5, .bool true] 130 true),
  (34, .cells (u8s [97, 98, 99, 10, 100]) 5 false),
  (35, .cells (u8s [97, 98, 99, 10, 100]) 5 false),
  (48, .map [⟨i6 1, pt 225 0, 0⟩, ⟨i6 3, pt 5424 0, 2⟩, ⟨i6 4, pt 6469 0, 3⟩] 4),
  (49, .cells [i6 5, i6 0, i6 0, .bool false, pt 5424 0, pt 6469 0, .map (some 48)] 357 true),
  (66, .map [⟨i6 1, .slice (some ⟨251, 0, none⟩) 256 256, 0⟩, ⟨i6 3, .slice (some ⟨5450, 0, none⟩) 256 256, 2⟩, ⟨i6 4, .slice (some ⟨6495, 0, none⟩) 256 256, 3⟩] 4),
  (67, .cells [pt 49 0, pt 2 0, .string ⟨#[115, 116, 111, 114, 101]⟩, i6 5, .map (some 66), i6 0] 249 true),
  (68, .map [⟨i6 4, .bool true, 12⟩, ⟨i6 1, .bool true, 13⟩, ⟨i6 3, .bool true, 14⟩] 15),
  (69, .map [] 0),
  (70, .cells [i6 1, .map (some 68), .map (some 69), .slice none 0 0] 214 true),
  (71, .cells [pt 67 0, pt 70 0] 257 true),
  (73, .cells [pt 67 0, pt 70 0, pt 71 0, pt 2 0, pt 83 0, pt 3037 0, .slice (some ⟨10667, 0, none⟩) 2 2, i6 1, i6 4, i6 4, i6 1, i6 2, i6 5, i6 0, i6 0, i6 0, i6 0, i6 0, .slice (some ⟨9126, 0, none⟩) 2 2] 85 true),
  (83, .cells [pt 2 0, i6 2] 216 true),
  (225, .cells [i6 1, i6 0, .bool false, pt 6469 0, pt 5424 0] 351 true),
  (423, .cells [.slice (some ⟨7726, 0, none⟩) 1280 1280, .slice (some ⟨10654, 0, none⟩) 1280 1280, .bool true] 130 true),
  (3016, .map [] 0),
  (3017, .cells [pt 2 0, .string ⟨#[111, 114, 105, 103, 105, 110, 97, 108]⟩, i6 5, i6 0, .map (some 3016)] 372 true),
  (3037, .cells [pt 71 0, pt 3017 0, pt 83 0] 233 true),
  (5424, .cells [i6 3, i6 0, .bool false, pt 225 0, pt 49 1] 351 true),
  (5545, .cells [.slice (some ⟨5549, 0, none⟩) 2 2, .slice (some ⟨7863, 0, none⟩) 2 2, .bool true] 130 true),
  (5549, .cells (u8s [120, 121]) 5 false),
  (6469, .cells [i6 4, i6 0, .bool false, pt 49 1, pt 225 0] 351 true),
  (7863, .cells (u8s [120, 121]) 5 false),
  (9126, .cells [i6 1, i6 3] 3 false),
  (10667, .cells [i6 1, i6 5, i6 3, i6 7] 119 false),
  (10747, .cells [pt 2 0, i6 0, i6 0, i6 0, i6 0, i6 0, i6 0, i6 0, .slice none 0 0, .slice none 0 0, .slice none 0 0, i6 0, .int .u32 (.ofNat 0), pt 73 0, .slice (some ⟨12767, 0, none⟩) 3 3, .slice (some ⟨12010, 0, none⟩) 2 2, .slice none 0 0, i6 0, i6 2] 116 true),
  (11252, .cells [i6 0, i6 0, i6 5] 145 false),
  (12009, .cells [i6 0, i6 0, i6 1, i6 1, i6 0, i6 2, i6 0, i6 1, i6 4] 145 false),
  (12010, .cells [.slice (some ⟨11252, 0, none⟩) 1 1, .slice (some ⟨12009, 0, none⟩) 3 3] 113 false),
  (12767, .cells [i6 0, i6 0, i6 1, i6 1, i6 0, i6 2, i6 0, i6 1, i6 4] 145 false)], .tuple #[], 14047, [(48, some (.map [⟨i6 1, pt 225 0, 0⟩, ⟨i6 3, pt 5424 0, 2⟩, ⟨i6 4, pt 6469 0, 3⟩, ⟨i6 2, pt 13396 0, 4⟩, ⟨i6 5, pt 13982 0, 5⟩] 6)),
  (49, some (.cells [i6 5, i6 0, i6 0, .bool false, pt 13982 0, pt 6469 0, .map (some 48)] 357 true)),
  (66, some (.map [⟨i6 1, .slice (some ⟨251, 0, none⟩) 256 256, 0⟩, ⟨i6 3, .slice (some ⟨5450, 0, none⟩) 256 256, 2⟩, ⟨i6 4, .slice (some ⟨6495, 0, none⟩) 256 256, 3⟩, ⟨i6 2, .slice (some ⟨13422, 0, none⟩) 256 256, 4⟩, ⟨i6 5, .slice (some ⟨14008, 0, none⟩) 256 256, 5⟩] 6)),
  (68, some (.map [⟨i6 4, .bool true, 12⟩, ⟨i6 1, .bool true, 13⟩, ⟨i6 3, .bool true, 14⟩, ⟨i6 2, .bool true, 15⟩, ⟨i6 5, .bool true, 16⟩] 17)),
  (70, some (.cells [i6 1, .map (some 68), .map (some 69), .slice (some ⟨13950, 0, none⟩) 2 2] 214 true)),
  (5424, some (.cells [i6 3, i6 0, .bool false, pt 225 0, pt 13396 0] 351 true)),
  (10747, some (.cells [pt 2 0, i6 0, i6 0, i6 0, i6 0, i6 0, i6 0, i6 0, .slice none 0 0, .slice none 0 0, .slice none 0 0, i6 0, .int .u32 (.ofNat 0), pt 73 0, .slice (some ⟨12767, 0, none⟩) 3 3, .slice (some ⟨12010, 0, none⟩) 2 2, .slice (some ⟨14046, 0, none⟩) 2 2, i6 0, i6 2] 116 true)),
  (13396, some (.cells [i6 2, i6 0, .bool true, pt 5424 0, pt 13982 0] 351 true)),
  (13422, some (.cells (u8s [1, 0, 27, 0, 2, 0, 0, 0, 69, 219, 48, 151, 2] ++ u8z 5 ++ u8s [1, 0, 0, 0, 255, 255, 255, 255, 0, 3, 0, 0, 0, 4, 0, 0, 0, 255, 255, 255, 255] ++ u8z 217) 5 false)),
  (13950, some (.cells [i6 2, i6 5] 3 false)),
  (13982, some (.cells [i6 5, i6 0, .bool true, pt 13396 0, pt 49 1] 351 true)),
  (14008, some (.cells (u8s [1, 0, 14, 0, 5, 0, 0, 0, 2, 120, 233, 144, 1] ++ u8z 5 ++ u8s [7, 0, 0, 0, 255, 255, 255, 255] ++ u8z 230) 5 false)),
  (14046, some (.cells [i6 2, i6 5, i6 5, i6 7] 119 false))]⟩
theorem m24_143_ok : m24_143.ok (call evT evF k24_143 100000 m24_143.f m24_143.args m24_143.preH) = true := by kernel_rfl
theorem q24_143 : HkOk Tryz.prog (hkMemo m24_143) := hkMemo_ok evT_ok evF_ok k24_143_ok rfl m24_143_ok
noncomputable def k24_162 : Hk := orHk (hkMemo m24_155) (orHk (hkMemo m24_158) (orHk (hkMemo m24_161) (hkLib)))
theorem k24_162_ok : HkOk Tryz.prog k24_162 := orHk_ok q24_155 (orHk_ok q24_158 (orHk_ok q24_161 (hkLib_ok)))
noncomputable def m24_162 : Mm :=
  ⟨264, [pt 67 0], 14631, [(1, .map [⟨.string ⟨#[111, 114, 105, 103, 105, 110, 97, 108]⟩, pt 32 0, 0⟩, ⟨.string ⟨#[115, 116, 111, 114, 101]⟩, pt 423 0, 1⟩, ⟨.string ⟨#[116, 97, 105, 108]⟩, pt 5545 0, 2⟩] 3),
  (2, .cells [i6 1048576, i6 17, .int .i64 (.negSucc 16), .bool false, .bool false, .map (some 1), .slice none 0 0] 61 true),
  (32, .cells [.slice (some ⟨34, 0, none⟩) 5 5, .slice (some ⟨35, 0, none⟩) 5 5, .bool true] 130 true),
  (34, .cells (u8s [97, 98, 99, 10, 100]) 5 false),
  (35, .cells (u8s [97, 98, 99, 10, 100]) 5 false),
  (48, .map [⟨i6 1, pt 225 0, 0⟩, ⟨i6 3, pt 5424 0, 2⟩, ⟨i6 2, pt 13396 0, 4⟩, ⟨i6 5, pt 13982 0, 5⟩, ⟨i6 6, pt 14604 0, 6⟩] 7),
  (49, .cells [i6 5, i6 0, i6 0, .bool false, pt 14604 0, pt 225 0, .map (some 48)] 357 true),
  (66, .map [⟨i6 1, .slice (some ⟨251, 0, none⟩) 256 256, 0⟩, ⟨i6 3, .slice (some ⟨5450, 0, none⟩) 256 256, 2⟩, ⟨i6 2, .slice (some ⟨13422, 0, none⟩) 256 256, 4⟩, ⟨i6 5, .slice (some ⟨14008, 0, none⟩) 256 256, 5⟩, ⟨i6 6, .slice (some ⟨14630, 0, none⟩) 256 256, 6⟩] 7),
  (67, .cells [pt 49 0, pt 2 0, .string ⟨#[115, 116, 111, 114, 101]⟩, i6 5, .map (some 66), i6 0] 249 true),
  (225, .cells [i6 1, i6 0, .bool false, pt 49 1, pt 5424 0] 351 true),
  (423, .cells [.slice (some ⟨7726, 0, none⟩) 1280 1280, .slice (some ⟨10654, 0, none⟩) 1280 1280, .bool true] 130 true),
  (5424, .cells [i6 3, i6 0, .bool false, pt 225 0, pt 13396 0] 351 true),
  (5545, .cells [.slice (some ⟨5549, 0, none⟩) 2 2, .slice (some ⟨7863, 0, none⟩) 2 2, .bool true] 130 true),
  (5549, .cells (u8s [120, 121]) 5 false),
  (7726, .cells (u8s [111, 99, 116, 97, 118, 111, 48, 49, 4] ++ u8z 5 ++ u8s [4, 0, 0, 0, 1, 2, 0, 0, 0, 5] ++ u8z 36 ++ u8s [247, 19, 33, 158, 111, 99, 116, 97, 118, 111, 48, 49, 3] ++ u8z 5 ++ u8s [4] ++ u8z 4 ++ u8s [2, 0, 0, 0, 5] ++ u8z 36 ++ u8s [123, 101, 15, 249] ++ u8z 128 ++ u8s [1, 0, 14, 0, 1, 0, 0, 0, 7, 23, 113, 182, 1] ++ u8z 5 ++ u8s [5, 0, 0, 0, 255, 255, 255, 255] ++ u8z 230 ++ u8s [3, 0, 9, 0, 2, 0, 0, 0, 5, 212, 242, 114, 1, 1, 0, 0, 0, 5] ++ u8z 238 ++ u8s [1, 0, 40, 0, 3, 0, 0, 0, 189, 203, 162, 90, 3] ++ u8z 5 ++ u8s [1, 0, 0, 0, 255, 255, 255, 255, 1] ++ u8z 4 ++ u8s [2] ++ u8z 8 ++ u8s [1, 0, 0, 0, 4, 0, 0, 0, 255, 255, 255, 255] ++ u8z 204 ++ u8s [3, 0, 17, 0, 4, 0, 0, 0, 178, 66, 147, 60, 2, 1, 0, 0, 0, 5, 0, 0, 0, 3, 0, 0, 0, 7] ++ u8z 230) 5 false),
  (7863, .cells (u8s [120, 121]) 5 false),
  (13396, .cells [i6 2, i6 0, .bool true, pt 5424 0, pt 13982 0] 351 true),
  (13422, .cells (u8s [1, 0, 27, 0, 2, 0, 0, 0, 69, 219, 48, 151, 2] ++ u8z 5 ++ u8s [1, 0, 0, 0, 255, 255, 255, 255, 0, 3, 0, 0, 0, 4, 0, 0, 0, 255, 255, 255, 255] ++ u8z 217) 5 false),
  (13982, .cells [i6 5, i6 0, .bool true, pt 13396 0, pt 14604 0] 351 true),
  (14008, .cells (u8s [1, 0, 14, 0, 5, 0, 0, 0, 2, 120, 233, 144, 1] ++ u8z 5 ++ u8s [7, 0, 0, 0, 255, 255, 255, 255] ++ u8z 230) 5 false),
  (14604, .cells [i6 6, i6 0, .bool true, pt 13982 0, pt 49 1] 351 true),
  (14630, .cells (u8s [3, 0, 17, 0, 6, 0, 0, 0, 87, 212, 48, 146, 2, 2, 0, 0, 0, 5, 0, 0, 0, 5, 0, 0, 0, 7] ++ u8z 230) 5 false)], i6 0, 16156, [(2, some (.cells [i6 1048576, i6 21, .int .i64 (.negSucc 20), .bool false, .bool false, .map (some 1), .slice none 0 0] 61 true)),
  (423, some (.cells [.slice (some ⟨16019, 0, none⟩) 1792 1792, .slice (some ⟨16143, 0, none⟩) 1792 1792, .bool true] 130 true)),
  (7726, none),
  (13396, some (.cells [i6 2, i6 0, .bool false, pt 5424 0, pt 13982 0] 351 true)),
  (13982, some (.cells [i6 5, i6 0, .bool false, pt 13396 0, pt 14604 0] 351 true)),
  (14604, some (.cells [i6 6, i6 0, .bool false, pt 13982 0, pt 49 1] 351 true)),
  (16019, some (.cells (u8s [111, 99, 116, 97, 118, 111, 48, 49, 4] ++ u8z 5 ++ u8s [4, 0, 0, 0, 1, 2, 0, 0, 0, 5] ++ u8z 36 ++ u8s [247, 19, 33, 158, 111, 99, 116, 97, 118, 111, 48, 49, 3] ++ u8z 5 ++ u8s [4] ++ u8z 4 ++ u8s [2, 0, 0, 0, 5] ++ u8z 36 ++ u8s [123, 101, 15, 249] ++ u8z 128 ++ u8s [1, 0, 14, 0, 1, 0, 0, 0, 7, 23, 113, 182, 1] ++ u8z 5 ++ u8s [5, 0, 0, 0, 255, 255, 255, 255] ++ u8z 230 ++ u8s [1, 0, 27, 0, 2, 0, 0, 0, 69, 219, 48, 151, 2] ++ u8z 5 ++ u8s [1, 0, 0, 0, 255, 255, 255, 255, 0, 3, 0, 0, 0, 4, 0, 0, 0, 255, 255, 255, 255] ++ u8z 217 ++ u8s [1, 0, 40, 0, 3, 0, 0, 0, 189, 203, 162, 90, 3] ++ u8z 5 ++ u8s [1, 0, 0, 0, 255, 255, 255, 255, 1] ++ u8z 4 ++ u8s [2] ++ u8z 8 ++ u8s [1, 0, 0, 0, 4, 0, 0, 0, 255, 255, 255, 255] ++ u8z 204 ++ u8s [3, 0, 17, 0, 4, 0, 0, 0, 178, 66, 147, 60, 2, 1, 0, 0, 0, 5, 0, 0, 0, 3, 0, 0, 0, 7] ++ u8z 230 ++ u8s [1, 0, 14, 0, 5, 0, 0, 0, 2, 120, 233, 144, 1] ++ u8z 5 ++ u8s [7, 0, 0, 0, 255, 255, 255, 255] ++ u8z 230 ++ u8s [3, 0, 17, 0, 6, 0, 0, 0, 87, 212, 48, 146, 2, 2, 0, 0, 0, 5, 0, 0, 0, 5, 0, 0, 0, 7] ++ u8z 230) 5 false)),
  (16143, some (.cells (u8s [111, 99, 116, 97, 118, 111, 48, 49, 4] ++ u8z 5 ++ u8s [4, 0, 0, 0, 1, 2, 0, 0, 0, 5] ++ u8z 36 ++ u8s [247, 19, 33, 158, 111, 99, 116, 97, 118, 111, 48, 49, 3] ++ u8z 5 ++ u8s [4] ++ u8z 4 ++ u8s [2, 0, 0, 0, 5] ++ u8z 36 ++ u8s [123, 101, 15, 249] ++ u8z 128 ++ u8s [1, 0, 14, 0, 1, 0, 0, 0, 7, 23, 113, 182, 1] ++ u8z 5 ++ u8s [5, 0, 0, 0, 255, 255, 255, 255] ++ u8z 230 ++ u8s [1, 0, 27, 0, 2, 0, 0, 0, 69, 219, 48, 151, 2] ++ u8z 5 ++ u8s [1, 0, 0, 0, 255, 255, 255, 255, 0, 3, 0, 0, 0, 4, 0, 0, 0, 255, 255, 255, 255] ++ u8z 217 ++ u8s [1, 0, 40, 0, 3, 0, 0, 0, 189, 203, 162, 90, 3] ++ u8z 5 ++ u8s [1, 0, 0, 0, 255, 255, 255, 255, 1] ++ u8z 4 ++ u8s [2] ++ u8z 8 ++ u8s [1, 0, 0, 0, 4, 0, 0, 0, 255, 255, 255, 255] ++ u8z 204 ++ u8s [3, 0, 17, 0, 4, 0, 0, 0, 178, 66, 147, 60, 2, 1, 0, 0, 0, 5, 0, 0, 0, 3, 0, 0, 0, 7] ++ u8z 230 ++ u8s [1, 0, 14, 0, 5, 0, 0, 0, 2, 120, 233, 144, 1] ++ u8z 5 ++ u8s [7, 0, 0, 0, 255, 255, 255, 255] ++ u8z 230 ++ u8s [3, 0, 17, 0, 6, 0, 0, 0, 87, 212, 48, 146, 2, 2, 0, 0, 0, 5, 0, 0, 0, 5, 0, 0, 0, 7] ++ u8z 230) 5 false))]⟩
theorem m24_162_ok : m24_162.ok (call evT evF k24_162 100000 m24_162.f m24_162.args m24_162.preH) = true := by kernel_rfl
theorem q24_162 : HkOk Tryz.prog (hkMemo m24_162) := hkMemo_ok evT_ok evF_ok k24_162_ok rfl m24_162_ok
noncomputable def k24_197 : Hk := orHk (hkMemo m24_192) (orHk (hkMemo m24_196) (hkLib))
theorem k24_197_ok : HkOk Tryz.prog k24_197 := orHk_ok q24_192 (orHk_ok q24_196 (hkLib_ok))
noncomputable def m24_197 : Mm :=
  ⟨121, [pt 71 0, .slice (some ⟨14046, 0, none⟩) 2 2], 17877, [(1, .map [⟨.string ⟨#[111, 114, 105, 103, 105, 110, 97, 108]⟩, pt 32 0, 0⟩, ⟨.string ⟨#[115, 116, 111, 114, 101]⟩, pt 423 0, 1⟩, ⟨.string ⟨#[116, 97, 105, 108]⟩, pt 5545 0, 2⟩, ⟨.string ⟨#[106, 111, 117, 114, 110, 97, 108]⟩, pt 16616 0, 3⟩] 4),
  (2, .cells [i6 1048576, i6 41, .int .i64 (.negSucc 40), .bool false, .bool false, .map (some 1), .slice none 0 0] 61 true),
  (32, .cells [.slice (some ⟨16219, 0, none⟩) 7 7, .slice (some ⟨17745, 0, none⟩) 7 7, .bool true] 130 true),
  (48, .map [⟨i6 1, pt 225 0, 0⟩, ⟨i6 3, pt 5424 0, 2⟩, ⟨i6 2, pt 13396 0, 4⟩, ⟨i6 5, pt 13982 0, 5⟩, ⟨i6 6, pt 14604 0, 6⟩] 7),
  (49, .cells [i6 5, i6 0, i6 0, .bool false, pt 14604 0, pt 225 0, .map (some 48)] 357 true),
  (66, .map [⟨i6 1, .slice (some ⟨251, 0, none⟩) 256 256, 0⟩, ⟨i6 3, .slice (some ⟨5450, 0, none⟩) 256 256, 2⟩, ⟨i6 2, .slice (some ⟨13422, 0, none⟩) 256 256, 4⟩, ⟨i6 5, .slice (some ⟨14008, 0, none⟩) 256 256, 5⟩, ⟨i6 6, .slice (some ⟨14630, 0, none⟩) 256 256, 6⟩] 7),
  (67, .cells [pt 49 0, pt 2 0, .string ⟨#[115, 116, 111, 114, 101]⟩, i6 5, .map (some 66), i6 0] 249 true),
  (68, .map [⟨i6 4, .bool true, 12⟩, ⟨i6 1, .bool true, 13⟩, ⟨i6 3, .bool true, 14⟩, ⟨i6 2, .bool true, 15⟩, ⟨i6 5, .bool true, 16⟩, ⟨i6 6, .bool true, 17⟩] 18),
  (69, .map [] 0),
  (70, .cells [i6 1, .map (some 68), .map (some 69), .slice (some ⟨14549, 0, none⟩) 3 3] 214 true),
  (71, .cells [pt 67 0, pt 70 0] 257 true),
  (225, .cells [i6 1, i6 0, .bool false, pt 49 1, pt 5424 0] 351 true),
  (423, .cells [.slice (some ⟨16019, 0, none⟩) 1792 1792, .slice (some ⟨17829, 0, none⟩) 1792 1792, .bool true] 130 true),
  (5424, .cells [i6 3, i6 0, .bool false, pt 225 0, pt 13396 0] 351 true),
  (5545, .cells [.slice (some ⟨5549, 0, none⟩) 2 2, .slice (some ⟨16157, 0, none⟩) 2 2, .bool true] 130 true),
  (5549, .cells (u8s [120, 121]) 5 false),
  (13396, .cells [i6 2, i6 0, .bool false, pt 5424 0, pt 13982 0] 351 true),
  (13422, .cells (u8s [1, 0, 27, 0, 2, 0, 0, 0, 69, 219, 48, 151, 2] ++ u8z 5 ++ u8s [1, 0, 0, 0, 255, 255, 255, 255, 0, 3, 0, 0, 0, 4, 0, 0, 0, 255, 255, 255, 255] ++ u8z 217) 5 false),
  (13982, .cells [i6 5, i6 0, .bool false, pt 13396 0, pt 14604 0] 351 true),
  (14008, .cells (u8s [1, 0, 14, 0, 5, 0, 0, 0, 2, 120, 233, 144, 1] ++ u8z 5 ++ u8s [7, 0, 0, 0, 255, 255, 255, 255] ++ u8z 230) 5 false),
  (14046, .cells [i6 2, i6 5, i6 5, i6 7] 119 false),
  (14549, .cells [i6 2, i6 5, i6 6] 3 false),
  (14604, .cells [i6 6, i6 0, .bool false, pt 13982 0, pt 49 1] 351 true),
  (16157, .cells (u8s [120, 121]) 5 false),
  (16219, .cells (u8s [97, 120, 121, 98, 99, 10, 100]) 5 false),
  (16616, .cells [.slice (some ⟨17128, 0, none⟩) 0 256, .slice (some ⟨17833, 0, none⟩) 0 0, .bool true] 130 true),
  (17745, .cells (u8s [97, 120, 121, 98, 99, 10, 100]) 5 false),
  (17833, .cells [] 5 true)], .tuple #[.slice (some ⟨18965, 0, none⟩) 2 2, i6 0], 19014, [(49, some (.cells [i6 5, i6 0, i6 0, .bool false, pt 13982 0, pt 225 0, .map (some 48)] 357 true)),
  (5424, some (.cells [i6 3, i6 0, .bool false, pt 225 0, pt 14604 0] 351 true)),
  (13396, some (.cells [i6 2, i6 0, .bool false, pt 14604 0, pt 13982 0] 351 true)),
  (13982, some (.cells [i6 5, i6 0, .bool false, pt 13396 0, pt 49 1] 351 true)),
  (14604, some (.cells [i6 6, i6 0, .bool false, pt 5424 0, pt 13396 0] 351 true)),
  (18965, some (.cells [i6 2, i6 5] 3 false))]⟩
theorem m24_197_ok : m24_197.ok (call evT evF k24_197 100000 m24_197.f m24_197.args m24_197.preH) = true := by kernel_rfl
theorem q24_197 : HkOk Tryz.prog (hkMemo m24_197) := hkMemo_ok evT_ok evF_ok k24_197_ok rfl m24_197_ok
end Go.Proofs.YtjclpdlijblpjaaGreat
