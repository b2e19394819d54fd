/-
  Calls that were reckoned out, one by one. Printed by a program.
-/
import Derived.Test.YtjclpdlijblpjaaGreatEvl
namespace Go.Proofs.YtjclpdlijblpjaaGreat
open Go.Ev
set_option maxRecDepth 1000000
noncomputable def k24_2 : Hk := hkLib
theorem k24_2_ok : HkOk Tryz.prog k24_2 := hkLib_ok
noncomputable def m24_2 : Mm :=
  ⟨262, [i6 1, i6 1, .slice (some ⟨191, 0, none⟩) 14 14], 194, [(191, .cells (u8s [1] ++ u8z 5 ++ u8s [5, 0, 0, 0, 255, 255, 255, 255]) 5 false)], .tuple #[.slice (some ⟨194, 0, none⟩) 256 256, i6 0], 205, [(194, some (.cells (u8s [1, 0, 14, 0, 1, 0, 0, 0, 7, 23, 113, 182, 1] ++ u8z 5 ++ u8s [5, 0, 0, 0, 255, 255, 255, 255] ++ u8z 230) 414 true))]⟩
theorem m24_2_ok : m24_2.ok (call evT evF k24_2 100000 m24_2.f m24_2.args m24_2.preH) = true := by kernel_rfl
theorem q24_2 : HkOk Tryz.prog (hkMemo m24_2) := hkMemo_ok evT_ok evF_ok k24_2_ok rfl m24_2_ok
noncomputable def k24_3 : Hk := hkLib
theorem k24_3_ok : HkOk Tryz.prog k24_3 := hkLib_ok
noncomputable def m24_3 : Mm :=
  ⟨263, [pt 67 0, i6 1, .slice (some ⟨194, 0, none⟩) 256 256], 205, [(1, .map [⟨.string ⟨#[111, 114, 105, 103, 105, 110, 97, 108]⟩, pt 32 0, 0⟩] 1),
  (2, .cells [i6 1048576, i6 0, i6 0, .bool false, .bool false, .map (some 1), .slice none 0 0] 61 true),
  (32, .cells [.slice (some ⟨34, 0, none⟩) 5 5, .slice (some ⟨35, 0, none⟩) 5 5, .bool true] 130 true),
  (34, .cells (u8s [97, 98, 99, 10, 100]) 5 false),
  (35, .cells (u8s [97, 98, 99, 10, 100]) 5 false),
  (48, .map [] 0),
  (49, .cells [i6 5, i6 0, i6 0, .bool false, pt 49 1, pt 49 1, .map (some 48)] 357 true),
  (66, .map [] 0),
  (67, .cells [pt 49 0, pt 2 0, .string ⟨#[115, 116, 111, 114, 101]⟩, i6 5, .map (some 66), i6 0] 249 true),
  (194, .cells (u8s [1, 0, 14, 0, 1, 0, 0, 0, 7, 23, 113, 182, 1] ++ u8z 5 ++ u8s [5, 0, 0, 0, 255, 255, 255, 255] ++ u8z 230) 414 true)], i6 0, 252, [(48, some (.map [⟨i6 1, pt 225 0, 0⟩] 1)),
  (49, some (.cells [i6 5, i6 0, i6 0, .bool false, pt 225 0, pt 225 0, .map (some 48)] 357 true)),
  (66, some (.map [⟨i6 1, .slice (some ⟨251, 0, none⟩) 256 256, 0⟩] 1)),
  (225, some (.cells [i6 1, i6 0, .bool true, pt 49 1, pt 49 1] 351 true)),
  (251, some (.cells (u8s [1, 0, 14, 0, 1, 0, 0, 0, 7, 23, 113, 182, 1] ++ u8z 5 ++ u8s [5, 0, 0, 0, 255, 255, 255, 255] ++ u8z 230) 5 false))]⟩
theorem m24_3_ok : m24_3.ok (call evT evF k24_3 100000 m24_3.f m24_3.args m24_3.preH) = true := by kernel_rfl
theorem q24_3 : HkOk Tryz.prog (hkMemo m24_3) := hkMemo_ok evT_ok evF_ok k24_3_ok rfl m24_3_ok
noncomputable def k24_7 : Hk := hkLib
theorem k24_7_ok : HkOk Tryz.prog k24_7 := hkLib_ok
noncomputable def m24_7 : Mm :=
  ⟨263, [pt 67 0, i6 2, .slice (some ⟨319, 0, none⟩) 256 256], 330, [(1, .map [⟨.string ⟨#[111, 114, 105, 103, 105, 110, 97, 108]⟩, pt 32 0, 0⟩] 1),
  (2, .cells [i6 1048576, i6 0, i6 0, .bool false, .bool false, .map (some 1), .slice none 0 0] 61 true),
  (32, .cells [.slice (some ⟨34, 0, none⟩) 5 5, .slice (some ⟨35, 0, none⟩) 5 5, .bool true] 130 true),
  (34, .cells (u8s [97, 98, 99, 10, 100]) 5 false),
  (35, .cells (u8s [97, 98, 99, 10, 100]) 5 false),
  (48, .map [⟨i6 1, pt 225 0, 0⟩] 1),
  (49, .cells [i6 5, i6 0, i6 0, .bool false, pt 225 0, pt 225 0, .map (some 48)] 357 true),
  (66, .map [⟨i6 1, .slice (some ⟨251, 0, none⟩) 256 256, 0⟩] 1),
  (67, .cells [pt 49 0, pt 2 0, .string ⟨#[115, 116, 111, 114, 101]⟩, i6 5, .map (some 66), i6 0] 249 true),
  (225, .cells [i6 1, i6 0, .bool true, pt 49 1, pt 49 1] 351 true),
  (319, .cells (u8s [3, 0, 9, 0, 2, 0, 0, 0, 5, 212, 242, 114, 1, 1, 0, 0, 0, 5] ++ u8z 238) 414 true)], i6 0, 377, [(48, some (.map [⟨i6 1, pt 225 0, 0⟩, ⟨i6 2, pt 350 0, 1⟩] 2)),
  (49, some (.cells [i6 5, i6 0, i6 0, .bool false, pt 350 0, pt 225 0, .map (some 48)] 357 true)),
  (66, some (.map [⟨i6 1, .slice (some ⟨251, 0, none⟩) 256 256, 0⟩, ⟨i6 2, .slice (some ⟨376, 0, none⟩) 256 256, 1⟩] 2)),
  (225, some (.cells [i6 1, i6 0, .bool true, pt 49 1, pt 350 0] 351 true)),
  (350, some (.cells [i6 2, i6 0, .bool true, pt 225 0, pt 49 1] 351 true)),
  (376, some (.cells (u8s [3, 0, 9, 0, 2, 0, 0, 0, 5, 212, 242, 114, 1, 1, 0, 0, 0, 5] ++ u8z 238) 5 false))]⟩
theorem m24_7_ok : m24_7.ok (call evT evF k24_7 100000 m24_7.f m24_7.args m24_7.preH) = true := by kernel_rfl
theorem q24_7 : HkOk Tryz.prog (hkMemo m24_7) := hkMemo_ok evT_ok evF_ok k24_7_ok rfl m24_7_ok
noncomputable def k24_8 : Hk := hkLib
theorem k24_8_ok : HkOk Tryz.prog k24_8 := hkLib_ok
noncomputable def m24_8 : Mm :=
  ⟨67, [.slice none 0 0, i6 0, .slice (some ⟨403, 0, none⟩) 256 256], 424, [(403, .cells (u8z 256) 5 true)], .slice (some ⟨935, 0, none⟩) 256 256, 936, [(935, some (.cells (u8z 256) 5 false))]⟩
theorem m24_8_ok : m24_8.ok (call evT evF k24_8 100000 m24_8.f m24_8.args m24_8.preH) = true := by kernel_rfl
theorem q24_8 : HkOk Tryz.prog (hkMemo m24_8) := hkMemo_ok evT_ok evF_ok k24_8_ok rfl m24_8_ok
noncomputable def k24_18 : Hk := hkLib
theorem k24_18_ok : HkOk Tryz.prog k24_18 := hkLib_ok
noncomputable def m24_18 : Mm :=
  ⟨184, [pt 2501 0, i6 230], 2691, [(2500, .cells (u8s [1, 0, 14, 0, 1, 0, 0, 0, 7, 23, 113, 182, 1] ++ u8z 5 ++ u8s [5, 0, 0, 0, 255, 255, 255, 255] ++ u8z 230) 5 false),
  (2501, .cells [.slice (some ⟨2500, 0, none⟩) 256 256, i6 26] 360 true)], i6 0, 2720, [(2501, some (.cells [.slice (some ⟨2500, 0, none⟩) 256 256, i6 256] 360 true))]⟩
theorem m24_18_ok : m24_18.ok (call evT evF k24_18 100000 m24_18.f m24_18.args m24_18.preH) = true := by kernel_rfl
theorem q24_18 : HkOk Tryz.prog (hkMemo m24_18) := hkMemo_ok evT_ok evF_ok k24_18_ok rfl m24_18_ok
noncomputable def k24_38 : Hk := hkLib
theorem k24_38_ok : HkOk Tryz.prog k24_38 := hkLib_ok
noncomputable def m24_38 : Mm :=
  ⟨283, [i6 1, .slice (some ⟨3905, 0, none⟩) 14 14], 3947, [(3905, .cells (u8s [1] ++ u8z 5 ++ u8s [5, 0, 0, 0, 255, 255, 255, 255]) 5 false)], .tuple #[.agg #[.bool true, .slice (some ⟨4121, 0, none⟩) 1 1, .slice none 0 0], i6 0], 4136, [(4121, some (.cells [i6 0, i6 0, i6 5, .int .i64 (.negSucc 0)] 147 false))]⟩
theorem m24_38_ok : m24_38.ok (call evT evF k24_38 100000 m24_38.f m24_38.args m24_38.preH) = true := by kernel_rfl
theorem q24_38 : HkOk Tryz.prog (hkMemo m24_38) := hkMemo_ok evT_ok evF_ok k24_38_ok rfl m24_38_ok
noncomputable def k24_40 : Hk := hkLib
theorem k24_40_ok : HkOk Tryz.prog k24_40 := hkLib_ok
noncomputable def m24_40 : Mm :=
  ⟨184, [pt 4194 0, i6 230], 4384, [(4193, .cells (u8s [1, 0, 14, 0, 1, 0, 0, 0, 7, 23, 113, 182, 1] ++ u8z 5 ++ u8s [5, 0, 0, 0, 255, 255, 255, 255] ++ u8z 230) 5 false),
  (4194, .cells [.slice (some ⟨4193, 0, none⟩) 256 256, i6 26] 360 true)], i6 0, 4413, [(4194, some (.cells [.slice (some ⟨4193, 0, none⟩) 256 256, i6 256] 360 true))]⟩
theorem m24_40_ok : m24_40.ok (call evT evF k24_40 100000 m24_40.f m24_40.args m24_40.preH) = true := by kernel_rfl
theorem q24_40 : HkOk Tryz.prog (hkMemo m24_40) := hkMemo_ok evT_ok evF_ok k24_40_ok rfl m24_40_ok
noncomputable def k24_53 : Hk := hkLib
theorem k24_53_ok : HkOk Tryz.prog k24_53 := hkLib_ok
noncomputable def m24_53 : Mm :=
  ⟨228, [.agg #[.bool true, .slice (some ⟨4733, 0, none⟩) 3 3, .slice none 0 0]], 5451, [(4733, .cells [i6 0, i6 0, i6 1, .int .i64 (.negSucc 0), i6 1, i6 0, i6 2, i6 0, i6 0, i6 1, i6 4, .int .i64 (.negSucc 0)] 147 false)], .tuple #[i6 7, .int .i64 (.negSucc 0), i6 3], 5508, []⟩
theorem m24_53_ok : m24_53.ok (call evT evF k24_53 100000 m24_53.f m24_53.args m24_53.preH) = true := by kernel_rfl
theorem q24_53 : HkOk Tryz.prog (hkMemo m24_53) := hkMemo_ok evT_ok evF_ok k24_53_ok rfl m24_53_ok
noncomputable def k24_60 : Hk := hkLib
theorem k24_60_ok : HkOk Tryz.prog k24_60 := hkLib_ok
noncomputable def m24_60 : Mm :=
  ⟨283, [i6 1, .slice (some ⟨5825, 0, none⟩) 40 40], 5867, [(5825, .cells (u8s [3] ++ u8z 5 ++ u8s [1, 0, 0, 0, 255, 255, 255, 255, 1] ++ u8z 4 ++ u8s [2] ++ u8z 8 ++ u8s [1, 0, 0, 0, 4, 0, 0, 0, 255, 255, 255, 255]) 5 false)], .tuple #[.agg #[.bool true, .slice (some ⟨6301, 0, none⟩) 3 3, .slice none 0 0], i6 0], 6322, [(6301, some (.cells [i6 0, i6 0, i6 1, .int .i64 (.negSucc 0), i6 1, i6 0, i6 2, i6 0, i6 0, i6 1, i6 4, .int .i64 (.negSucc 0)] 147 false))]⟩
theorem m24_60_ok : m24_60.ok (call evT evF k24_60 100000 m24_60.f m24_60.args m24_60.preH) = true := by kernel_rfl
theorem q24_60 : HkOk Tryz.prog (hkMemo m24_60) := hkMemo_ok evT_ok evF_ok k24_60_ok rfl m24_60_ok
noncomputable def k24_64 : Hk := hkLib
theorem k24_64_ok : HkOk Tryz.prog k24_64 := hkLib_ok
noncomputable def m24_64 : Mm :=
  ⟨262, [i6 4, i6 3, .slice (some ⟨6434, 0, none⟩) 17 17], 6438, [(6434, .cells (u8s [2, 1, 0, 0, 0, 5, 0, 0, 0, 3, 0, 0, 0, 7, 0, 0, 0]) 5 false)], .tuple #[.slice (some ⟨6438, 0, none⟩) 256 256, i6 0], 6449, [(6438, some (.cells (u8s [3, 0, 17, 0, 4, 0, 0, 0, 178, 66, 147, 60, 2, 1, 0, 0, 0, 5, 0, 0, 0, 3, 0, 0, 0, 7] ++ u8z 230) 414 true))]⟩
theorem m24_64_ok : m24_64.ok (call evT evF k24_64 100000 m24_64.f m24_64.args m24_64.preH) = true := by kernel_rfl
theorem q24_64 : HkOk Tryz.prog (hkMemo m24_64) := hkMemo_ok evT_ok evF_ok k24_64_ok rfl m24_64_ok
noncomputable def k24_69 : Hk := hkLib
theorem k24_69_ok : HkOk Tryz.prog k24_69 := hkLib_ok
noncomputable def m24_69 : Mm :=
  ⟨67, [.slice (some ⟨7055, 0, none⟩) 1024 1024, i6 1024, .slice (some ⟨6495, 0, none⟩) 256 256], 7215, [(6495, .cells (u8s [3, 0, 17, 0, 4, 0, 0, 0, 178, 66, 147, 60, 2, 1, 0, 0, 0, 5, 0, 0, 0, 3, 0, 0, 0, 7] ++ u8z 230) 5 false),
  (7055, .cells (u8z 64 ++ u8s [111, 99, 116, 97, 118, 111, 48, 49, 1] ++ u8z 5 ++ u8s [2] ++ u8z 8 ++ u8s [5] ++ u8z 36 ++ u8s [73, 229, 12, 250] ++ u8z 128 ++ u8s [1, 0, 14, 0, 1, 0, 0, 0, 7, 23, 113, 182, 1] ++ u8z 5 ++ u8s [5, 0, 0, 0, 255, 255, 255, 255] ++ u8z 230 ++ u8s [3, 0, 9, 0, 2, 0, 0, 0, 5, 212, 242, 114, 1, 1, 0, 0, 0, 5] ++ u8z 238 ++ u8s [1, 0, 40, 0, 3, 0, 0, 0, 189, 203, 162, 90, 3] ++ u8z 5 ++ u8s [1, 0, 0, 0, 255, 255, 255, 255, 1] ++ u8z 4 ++ u8s [2] ++ u8z 8 ++ u8s [1, 0, 0, 0, 4, 0, 0, 0, 255, 255, 255, 255] ++ u8z 204) 5 false)], .slice (some ⟨7726, 0, none⟩) 1280 1280, 7727, [(7055, none),
  (7726, some (.cells (u8z 64 ++ u8s [111, 99, 116, 97, 118, 111, 48, 49, 1] ++ u8z 5 ++ u8s [2] ++ u8z 8 ++ u8s [5] ++ u8z 36 ++ u8s [73, 229, 12, 250] ++ u8z 128 ++ u8s [1, 0, 14, 0, 1, 0, 0, 0, 7, 23, 113, 182, 1] ++ u8z 5 ++ u8s [5, 0, 0, 0, 255, 255, 255, 255] ++ u8z 230 ++ u8s [3, 0, 9, 0, 2, 0, 0, 0, 5, 212, 242, 114, 1, 1, 0, 0, 0, 5] ++ u8z 238 ++ u8s [1, 0, 40, 0, 3, 0, 0, 0, 189, 203, 162, 90, 3] ++ u8z 5 ++ u8s [1, 0, 0, 0, 255, 255, 255, 255, 1] ++ u8z 4 ++ u8s [2] ++ u8z 8 ++ u8s [1, 0, 0, 0, 4, 0, 0, 0, 255, 255, 255, 255] ++ u8z 204 ++ u8s [3, 0, 17, 0, 4, 0, 0, 0, 178, 66, 147, 60, 2, 1, 0, 0, 0, 5, 0, 0, 0, 3, 0, 0, 0, 7] ++ u8z 230) 5 false))]⟩
theorem m24_69_ok : m24_69.ok (call evT evF k24_69 100000 m24_69.f m24_69.args m24_69.preH) = true := by kernel_rfl
theorem q24_69 : HkOk Tryz.prog (hkMemo m24_69) := hkMemo_ok evT_ok evF_ok k24_69_ok rfl m24_69_ok
noncomputable def k24_76 : Hk := hkLib
theorem k24_76_ok : HkOk Tryz.prog k24_76 := hkLib_ok
noncomputable def m24_76 : Mm :=
  ⟨283, [i6 1, .slice (some ⟨8142, 0, none⟩) 14 14], 8184, [(8142, .cells (u8s [1] ++ u8z 5 ++ u8s [5, 0, 0, 0, 255, 255, 255, 255]) 5 false)], .tuple #[.agg #[.bool true, .slice (some ⟨8358, 0, none⟩) 1 1, .slice none 0 0], i6 0], 8373, [(8358, some (.cells [i6 0, i6 0, i6 5, .int .i64 (.negSucc 0)] 147 false))]⟩
theorem m24_76_ok : m24_76.ok (call evT evF k24_76 100000 m24_76.f m24_76.args m24_76.preH) = true := by kernel_rfl
theorem q24_76 : HkOk Tryz.prog (hkMemo m24_76) := hkMemo_ok evT_ok evF_ok k24_76_ok rfl m24_76_ok
noncomputable def k24_78 : Hk := hkLib
theorem k24_78_ok : HkOk Tryz.prog k24_78 := hkLib_ok
noncomputable def m24_78 : Mm :=
  ⟨184, [pt 8439 0, i6 204], 8629, [(8438, .cells (u8s [1, 0, 40, 0, 3, 0, 0, 0, 189, 203, 162, 90, 3] ++ u8z 5 ++ u8s [1, 0, 0, 0, 255, 255, 255, 255, 1] ++ u8z 4 ++ u8s [2] ++ u8z 8 ++ u8s [1, 0, 0, 0, 4, 0, 0, 0, 255, 255, 255, 255] ++ u8z 204) 5 false),
  (8439, .cells [.slice (some ⟨8438, 0, none⟩) 256 256, i6 52] 360 true)], i6 0, 8658, [(8439, some (.cells [.slice (some ⟨8438, 0, none⟩) 256 256, i6 256] 360 true))]⟩
theorem m24_78_ok : m24_78.ok (call evT evF k24_78 100000 m24_78.f m24_78.args m24_78.preH) = true := by kernel_rfl
theorem q24_78 : HkOk Tryz.prog (hkMemo m24_78) := hkMemo_ok evT_ok evF_ok k24_78_ok rfl m24_78_ok
noncomputable def k24_83 : Hk := hkLib
theorem k24_83_ok : HkOk Tryz.prog k24_83 := hkLib_ok
noncomputable def m24_83 : Mm :=
  ⟨113, [.agg #[i6 2, i6 4, i6 1, i6 2, i6 5]], 9176, [], .tuple #[.slice (some ⟨9199, 0, none⟩) 64 64, i6 0], 9200, [(9199, some (.cells (u8s [111, 99, 116, 97, 118, 111, 48, 49, 2] ++ u8z 5 ++ u8s [4, 0, 0, 0, 1, 2, 0, 0, 0, 5] ++ u8z 36 ++ u8s [152, 29, 250, 49]) 5 false))]⟩
theorem m24_83_ok : m24_83.ok (call evT evF k24_83 100000 m24_83.f m24_83.args m24_83.preH) = true := by kernel_rfl
theorem q24_83 : HkOk Tryz.prog (hkMemo m24_83) := hkMemo_ok evT_ok evF_ok k24_83_ok rfl m24_83_ok
noncomputable def k24_84 : Hk := hkLib
theorem k24_84_ok : HkOk Tryz.prog k24_84 := hkLib_ok
noncomputable def m24_84 : Mm :=
  ⟨11, [pt 2 0, .string ⟨#[115, 116, 111, 114, 101]⟩, i6 0, .slice (some ⟨9199, 0, none⟩) 64 64], 9210, [(1, .map [⟨.string ⟨#[111, 114, 105, 103, 105, 110, 97, 108]⟩, pt 32 0, 0⟩, ⟨.string ⟨#[115, 116, 111, 114, 101]⟩, pt 423 0, 1⟩, ⟨.string ⟨#[116, 97, 105, 108]⟩, pt 5545 0, 2⟩] 3),
  (2, .cells [i6 1048576, i6 11, .int .i64 (.negSucc 10), .bool false, .bool false, .map (some 1), .slice none 0 0] 61 true),
  (32, .cells [.slice (some ⟨34, 0, none⟩) 5 5, .slice (some ⟨35, 0, none⟩) 5 5, .bool true] 130 true),
  (34, .cells (u8s [97, 98, 99, 10, 100]) 5 false),
  (35, .cells (u8s [97, 98, 99, 10, 100]) 5 false),
  (423, .cells [.slice (some ⟨7726, 0, none⟩) 1280 1280, .slice (some ⟨7850, 0, none⟩) 1280 1280, .bool true] 130 true),
  (5545, .cells [.slice (some ⟨5549, 0, none⟩) 2 2, .slice (some ⟨7863, 0, none⟩) 2 2, .bool true] 130 true),
  (5549, .cells (u8s [120, 121]) 5 false),
  (7726, .cells (u8z 64 ++ u8s [111, 99, 116, 97, 118, 111, 48, 49, 1] ++ u8z 5 ++ u8s [2] ++ u8z 8 ++ u8s [5] ++ u8z 36 ++ u8s [73, 229, 12, 250] ++ u8z 128 ++ u8s [1, 0, 14, 0, 1, 0, 0, 0, 7, 23, 113, 182, 1] ++ u8z 5 ++ u8s [5, 0, 0, 0, 255, 255, 255, 255] ++ u8z 230 ++ u8s [3, 0, 9, 0, 2, 0, 0, 0, 5, 212, 242, 114, 1, 1, 0, 0, 0, 5] ++ u8z 238 ++ u8s [1, 0, 40, 0, 3, 0, 0, 0, 189, 203, 162, 90, 3] ++ u8z 5 ++ u8s [1, 0, 0, 0, 255, 255, 255, 255, 1] ++ u8z 4 ++ u8s [2] ++ u8z 8 ++ u8s [1, 0, 0, 0, 4, 0, 0, 0, 255, 255, 255, 255] ++ u8z 204 ++ u8s [3, 0, 17, 0, 4, 0, 0, 0, 178, 66, 147, 60, 2, 1, 0, 0, 0, 5, 0, 0, 0, 3, 0, 0, 0, 7] ++ u8z 230) 5 false),
  (7863, .cells (u8s [120, 121]) 5 false),
  (9199, .cells (u8s [111, 99, 116, 97, 118, 111, 48, 49, 2] ++ u8z 5 ++ u8s [4, 0, 0, 0, 1, 2, 0, 0, 0, 5] ++ u8z 36 ++ u8s [152, 29, 250, 49]) 5 false)], i6 0, 9254, [(2, some (.cells [i6 1048576, i6 12, .int .i64 (.negSucc 11), .bool false, .bool false, .map (some 1), .slice (some ⟨9245, 0, none⟩) 1 1] 61 true)),
  (7726, some (.cells (u8s [111, 99, 116, 97, 118, 111, 48, 49, 2] ++ u8z 5 ++ u8s [4, 0, 0, 0, 1, 2, 0, 0, 0, 5] ++ u8z 36 ++ u8s [152, 29, 250, 49, 111, 99, 116, 97, 118, 111, 48, 49, 1] ++ u8z 5 ++ u8s [2] ++ u8z 8 ++ u8s [5] ++ u8z 36 ++ u8s [73, 229, 12, 250] ++ u8z 128 ++ u8s [1, 0, 14, 0, 1, 0, 0, 0, 7, 23, 113, 182, 1] ++ u8z 5 ++ u8s [5, 0, 0, 0, 255, 255, 255, 255] ++ u8z 230 ++ u8s [3, 0, 9, 0, 2, 0, 0, 0, 5, 212, 242, 114, 1, 1, 0, 0, 0, 5] ++ u8z 238 ++ u8s [1, 0, 40, 0, 3, 0, 0, 0, 189, 203, 162, 90, 3] ++ u8z 5 ++ u8s [1, 0, 0, 0, 255, 255, 255, 255, 1] ++ u8z 4 ++ u8s [2] ++ u8z 8 ++ u8s [1, 0, 0, 0, 4, 0, 0, 0, 255, 255, 255, 255] ++ u8z 204 ++ u8s [3, 0, 17, 0, 4, 0, 0, 0, 178, 66, 147, 60, 2, 1, 0, 0, 0, 5, 0, 0, 0, 3, 0, 0, 0, 7] ++ u8z 230) 5 false)),
  (9244, some (.cells (u8s [111, 99, 116, 97, 118, 111, 48, 49, 2] ++ u8z 5 ++ u8s [4, 0, 0, 0, 1, 2, 0, 0, 0, 5] ++ u8z 36 ++ u8s [152, 29, 250, 49]) 5 false)),
  (9245, some (.cells [.string ⟨#[115, 116, 111, 114, 101]⟩, i6 0, .slice (some ⟨9244, 0, none⟩) 64 64] 134 false))]⟩
theorem m24_84_ok : m24_84.ok (call evT evF k24_84 100000 m24_84.f m24_84.args m24_84.preH) = true := by kernel_rfl
theorem q24_84 : HkOk Tryz.prog (hkMemo m24_84) := hkMemo_ok evT_ok evF_ok k24_84_ok rfl m24_84_ok
noncomputable def k24_85 : Hk := hkLib
theorem k24_85_ok : HkOk Tryz.prog k24_85 := hkLib_ok
noncomputable def m24_85 : Mm :=
  ⟨177, [pt 73 0], 9269, [(1, .map [⟨.string ⟨#[111, 114, 105, 103, 105, 110, 97, 108]⟩, pt 32 0, 0⟩, ⟨.string ⟨#[115, 116, 111, 114, 101]⟩, pt 423 0, 1⟩, ⟨.string ⟨#[116, 97, 105, 108]⟩, pt 5545 0, 2⟩] 3),
  (2, .cells [i6 1048576, i6 13, .int .i64 (.negSucc 12), .bool false, .bool false, .map (some 1), .slice none 0 0] 61 true),
  (32, .cells [.slice (some ⟨34, 0, none⟩) 5 5, .slice (some ⟨35, 0, none⟩) 5 5, .bool true] 130 true),
  (34, .cells (u8s [97, 98, 99, 10, 100]) 5 false),
  (35, .cells (u8s [97, 98, 99, 10, 100]) 5 false),
  (48, .map [⟨i6 1, pt 225 0, 0⟩, ⟨i6 2, pt 350 0, 1⟩, ⟨i6 3, pt 5424 0, 2⟩, ⟨i6 4, pt 6469 0, 3⟩] 4),
  (49, .cells [i6 5, i6 0, i6 0, .bool false, pt 5424 0, pt 350 0, .map (some 48)] 357 true),
  (66, .map [⟨i6 1, .slice (some ⟨251, 0, none⟩) 256 256, 0⟩, ⟨i6 2, .slice (some ⟨376, 0, none⟩) 256 256, 1⟩, ⟨i6 3, .slice (some ⟨5450, 0, none⟩) 256 256, 2⟩, ⟨i6 4, .slice (some ⟨6495, 0, none⟩) 256 256, 3⟩] 4),
  (67, .cells [pt 49 0, pt 2 0, .string ⟨#[115, 116, 111, 114, 101]⟩, i6 5, .map (some 66), i6 0] 249 true),
  (68, .map [⟨i6 2, .bool true, 2⟩, ⟨i6 1, .bool true, 3⟩, ⟨i6 3, .bool true, 4⟩, ⟨i6 4, .bool true, 5⟩] 6),
  (69, .map [] 0),
  (70, .cells [i6 1, .map (some 68), .map (some 69), .slice (some ⟨6437, 0, none⟩) 2 2] 214 true),
  (71, .cells [pt 67 0, pt 70 0] 257 true),
  (73, .cells [pt 67 0, pt 70 0, pt 71 0, pt 2 0, pt 83 0, pt 3037 0, .slice (some ⟨9268, 0, none⟩) 2 2, i6 1, i6 2, i6 4, i6 1, i6 2, i6 5, i6 0, i6 0, i6 0, i6 0, i6 0, .slice (some ⟨9126, 0, none⟩) 2 2] 85 true),
  (83, .cells [pt 2 0, i6 2] 216 true),
  (225, .cells [i6 1, i6 0, .bool false, pt 6469 0, pt 5424 0] 351 true),
  (350, .cells [i6 2, i6 0, .bool false, pt 49 1, pt 6469 0] 351 true),
  (423, .cells [.slice (some ⟨7726, 0, none⟩) 1280 1280, .slice (some ⟨9255, 0, none⟩) 1280 1280, .bool true] 130 true),
  (3016, .map [] 0),
  (3017, .cells [pt 2 0, .string ⟨#[111, 114, 105, 103, 105, 110, 97, 108]⟩, i6 5, i6 0, .map (some 3016)] 372 true),
  (3037, .cells [pt 71 0, pt 3017 0, pt 83 0] 233 true),
  (5424, .cells [i6 3, i6 0, .bool false, pt 225 0, pt 49 1] 351 true),
  (5545, .cells [.slice (some ⟨5549, 0, none⟩) 2 2, .slice (some ⟨7863, 0, none⟩) 2 2, .bool true] 130 true),
  (5549, .cells (u8s [120, 121]) 5 false),
  (6437, .cells [i6 3, i6 4] 3 false),
  (6469, .cells [i6 4, i6 0, .bool false, pt 350 0, pt 225 0] 351 true),
  (7863, .cells (u8s [120, 121]) 5 false),
  (9126, .cells [i6 1, i6 3] 3 false),
  (9268, .cells [i6 1, i6 5, i6 3, i6 7] 119 false)], i6 0, 9307, [(48, some (.map [⟨i6 1, pt 225 0, 0⟩, ⟨i6 3, pt 5424 0, 2⟩, ⟨i6 4, pt 6469 0, 3⟩] 4)),
  (49, some (.cells [i6 5, i6 0, i6 0, .bool false, pt 5424 0, pt 6469 0, .map (some 48)] 357 true)),
  (66, some (.map [⟨i6 1, .slice (some ⟨251, 0, none⟩) 256 256, 0⟩, ⟨i6 3, .slice (some ⟨5450, 0, none⟩) 256 256, 2⟩, ⟨i6 4, .slice (some ⟨6495, 0, none⟩) 256 256, 3⟩] 4)),
  (68, some (.map [⟨i6 4, .bool true, 6⟩, ⟨i6 1, .bool true, 7⟩, ⟨i6 3, .bool true, 8⟩] 9)),
  (70, some (.cells [i6 1, .map (some 68), .map (some 69), .slice none 0 0] 214 true)),
  (6469, some (.cells [i6 4, i6 0, .bool false, pt 49 1, pt 225 0] 351 true))]⟩
theorem m24_85_ok : m24_85.ok (call evT evF k24_85 100000 m24_85.f m24_85.args m24_85.preH) = true := by kernel_rfl
theorem q24_85 : HkOk Tryz.prog (hkMemo m24_85) := hkMemo_ok evT_ok evF_ok k24_85_ok rfl m24_85_ok
noncomputable def k24_96 : Hk := hkLib
theorem k24_96_ok : HkOk Tryz.prog k24_96 := hkLib_ok
noncomputable def m24_96 : Mm :=
  ⟨184, [pt 9607 0, i6 230], 9797, [(9606, .cells (u8s [1, 0, 14, 0, 1, 0, 0, 0, 7, 23, 113, 182, 1] ++ u8z 5 ++ u8s [5, 0, 0, 0, 255, 255, 255, 255] ++ u8z 230) 5 false),
  (9607, .cells [.slice (some ⟨9606, 0, none⟩) 256 256, i6 26] 360 true)], i6 0, 9826, [(9607, some (.cells [.slice (some ⟨9606, 0, none⟩) 256 256, i6 256] 360 true))]⟩
theorem m24_96_ok : m24_96.ok (call evT evF k24_96 100000 m24_96.f m24_96.args m24_96.preH) = true := by kernel_rfl
theorem q24_96 : HkOk Tryz.prog (hkMemo m24_96) := hkMemo_ok evT_ok evF_ok k24_96_ok rfl m24_96_ok
noncomputable def k24_114 : Hk := hkLib
theorem k24_114_ok : HkOk Tryz.prog k24_114 := hkLib_ok
noncomputable def m24_114 : Mm :=
  ⟨283, [i6 1, .slice (some ⟨11016, 0, none⟩) 14 14], 11058, [(11016, .cells (u8s [1] ++ u8z 5 ++ u8s [5, 0, 0, 0, 255, 255, 255, 255]) 5 false)], .tuple #[.agg #[.bool true, .slice (some ⟨11232, 0, none⟩) 1 1, .slice none 0 0], i6 0], 11247, [(11232, some (.cells [i6 0, i6 0, i6 5, .int .i64 (.negSucc 0)] 147 false))]⟩
theorem m24_114_ok : m24_114.ok (call evT evF k24_114 100000 m24_114.f m24_114.args m24_114.preH) = true := by kernel_rfl
theorem q24_114 : HkOk Tryz.prog (hkMemo m24_114) := hkMemo_ok evT_ok evF_ok k24_114_ok rfl m24_114_ok
noncomputable def k24_122 : Hk := hkLib
theorem k24_122_ok : HkOk Tryz.prog k24_122 := hkLib_ok
noncomputable def m24_122 : Mm :=
  ⟨283, [i6 1, .slice (some ⟨12259, 0, none⟩) 40 40], 12301, [(12259, .cells (u8s [3] ++ u8z 5 ++ u8s [1, 0, 0, 0, 255, 255, 255, 255, 1] ++ u8z 4 ++ u8s [2] ++ u8z 8 ++ u8s [1, 0, 0, 0, 4, 0, 0, 0, 255, 255, 255, 255]) 5 false)], .tuple #[.agg #[.bool true, .slice (some ⟨12735, 0, none⟩) 3 3, .slice none 0 0], i6 0], 12756, [(12735, some (.cells [i6 0, i6 0, i6 1, .int .i64 (.negSucc 0), i6 1, i6 0, i6 2, i6 0, i6 0, i6 1, i6 4, .int .i64 (.negSucc 0)] 147 false))]⟩
theorem m24_122_ok : m24_122.ok (call evT evF k24_122 100000 m24_122.f m24_122.args m24_122.preH) = true := by kernel_rfl
theorem q24_122 : HkOk Tryz.prog (hkMemo m24_122) := hkMemo_ok evT_ok evF_ok k24_122_ok rfl m24_122_ok
noncomputable def k24_124 : Hk := hkLib
theorem k24_124_ok : HkOk Tryz.prog k24_124 := hkLib_ok
noncomputable def m24_124 : Mm :=
  ⟨214, [.slice (some ⟨12767, 0, none⟩) 3 3, .slice (some ⟨12010, 0, none⟩) 2 2], 12793, [(11252, .cells [i6 0, i6 0, i6 5] 145 false),
  (12009, .cells [i6 0, i6 0, i6 1, i6 1, i6 0, i6 2, i6 0, i6 1, i6 4] 145 false),
  (12010, .cells [.slice (some ⟨11252, 0, none⟩) 1 1, .slice (some ⟨12009, 0, none⟩) 3 3] 113 false),
  (12767, .cells [i6 0, i6 0, i6 1, i6 1, i6 0, i6 2, i6 0, i6 1, i6 4] 145 false)], .tuple #[.slice none 0 0, i6 0], 12881, []⟩
theorem m24_124_ok : m24_124.ok (call evT evF k24_124 100000 m24_124.f m24_124.args m24_124.preH) = true := by kernel_rfl
theorem q24_124 : HkOk Tryz.prog (hkMemo m24_124) := hkMemo_ok evT_ok evF_ok k24_124_ok rfl m24_124_ok
noncomputable def k24_130 : Hk := hkLib
theorem k24_130_ok : HkOk Tryz.prog k24_130 := hkLib_ok
noncomputable def m24_130 : Mm :=
  ⟨340, [.agg #[.bool true, .slice (some ⟨13282, 0, none⟩) 2 2, .slice none 0 0]], 13290, [(13282, .cells [i6 0, i6 0, i6 1, .int .i64 (.negSucc 0), i6 0, i6 3, i6 4, .int .i64 (.negSucc 0)] 147 false)], .tuple #[i6 1, .slice (some ⟨13362, 0, none⟩) 27 27, i6 0], 13363, [(13362, some (.cells (u8s [2] ++ u8z 5 ++ u8s [1, 0, 0, 0, 255, 255, 255, 255, 0, 3, 0, 0, 0, 4, 0, 0, 0, 255, 255, 255, 255]) 5 false))]⟩
theorem m24_130_ok : m24_130.ok (call evT evF k24_130 100000 m24_130.f m24_130.args m24_130.preH) = true := by kernel_rfl
theorem q24_130 : HkOk Tryz.prog (hkMemo m24_130) := hkMemo_ok evT_ok evF_ok k24_130_ok rfl m24_130_ok
noncomputable def k24_132 : Hk := hkLib
theorem k24_132_ok : HkOk Tryz.prog k24_132 := hkLib_ok
noncomputable def m24_132 : Mm :=
  ⟨263, [pt 67 0, i6 2, .slice (some ⟨13365, 0, none⟩) 256 256], 13376, [(1, .map [⟨.string ⟨#[111, 114, 105, 103, 105, 110, 97, 108]⟩, pt 32 0, 0⟩, ⟨.string ⟨#[115, 116, 111, 114, 101]⟩, pt 423 0, 1⟩, ⟨.string ⟨#[116, 97, 105, 108]⟩, pt 5545 0, 2⟩] 3),
  (2, .cells [i6 1048576, i6 17, .int .i64 (.negSucc 16), .bool false, .bool false, .map (some 1), .slice none 0 0] 61 true),
  (32, .cells [.slice (some ⟨34, 0, none⟩) 5 5, .slice (some ⟨35, 0, none⟩) 5 5, .bool true] 130 true),
  (34, .cells (u8s [97, 98, 99, 10, 100]) 5 false),
  (35, .cells (u8s [97, 98, 99, 10, 100]) 5 false),
  (48, .map [⟨i6 1, pt 225 0, 0⟩, ⟨i6 3, pt 5424 0, 2⟩, ⟨i6 4, pt 6469 0, 3⟩] 4),
  (49, .cells [i6 5, i6 0, i6 0, .bool false, pt 5424 0, pt 6469 0, .map (some 48)] 357 true),
  (66, .map [⟨i6 1, .slice (some ⟨251, 0, none⟩) 256 256, 0⟩, ⟨i6 3, .slice (some ⟨5450, 0, none⟩) 256 256, 2⟩, ⟨i6 4, .slice (some ⟨6495, 0, none⟩) 256 256, 3⟩] 4),
  (67, .cells [pt 49 0, pt 2 0, .string ⟨#[115, 116, 111, 114, 101]⟩, i6 5, .map (some 66), i6 0] 249 true),
  (225, .cells [i6 1, i6 0, .bool false, pt 6469 0, pt 5424 0] 351 true),
  (423, .cells [.slice (some ⟨7726, 0, none⟩) 1280 1280, .slice (some ⟨10654, 0, none⟩) 1280 1280, .bool true] 130 true),
  (5424, .cells [i6 3, i6 0, .bool false, pt 225 0, pt 49 1] 351 true),
  (5545, .cells [.slice (some ⟨5549, 0, none⟩) 2 2, .slice (some ⟨7863, 0, none⟩) 2 2, .bool true] 130 true),
  (5549, .cells (u8s [120, 121]) 5 false),
  (6469, .cells [i6 4, i6 0, .bool false, pt 49 1, pt 225 0] 351 true),
  (7863, .cells (u8s [120, 121]) 5 false),
  (13365, .cells (u8s [1, 0, 27, 0, 2, 0, 0, 0, 69, 219, 48, 151, 2] ++ u8z 5 ++ u8s [1, 0, 0, 0, 255, 255, 255, 255, 0, 3, 0, 0, 0, 4, 0, 0, 0, 255, 255, 255, 255] ++ u8z 217) 414 true)], i6 0, 13423, [(48, some (.map [⟨i6 1, pt 225 0, 0⟩, ⟨i6 3, pt 5424 0, 2⟩, ⟨i6 4, pt 6469 0, 3⟩, ⟨i6 2, pt 13396 0, 4⟩] 5)),
  (49, some (.cells [i6 5, i6 0, i6 0, .bool false, pt 13396 0, pt 6469 0, .map (some 48)] 357 true)),
  (66, some (.map [⟨i6 1, .slice (some ⟨251, 0, none⟩) 256 256, 0⟩, ⟨i6 3, .slice (some ⟨5450, 0, none⟩) 256 256, 2⟩, ⟨i6 4, .slice (some ⟨6495, 0, none⟩) 256 256, 3⟩, ⟨i6 2, .slice (some ⟨13422, 0, none⟩) 256 256, 4⟩] 5)),
  (5424, some (.cells [i6 3, i6 0, .bool false, pt 225 0, pt 13396 0] 351 true)),
  (13396, some (.cells [i6 2, i6 0, .bool true, pt 5424 0, pt 49 1] 351 true)),
  (13422, some (.cells (u8s [1, 0, 27, 0, 2, 0, 0, 0, 69, 219, 48, 151, 2] ++ u8z 5 ++ u8s [1, 0, 0, 0, 255, 255, 255, 255, 0, 3, 0, 0, 0, 4, 0, 0, 0, 255, 255, 255, 255] ++ u8z 217) 5 false))]⟩
theorem m24_132_ok : m24_132.ok (call evT evF k24_132 100000 m24_132.f m24_132.args m24_132.preH) = true := by kernel_rfl
theorem q24_132 : HkOk Tryz.prog (hkMemo m24_132) := hkMemo_ok evT_ok evF_ok k24_132_ok rfl m24_132_ok
noncomputable def k24_133 : Hk := hkLib
theorem k24_133_ok : HkOk Tryz.prog k24_133 := hkLib_ok
noncomputable def m24_133 : Mm :=
  ⟨228, [.agg #[.bool true, .slice (some ⟨13282, 0, none⟩) 2 2, .slice none 0 0]], 13423, [(13282, .cells [i6 0, i6 0, i6 1, .int .i64 (.negSucc 0), i6 0, i6 3, i6 4, .int .i64 (.negSucc 0)] 147 false)], .tuple #[i6 5, .int .i64 (.negSucc 0), i6 2], 13468, []⟩
theorem m24_133_ok : m24_133.ok (call evT evF k24_133 100000 m24_133.f m24_133.args m24_133.preH) = true := by kernel_rfl
theorem q24_133 : HkOk Tryz.prog (hkMemo m24_133) := hkMemo_ok evT_ok evF_ok k24_133_ok rfl m24_133_ok
noncomputable def k24_138 : Hk := hkLib
theorem k24_138_ok : HkOk Tryz.prog k24_138 := hkLib_ok
noncomputable def m24_138 : Mm :=
  ⟨340, [.agg #[.bool true, .slice (some ⟨13897, 0, none⟩) 1 1, .slice none 0 0]], 13905, [(13897, .cells [i6 0, i6 0, i6 7, .int .i64 (.negSucc 0)] 147 false)], .tuple #[i6 1, .slice (some ⟨13948, 0, none⟩) 14 14, i6 0], 13949, [(13948, some (.cells (u8s [1] ++ u8z 5 ++ u8s [7, 0, 0, 0, 255, 255, 255, 255]) 5 false))]⟩
theorem m24_138_ok : m24_138.ok (call evT evF k24_138 100000 m24_138.f m24_138.args m24_138.preH) = true := by kernel_rfl
theorem q24_138 : HkOk Tryz.prog (hkMemo m24_138) := hkMemo_ok evT_ok evF_ok k24_138_ok rfl m24_138_ok
noncomputable def k24_147 : Hk := hkLib
theorem k24_147_ok : HkOk Tryz.prog k24_147 := hkLib_ok
noncomputable def m24_147 : Mm :=
  ⟨223, [pt 14064 0, i6 0], 14306, [(14062, .map [⟨i6 0, .agg #[i6 0, .slice (some ⟨14227, 0, none⟩) 3 3], 0⟩] 1),
  (14063, .map [] 0),
  (14064, .cells [.map (some 14062), .map (some 14063), .slice none 0 0, .slice none 0 0] 326 true),
  (14227, .cells [i6 0, i6 0, i6 1, i6 1, i6 0, i6 2, i6 0, i6 1, i6 4] 145 false)], .tuple #[], 14362, [(14062, some (.map [] 1)),
  (14064, some (.cells [.map (some 14062), .map (some 14063), .slice none 0 0, .slice (some ⟨14319, 0, none⟩) 1 1] 326 true)),
  (14319, some (.cells [i6 0, .slice (some ⟨14227, 0, none⟩) 3 3] 175 false))]⟩
theorem m24_147_ok : m24_147.ok (call evT evF k24_147 100000 m24_147.f m24_147.args m24_147.preH) = true := by kernel_rfl
theorem q24_147 : HkOk Tryz.prog (hkMemo m24_147) := hkMemo_ok evT_ok evF_ok k24_147_ok rfl m24_147_ok
noncomputable def k24_148 : Hk := hkLib
theorem k24_148_ok : HkOk Tryz.prog k24_148 := hkLib_ok
noncomputable def m24_148 : Mm :=
  ⟨277, [.slice (some ⟨14398, 0, none⟩) 1 1], 14399, [(14394, .cells [i6 0, i6 0, i6 1, i6 1, i6 0, i6 2, i6 0, i6 1, i6 4] 145 false),
  (14398, .cells [.slice (some ⟨14394, 0, none⟩) 3 3] 113 true)], .slice (some ⟨14491, 0, none⟩) 3 3, 14492, [(14491, some (.cells [i6 0, i6 0, i6 1, i6 1, i6 0, i6 2, i6 0, i6 1, i6 4] 145 false))]⟩
theorem m24_148_ok : m24_148.ok (call evT evF k24_148 100000 m24_148.f m24_148.args m24_148.preH) = true := by kernel_rfl
theorem q24_148 : HkOk Tryz.prog (hkMemo m24_148) := hkMemo_ok evT_ok evF_ok k24_148_ok rfl m24_148_ok
noncomputable def k24_152 : Hk := hkLib
theorem k24_152_ok : HkOk Tryz.prog k24_152 := hkLib_ok
noncomputable def m24_152 : Mm :=
  ⟨262, [i6 6, i6 3, .slice (some ⟨14546, 0, none⟩) 17 17], 14550, [(14546, .cells (u8s [2, 2, 0, 0, 0, 5, 0, 0, 0, 5, 0, 0, 0, 7, 0, 0, 0]) 5 false)], .tuple #[.slice (some ⟨14550, 0, none⟩) 256 256, i6 0], 14561, [(14550, some (.cells (u8s [3, 0, 17, 0, 6, 0, 0, 0, 87, 212, 48, 146, 2, 2, 0, 0, 0, 5, 0, 0, 0, 5, 0, 0, 0, 7] ++ u8z 230) 414 true))]⟩
theorem m24_152_ok : m24_152.ok (call evT evF k24_152 100000 m24_152.f m24_152.args m24_152.preH) = true := by kernel_rfl
theorem q24_152 : HkOk Tryz.prog (hkMemo m24_152) := hkMemo_ok evT_ok evF_ok k24_152_ok rfl m24_152_ok
noncomputable def k24_153 : Hk := hkLib
theorem k24_153_ok : HkOk Tryz.prog k24_153 := hkLib_ok
noncomputable def m24_153 : Mm :=
  ⟨310, [pt 67 0, i6 6, .slice (some ⟨14550, 0, none⟩) 256 256], 14561, [(1, .map [⟨.string ⟨#[111, 114, 105, 103, 105, 110, 97, 108]⟩, pt 32 0, 0⟩, ⟨.string ⟨#[115, 116, 111, 114, 101]⟩, pt 423 0, 1⟩, ⟨.string ⟨#[116, 97, 105, 108]⟩, pt 5545 0, 2⟩] 3),
  (2, .cells [i6 1048576, i6 17, .int .i64 (.negSucc 16), .bool false, .bool false, .map (some 1), .slice none 0 0] 61 true),
  (32, .cells [.slice (some ⟨34, 0, none⟩) 5 5, .slice (some ⟨35, 0, none⟩) 5 5, .bool true] 130 true),
  (34, .cells (u8s [97, 98, 99, 10, 100]) 5 false),
  (35, .cells (u8s [97, 98, 99, 10, 100]) 5 false),
  (48, .map [⟨i6 1, pt 225 0, 0⟩, ⟨i6 3, pt 5424 0, 2⟩, ⟨i6 4, pt 6469 0, 3⟩, ⟨i6 2, pt 13396 0, 4⟩, ⟨i6 5, pt 13982 0, 5⟩] 6),
  (49, .cells [i6 5, i6 0, i6 0, .bool false, pt 13982 0, pt 6469 0, .map (some 48)] 357 true),
  (66, .map [⟨i6 1, .slice (some ⟨251, 0, none⟩) 256 256, 0⟩, ⟨i6 3, .slice (some ⟨5450, 0, none⟩) 256 256, 2⟩, ⟨i6 4, .slice (some ⟨6495, 0, none⟩) 256 256, 3⟩, ⟨i6 2, .slice (some ⟨13422, 0, none⟩) 256 256, 4⟩, ⟨i6 5, .slice (some ⟨14008, 0, none⟩) 256 256, 5⟩] 6),
  (67, .cells [pt 49 0, pt 2 0, .string ⟨#[115, 116, 111, 114, 101]⟩, i6 5, .map (some 66), i6 0] 249 true),
  (225, .cells [i6 1, i6 0, .bool false, pt 6469 0, pt 5424 0] 351 true),
  (423, .cells [.slice (some ⟨7726, 0, none⟩) 1280 1280, .slice (some ⟨10654, 0, none⟩) 1280 1280, .bool true] 130 true),
  (5424, .cells [i6 3, i6 0, .bool false, pt 225 0, pt 13396 0] 351 true),
  (5545, .cells [.slice (some ⟨5549, 0, none⟩) 2 2, .slice (some ⟨7863, 0, none⟩) 2 2, .bool true] 130 true),
  (5549, .cells (u8s [120, 121]) 5 false),
  (6469, .cells [i6 4, i6 0, .bool false, pt 49 1, pt 225 0] 351 true),
  (7863, .cells (u8s [120, 121]) 5 false),
  (13396, .cells [i6 2, i6 0, .bool true, pt 5424 0, pt 13982 0] 351 true),
  (13982, .cells [i6 5, i6 0, .bool true, pt 13396 0, pt 49 1] 351 true),
  (14550, .cells (u8s [3, 0, 17, 0, 6, 0, 0, 0, 87, 212, 48, 146, 2, 2, 0, 0, 0, 5, 0, 0, 0, 5, 0, 0, 0, 7] ++ u8z 230) 414 true)], i6 0, 14631, [(48, some (.map [⟨i6 1, pt 225 0, 0⟩, ⟨i6 3, pt 5424 0, 2⟩, ⟨i6 2, pt 13396 0, 4⟩, ⟨i6 5, pt 13982 0, 5⟩, ⟨i6 6, pt 14604 0, 6⟩] 7)),
  (49, some (.cells [i6 5, i6 0, i6 0, .bool false, pt 14604 0, pt 225 0, .map (some 48)] 357 true)),
  (66, some (.map [⟨i6 1, .slice (some ⟨251, 0, none⟩) 256 256, 0⟩, ⟨i6 3, .slice (some ⟨5450, 0, none⟩) 256 256, 2⟩, ⟨i6 2, .slice (some ⟨13422, 0, none⟩) 256 256, 4⟩, ⟨i6 5, .slice (some ⟨14008, 0, none⟩) 256 256, 5⟩, ⟨i6 6, .slice (some ⟨14630, 0, none⟩) 256 256, 6⟩] 7)),
  (225, some (.cells [i6 1, i6 0, .bool false, pt 49 1, pt 5424 0] 351 true)),
  (13982, some (.cells [i6 5, i6 0, .bool true, pt 13396 0, pt 14604 0] 351 true)),
  (14604, some (.cells [i6 6, i6 0, .bool false, pt 13982 0, pt 49 1] 351 true)),
  (14630, some (.cells (u8s [3, 0, 17, 0, 6, 0, 0, 0, 87, 212, 48, 146, 2, 2, 0, 0, 0, 5, 0, 0, 0, 5, 0, 0, 0, 7] ++ u8z 230) 5 false))]⟩
theorem m24_153_ok : m24_153.ok (call evT evF k24_153 100000 m24_153.f m24_153.args m24_153.preH) = true := by kernel_rfl
theorem q24_153 : HkOk Tryz.prog (hkMemo m24_153) := hkMemo_ok evT_ok evF_ok k24_153_ok rfl m24_153_ok
noncomputable def k24_167 : Hk := hkLib
theorem k24_167_ok : HkOk Tryz.prog k24_167 := hkLib_ok
noncomputable def m24_167 : Mm :=
  ⟨113, [.agg #[i6 5, i6 6, i6 1, i6 2, i6 7]], 16477, [], .tuple #[.slice (some ⟨16500, 0, none⟩) 64 64, i6 0], 16501, [(16500, some (.cells (u8s [111, 99, 116, 97, 118, 111, 48, 49, 5] ++ u8z 5 ++ u8s [6, 0, 0, 0, 1, 2, 0, 0, 0, 7] ++ u8z 36 ++ u8s [163, 240, 239, 210]) 5 false))]⟩
theorem m24_167_ok : m24_167.ok (call evT evF k24_167 100000 m24_167.f m24_167.args m24_167.preH) = true := by kernel_rfl
theorem q24_167 : HkOk Tryz.prog (hkMemo m24_167) := hkMemo_ok evT_ok evF_ok k24_167_ok rfl m24_167_ok
noncomputable def k24_177 : Hk := hkLib
theorem k24_177_ok : HkOk Tryz.prog k24_177 := hkLib_ok
noncomputable def m24_177 : Mm :=
  ⟨11, [pt 2 0, .string ⟨#[106, 111, 117, 114, 110, 97, 108]⟩, i6 192, .slice (some ⟨17410, 0, none⟩) 7 7], 17411, [(1, .map [⟨.string ⟨#[111, 114, 105, 103, 105, 110, 97, 108]⟩, pt 32 0, 0⟩, ⟨.string ⟨#[115, 116, 111, 114, 101]⟩, pt 423 0, 1⟩, ⟨.string ⟨#[116, 97, 105, 108]⟩, pt 5545 0, 2⟩, ⟨.string ⟨#[106, 111, 117, 114, 110, 97, 108]⟩, pt 16616 0, 3⟩] 4),
  (2, .cells [i6 1048576, i6 28, .int .i64 (.negSucc 27), .bool false, .bool false, .map (some 1), .slice none 0 0] 61 true),
  (32, .cells [.slice (some ⟨16219, 0, none⟩) 7 7, .slice (some ⟨16249, 0, none⟩) 7 7, .bool true] 130 true),
  (423, .cells [.slice (some ⟨16019, 0, none⟩) 1792 1792, .slice (some ⟨16143, 0, none⟩) 1792 1792, .bool true] 130 true),
  (5545, .cells [.slice (some ⟨5549, 0, none⟩) 2 2, .slice (some ⟨16157, 0, none⟩) 2 2, .bool true] 130 true),
  (5549, .cells (u8s [120, 121]) 5 false),
  (16157, .cells (u8s [120, 121]) 5 false),
  (16219, .cells (u8s [97, 98, 99, 10, 100, 0, 0]) 5 false),
  (16249, .cells (u8s [97, 98, 99, 10, 100, 0, 0]) 5 false),
  (16616, .cells [.slice (some ⟨17128, 0, none⟩) 256 256, .slice (some ⟨17341, 0, none⟩) 256 256, .bool true] 130 true),
  (17128, .cells (u8s [111, 99, 116, 97, 118, 111, 45, 106] ++ u8z 5 ++ u8s [104, 0, 0, 0, 157, 110, 233, 13] ++ u8z 39 ++ u8s [135, 81, 132, 197, 5, 0, 0, 0, 111, 99, 116, 97, 118, 111, 48, 49, 5] ++ u8z 5 ++ u8s [6, 0, 0, 0, 1, 2, 0, 0, 0, 7] ++ u8z 36 ++ u8s [163, 240, 239, 210, 7] ++ u8z 7 ++ u8s [1, 0, 0, 0, 1] ++ u8z 4 ++ u8s [3] ++ u8z 5 ++ u8s [1, 1] ++ u8z 4 ++ u8s [2, 0, 1, 0, 0, 0, 4] ++ u8z 88) 5 false),
  (17410, .cells (u8s [97, 120, 121, 98, 99, 10, 100]) 5 false)], i6 0, 17455, [(2, some (.cells [i6 1048576, i6 29, .int .i64 (.negSucc 28), .bool false, .bool false, .map (some 1), .slice (some ⟨17446, 0, none⟩) 1 1] 61 true)),
  (17128, some (.cells (u8s [111, 99, 116, 97, 118, 111, 45, 106] ++ u8z 5 ++ u8s [104, 0, 0, 0, 157, 110, 233, 13] ++ u8z 39 ++ u8s [135, 81, 132, 197, 5, 0, 0, 0, 111, 99, 116, 97, 118, 111, 48, 49, 5] ++ u8z 5 ++ u8s [6, 0, 0, 0, 1, 2, 0, 0, 0, 7] ++ u8z 36 ++ u8s [163, 240, 239, 210, 7] ++ u8z 7 ++ u8s [1, 0, 0, 0, 1] ++ u8z 4 ++ u8s [3] ++ u8z 5 ++ u8s [1, 1] ++ u8z 4 ++ u8s [2, 0, 1, 0, 0, 0, 4] ++ u8z 24 ++ u8s [97, 120, 121, 98, 99, 10, 100] ++ u8z 57) 5 false)),
  (17445, some (.cells (u8s [97, 120, 121, 98, 99, 10, 100]) 5 false)),
  (17446, some (.cells [.string ⟨#[106, 111, 117, 114, 110, 97, 108]⟩, i6 192, .slice (some ⟨17445, 0, none⟩) 7 7] 134 false))]⟩
theorem m24_177_ok : m24_177.ok (call evT evF k24_177 100000 m24_177.f m24_177.args m24_177.preH) = true := by kernel_rfl
theorem q24_177 : HkOk Tryz.prog (hkMemo m24_177) := hkMemo_ok evT_ok evF_ok k24_177_ok rfl m24_177_ok
noncomputable def k24_178 : Hk := hkLib
theorem k24_178_ok : HkOk Tryz.prog k24_178 := hkLib_ok
noncomputable def m24_178 : Mm :=
  ⟨142, [.agg #[i6 0, .bool true, i6 104, .int .u32 (.ofNat 233402013)]], 17475, [], .tuple #[.slice (some ⟨17505, 0, none⟩) 64 64, i6 0], 17506, [(17505, some (.cells (u8s [111, 99, 116, 97, 118, 111, 45, 106] ++ u8z 4 ++ u8s [1, 104, 0, 0, 0, 157, 110, 233, 13] ++ u8z 39 ++ u8s [91, 189, 53, 248]) 5 false))]⟩
theorem m24_178_ok : m24_178.ok (call evT evF k24_178 100000 m24_178.f m24_178.args m24_178.preH) = true := by kernel_rfl
theorem q24_178 : HkOk Tryz.prog (hkMemo m24_178) := hkMemo_ok evT_ok evF_ok k24_178_ok rfl m24_178_ok
noncomputable def k24_181 : Hk := hkLib
theorem k24_181_ok : HkOk Tryz.prog k24_181 := hkLib_ok
noncomputable def m24_181 : Mm :=
  ⟨11, [pt 2 0, .string ⟨#[111, 114, 105, 103, 105, 110, 97, 108]⟩, i6 0, .slice (some ⟨17579, 0, none⟩) 7 7], 17590, [(1, .map [⟨.string ⟨#[111, 114, 105, 103, 105, 110, 97, 108]⟩, pt 32 0, 0⟩, ⟨.string ⟨#[115, 116, 111, 114, 101]⟩, pt 423 0, 1⟩, ⟨.string ⟨#[116, 97, 105, 108]⟩, pt 5545 0, 2⟩, ⟨.string ⟨#[106, 111, 117, 114, 110, 97, 108]⟩, pt 16616 0, 3⟩] 4),
  (2, .cells [i6 1048576, i6 32, .int .i64 (.negSucc 31), .bool false, .bool false, .map (some 1), .slice none 0 0] 61 true),
  (32, .cells [.slice (some ⟨16219, 0, none⟩) 7 7, .slice (some ⟨16249, 0, none⟩) 7 7, .bool true] 130 true),
  (423, .cells [.slice (some ⟨16019, 0, none⟩) 1792 1792, .slice (some ⟨16143, 0, none⟩) 1792 1792, .bool true] 130 true),
  (5545, .cells [.slice (some ⟨5549, 0, none⟩) 2 2, .slice (some ⟨16157, 0, none⟩) 2 2, .bool true] 130 true),
  (5549, .cells (u8s [120, 121]) 5 false),
  (16157, .cells (u8s [120, 121]) 5 false),
  (16219, .cells (u8s [97, 98, 99, 10, 100, 0, 0]) 5 false),
  (16249, .cells (u8s [97, 98, 99, 10, 100, 0, 0]) 5 false),
  (16616, .cells [.slice (some ⟨17128, 0, none⟩) 256 256, .slice (some ⟨17551, 0, none⟩) 256 256, .bool true] 130 true),
  (17579, .cells (u8s [97, 120, 121, 98, 99, 10, 100]) 5 false)], i6 0, 17634, [(2, some (.cells [i6 1048576, i6 33, .int .i64 (.negSucc 32), .bool false, .bool false, .map (some 1), .slice (some ⟨17625, 0, none⟩) 1 1] 61 true)),
  (16219, some (.cells (u8s [97, 120, 121, 98, 99, 10, 100]) 5 false)),
  (17624, some (.cells (u8s [97, 120, 121, 98, 99, 10, 100]) 5 false)),
  (17625, some (.cells [.string ⟨#[111, 114, 105, 103, 105, 110, 97, 108]⟩, i6 0, .slice (some ⟨17624, 0, none⟩) 7 7] 134 false))]⟩
theorem m24_181_ok : m24_181.ok (call evT evF k24_181 100000 m24_181.f m24_181.args m24_181.preH) = true := by kernel_rfl
theorem q24_181 : HkOk Tryz.prog (hkMemo m24_181) := hkMemo_ok evT_ok evF_ok k24_181_ok rfl m24_181_ok
noncomputable def k24_189 : Hk := hkLib
theorem k24_189_ok : HkOk Tryz.prog k24_189 := hkLib_ok
noncomputable def m24_189 : Mm :=
  ⟨184, [pt 17936 0, i6 217], 18126, [(17935, .cells (u8s [1, 0, 27, 0, 2, 0, 0, 0, 69, 219, 48, 151, 2] ++ u8z 5 ++ u8s [1, 0, 0, 0, 255, 255, 255, 255, 0, 3, 0, 0, 0, 4, 0, 0, 0, 255, 255, 255, 255] ++ u8z 217) 5 false),
  (17936, .cells [.slice (some ⟨17935, 0, none⟩) 256 256, i6 39] 360 true)], i6 0, 18155, [(17936, some (.cells [.slice (some ⟨17935, 0, none⟩) 256 256, i6 256] 360 true))]⟩
theorem m24_189_ok : m24_189.ok (call evT evF k24_189 100000 m24_189.f m24_189.args m24_189.preH) = true := by kernel_rfl
theorem q24_189 : HkOk Tryz.prog (hkMemo m24_189) := hkMemo_ok evT_ok evF_ok k24_189_ok rfl m24_189_ok
noncomputable def k24_193 : Hk := hkLib
theorem k24_193_ok : HkOk Tryz.prog k24_193 := hkLib_ok
noncomputable def m24_193 : Mm :=
  ⟨184, [pt 18544 0, i6 230], 18734, [(18543, .cells (u8s [1, 0, 14, 0, 5, 0, 0, 0, 2, 120, 233, 144, 1] ++ u8z 5 ++ u8s [7, 0, 0, 0, 255, 255, 255, 255] ++ u8z 230) 5 false),
  (18544, .cells [.slice (some ⟨18543, 0, none⟩) 256 256, i6 26] 360 true)], i6 0, 18763, [(18544, some (.cells [.slice (some ⟨18543, 0, none⟩) 256 256, i6 256] 360 true))]⟩
theorem m24_193_ok : m24_193.ok (call evT evF k24_193 100000 m24_193.f m24_193.args m24_193.preH) = true := by kernel_rfl
theorem q24_193 : HkOk Tryz.prog (hkMemo m24_193) := hkMemo_ok evT_ok evF_ok k24_193_ok rfl m24_193_ok
end Go.Proofs.YtjclpdlijblpjaaGreat
