/-
  Calls that were reckoned out, one by one. Printed by a program.
-/
import Derived.Test.YtjclpdlijblpjaaGreatEvl
namespace Go.Proofs.YtjclpdlijblpjaaGreat
open Go.Ev
set_option maxRecDepth 1000000
noncomputable def k24_1 : Hk := hkLib
theorem k24_1_ok : HkOk Tryz.prog k24_1 := hkLib_ok
noncomputable def m24_1 : Mm :=
  ⟨340, [.agg #[.bool true, .slice (some ⟨140, 0, none⟩) 1 1, .slice none 0 0]], 148, [(140, .cells [i6 0, i6 0, i6 5, .int .i64 (.negSucc 0)] 147 false)], .tuple #[i6 1, .slice (some ⟨191, 0, none⟩) 14 14, i6 0], 192, [(191, some (.cells (u8s [1] ++ u8z 5 ++ u8s [5, 0, 0, 0, 255, 255, 255, 255]) 5 false))]⟩
theorem m24_1_ok : m24_1.ok (call evT evF k24_1 100000 m24_1.f m24_1.args m24_1.preH) = true := by kernel_rfl
theorem q24_1 : HkOk Tryz.prog (hkMemo m24_1) := hkMemo_ok evT_ok evF_ok k24_1_ok rfl m24_1_ok
noncomputable def k24_10 : Hk := hkLib
theorem k24_10_ok : HkOk Tryz.prog k24_10 := hkLib_ok
noncomputable def m24_10 : Mm :=
  ⟨67, [.slice (some ⟨935, 0, none⟩) 256 256, i6 256, .slice (some ⟨251, 0, none⟩) 256 256], 1083, [(251, .cells (u8s [1, 0, 14, 0, 1, 0, 0, 0, 7, 23, 113, 182, 1] ++ u8z 5 ++ u8s [5, 0, 0, 0, 255, 255, 255, 255] ++ u8z 230) 5 false),
  (935, .cells (u8z 256) 5 false)], .slice (some ⟨1594, 0, none⟩) 512 512, 1595, [(935, none),
  (1594, some (.cells (u8z 256 ++ u8s [1, 0, 14, 0, 1, 0, 0, 0, 7, 23, 113, 182, 1] ++ u8z 5 ++ u8s [5, 0, 0, 0, 255, 255, 255, 255] ++ u8z 230) 5 false))]⟩
theorem m24_10_ok : m24_10.ok (call evT evF k24_10 100000 m24_10.f m24_10.args m24_10.preH) = true := by kernel_rfl
theorem q24_10 : HkOk Tryz.prog (hkMemo m24_10) := hkMemo_ok evT_ok evF_ok k24_10_ok rfl m24_10_ok
noncomputable def k24_13 : Hk := hkLib
theorem k24_13_ok : HkOk Tryz.prog k24_13 := hkLib_ok
noncomputable def m24_13 : Mm :=
  ⟨67, [.slice (some ⟨1594, 0, none⟩) 512 512, i6 512, .slice (some ⟨376, 0, none⟩) 256 256], 1754, [(376, .cells (u8s [3, 0, 9, 0, 2, 0, 0, 0, 5, 212, 242, 114, 1, 1, 0, 0, 0, 5] ++ u8z 238) 5 false),
  (1594, .cells (u8z 256 ++ u8s [1, 0, 14, 0, 1, 0, 0, 0, 7, 23, 113, 182, 1] ++ u8z 5 ++ u8s [5, 0, 0, 0, 255, 255, 255, 255] ++ u8z 230) 5 false)], .slice (some ⟨2265, 0, none⟩) 768 768, 2266, [(1594, none),
  (2265, some (.cells (u8z 256 ++ u8s [1, 0, 14, 0, 1, 0, 0, 0, 7, 23, 113, 182, 1] ++ u8z 5 ++ u8s [5, 0, 0, 0, 255, 255, 255, 255] ++ u8z 230 ++ u8s [3, 0, 9, 0, 2, 0, 0, 0, 5, 212, 242, 114, 1, 1, 0, 0, 0, 5] ++ u8z 238) 5 false))]⟩
theorem m24_13_ok : m24_13.ok (call evT evF k24_13 100000 m24_13.f m24_13.args m24_13.preH) = true := by kernel_rfl
theorem q24_13 : HkOk Tryz.prog (hkMemo m24_13) := hkMemo_ok evT_ok evF_ok k24_13_ok rfl m24_13_ok
noncomputable def k24_20 : Hk := hkLib
theorem k24_20_ok : HkOk Tryz.prog k24_20 := hkLib_ok
noncomputable def m24_20 : Mm :=
  ⟨283, [i6 1, .slice (some ⟨2679, 0, none⟩) 14 14], 2721, [(2679, .cells (u8s [1] ++ u8z 5 ++ u8s [5, 0, 0, 0, 255, 255, 255, 255]) 5 false)], .tuple #[.agg #[.bool true, .slice (some ⟨2895, 0, none⟩) 1 1, .slice none 0 0], i6 0], 2910, [(2895, some (.cells [i6 0, i6 0, i6 5, .int .i64 (.negSucc 0)] 147 false))]⟩
theorem m24_20_ok : m24_20.ok (call evT evF k24_20 100000 m24_20.f m24_20.args m24_20.preH) = true := by kernel_rfl
theorem q24_20 : HkOk Tryz.prog (hkMemo m24_20) := hkMemo_ok evT_ok evF_ok k24_20_ok rfl m24_20_ok
noncomputable def k24_22 : Hk := hkLib
theorem k24_22_ok : HkOk Tryz.prog k24_22 := hkLib_ok
noncomputable def m24_22 : Mm :=
  ⟨113, [.agg #[i6 1, i6 2, i6 0, i6 0, i6 5]], 2922, [], .tuple #[.slice (some ⟨2945, 0, none⟩) 64 64, i6 0], 2946, [(2945, some (.cells (u8s [111, 99, 116, 97, 118, 111, 48, 49, 1] ++ u8z 5 ++ u8s [2] ++ u8z 8 ++ u8s [5] ++ u8z 36 ++ u8s [73, 229, 12, 250]) 5 false))]⟩
theorem m24_22_ok : m24_22.ok (call evT evF k24_22 100000 m24_22.f m24_22.args m24_22.preH) = true := by kernel_rfl
theorem q24_22 : HkOk Tryz.prog (hkMemo m24_22) := hkMemo_ok evT_ok evF_ok k24_22_ok rfl m24_22_ok
noncomputable def k24_31 : Hk := hkLib
theorem k24_31_ok : HkOk Tryz.prog k24_31 := hkLib_ok
noncomputable def m24_31 : Mm :=
  ⟨184, [pt 3231 0, i6 230], 3421, [(3230, .cells (u8s [1, 0, 14, 0, 1, 0, 0, 0, 7, 23, 113, 182, 1] ++ u8z 5 ++ u8s [5, 0, 0, 0, 255, 255, 255, 255] ++ u8z 230) 5 false),
  (3231, .cells [.slice (some ⟨3230, 0, none⟩) 256 256, i6 26] 360 true)], i6 0, 3450, [(3231, some (.cells [.slice (some ⟨3230, 0, none⟩) 256 256, i6 256] 360 true))]⟩
theorem m24_31_ok : m24_31.ok (call evT evF k24_31 100000 m24_31.f m24_31.args m24_31.preH) = true := by kernel_rfl
theorem q24_31 : HkOk Tryz.prog (hkMemo m24_31) := hkMemo_ok evT_ok evF_ok k24_31_ok rfl m24_31_ok
noncomputable def k24_42 : Hk := hkLib
theorem k24_42_ok : HkOk Tryz.prog k24_42 := hkLib_ok
noncomputable def m24_42 : Mm :=
  ⟨283, [i6 1, .slice (some ⟨4372, 0, none⟩) 14 14], 4414, [(4372, .cells (u8s [1] ++ u8z 5 ++ u8s [5, 0, 0, 0, 255, 255, 255, 255]) 5 false)], .tuple #[.agg #[.bool true, .slice (some ⟨4588, 0, none⟩) 1 1, .slice none 0 0], i6 0], 4603, [(4588, some (.cells [i6 0, i6 0, i6 5, .int .i64 (.negSucc 0)] 147 false))]⟩
theorem m24_42_ok : m24_42.ok (call evT evF k24_42 100000 m24_42.f m24_42.args m24_42.preH) = true := by kernel_rfl
theorem q24_42 : HkOk Tryz.prog (hkMemo m24_42) := hkMemo_ok evT_ok evF_ok k24_42_ok rfl m24_42_ok
noncomputable def k24_45 : Hk := hkLib
theorem k24_45_ok : HkOk Tryz.prog k24_45 := hkLib_ok
noncomputable def m24_45 : Mm :=
  ⟨184, [pt 4787 0, i6 230], 4977, [(4786, .cells (u8s [1, 0, 14, 0, 1, 0, 0, 0, 7, 23, 113, 182, 1] ++ u8z 5 ++ u8s [5, 0, 0, 0, 255, 255, 255, 255] ++ u8z 230) 5 false),
  (4787, .cells [.slice (some ⟨4786, 0, none⟩) 256 256, i6 26] 360 true)], i6 0, 5006, [(4787, some (.cells [.slice (some ⟨4786, 0, none⟩) 256 256, i6 256] 360 true))]⟩
theorem m24_45_ok : m24_45.ok (call evT evF k24_45 100000 m24_45.f m24_45.args m24_45.preH) = true := by kernel_rfl
theorem q24_45 : HkOk Tryz.prog (hkMemo m24_45) := hkMemo_ok evT_ok evF_ok k24_45_ok rfl m24_45_ok
noncomputable def k24_51 : Hk := hkLib
theorem k24_51_ok : HkOk Tryz.prog k24_51 := hkLib_ok
noncomputable def m24_51 : Mm :=
  ⟨262, [i6 3, i6 1, .slice (some ⟨5390, 0, none⟩) 40 40], 5393, [(5390, .cells (u8s [3] ++ u8z 5 ++ u8s [1, 0, 0, 0, 255, 255, 255, 255, 1] ++ u8z 4 ++ u8s [2] ++ u8z 8 ++ u8s [1, 0, 0, 0, 4, 0, 0, 0, 255, 255, 255, 255]) 5 false)], .tuple #[.slice (some ⟨5393, 0, none⟩) 256 256, i6 0], 5404, [(5393, some (.cells (u8s [1, 0, 40, 0, 3, 0, 0, 0, 189, 203, 162, 90, 3] ++ u8z 5 ++ u8s [1, 0, 0, 0, 255, 255, 255, 255, 1] ++ u8z 4 ++ u8s [2] ++ u8z 8 ++ u8s [1, 0, 0, 0, 4, 0, 0, 0, 255, 255, 255, 255] ++ u8z 204) 414 true))]⟩
theorem m24_51_ok : m24_51.ok (call evT evF k24_51 100000 m24_51.f m24_51.args m24_51.preH) = true := by kernel_rfl
theorem q24_51 : HkOk Tryz.prog (hkMemo m24_51) := hkMemo_ok evT_ok evF_ok k24_51_ok rfl m24_51_ok
noncomputable def k24_56 : Hk := hkLib
theorem k24_56_ok : HkOk Tryz.prog k24_56 := hkLib_ok
noncomputable def m24_56 : Mm :=
  ⟨11, [pt 2 0, .string ⟨#[116, 97, 105, 108]⟩, i6 0, .slice (some ⟨3137, 0, none⟩) 2 2], 5528, [(1, .map [⟨.string ⟨#[111, 114, 105, 103, 105, 110, 97, 108]⟩, pt 32 0, 0⟩, ⟨.string ⟨#[115, 116, 111, 114, 101]⟩, pt 423 0, 1⟩] 2),
  (2, .cells [i6 1048576, i6 6, .int .i64 (.negSucc 5), .bool false, .bool false, .map (some 1), .slice none 0 0] 61 true),
  (32, .cells [.slice (some ⟨34, 0, none⟩) 5 5, .slice (some ⟨35, 0, none⟩) 5 5, .bool true] 130 true),
  (34, .cells (u8s [97, 98, 99, 10, 100]) 5 false),
  (35, .cells (u8s [97, 98, 99, 10, 100]) 5 false),
  (423, .cells [.slice (some ⟨2265, 0, none⟩) 768 768, .slice (some ⟨3001, 0, none⟩) 768 768, .bool true] 130 true),
  (3137, .cells (u8s [120, 121]) 5 false)], i6 0, 5578, [(1, some (.map [⟨.string ⟨#[111, 114, 105, 103, 105, 110, 97, 108]⟩, pt 32 0, 0⟩, ⟨.string ⟨#[115, 116, 111, 114, 101]⟩, pt 423 0, 1⟩, ⟨.string ⟨#[116, 97, 105, 108]⟩, pt 5545 0, 2⟩] 3)),
  (2, some (.cells [i6 1048576, i6 7, .int .i64 (.negSucc 6), .bool false, .bool false, .map (some 1), .slice (some ⟨5569, 0, none⟩) 1 1] 61 true)),
  (5545, some (.cells [.slice (some ⟨5549, 0, none⟩) 2 2, .slice none 0 0, .bool false] 130 true)),
  (5549, some (.cells (u8s [120, 121]) 5 false)),
  (5568, some (.cells (u8s [120, 121]) 5 false)),
  (5569, some (.cells [.string ⟨#[116, 97, 105, 108]⟩, i6 0, .slice (some ⟨5568, 0, none⟩) 2 2] 134 false))]⟩
theorem m24_56_ok : m24_56.ok (call evT evF k24_56 100000 m24_56.f m24_56.args m24_56.preH) = true := by kernel_rfl
theorem q24_56 : HkOk Tryz.prog (hkMemo m24_56) := hkMemo_ok evT_ok evF_ok k24_56_ok rfl m24_56_ok
noncomputable def k24_90 : Hk := hkLib
theorem k24_90_ok : HkOk Tryz.prog k24_90 := hkLib_ok
noncomputable def m24_90 : Mm :=
  ⟨113, [.agg #[i6 3, i6 4, i6 0, i6 2, i6 5]], 9381, [], .tuple #[.slice (some ⟨9404, 0, none⟩) 64 64, i6 0], 9405, [(9404, some (.cells (u8s [111, 99, 116, 97, 118, 111, 48, 49, 3] ++ u8z 5 ++ u8s [4] ++ u8z 4 ++ u8s [2, 0, 0, 0, 5] ++ u8z 36 ++ u8s [123, 101, 15, 249]) 5 false))]⟩
theorem m24_90_ok : m24_90.ok (call evT evF k24_90 100000 m24_90.f m24_90.args m24_90.preH) = true := by kernel_rfl
theorem q24_90 : HkOk Tryz.prog (hkMemo m24_90) := hkMemo_ok evT_ok evF_ok k24_90_ok rfl m24_90_ok
noncomputable def k24_92 : Hk := hkLib
theorem k24_92_ok : HkOk Tryz.prog k24_92 := hkLib_ok
noncomputable def m24_92 : Mm :=
  ⟨122, [pt 73 0, .agg #[i6 3, i6 4, i6 0, i6 2, i6 5], .slice (some ⟨9358, 0, none⟩) 2 2, .slice (some ⟨9126, 0, none⟩) 2 2], 9462, [(1, .map [⟨.string ⟨#[111, 114, 105, 103, 105, 110, 97, 108]⟩, pt 32 0, 0⟩, ⟨.string ⟨#[115, 116, 111, 114, 101]⟩, pt 423 0, 1⟩, ⟨.string ⟨#[116, 97, 105, 108]⟩, pt 5545 0, 2⟩] 3),
  (2, .cells [i6 1048576, i6 15, .int .i64 (.negSucc 14), .bool false, .bool false, .map (some 1), .slice none 0 0] 61 true),
  (32, .cells [.slice (some ⟨34, 0, none⟩) 5 5, .slice (some ⟨35, 0, none⟩) 5 5, .bool true] 130 true),
  (34, .cells (u8s [97, 98, 99, 10, 100]) 5 false),
  (35, .cells (u8s [97, 98, 99, 10, 100]) 5 false),
  (48, .map [⟨i6 1, pt 225 0, 0⟩, ⟨i6 3, pt 5424 0, 2⟩, ⟨i6 4, pt 6469 0, 3⟩] 4),
  (49, .cells [i6 5, i6 0, i6 0, .bool false, pt 5424 0, pt 6469 0, .map (some 48)] 357 true),
  (66, .map [⟨i6 1, .slice (some ⟨251, 0, none⟩) 256 256, 0⟩, ⟨i6 3, .slice (some ⟨5450, 0, none⟩) 256 256, 2⟩, ⟨i6 4, .slice (some ⟨6495, 0, none⟩) 256 256, 3⟩] 4),
  (67, .cells [pt 49 0, pt 2 0, .string ⟨#[115, 116, 111, 114, 101]⟩, i6 5, .map (some 66), i6 0] 249 true),
  (68, .map [⟨i6 4, .bool true, 6⟩, ⟨i6 1, .bool true, 7⟩, ⟨i6 3, .bool true, 8⟩] 9),
  (69, .map [] 0),
  (70, .cells [i6 1, .map (some 68), .map (some 69), .slice none 0 0] 214 true),
  (71, .cells [pt 67 0, pt 70 0] 257 true),
  (73, .cells [pt 67 0, pt 70 0, pt 71 0, pt 2 0, pt 83 0, pt 3037 0, .slice (some ⟨9268, 0, none⟩) 2 2, i6 1, i6 2, i6 4, i6 1, i6 2, i6 5, i6 0, i6 0, i6 0, i6 0, i6 0, .slice (some ⟨9126, 0, none⟩) 2 2] 85 true),
  (83, .cells [pt 2 0, i6 2] 216 true),
  (225, .cells [i6 1, i6 0, .bool false, pt 6469 0, pt 5424 0] 351 true),
  (423, .cells [.slice (some ⟨7726, 0, none⟩) 1280 1280, .slice (some ⟨9460, 0, none⟩) 1280 1280, .bool true] 130 true),
  (3016, .map [] 0),
  (3017, .cells [pt 2 0, .string ⟨#[111, 114, 105, 103, 105, 110, 97, 108]⟩, i6 5, i6 0, .map (some 3016)] 372 true),
  (3037, .cells [pt 71 0, pt 3017 0, pt 83 0] 233 true),
  (5424, .cells [i6 3, i6 0, .bool false, pt 225 0, pt 49 1] 351 true),
  (5545, .cells [.slice (some ⟨5549, 0, none⟩) 2 2, .slice (some ⟨7863, 0, none⟩) 2 2, .bool true] 130 true),
  (5549, .cells (u8s [120, 121]) 5 false),
  (6469, .cells [i6 4, i6 0, .bool false, pt 49 1, pt 225 0] 351 true),
  (7863, .cells (u8s [120, 121]) 5 false),
  (9126, .cells [i6 1, i6 3] 3 false),
  (9268, .cells [i6 1, i6 5, i6 3, i6 7] 119 false),
  (9358, .cells [i6 1, i6 5, i6 3, i6 7] 119 false)], i6 0, 9491, [(68, some (.map [⟨i6 4, .bool true, 9⟩, ⟨i6 1, .bool true, 10⟩, ⟨i6 3, .bool true, 11⟩] 12)),
  (73, some (.cells [pt 67 0, pt 70 0, pt 71 0, pt 2 0, pt 83 0, pt 3037 0, .slice (some ⟨9473, 0, none⟩) 2 2, i6 0, i6 3, i6 4, i6 0, i6 2, i6 5, i6 0, i6 0, i6 0, i6 0, i6 0, .slice (some ⟨9126, 0, none⟩) 2 2] 85 true)),
  (9473, some (.cells [i6 1, i6 5, i6 3, i6 7] 119 false))]⟩
theorem m24_92_ok : m24_92.ok (call evT evF k24_92 100000 m24_92.f m24_92.args m24_92.preH) = true := by kernel_rfl
theorem q24_92 : HkOk Tryz.prog (hkMemo m24_92) := hkMemo_ok evT_ok evF_ok k24_92_ok rfl m24_92_ok
noncomputable def k24_98 : Hk := hkLib
theorem k24_98_ok : HkOk Tryz.prog k24_98 := hkLib_ok
noncomputable def m24_98 : Mm :=
  ⟨283, [i6 1, .slice (some ⟨9785, 0, none⟩) 14 14], 9827, [(9785, .cells (u8s [1] ++ u8z 5 ++ u8s [5, 0, 0, 0, 255, 255, 255, 255]) 5 false)], .tuple #[.agg #[.bool true, .slice (some ⟨10001, 0, none⟩) 1 1, .slice none 0 0], i6 0], 10016, [(10001, some (.cells [i6 0, i6 0, i6 5, .int .i64 (.negSucc 0)] 147 false))]⟩
theorem m24_98_ok : m24_98.ok (call evT evF k24_98 100000 m24_98.f m24_98.args m24_98.preH) = true := by kernel_rfl
theorem q24_98 : HkOk Tryz.prog (hkMemo m24_98) := hkMemo_ok evT_ok evF_ok k24_98_ok rfl m24_98_ok
noncomputable def k24_101 : Hk := hkLib
theorem k24_101_ok : HkOk Tryz.prog k24_101 := hkLib_ok
noncomputable def m24_101 : Mm :=
  ⟨184, [pt 10102 0, i6 230], 10292, [(10101, .cells (u8s [1, 0, 14, 0, 1, 0, 0, 0, 7, 23, 113, 182, 1] ++ u8z 5 ++ u8s [5, 0, 0, 0, 255, 255, 255, 255] ++ u8z 230) 5 false),
  (10102, .cells [.slice (some ⟨10101, 0, none⟩) 256 256, i6 26] 360 true)], i6 0, 10321, [(10102, some (.cells [.slice (some ⟨10101, 0, none⟩) 256 256, i6 256] 360 true))]⟩
theorem m24_101_ok : m24_101.ok (call evT evF k24_101 100000 m24_101.f m24_101.args m24_101.preH) = true := by kernel_rfl
theorem q24_101 : HkOk Tryz.prog (hkMemo m24_101) := hkMemo_ok evT_ok evF_ok k24_101_ok rfl m24_101_ok
noncomputable def k24_107 : Hk := hkLib
theorem k24_107_ok : HkOk Tryz.prog k24_107 := hkLib_ok
noncomputable def m24_107 : Mm :=
  ⟨11, [pt 2 0, .string ⟨#[115, 116, 111, 114, 101]⟩, i6 0, .slice (some ⟨10598, 0, none⟩) 64 64], 10609, [(1, .map [⟨.string ⟨#[111, 114, 105, 103, 105, 110, 97, 108]⟩, pt 32 0, 0⟩, ⟨.string ⟨#[115, 116, 111, 114, 101]⟩, pt 423 0, 1⟩, ⟨.string ⟨#[116, 97, 105, 108]⟩, pt 5545 0, 2⟩] 3),
  (2, .cells [i6 1048576, i6 15, .int .i64 (.negSucc 14), .bool false, .bool false, .map (some 1), .slice none 0 0] 61 true),
  (32, .cells [.slice (some ⟨34, 0, none⟩) 5 5, .slice (some ⟨35, 0, none⟩) 5 5, .bool true] 130 true),
  (34, .cells (u8s [97, 98, 99, 10, 100]) 5 false),
  (35, .cells (u8s [97, 98, 99, 10, 100]) 5 false),
  (423, .cells [.slice (some ⟨7726, 0, none⟩) 1280 1280, .slice (some ⟨9460, 0, none⟩) 1280 1280, .bool true] 130 true),
  (5545, .cells [.slice (some ⟨5549, 0, none⟩) 2 2, .slice (some ⟨7863, 0, none⟩) 2 2, .bool true] 130 true),
  (5549, .cells (u8s [120, 121]) 5 false),
  (7726, .cells (u8s [111, 99, 116, 97, 118, 111, 48, 49, 2] ++ u8z 5 ++ u8s [4, 0, 0, 0, 1, 2, 0, 0, 0, 5] ++ u8z 36 ++ u8s [152, 29, 250, 49, 111, 99, 116, 97, 118, 111, 48, 49, 3] ++ u8z 5 ++ u8s [4] ++ u8z 4 ++ u8s [2, 0, 0, 0, 5] ++ u8z 36 ++ u8s [123, 101, 15, 249] ++ u8z 128 ++ u8s [1, 0, 14, 0, 1, 0, 0, 0, 7, 23, 113, 182, 1] ++ u8z 5 ++ u8s [5, 0, 0, 0, 255, 255, 255, 255] ++ u8z 230 ++ u8s [3, 0, 9, 0, 2, 0, 0, 0, 5, 212, 242, 114, 1, 1, 0, 0, 0, 5] ++ u8z 238 ++ u8s [1, 0, 40, 0, 3, 0, 0, 0, 189, 203, 162, 90, 3] ++ u8z 5 ++ u8s [1, 0, 0, 0, 255, 255, 255, 255, 1] ++ u8z 4 ++ u8s [2] ++ u8z 8 ++ u8s [1, 0, 0, 0, 4, 0, 0, 0, 255, 255, 255, 255] ++ u8z 204 ++ u8s [3, 0, 17, 0, 4, 0, 0, 0, 178, 66, 147, 60, 2, 1, 0, 0, 0, 5, 0, 0, 0, 3, 0, 0, 0, 7] ++ u8z 230) 5 false),
  (7863, .cells (u8s [120, 121]) 5 false),
  (10598, .cells (u8s [111, 99, 116, 97, 118, 111, 48, 49, 4] ++ u8z 5 ++ u8s [4, 0, 0, 0, 1, 2, 0, 0, 0, 5] ++ u8z 36 ++ u8s [247, 19, 33, 158]) 5 false)], i6 0, 10653, [(2, some (.cells [i6 1048576, i6 16, .int .i64 (.negSucc 15), .bool false, .bool false, .map (some 1), .slice (some ⟨10644, 0, none⟩) 1 1] 61 true)),
  (7726, some (.cells (u8s [111, 99, 116, 97, 118, 111, 48, 49, 4] ++ u8z 5 ++ u8s [4, 0, 0, 0, 1, 2, 0, 0, 0, 5] ++ u8z 36 ++ u8s [247, 19, 33, 158, 111, 99, 116, 97, 118, 111, 48, 49, 3] ++ u8z 5 ++ u8s [4] ++ u8z 4 ++ u8s [2, 0, 0, 0, 5] ++ u8z 36 ++ u8s [123, 101, 15, 249] ++ u8z 128 ++ u8s [1, 0, 14, 0, 1, 0, 0, 0, 7, 23, 113, 182, 1] ++ u8z 5 ++ u8s [5, 0, 0, 0, 255, 255, 255, 255] ++ u8z 230 ++ u8s [3, 0, 9, 0, 2, 0, 0, 0, 5, 212, 242, 114, 1, 1, 0, 0, 0, 5] ++ u8z 238 ++ u8s [1, 0, 40, 0, 3, 0, 0, 0, 189, 203, 162, 90, 3] ++ u8z 5 ++ u8s [1, 0, 0, 0, 255, 255, 255, 255, 1] ++ u8z 4 ++ u8s [2] ++ u8z 8 ++ u8s [1, 0, 0, 0, 4, 0, 0, 0, 255, 255, 255, 255] ++ u8z 204 ++ u8s [3, 0, 17, 0, 4, 0, 0, 0, 178, 66, 147, 60, 2, 1, 0, 0, 0, 5, 0, 0, 0, 3, 0, 0, 0, 7] ++ u8z 230) 5 false)),
  (10643, some (.cells (u8s [111, 99, 116, 97, 118, 111, 48, 49, 4] ++ u8z 5 ++ u8s [4, 0, 0, 0, 1, 2, 0, 0, 0, 5] ++ u8z 36 ++ u8s [247, 19, 33, 158]) 5 false)),
  (10644, some (.cells [.string ⟨#[115, 116, 111, 114, 101]⟩, i6 0, .slice (some ⟨10643, 0, none⟩) 64 64] 134 false))]⟩
theorem m24_107_ok : m24_107.ok (call evT evF k24_107 100000 m24_107.f m24_107.args m24_107.preH) = true := by kernel_rfl
theorem q24_107 : HkOk Tryz.prog (hkMemo m24_107) := hkMemo_ok evT_ok evF_ok k24_107_ok rfl m24_107_ok
noncomputable def k24_116 : Hk := hkLib
theorem k24_116_ok : HkOk Tryz.prog k24_116 := hkLib_ok
noncomputable def m24_116 : Mm :=
  ⟨184, [pt 11323 0, i6 204], 11513, [(11322, .cells (u8s [1, 0, 40, 0, 3, 0, 0, 0, 189, 203, 162, 90, 3] ++ u8z 5 ++ u8s [1, 0, 0, 0, 255, 255, 255, 255, 1] ++ u8z 4 ++ u8s [2] ++ u8z 8 ++ u8s [1, 0, 0, 0, 4, 0, 0, 0, 255, 255, 255, 255] ++ u8z 204) 5 false),
  (11323, .cells [.slice (some ⟨11322, 0, none⟩) 256 256, i6 52] 360 true)], i6 0, 11542, [(11323, some (.cells [.slice (some ⟨11322, 0, none⟩) 256 256, i6 256] 360 true))]⟩
theorem m24_116_ok : m24_116.ok (call evT evF k24_116 100000 m24_116.f m24_116.args m24_116.preH) = true := by kernel_rfl
theorem q24_116 : HkOk Tryz.prog (hkMemo m24_116) := hkMemo_ok evT_ok evF_ok k24_116_ok rfl m24_116_ok
noncomputable def k24_118 : Hk := hkLib
theorem k24_118_ok : HkOk Tryz.prog k24_118 := hkLib_ok
noncomputable def m24_118 : Mm :=
  ⟨283, [i6 1, .slice (some ⟨11501, 0, none⟩) 40 40], 11543, [(11501, .cells (u8s [3] ++ u8z 5 ++ u8s [1, 0, 0, 0, 255, 255, 255, 255, 1] ++ u8z 4 ++ u8s [2] ++ u8z 8 ++ u8s [1, 0, 0, 0, 4, 0, 0, 0, 255, 255, 255, 255]) 5 false)], .tuple #[.agg #[.bool true, .slice (some ⟨11977, 0, none⟩) 3 3, .slice none 0 0], i6 0], 11998, [(11977, some (.cells [i6 0, i6 0, i6 1, .int .i64 (.negSucc 0), i6 1, i6 0, i6 2, i6 0, i6 0, i6 1, i6 4, .int .i64 (.negSucc 0)] 147 false))]⟩
theorem m24_118_ok : m24_118.ok (call evT evF k24_118 100000 m24_118.f m24_118.args m24_118.preH) = true := by kernel_rfl
theorem q24_118 : HkOk Tryz.prog (hkMemo m24_118) := hkMemo_ok evT_ok evF_ok k24_118_ok rfl m24_118_ok
noncomputable def k24_128 : Hk := hkLib
theorem k24_128_ok : HkOk Tryz.prog k24_128 := hkLib_ok
noncomputable def m24_128 : Mm :=
  ⟨160, [.slice (some ⟨13175, 0, none⟩) 2 2], 13178, [(13175, .cells [i6 0, i6 0, i6 1, .int .i64 (.negSucc 0), i6 0, i6 3, i6 4, .int .i64 (.negSucc 0)] 147 false)], .bool true, 13210, []⟩
theorem m24_128_ok : m24_128.ok (call evT evF k24_128 100000 m24_128.f m24_128.args m24_128.preH) = true := by kernel_rfl
theorem q24_128 : HkOk Tryz.prog (hkMemo m24_128) := hkMemo_ok evT_ok evF_ok k24_128_ok rfl m24_128_ok
noncomputable def k24_129 : Hk := hkLib
theorem k24_129_ok : HkOk Tryz.prog k24_129 := hkLib_ok
noncomputable def m24_129 : Mm :=
  ⟨165, [.slice (some ⟨13210, 0, none⟩) 1 1], 13211, [(13175, .cells [i6 0, i6 0, i6 1, .int .i64 (.negSucc 0), i6 0, i6 3, i6 4, .int .i64 (.negSucc 0)] 147 false),
  (13210, .cells [.slice (some ⟨13175, 0, none⟩) 2 2] 157 true)], .slice (some ⟨13282, 0, none⟩) 2 2, 13283, [(13282, some (.cells [i6 0, i6 0, i6 1, .int .i64 (.negSucc 0), i6 0, i6 3, i6 4, .int .i64 (.negSucc 0)] 147 false))]⟩
theorem m24_129_ok : m24_129.ok (call evT evF k24_129 100000 m24_129.f m24_129.args m24_129.preH) = true := by kernel_rfl
theorem q24_129 : HkOk Tryz.prog (hkMemo m24_129) := hkMemo_ok evT_ok evF_ok k24_129_ok rfl m24_129_ok
noncomputable def k24_135 : Hk := hkLib
theorem k24_135_ok : HkOk Tryz.prog k24_135 := hkLib_ok
noncomputable def m24_135 : Mm :=
  ⟨273, [.slice (some ⟨12767, 0, none⟩) 3 3], 13486, [(12767, .cells [i6 0, i6 0, i6 1, i6 1, i6 0, i6 2, i6 0, i6 1, i6 4] 145 false)], .slice (some ⟨13640, 0, none⟩) 3 3, 13655, [(13640, some (.cells [i6 0, i6 0, i6 1, i6 0, i6 1, i6 0, i6 2, i6 1, i6 0, i6 1, i6 5, i6 3] 423 false))]⟩
theorem m24_135_ok : m24_135.ok (call evT evF k24_135 100000 m24_135.f m24_135.args m24_135.preH) = true := by kernel_rfl
theorem q24_135 : HkOk Tryz.prog (hkMemo m24_135) := hkMemo_ok evT_ok evF_ok k24_135_ok rfl m24_135_ok
noncomputable def k24_139 : Hk := hkLib
theorem k24_139_ok : HkOk Tryz.prog k24_139 := hkLib_ok
noncomputable def m24_139 : Mm :=
  ⟨262, [i6 5, i6 1, .slice (some ⟨13948, 0, none⟩) 14 14], 13951, [(13948, .cells (u8s [1] ++ u8z 5 ++ u8s [7, 0, 0, 0, 255, 255, 255, 255]) 5 false)], .tuple #[.slice (some ⟨13951, 0, none⟩) 256 256, i6 0], 13962, [(13951, some (.cells (u8s [1, 0, 14, 0, 5, 0, 0, 0, 2, 120, 233, 144, 1] ++ u8z 5 ++ u8s [7, 0, 0, 0, 255, 255, 255, 255] ++ u8z 230) 414 true))]⟩
theorem m24_139_ok : m24_139.ok (call evT evF k24_139 100000 m24_139.f m24_139.args m24_139.preH) = true := by kernel_rfl
theorem q24_139 : HkOk Tryz.prog (hkMemo m24_139) := hkMemo_ok evT_ok evF_ok k24_139_ok rfl m24_139_ok
noncomputable def k24_140 : Hk := hkLib
theorem k24_140_ok : HkOk Tryz.prog k24_140 := hkLib_ok
noncomputable def m24_140 : Mm :=
  ⟨263, [pt 67 0, i6 5, .slice (some ⟨13951, 0, none⟩) 256 256], 13962, [(1, .map [⟨.string ⟨#[111, 114, 105, 103, 105, 110, 97, 108]⟩, pt 32 0, 0⟩, ⟨.string ⟨#[115, 116, 111, 114, 101]⟩, pt 423 0, 1⟩, ⟨.string ⟨#[116, 97, 105, 108]⟩, pt 5545 0, 2⟩] 3),
  (2, .cells [i6 1048576, i6 17, .int .i64 (.negSucc 16), .bool false, .bool false, .map (some 1), .slice none 0 0] 61 true),
  (32, .cells [.slice (some ⟨34, 0, none⟩) 5 5, .slice (some ⟨35, 0, none⟩) 5 5, .bool true] 130 true),
  (34, .cells (u8s [97, 98, 99, 10, 100]) 5 false),
  (35, .cells (u8s [97, 98, 99, 10, 100]) 5 false),
  (48, .map [⟨i6 1, pt 225 0, 0⟩, ⟨i6 3, pt 5424 0, 2⟩, ⟨i6 4, pt 6469 0, 3⟩, ⟨i6 2, pt 13396 0, 4⟩] 5),
  (49, .cells [i6 5, i6 0, i6 0, .bool false, pt 13396 0, pt 6469 0, .map (some 48)] 357 true),
  (66, .map [⟨i6 1, .slice (some ⟨251, 0, none⟩) 256 256, 0⟩, ⟨i6 3, .slice (some ⟨5450, 0, none⟩) 256 256, 2⟩, ⟨i6 4, .slice (some ⟨6495, 0, none⟩) 256 256, 3⟩, ⟨i6 2, .slice (some ⟨13422, 0, none⟩) 256 256, 4⟩] 5),
  (67, .cells [pt 49 0, pt 2 0, .string ⟨#[115, 116, 111, 114, 101]⟩, i6 5, .map (some 66), i6 0] 249 true),
  (225, .cells [i6 1, i6 0, .bool false, pt 6469 0, pt 5424 0] 351 true),
  (423, .cells [.slice (some ⟨7726, 0, none⟩) 1280 1280, .slice (some ⟨10654, 0, none⟩) 1280 1280, .bool true] 130 true),
  (5424, .cells [i6 3, i6 0, .bool false, pt 225 0, pt 13396 0] 351 true),
  (5545, .cells [.slice (some ⟨5549, 0, none⟩) 2 2, .slice (some ⟨7863, 0, none⟩) 2 2, .bool true] 130 true),
  (5549, .cells (u8s [120, 121]) 5 false),
  (6469, .cells [i6 4, i6 0, .bool false, pt 49 1, pt 225 0] 351 true),
  (7863, .cells (u8s [120, 121]) 5 false),
  (13396, .cells [i6 2, i6 0, .bool true, pt 5424 0, pt 49 1] 351 true),
  (13951, .cells (u8s [1, 0, 14, 0, 5, 0, 0, 0, 2, 120, 233, 144, 1] ++ u8z 5 ++ u8s [7, 0, 0, 0, 255, 255, 255, 255] ++ u8z 230) 414 true)], i6 0, 14009, [(48, some (.map [⟨i6 1, pt 225 0, 0⟩, ⟨i6 3, pt 5424 0, 2⟩, ⟨i6 4, pt 6469 0, 3⟩, ⟨i6 2, pt 13396 0, 4⟩, ⟨i6 5, pt 13982 0, 5⟩] 6)),
  (49, some (.cells [i6 5, i6 0, i6 0, .bool false, pt 13982 0, pt 6469 0, .map (some 48)] 357 true)),
  (66, some (.map [⟨i6 1, .slice (some ⟨251, 0, none⟩) 256 256, 0⟩, ⟨i6 3, .slice (some ⟨5450, 0, none⟩) 256 256, 2⟩, ⟨i6 4, .slice (some ⟨6495, 0, none⟩) 256 256, 3⟩, ⟨i6 2, .slice (some ⟨13422, 0, none⟩) 256 256, 4⟩, ⟨i6 5, .slice (some ⟨14008, 0, none⟩) 256 256, 5⟩] 6)),
  (13396, some (.cells [i6 2, i6 0, .bool true, pt 5424 0, pt 13982 0] 351 true)),
  (13982, some (.cells [i6 5, i6 0, .bool true, pt 13396 0, pt 49 1] 351 true)),
  (14008, some (.cells (u8s [1, 0, 14, 0, 5, 0, 0, 0, 2, 120, 233, 144, 1] ++ u8z 5 ++ u8s [7, 0, 0, 0, 255, 255, 255, 255] ++ u8z 230) 5 false))]⟩
theorem m24_140_ok : m24_140.ok (call evT evF k24_140 100000 m24_140.f m24_140.args m24_140.preH) = true := by kernel_rfl
theorem q24_140 : HkOk Tryz.prog (hkMemo m24_140) := hkMemo_ok evT_ok evF_ok k24_140_ok rfl m24_140_ok
noncomputable def k24_145 : Hk := hkLib
theorem k24_145_ok : HkOk Tryz.prog k24_145 := hkLib_ok
noncomputable def m24_145 : Mm :=
  ⟨277, [.slice (some ⟨14134, 0, none⟩) 1 1], 14135, [(14123, .cells [i6 0, i6 0, i6 1, i6 1, i6 0, i6 2, i6 0, i6 1, i6 4] 145 false),
  (14134, .cells [.slice (some ⟨14123, 0, none⟩) 3 3] 113 true)], .slice (some ⟨14227, 0, none⟩) 3 3, 14228, [(14227, some (.cells [i6 0, i6 0, i6 1, i6 1, i6 0, i6 2, i6 0, i6 1, i6 4] 145 false))]⟩
theorem m24_145_ok : m24_145.ok (call evT evF k24_145 100000 m24_145.f m24_145.args m24_145.preH) = true := by kernel_rfl
theorem q24_145 : HkOk Tryz.prog (hkMemo m24_145) := hkMemo_ok evT_ok evF_ok k24_145_ok rfl m24_145_ok
noncomputable def k24_151 : Hk := hkLib
theorem k24_151_ok : HkOk Tryz.prog k24_151 := hkLib_ok
noncomputable def m24_151 : Mm :=
  ⟨259, [.slice (some ⟨14046, 0, none⟩) 2 2], 14532, [(14046, .cells [i6 2, i6 5, i6 5, i6 7] 119 false)], .tuple #[.slice (some ⟨14546, 0, none⟩) 17 17, i6 0], 14547, [(14546, some (.cells (u8s [2, 2, 0, 0, 0, 5, 0, 0, 0, 5, 0, 0, 0, 7, 0, 0, 0]) 5 false))]⟩
theorem m24_151_ok : m24_151.ok (call evT evF k24_151 100000 m24_151.f m24_151.args m24_151.preH) = true := by kernel_rfl
theorem q24_151 : HkOk Tryz.prog (hkMemo m24_151) := hkMemo_ok evT_ok evF_ok k24_151_ok rfl m24_151_ok
noncomputable def k24_154 : Hk := hkLib
theorem k24_154_ok : HkOk Tryz.prog k24_154 := hkLib_ok
noncomputable def m24_154 : Mm :=
  ⟨11, [pt 2 0, .string ⟨#[115, 116, 111, 114, 101]⟩, i6 512, .slice (some ⟨13422, 0, none⟩) 256 256], 14662, [(1, .map [⟨.string ⟨#[111, 114, 105, 103, 105, 110, 97, 108]⟩, pt 32 0, 0⟩, ⟨.string ⟨#[115, 116, 111, 114, 101]⟩, pt 423 0, 1⟩, ⟨.string ⟨#[116, 97, 105, 108]⟩, pt 5545 0, 2⟩] 3),
  (2, .cells [i6 1048576, i6 17, .int .i64 (.negSucc 16), .bool false, .bool false, .map (some 1), .slice none 0 0] 61 true),
  (32, .cells [.slice (some ⟨34, 0, none⟩) 5 5, .slice (some ⟨35, 0, none⟩) 5 5, .bool true] 130 true),
  (34, .cells (u8s [97, 98, 99, 10, 100]) 5 false),
  (35, .cells (u8s [97, 98, 99, 10, 100]) 5 false),
  (423, .cells [.slice (some ⟨7726, 0, none⟩) 1280 1280, .slice (some ⟨10654, 0, none⟩) 1280 1280, .bool true] 130 true),
  (5545, .cells [.slice (some ⟨5549, 0, none⟩) 2 2, .slice (some ⟨7863, 0, none⟩) 2 2, .bool true] 130 true),
  (5549, .cells (u8s [120, 121]) 5 false),
  (7726, .cells (u8s [111, 99, 116, 97, 118, 111, 48, 49, 4] ++ u8z 5 ++ u8s [4, 0, 0, 0, 1, 2, 0, 0, 0, 5] ++ u8z 36 ++ u8s [247, 19, 33, 158, 111, 99, 116, 97, 118, 111, 48, 49, 3] ++ u8z 5 ++ u8s [4] ++ u8z 4 ++ u8s [2, 0, 0, 0, 5] ++ u8z 36 ++ u8s [123, 101, 15, 249] ++ u8z 128 ++ u8s [1, 0, 14, 0, 1, 0, 0, 0, 7, 23, 113, 182, 1] ++ u8z 5 ++ u8s [5, 0, 0, 0, 255, 255, 255, 255] ++ u8z 230 ++ u8s [3, 0, 9, 0, 2, 0, 0, 0, 5, 212, 242, 114, 1, 1, 0, 0, 0, 5] ++ u8z 238 ++ u8s [1, 0, 40, 0, 3, 0, 0, 0, 189, 203, 162, 90, 3] ++ u8z 5 ++ u8s [1, 0, 0, 0, 255, 255, 255, 255, 1] ++ u8z 4 ++ u8s [2] ++ u8z 8 ++ u8s [1, 0, 0, 0, 4, 0, 0, 0, 255, 255, 255, 255] ++ u8z 204 ++ u8s [3, 0, 17, 0, 4, 0, 0, 0, 178, 66, 147, 60, 2, 1, 0, 0, 0, 5, 0, 0, 0, 3, 0, 0, 0, 7] ++ u8z 230) 5 false),
  (7863, .cells (u8s [120, 121]) 5 false),
  (13422, .cells (u8s [1, 0, 27, 0, 2, 0, 0, 0, 69, 219, 48, 151, 2] ++ u8z 5 ++ u8s [1, 0, 0, 0, 255, 255, 255, 255, 0, 3, 0, 0, 0, 4, 0, 0, 0, 255, 255, 255, 255] ++ u8z 217) 5 false)], i6 0, 14790, [(2, some (.cells [i6 1048576, i6 18, .int .i64 (.negSucc 17), .bool false, .bool false, .map (some 1), .slice (some ⟨14781, 0, none⟩) 4 4] 61 true)),
  (7726, some (.cells (u8s [111, 99, 116, 97, 118, 111, 48, 49, 4] ++ u8z 5 ++ u8s [4, 0, 0, 0, 1, 2, 0, 0, 0, 5] ++ u8z 36 ++ u8s [247, 19, 33, 158, 111, 99, 116, 97, 118, 111, 48, 49, 3] ++ u8z 5 ++ u8s [4] ++ u8z 4 ++ u8s [2, 0, 0, 0, 5] ++ u8z 36 ++ u8s [123, 101, 15, 249] ++ u8z 128 ++ u8s [1, 0, 14, 0, 1, 0, 0, 0, 7, 23, 113, 182, 1] ++ u8z 5 ++ u8s [5, 0, 0, 0, 255, 255, 255, 255] ++ u8z 230 ++ u8s [1, 0, 27, 0, 2, 0, 0, 0, 69, 219, 48, 151, 2] ++ u8z 5 ++ u8s [1, 0, 0, 0, 255, 255, 255, 255, 0, 3, 0, 0, 0, 4, 0, 0, 0, 255, 255, 255, 255] ++ u8z 217 ++ u8s [1, 0, 40, 0, 3, 0, 0, 0, 189, 203, 162, 90, 3] ++ u8z 5 ++ u8s [1, 0, 0, 0, 255, 255, 255, 255, 1] ++ u8z 4 ++ u8s [2] ++ u8z 8 ++ u8s [1, 0, 0, 0, 4, 0, 0, 0, 255, 255, 255, 255] ++ u8z 204 ++ u8s [3, 0, 17, 0, 4, 0, 0, 0, 178, 66, 147, 60, 2, 1, 0, 0, 0, 5, 0, 0, 0, 3, 0, 0, 0, 7] ++ u8z 230) 5 false)),
  (14696, some (.cells (u8s [1, 0, 27, 0, 2, 0, 0, 0, 69, 219, 48, 151, 2] ++ u8z 5 ++ u8s [1, 0, 0, 0, 255, 255, 255, 255, 0, 3, 0, 0, 0, 4, 0, 0, 0, 255, 255, 255, 255] ++ u8z 25) 5 false)),
  (14724, some (.cells (u8z 64) 5 false)),
  (14752, some (.cells (u8z 64) 5 false)),
  (14780, some (.cells (u8z 64) 5 false)),
  (14781, some (.cells [.string ⟨#[115, 116, 111, 114, 101]⟩, i6 512, .slice (some ⟨14696, 0, none⟩) 64 64, .string ⟨#[115, 116, 111, 114, 101]⟩, i6 576, .slice (some ⟨14724, 0, none⟩) 64 64, .string ⟨#[115, 116, 111, 114, 101]⟩, i6 640, .slice (some ⟨14752, 0, none⟩) 64 64, .string ⟨#[115, 116, 111, 114, 101]⟩, i6 704, .slice (some ⟨14780, 0, none⟩) 64 64] 134 false))]⟩
theorem m24_154_ok : m24_154.ok (call evT evF k24_154 100000 m24_154.f m24_154.args m24_154.preH) = true := by kernel_rfl
theorem q24_154 : HkOk Tryz.prog (hkMemo m24_154) := hkMemo_ok evT_ok evF_ok k24_154_ok rfl m24_154_ok
noncomputable def k24_156 : Hk := hkLib
theorem k24_156_ok : HkOk Tryz.prog k24_156 := hkLib_ok
noncomputable def m24_156 : Mm :=
  ⟨67, [.slice (some ⟨7726, 0, none⟩) 1280 1280, i6 1280, .slice (some ⟨14008, 0, none⟩) 256 256], 14837, [(7726, .cells (u8s [111, 99, 116, 97, 118, 111, 48, 49, 4] ++ u8z 5 ++ u8s [4, 0, 0, 0, 1, 2, 0, 0, 0, 5] ++ u8z 36 ++ u8s [247, 19, 33, 158, 111, 99, 116, 97, 118, 111, 48, 49, 3] ++ u8z 5 ++ u8s [4] ++ u8z 4 ++ u8s [2, 0, 0, 0, 5] ++ u8z 36 ++ u8s [123, 101, 15, 249] ++ u8z 128 ++ u8s [1, 0, 14, 0, 1, 0, 0, 0, 7, 23, 113, 182, 1] ++ u8z 5 ++ u8s [5, 0, 0, 0, 255, 255, 255, 255] ++ u8z 230 ++ u8s [1, 0, 27, 0, 2, 0, 0, 0, 69, 219, 48, 151, 2] ++ u8z 5 ++ u8s [1, 0, 0, 0, 255, 255, 255, 255, 0, 3, 0, 0, 0, 4, 0, 0, 0, 255, 255, 255, 255] ++ u8z 217 ++ u8s [1, 0, 40, 0, 3, 0, 0, 0, 189, 203, 162, 90, 3] ++ u8z 5 ++ u8s [1, 0, 0, 0, 255, 255, 255, 255, 1] ++ u8z 4 ++ u8s [2] ++ u8z 8 ++ u8s [1, 0, 0, 0, 4, 0, 0, 0, 255, 255, 255, 255] ++ u8z 204 ++ u8s [3, 0, 17, 0, 4, 0, 0, 0, 178, 66, 147, 60, 2, 1, 0, 0, 0, 5, 0, 0, 0, 3, 0, 0, 0, 7] ++ u8z 230) 5 false),
  (14008, .cells (u8s [1, 0, 14, 0, 5, 0, 0, 0, 2, 120, 233, 144, 1] ++ u8z 5 ++ u8s [7, 0, 0, 0, 255, 255, 255, 255] ++ u8z 230) 5 false)], .slice (some ⟨15348, 0, none⟩) 1536 1536, 15349, [(7726, none),
  (15348, some (.cells (u8s [111, 99, 116, 97, 118, 111, 48, 49, 4] ++ u8z 5 ++ u8s [4, 0, 0, 0, 1, 2, 0, 0, 0, 5] ++ u8z 36 ++ u8s [247, 19, 33, 158, 111, 99, 116, 97, 118, 111, 48, 49, 3] ++ u8z 5 ++ u8s [4] ++ u8z 4 ++ u8s [2, 0, 0, 0, 5] ++ u8z 36 ++ u8s [123, 101, 15, 249] ++ u8z 128 ++ u8s [1, 0, 14, 0, 1, 0, 0, 0, 7, 23, 113, 182, 1] ++ u8z 5 ++ u8s [5, 0, 0, 0, 255, 255, 255, 255] ++ u8z 230 ++ u8s [1, 0, 27, 0, 2, 0, 0, 0, 69, 219, 48, 151, 2] ++ u8z 5 ++ u8s [1, 0, 0, 0, 255, 255, 255, 255, 0, 3, 0, 0, 0, 4, 0, 0, 0, 255, 255, 255, 255] ++ u8z 217 ++ u8s [1, 0, 40, 0, 3, 0, 0, 0, 189, 203, 162, 90, 3] ++ u8z 5 ++ u8s [1, 0, 0, 0, 255, 255, 255, 255, 1] ++ u8z 4 ++ u8s [2] ++ u8z 8 ++ u8s [1, 0, 0, 0, 4, 0, 0, 0, 255, 255, 255, 255] ++ u8z 204 ++ u8s [3, 0, 17, 0, 4, 0, 0, 0, 178, 66, 147, 60, 2, 1, 0, 0, 0, 5, 0, 0, 0, 3, 0, 0, 0, 7] ++ u8z 230 ++ u8s [1, 0, 14, 0, 5, 0, 0, 0, 2, 120, 233, 144, 1] ++ u8z 5 ++ u8s [7, 0, 0, 0, 255, 255, 255, 255] ++ u8z 230) 5 false))]⟩
theorem m24_156_ok : m24_156.ok (call evT evF k24_156 100000 m24_156.f m24_156.args m24_156.preH) = true := by kernel_rfl
theorem q24_156 : HkOk Tryz.prog (hkMemo m24_156) := hkMemo_ok evT_ok evF_ok k24_156_ok rfl m24_156_ok
noncomputable def k24_165 : Hk := hkLib
theorem k24_165_ok : HkOk Tryz.prog k24_165 := hkLib_ok
noncomputable def m24_165 : Mm :=
  ⟨277, [.slice (some ⟨16344, 0, none⟩) 1 1], 16345, [(14491, .cells [i6 0, i6 0, i6 1, i6 1, i6 0, i6 2, i6 0, i6 1, i6 4] 145 false),
  (16344, .cells [.slice (some ⟨14491, 0, none⟩) 3 3] 113 true)], .slice (some ⟨16437, 0, none⟩) 3 3, 16438, [(16437, some (.cells [i6 0, i6 0, i6 1, i6 1, i6 0, i6 2, i6 0, i6 1, i6 4] 145 false))]⟩
theorem m24_165_ok : m24_165.ok (call evT evF k24_165 100000 m24_165.f m24_165.args m24_165.preH) = true := by kernel_rfl
theorem q24_165 : HkOk Tryz.prog (hkMemo m24_165) := hkMemo_ok evT_ok evF_ok k24_165_ok rfl m24_165_ok
noncomputable def k24_169 : Hk := hkLib
theorem k24_169_ok : HkOk Tryz.prog k24_169 := hkLib_ok
noncomputable def m24_169 : Mm :=
  ⟨67, [.slice none 0 0, i6 0, .slice (some ⟨16598, 0, none⟩) 256 256], 16617, [(16598, .cells (u8z 64 ++ u8s [5, 0, 0, 0, 111, 99, 116, 97, 118, 111, 48, 49, 5] ++ u8z 5 ++ u8s [6, 0, 0, 0, 1, 2, 0, 0, 0, 7] ++ u8z 36 ++ u8s [163, 240, 239, 210, 7] ++ u8z 7 ++ u8s [1, 0, 0, 0, 1] ++ u8z 4 ++ u8s [3] ++ u8z 5 ++ u8s [1, 1] ++ u8z 4 ++ u8s [2, 0, 1, 0, 0, 0, 4] ++ u8z 88) 5 false)], .slice (some ⟨17128, 0, none⟩) 256 256, 17129, [(17128, some (.cells (u8z 64 ++ u8s [5, 0, 0, 0, 111, 99, 116, 97, 118, 111, 48, 49, 5] ++ u8z 5 ++ u8s [6, 0, 0, 0, 1, 2, 0, 0, 0, 7] ++ u8z 36 ++ u8s [163, 240, 239, 210, 7] ++ u8z 7 ++ u8s [1, 0, 0, 0, 1] ++ u8z 4 ++ u8s [3] ++ u8z 5 ++ u8s [1, 1] ++ u8z 4 ++ u8s [2, 0, 1, 0, 0, 0, 4] ++ u8z 88) 5 false))]⟩
theorem m24_169_ok : m24_169.ok (call evT evF k24_169 100000 m24_169.f m24_169.args m24_169.preH) = true := by kernel_rfl
theorem q24_169 : HkOk Tryz.prog (hkMemo m24_169) := hkMemo_ok evT_ok evF_ok k24_169_ok rfl m24_169_ok
noncomputable def k24_174 : Hk := hkLib
theorem k24_174_ok : HkOk Tryz.prog k24_174 := hkLib_ok
noncomputable def m24_174 : Mm :=
  ⟨11, [pt 2 0, .string ⟨#[106, 111, 117, 114, 110, 97, 108]⟩, i6 0, .slice (some ⟨17295, 0, none⟩) 64 64], 17296, [(1, .map [⟨.string ⟨#[111, 114, 105, 103, 105, 110, 97, 108]⟩, pt 32 0, 0⟩, ⟨.string ⟨#[115, 116, 111, 114, 101]⟩, pt 423 0, 1⟩, ⟨.string ⟨#[116, 97, 105, 108]⟩, pt 5545 0, 2⟩, ⟨.string ⟨#[106, 111, 117, 114, 110, 97, 108]⟩, pt 16616 0, 3⟩] 4),
  (2, .cells [i6 1048576, i6 26, .int .i64 (.negSucc 25), .bool false, .bool false, .map (some 1), .slice none 0 0] 61 true),
  (32, .cells [.slice (some ⟨16219, 0, none⟩) 7 7, .slice (some ⟨16249, 0, none⟩) 7 7, .bool true] 130 true),
  (423, .cells [.slice (some ⟨16019, 0, none⟩) 1792 1792, .slice (some ⟨16143, 0, none⟩) 1792 1792, .bool true] 130 true),
  (5545, .cells [.slice (some ⟨5549, 0, none⟩) 2 2, .slice (some ⟨16157, 0, none⟩) 2 2, .bool true] 130 true),
  (5549, .cells (u8s [120, 121]) 5 false),
  (16157, .cells (u8s [120, 121]) 5 false),
  (16219, .cells (u8s [97, 98, 99, 10, 100, 0, 0]) 5 false),
  (16249, .cells (u8s [97, 98, 99, 10, 100, 0, 0]) 5 false),
  (16616, .cells [.slice (some ⟨17128, 0, none⟩) 256 256, .slice (some ⟨17242, 0, none⟩) 256 256, .bool true] 130 true),
  (17128, .cells (u8z 64 ++ u8s [5, 0, 0, 0, 111, 99, 116, 97, 118, 111, 48, 49, 5] ++ u8z 5 ++ u8s [6, 0, 0, 0, 1, 2, 0, 0, 0, 7] ++ u8z 36 ++ u8s [163, 240, 239, 210, 7] ++ u8z 7 ++ u8s [1, 0, 0, 0, 1] ++ u8z 4 ++ u8s [3] ++ u8z 5 ++ u8s [1, 1] ++ u8z 4 ++ u8s [2, 0, 1, 0, 0, 0, 4] ++ u8z 88) 5 false),
  (17295, .cells (u8s [111, 99, 116, 97, 118, 111, 45, 106] ++ u8z 5 ++ u8s [104, 0, 0, 0, 157, 110, 233, 13] ++ u8z 39 ++ u8s [135, 81, 132, 197]) 5 false)], i6 0, 17340, [(2, some (.cells [i6 1048576, i6 27, .int .i64 (.negSucc 26), .bool false, .bool false, .map (some 1), .slice (some ⟨17331, 0, none⟩) 1 1] 61 true)),
  (17128, some (.cells (u8s [111, 99, 116, 97, 118, 111, 45, 106] ++ u8z 5 ++ u8s [104, 0, 0, 0, 157, 110, 233, 13] ++ u8z 39 ++ u8s [135, 81, 132, 197, 5, 0, 0, 0, 111, 99, 116, 97, 118, 111, 48, 49, 5] ++ u8z 5 ++ u8s [6, 0, 0, 0, 1, 2, 0, 0, 0, 7] ++ u8z 36 ++ u8s [163, 240, 239, 210, 7] ++ u8z 7 ++ u8s [1, 0, 0, 0, 1] ++ u8z 4 ++ u8s [3] ++ u8z 5 ++ u8s [1, 1] ++ u8z 4 ++ u8s [2, 0, 1, 0, 0, 0, 4] ++ u8z 88) 5 false)),
  (17330, some (.cells (u8s [111, 99, 116, 97, 118, 111, 45, 106] ++ u8z 5 ++ u8s [104, 0, 0, 0, 157, 110, 233, 13] ++ u8z 39 ++ u8s [135, 81, 132, 197]) 5 false)),
  (17331, some (.cells [.string ⟨#[106, 111, 117, 114, 110, 97, 108]⟩, i6 0, .slice (some ⟨17330, 0, none⟩) 64 64] 134 false))]⟩
theorem m24_174_ok : m24_174.ok (call evT evF k24_174 100000 m24_174.f m24_174.args m24_174.preH) = true := by kernel_rfl
theorem q24_174 : HkOk Tryz.prog (hkMemo m24_174) := hkMemo_ok evT_ok evF_ok k24_174_ok rfl m24_174_ok
noncomputable def k24_179 : Hk := hkLib
theorem k24_179_ok : HkOk Tryz.prog k24_179 := hkLib_ok
noncomputable def m24_179 : Mm :=
  ⟨11, [pt 2 0, .string ⟨#[106, 111, 117, 114, 110, 97, 108]⟩, i6 0, .slice (some ⟨17505, 0, none⟩) 64 64], 17506, [(1, .map [⟨.string ⟨#[111, 114, 105, 103, 105, 110, 97, 108]⟩, pt 32 0, 0⟩, ⟨.string ⟨#[115, 116, 111, 114, 101]⟩, pt 423 0, 1⟩, ⟨.string ⟨#[116, 97, 105, 108]⟩, pt 5545 0, 2⟩, ⟨.string ⟨#[106, 111, 117, 114, 110, 97, 108]⟩, pt 16616 0, 3⟩] 4),
  (2, .cells [i6 1048576, i6 30, .int .i64 (.negSucc 29), .bool false, .bool false, .map (some 1), .slice none 0 0] 61 true),
  (32, .cells [.slice (some ⟨16219, 0, none⟩) 7 7, .slice (some ⟨16249, 0, none⟩) 7 7, .bool true] 130 true),
  (423, .cells [.slice (some ⟨16019, 0, none⟩) 1792 1792, .slice (some ⟨16143, 0, none⟩) 1792 1792, .bool true] 130 true),
  (5545, .cells [.slice (some ⟨5549, 0, none⟩) 2 2, .slice (some ⟨16157, 0, none⟩) 2 2, .bool true] 130 true),
  (5549, .cells (u8s [120, 121]) 5 false),
  (16157, .cells (u8s [120, 121]) 5 false),
  (16219, .cells (u8s [97, 98, 99, 10, 100, 0, 0]) 5 false),
  (16249, .cells (u8s [97, 98, 99, 10, 100, 0, 0]) 5 false),
  (16616, .cells [.slice (some ⟨17128, 0, none⟩) 256 256, .slice (some ⟨17456, 0, none⟩) 256 256, .bool true] 130 true),
  (17128, .cells (u8s [111, 99, 116, 97, 118, 111, 45, 106] ++ u8z 5 ++ u8s [104, 0, 0, 0, 157, 110, 233, 13] ++ u8z 39 ++ u8s [135, 81, 132, 197, 5, 0, 0, 0, 111, 99, 116, 97, 118, 111, 48, 49, 5] ++ u8z 5 ++ u8s [6, 0, 0, 0, 1, 2, 0, 0, 0, 7] ++ u8z 36 ++ u8s [163, 240, 239, 210, 7] ++ u8z 7 ++ u8s [1, 0, 0, 0, 1] ++ u8z 4 ++ u8s [3] ++ u8z 5 ++ u8s [1, 1] ++ u8z 4 ++ u8s [2, 0, 1, 0, 0, 0, 4] ++ u8z 24 ++ u8s [97, 120, 121, 98, 99, 10, 100] ++ u8z 57) 5 false),
  (17505, .cells (u8s [111, 99, 116, 97, 118, 111, 45, 106] ++ u8z 4 ++ u8s [1, 104, 0, 0, 0, 157, 110, 233, 13] ++ u8z 39 ++ u8s [91, 189, 53, 248]) 5 false)], i6 0, 17550, [(2, some (.cells [i6 1048576, i6 31, .int .i64 (.negSucc 30), .bool false, .bool false, .map (some 1), .slice (some ⟨17541, 0, none⟩) 1 1] 61 true)),
  (17128, some (.cells (u8s [111, 99, 116, 97, 118, 111, 45, 106] ++ u8z 4 ++ u8s [1, 104, 0, 0, 0, 157, 110, 233, 13] ++ u8z 39 ++ u8s [91, 189, 53, 248, 5, 0, 0, 0, 111, 99, 116, 97, 118, 111, 48, 49, 5] ++ u8z 5 ++ u8s [6, 0, 0, 0, 1, 2, 0, 0, 0, 7] ++ u8z 36 ++ u8s [163, 240, 239, 210, 7] ++ u8z 7 ++ u8s [1, 0, 0, 0, 1] ++ u8z 4 ++ u8s [3] ++ u8z 5 ++ u8s [1, 1] ++ u8z 4 ++ u8s [2, 0, 1, 0, 0, 0, 4] ++ u8z 24 ++ u8s [97, 120, 121, 98, 99, 10, 100] ++ u8z 57) 5 false)),
  (17540, some (.cells (u8s [111, 99, 116, 97, 118, 111, 45, 106] ++ u8z 4 ++ u8s [1, 104, 0, 0, 0, 157, 110, 233, 13] ++ u8z 39 ++ u8s [91, 189, 53, 248]) 5 false)),
  (17541, some (.cells [.string ⟨#[106, 111, 117, 114, 110, 97, 108]⟩, i6 0, .slice (some ⟨17540, 0, none⟩) 64 64] 134 false))]⟩
theorem m24_179_ok : m24_179.ok (call evT evF k24_179 100000 m24_179.f m24_179.args m24_179.preH) = true := by kernel_rfl
theorem q24_179 : HkOk Tryz.prog (hkMemo m24_179) := hkMemo_ok evT_ok evF_ok k24_179_ok rfl m24_179_ok
noncomputable def k24_183 : Hk := hkLib
theorem k24_183_ok : HkOk Tryz.prog k24_183 := hkLib_ok
noncomputable def m24_183 : Mm :=
  ⟨142, [.agg #[i6 1, .bool false, i6 104, .int .u32 (.ofNat 233402013)]], 17654, [], .tuple #[.slice (some ⟨17684, 0, none⟩) 64 64, i6 0], 17685, [(17684, some (.cells (u8s [111, 99, 116, 97, 118, 111, 45, 106, 1] ++ u8z 4 ++ u8s [104, 0, 0, 0, 157, 110, 233, 13] ++ u8z 39 ++ u8s [138, 173, 72, 172]) 5 false))]⟩
theorem m24_183_ok : m24_183.ok (call evT evF k24_183 100000 m24_183.f m24_183.args m24_183.preH) = true := by kernel_rfl
theorem q24_183 : HkOk Tryz.prog (hkMemo m24_183) := hkMemo_ok evT_ok evF_ok k24_183_ok rfl m24_183_ok
noncomputable def k24_186 : Hk := hkLib
theorem k24_186_ok : HkOk Tryz.prog k24_186 := hkLib_ok
noncomputable def m24_186 : Mm :=
  ⟨113, [.agg #[i6 5, i6 6, i6 1, i6 2, i6 7]], 17746, [], .tuple #[.slice (some ⟨17769, 0, none⟩) 64 64, i6 0], 17770, [(17769, some (.cells (u8s [111, 99, 116, 97, 118, 111, 48, 49, 5] ++ u8z 5 ++ u8s [6, 0, 0, 0, 1, 2, 0, 0, 0, 7] ++ u8z 36 ++ u8s [163, 240, 239, 210]) 5 false))]⟩
theorem m24_186_ok : m24_186.ok (call evT evF k24_186 100000 m24_186.f m24_186.args m24_186.preH) = true := by kernel_rfl
theorem q24_186 : HkOk Tryz.prog (hkMemo m24_186) := hkMemo_ok evT_ok evF_ok k24_186_ok rfl m24_186_ok
noncomputable def k24_187 : Hk := hkLib
theorem k24_187_ok : HkOk Tryz.prog k24_187 := hkLib_ok
noncomputable def m24_187 : Mm :=
  ⟨11, [pt 2 0, .string ⟨#[115, 116, 111, 114, 101]⟩, i6 64, .slice (some ⟨17769, 0, none⟩) 64 64], 17784, [(1, .map [⟨.string ⟨#[111, 114, 105, 103, 105, 110, 97, 108]⟩, pt 32 0, 0⟩, ⟨.string ⟨#[115, 116, 111, 114, 101]⟩, pt 423 0, 1⟩, ⟨.string ⟨#[116, 97, 105, 108]⟩, pt 5545 0, 2⟩, ⟨.string ⟨#[106, 111, 117, 114, 110, 97, 108]⟩, pt 16616 0, 3⟩] 4),
  (2, .cells [i6 1048576, i6 37, .int .i64 (.negSucc 36), .bool false, .bool false, .map (some 1), .slice none 0 0] 61 true),
  (32, .cells [.slice (some ⟨16219, 0, none⟩) 7 7, .slice (some ⟨17745, 0, none⟩) 7 7, .bool true] 130 true),
  (423, .cells [.slice (some ⟨16019, 0, none⟩) 1792 1792, .slice (some ⟨16143, 0, none⟩) 1792 1792, .bool true] 130 true),
  (5545, .cells [.slice (some ⟨5549, 0, none⟩) 2 2, .slice (some ⟨16157, 0, none⟩) 2 2, .bool true] 130 true),
  (5549, .cells (u8s [120, 121]) 5 false),
  (16019, .cells (u8s [111, 99, 116, 97, 118, 111, 48, 49, 4] ++ u8z 5 ++ u8s [4, 0, 0, 0, 1, 2, 0, 0, 0, 5] ++ u8z 36 ++ u8s [247, 19, 33, 158, 111, 99, 116, 97, 118, 111, 48, 49, 3] ++ u8z 5 ++ u8s [4] ++ u8z 4 ++ u8s [2, 0, 0, 0, 5] ++ u8z 36 ++ u8s [123, 101, 15, 249] ++ u8z 128 ++ u8s [1, 0, 14, 0, 1, 0, 0, 0, 7, 23, 113, 182, 1] ++ u8z 5 ++ u8s [5, 0, 0, 0, 255, 255, 255, 255] ++ u8z 230 ++ u8s [1, 0, 27, 0, 2, 0, 0, 0, 69, 219, 48, 151, 2] ++ u8z 5 ++ u8s [1, 0, 0, 0, 255, 255, 255, 255, 0, 3, 0, 0, 0, 4, 0, 0, 0, 255, 255, 255, 255] ++ u8z 217 ++ u8s [1, 0, 40, 0, 3, 0, 0, 0, 189, 203, 162, 90, 3] ++ u8z 5 ++ u8s [1, 0, 0, 0, 255, 255, 255, 255, 1] ++ u8z 4 ++ u8s [2] ++ u8z 8 ++ u8s [1, 0, 0, 0, 4, 0, 0, 0, 255, 255, 255, 255] ++ u8z 204 ++ u8s [3, 0, 17, 0, 4, 0, 0, 0, 178, 66, 147, 60, 2, 1, 0, 0, 0, 5, 0, 0, 0, 3, 0, 0, 0, 7] ++ u8z 230 ++ u8s [1, 0, 14, 0, 5, 0, 0, 0, 2, 120, 233, 144, 1] ++ u8z 5 ++ u8s [7, 0, 0, 0, 255, 255, 255, 255] ++ u8z 230 ++ u8s [3, 0, 17, 0, 6, 0, 0, 0, 87, 212, 48, 146, 2, 2, 0, 0, 0, 5, 0, 0, 0, 5, 0, 0, 0, 7] ++ u8z 230) 5 false),
  (16157, .cells (u8s [120, 121]) 5 false),
  (16219, .cells (u8s [97, 120, 121, 98, 99, 10, 100]) 5 false),
  (16616, .cells [.slice (some ⟨17128, 0, none⟩) 256 256, .slice (some ⟨17730, 0, none⟩) 256 256, .bool true] 130 true),
  (17745, .cells (u8s [97, 120, 121, 98, 99, 10, 100]) 5 false),
  (17769, .cells (u8s [111, 99, 116, 97, 118, 111, 48, 49, 5] ++ u8z 5 ++ u8s [6, 0, 0, 0, 1, 2, 0, 0, 0, 7] ++ u8z 36 ++ u8s [163, 240, 239, 210]) 5 false)], i6 0, 17828, [(2, some (.cells [i6 1048576, i6 38, .int .i64 (.negSucc 37), .bool false, .bool false, .map (some 1), .slice (some ⟨17819, 0, none⟩) 1 1] 61 true)),
  (16019, some (.cells (u8s [111, 99, 116, 97, 118, 111, 48, 49, 4] ++ u8z 5 ++ u8s [4, 0, 0, 0, 1, 2, 0, 0, 0, 5] ++ u8z 36 ++ u8s [247, 19, 33, 158, 111, 99, 116, 97, 118, 111, 48, 49, 5] ++ u8z 5 ++ u8s [6, 0, 0, 0, 1, 2, 0, 0, 0, 7] ++ u8z 36 ++ u8s [163, 240, 239, 210] ++ u8z 128 ++ u8s [1, 0, 14, 0, 1, 0, 0, 0, 7, 23, 113, 182, 1] ++ u8z 5 ++ u8s [5, 0, 0, 0, 255, 255, 255, 255] ++ u8z 230 ++ u8s [1, 0, 27, 0, 2, 0, 0, 0, 69, 219, 48, 151, 2] ++ u8z 5 ++ u8s [1, 0, 0, 0, 255, 255, 255, 255, 0, 3, 0, 0, 0, 4, 0, 0, 0, 255, 255, 255, 255] ++ u8z 217 ++ u8s [1, 0, 40, 0, 3, 0, 0, 0, 189, 203, 162, 90, 3] ++ u8z 5 ++ u8s [1, 0, 0, 0, 255, 255, 255, 255, 1] ++ u8z 4 ++ u8s [2] ++ u8z 8 ++ u8s [1, 0, 0, 0, 4, 0, 0, 0, 255, 255, 255, 255] ++ u8z 204 ++ u8s [3, 0, 17, 0, 4, 0, 0, 0, 178, 66, 147, 60, 2, 1, 0, 0, 0, 5, 0, 0, 0, 3, 0, 0, 0, 7] ++ u8z 230 ++ u8s [1, 0, 14, 0, 5, 0, 0, 0, 2, 120, 233, 144, 1] ++ u8z 5 ++ u8s [7, 0, 0, 0, 255, 255, 255, 255] ++ u8z 230 ++ u8s [3, 0, 17, 0, 6, 0, 0, 0, 87, 212, 48, 146, 2, 2, 0, 0, 0, 5, 0, 0, 0, 5, 0, 0, 0, 7] ++ u8z 230) 5 false)),
  (17818, some (.cells (u8s [111, 99, 116, 97, 118, 111, 48, 49, 5] ++ u8z 5 ++ u8s [6, 0, 0, 0, 1, 2, 0, 0, 0, 7] ++ u8z 36 ++ u8s [163, 240, 239, 210]) 5 false)),
  (17819, some (.cells [.string ⟨#[115, 116, 111, 114, 101]⟩, i6 64, .slice (some ⟨17818, 0, none⟩) 64 64] 134 false))]⟩
theorem m24_187_ok : m24_187.ok (call evT evF k24_187 100000 m24_187.f m24_187.args m24_187.preH) = true := by kernel_rfl
theorem q24_187 : HkOk Tryz.prog (hkMemo m24_187) := hkMemo_ok evT_ok evF_ok k24_187_ok rfl m24_187_ok
noncomputable def k24_195 : Hk := hkLib
theorem k24_195_ok : HkOk Tryz.prog k24_195 := hkLib_ok
noncomputable def m24_195 : Mm :=
  ⟨283, [i6 1, .slice (some ⟨18722, 0, none⟩) 14 14], 18764, [(18722, .cells (u8s [1] ++ u8z 5 ++ u8s [7, 0, 0, 0, 255, 255, 255, 255]) 5 false)], .tuple #[.agg #[.bool true, .slice (some ⟨18938, 0, none⟩) 1 1, .slice none 0 0], i6 0], 18953, [(18938, some (.cells [i6 0, i6 0, i6 7, .int .i64 (.negSucc 0)] 147 false))]⟩
theorem m24_195_ok : m24_195.ok (call evT evF k24_195 100000 m24_195.f m24_195.args m24_195.preH) = true := by kernel_rfl
theorem q24_195 : HkOk Tryz.prog (hkMemo m24_195) := hkMemo_ok evT_ok evF_ok k24_195_ok rfl m24_195_ok
noncomputable def k24_198 : Hk := hkLib
theorem k24_198_ok : HkOk Tryz.prog k24_198 := hkLib_ok
noncomputable def m24_198 : Mm :=
  ⟨177, [pt 73 0], 19060, [(1, .map [⟨.string ⟨#[111, 114, 105, 103, 105, 110, 97, 108]⟩, pt 32 0, 0⟩, ⟨.string ⟨#[115, 116, 111, 114, 101]⟩, pt 423 0, 1⟩, ⟨.string ⟨#[116, 97, 105, 108]⟩, pt 5545 0, 2⟩, ⟨.string ⟨#[106, 111, 117, 114, 110, 97, 108]⟩, pt 16616 0, 3⟩] 4),
  (2, .cells [i6 1048576, i6 41, .int .i64 (.negSucc 40), .bool false, .bool false, .map (some 1), .slice none 0 0] 61 true),
  (32, .cells [.slice (some ⟨16219, 0, none⟩) 7 7, .slice (some ⟨17745, 0, none⟩) 7 7, .bool true] 130 true),
  (48, .map [⟨i6 1, pt 225 0, 0⟩, ⟨i6 3, pt 5424 0, 2⟩, ⟨i6 2, pt 13396 0, 4⟩, ⟨i6 5, pt 13982 0, 5⟩, ⟨i6 6, pt 14604 0, 6⟩] 7),
  (49, .cells [i6 5, i6 0, i6 0, .bool false, pt 13982 0, pt 225 0, .map (some 48)] 357 true),
  (66, .map [⟨i6 1, .slice (some ⟨251, 0, none⟩) 256 256, 0⟩, ⟨i6 3, .slice (some ⟨5450, 0, none⟩) 256 256, 2⟩, ⟨i6 2, .slice (some ⟨13422, 0, none⟩) 256 256, 4⟩, ⟨i6 5, .slice (some ⟨14008, 0, none⟩) 256 256, 5⟩, ⟨i6 6, .slice (some ⟨14630, 0, none⟩) 256 256, 6⟩] 7),
  (67, .cells [pt 49 0, pt 2 0, .string ⟨#[115, 116, 111, 114, 101]⟩, i6 5, .map (some 66), i6 0] 249 true),
  (68, .map [⟨i6 4, .bool true, 12⟩, ⟨i6 1, .bool true, 13⟩, ⟨i6 3, .bool true, 14⟩, ⟨i6 2, .bool true, 15⟩, ⟨i6 5, .bool true, 16⟩, ⟨i6 6, .bool true, 17⟩] 18),
  (69, .map [] 0),
  (70, .cells [i6 1, .map (some 68), .map (some 69), .slice (some ⟨14549, 0, none⟩) 3 3] 214 true),
  (71, .cells [pt 67 0, pt 70 0] 257 true),
  (73, .cells [pt 67 0, pt 70 0, pt 71 0, pt 2 0, pt 83 0, pt 19048 0, .slice (some ⟨19059, 0, none⟩) 2 2, i6 1, i6 5, i6 6, i6 1, i6 2, i6 7, i6 0, i6 0, i6 0, i6 0, i6 0, .slice (some ⟨18965, 0, none⟩) 2 2] 85 true),
  (83, .cells [pt 2 0, i6 2] 216 true),
  (225, .cells [i6 1, i6 0, .bool false, pt 49 1, pt 5424 0] 351 true),
  (423, .cells [.slice (some ⟨16019, 0, none⟩) 1792 1792, .slice (some ⟨17829, 0, none⟩) 1792 1792, .bool true] 130 true),
  (5424, .cells [i6 3, i6 0, .bool false, pt 225 0, pt 14604 0] 351 true),
  (5545, .cells [.slice (some ⟨5549, 0, none⟩) 2 2, .slice (some ⟨16157, 0, none⟩) 2 2, .bool true] 130 true),
  (5549, .cells (u8s [120, 121]) 5 false),
  (13396, .cells [i6 2, i6 0, .bool false, pt 14604 0, pt 13982 0] 351 true),
  (13982, .cells [i6 5, i6 0, .bool false, pt 13396 0, pt 49 1] 351 true),
  (14549, .cells [i6 2, i6 5, i6 6] 3 false),
  (14604, .cells [i6 6, i6 0, .bool false, pt 5424 0, pt 13396 0] 351 true),
  (16157, .cells (u8s [120, 121]) 5 false),
  (16219, .cells (u8s [97, 120, 121, 98, 99, 10, 100]) 5 false),
  (16616, .cells [.slice (some ⟨17128, 0, none⟩) 0 256, .slice (some ⟨17833, 0, none⟩) 0 0, .bool true] 130 true),
  (17745, .cells (u8s [97, 120, 121, 98, 99, 10, 100]) 5 false),
  (17833, .cells [] 5 true),
  (18965, .cells [i6 2, i6 5] 3 false),
  (19027, .map [] 0),
  (19028, .cells [pt 2 0, .string ⟨#[111, 114, 105, 103, 105, 110, 97, 108]⟩, i6 7, i6 0, .map (some 19027)] 372 true),
  (19048, .cells [pt 71 0, pt 19028 0, pt 83 0] 233 true),
  (19059, .cells [i6 2, i6 5, i6 5, i6 7] 119 false)], i6 0, 19120, [(48, some (.map [⟨i6 2, pt 13396 0, 4⟩, ⟨i6 5, pt 13982 0, 5⟩, ⟨i6 6, pt 14604 0, 6⟩] 7)),
  (49, some (.cells [i6 5, i6 0, i6 0, .bool false, pt 13982 0, pt 14604 0, .map (some 48)] 357 true)),
  (66, some (.map [⟨i6 2, .slice (some ⟨13422, 0, none⟩) 256 256, 4⟩, ⟨i6 5, .slice (some ⟨14008, 0, none⟩) 256 256, 5⟩, ⟨i6 6, .slice (some ⟨14630, 0, none⟩) 256 256, 6⟩] 7)),
  (68, some (.map [⟨i6 6, .bool true, 18⟩, ⟨i6 2, .bool true, 19⟩, ⟨i6 5, .bool true, 20⟩] 21)),
  (70, some (.cells [i6 1, .map (some 68), .map (some 69), .slice none 0 0] 214 true)),
  (5424, some (.cells [i6 3, i6 0, .bool false, pt 49 1, pt 14604 0] 351 true)),
  (14604, some (.cells [i6 6, i6 0, .bool false, pt 49 1, pt 13396 0] 351 true))]⟩
theorem m24_198_ok : m24_198.ok (call evT evF k24_198 100000 m24_198.f m24_198.args m24_198.preH) = true := by kernel_rfl
theorem q24_198 : HkOk Tryz.prog (hkMemo m24_198) := hkMemo_ok evT_ok evF_ok k24_198_ok rfl m24_198_ok
end Go.Proofs.YtjclpdlijblpjaaGreat
