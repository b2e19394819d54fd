/-
  Calls that were reckoned out, one by one. Printed by a program.
-/
import Derived.Test.YtjclpdlijblpjaaGreatEvl
namespace Go.Proofs.YtjclpdlijblpjaaGreat
open Go.Ev
set_option maxRecDepth 1000000
noncomputable def k24_0 : Hk := hkLib
theorem k24_0_ok : HkOk Tryz.prog k24_0 := hkLib_ok
noncomputable def m24_0 : Mm :=
  ⟨6, [pt 2 0], 36, [(1, .map [⟨.string ⟨#[111, 114, 105, 103, 105, 110, 97, 108]⟩, pt 32 0, 0⟩] 1),
  (2, .cells [i6 1048576, i6 0, i6 0, .bool false, .bool false, .map (some 1), .slice none 0 0] 61 true),
  (32, .cells [.slice (some ⟨34, 0, none⟩) 5 5, .slice (some ⟨35, 0, none⟩) 5 5, .bool true] 130 true),
  (34, .cells (u8s [97, 98, 99, 10, 100]) 5 false),
  (35, .cells (u8s [97, 98, 99, 10, 100]) 5 false)], .tuple #[.bool false, i6 0], 47, []⟩
theorem m24_0_ok : m24_0.ok (call evT evF k24_0 100000 m24_0.f m24_0.args m24_0.preH) = true := by kernel_rfl
theorem q24_0 : HkOk Tryz.prog (hkMemo m24_0) := hkMemo_ok evT_ok evF_ok k24_0_ok rfl m24_0_ok
noncomputable def k24_6 : Hk := hkLib
theorem k24_6_ok : HkOk Tryz.prog k24_6 := hkLib_ok
noncomputable def m24_6 : Mm :=
  ⟨262, [i6 2, i6 3, .slice (some ⟨315, 0, none⟩) 9 9], 319, [(315, .cells (u8s [1, 1, 0, 0, 0, 5, 0, 0, 0]) 5 false)], .tuple #[.slice (some ⟨319, 0, none⟩) 256 256, i6 0], 330, [(319, some (.cells (u8s [3, 0, 9, 0, 2, 0, 0, 0, 5, 212, 242, 114, 1, 1, 0, 0, 0, 5] ++ u8z 238) 414 true))]⟩
theorem m24_6_ok : m24_6.ok (call evT evF k24_6 100000 m24_6.f m24_6.args m24_6.preH) = true := by kernel_rfl
theorem q24_6 : HkOk Tryz.prog (hkMemo m24_6) := hkMemo_ok evT_ok evF_ok k24_6_ok rfl m24_6_ok
noncomputable def k24_23 : Hk := hkLib
theorem k24_23_ok : HkOk Tryz.prog k24_23 := hkLib_ok
noncomputable def m24_23 : Mm :=
  ⟨11, [pt 2 0, .string ⟨#[115, 116, 111, 114, 101]⟩, i6 64, .slice (some ⟨2945, 0, none⟩) 64 64], 2956, [(1, .map [⟨.string ⟨#[111, 114, 105, 103, 105, 110, 97, 108]⟩, pt 32 0, 0⟩, ⟨.string ⟨#[115, 116, 111, 114, 101]⟩, pt 423 0, 1⟩] 2),
  (2, .cells [i6 1048576, i6 4, .int .i64 (.negSucc 3), .bool false, .bool false, .map (some 1), .slice none 0 0] 61 true),
  (32, .cells [.slice (some ⟨34, 0, none⟩) 5 5, .slice (some ⟨35, 0, none⟩) 5 5, .bool true] 130 true),
  (34, .cells (u8s [97, 98, 99, 10, 100]) 5 false),
  (35, .cells (u8s [97, 98, 99, 10, 100]) 5 false),
  (423, .cells [.slice (some ⟨2265, 0, none⟩) 768 768, .slice (some ⟨2389, 0, none⟩) 768 768, .bool true] 130 true),
  (2265, .cells (u8z 256 ++ u8s [1, 0, 14, 0, 1, 0, 0, 0, 7, 23, 113, 182, 1] ++ u8z 5 ++ u8s [5, 0, 0, 0, 255, 255, 255, 255] ++ u8z 230 ++ u8s [3, 0, 9, 0, 2, 0, 0, 0, 5, 212, 242, 114, 1, 1, 0, 0, 0, 5] ++ u8z 238) 5 false),
  (2945, .cells (u8s [111, 99, 116, 97, 118, 111, 48, 49, 1] ++ u8z 5 ++ u8s [2] ++ u8z 8 ++ u8s [5] ++ u8z 36 ++ u8s [73, 229, 12, 250]) 5 false)], i6 0, 3000, [(2, some (.cells [i6 1048576, i6 5, .int .i64 (.negSucc 4), .bool false, .bool false, .map (some 1), .slice (some ⟨2991, 0, none⟩) 1 1] 61 true)),
  (2265, some (.cells (u8z 64 ++ u8s [111, 99, 116, 97, 118, 111, 48, 49, 1] ++ u8z 5 ++ u8s [2] ++ u8z 8 ++ u8s [5] ++ u8z 36 ++ u8s [73, 229, 12, 250] ++ u8z 128 ++ u8s [1, 0, 14, 0, 1, 0, 0, 0, 7, 23, 113, 182, 1] ++ u8z 5 ++ u8s [5, 0, 0, 0, 255, 255, 255, 255] ++ u8z 230 ++ u8s [3, 0, 9, 0, 2, 0, 0, 0, 5, 212, 242, 114, 1, 1, 0, 0, 0, 5] ++ u8z 238) 5 false)),
  (2990, some (.cells (u8s [111, 99, 116, 97, 118, 111, 48, 49, 1] ++ u8z 5 ++ u8s [2] ++ u8z 8 ++ u8s [5] ++ u8z 36 ++ u8s [73, 229, 12, 250]) 5 false)),
  (2991, some (.cells [.string ⟨#[115, 116, 111, 114, 101]⟩, i6 64, .slice (some ⟨2990, 0, none⟩) 64 64] 134 false))]⟩
theorem m24_23_ok : m24_23.ok (call evT evF k24_23 100000 m24_23.f m24_23.args m24_23.preH) = true := by kernel_rfl
theorem q24_23 : HkOk Tryz.prog (hkMemo m24_23) := hkMemo_ok evT_ok evF_ok k24_23_ok rfl m24_23_ok
noncomputable def k24_24 : Hk := hkLib
theorem k24_24_ok : HkOk Tryz.prog k24_24 := hkLib_ok
noncomputable def m24_24 : Mm :=
  ⟨122, [pt 73 0, .agg #[i6 1, i6 2, i6 0, i6 0, i6 5], .slice (some ⟨288, 0, none⟩) 1 1, .slice (some ⟨2920, 0, none⟩) 1 1], 3003, [(1, .map [⟨.string ⟨#[111, 114, 105, 103, 105, 110, 97, 108]⟩, pt 32 0, 0⟩, ⟨.string ⟨#[115, 116, 111, 114, 101]⟩, pt 423 0, 1⟩] 2),
  (2, .cells [i6 1048576, i6 6, .int .i64 (.negSucc 5), .bool false, .bool false, .map (some 1), .slice none 0 0] 61 true),
  (32, .cells [.slice (some ⟨34, 0, none⟩) 5 5, .slice (some ⟨35, 0, none⟩) 5 5, .bool true] 130 true),
  (34, .cells (u8s [97, 98, 99, 10, 100]) 5 false),
  (35, .cells (u8s [97, 98, 99, 10, 100]) 5 false),
  (48, .map [⟨i6 1, pt 225 0, 0⟩, ⟨i6 2, pt 350 0, 1⟩] 2),
  (49, .cells [i6 5, i6 0, i6 0, .bool false, pt 225 0, pt 350 0, .map (some 48)] 357 true),
  (66, .map [⟨i6 1, .slice (some ⟨251, 0, none⟩) 256 256, 0⟩, ⟨i6 2, .slice (some ⟨376, 0, none⟩) 256 256, 1⟩] 2),
  (67, .cells [pt 49 0, pt 2 0, .string ⟨#[115, 116, 111, 114, 101]⟩, i6 5, .map (some 66), i6 0] 249 true),
  (68, .map [⟨i6 1, .bool true, 0⟩, ⟨i6 2, .bool true, 1⟩] 2),
  (69, .map [] 0),
  (70, .cells [i6 1, .map (some 68), .map (some 69), .slice (some ⟨318, 0, none⟩) 2 2] 214 true),
  (71, .cells [pt 67 0, pt 70 0] 257 true),
  (73, .cells [pt 67 0, pt 70 0, pt 71 0, pt 2 0, pt 83 0, .pointer none, .slice none 0 0, i6 0, i6 0, i6 0, i6 0, i6 0, i6 5, i6 0, i6 0, i6 0, i6 0, i6 0, .slice none 0 0] 85 true),
  (83, .cells [pt 2 0, i6 0] 216 true),
  (225, .cells [i6 1, i6 0, .bool false, pt 350 0, pt 49 1] 351 true),
  (288, .cells [i6 1, i6 5] 119 true),
  (318, .cells [i6 1, i6 2] 3 false),
  (350, .cells [i6 2, i6 0, .bool false, pt 49 1, pt 225 0] 351 true),
  (423, .cells [.slice (some ⟨2265, 0, none⟩) 768 768, .slice (some ⟨3001, 0, none⟩) 768 768, .bool true] 130 true),
  (2920, .cells [i6 1] 3 false)], i6 0, 3065, [(68, some (.map [⟨i6 2, .bool true, 2⟩, ⟨i6 1, .bool true, 3⟩] 4)),
  (70, some (.cells [i6 1, .map (some 68), .map (some 69), .slice none 0 0] 214 true)),
  (73, some (.cells [pt 67 0, pt 70 0, pt 71 0, pt 2 0, pt 83 0, pt 3037 0, .slice (some ⟨3048, 0, none⟩) 1 1, i6 0, i6 1, i6 2, i6 0, i6 0, i6 5, i6 0, i6 0, i6 0, i6 0, i6 0, .slice (some ⟨2920, 0, none⟩) 1 1] 85 true)),
  (3016, some (.map [] 0)),
  (3017, some (.cells [pt 2 0, .string ⟨#[111, 114, 105, 103, 105, 110, 97, 108]⟩, i6 5, i6 0, .map (some 3016)] 372 true)),
  (3037, some (.cells [pt 71 0, pt 3017 0, pt 83 0] 233 true)),
  (3048, some (.cells [i6 1, i6 5] 119 false))]⟩
theorem m24_24_ok : m24_24.ok (call evT evF k24_24 100000 m24_24.f m24_24.args m24_24.preH) = true := by kernel_rfl
theorem q24_24 : HkOk Tryz.prog (hkMemo m24_24) := hkMemo_ok evT_ok evF_ok k24_24_ok rfl m24_24_ok
noncomputable def k24_33 : Hk := hkLib
theorem k24_33_ok : HkOk Tryz.prog k24_33 := hkLib_ok
noncomputable def m24_33 : Mm :=
  ⟨283, [i6 1, .slice (some ⟨3409, 0, none⟩) 14 14], 3451, [(3409, .cells (u8s [1] ++ u8z 5 ++ u8s [5, 0, 0, 0, 255, 255, 255, 255]) 5 false)], .tuple #[.agg #[.bool true, .slice (some ⟨3625, 0, none⟩) 1 1, .slice none 0 0], i6 0], 3640, [(3625, some (.cells [i6 0, i6 0, i6 5, .int .i64 (.negSucc 0)] 147 false))]⟩
theorem m24_33_ok : m24_33.ok (call evT evF k24_33 100000 m24_33.f m24_33.args m24_33.preH) = true := by kernel_rfl
theorem q24_33 : HkOk Tryz.prog (hkMemo m24_33) := hkMemo_ok evT_ok evF_ok k24_33_ok rfl m24_33_ok
noncomputable def k24_36 : Hk := hkLib
theorem k24_36_ok : HkOk Tryz.prog k24_36 := hkLib_ok
noncomputable def m24_36 : Mm :=
  ⟨184, [pt 3727 0, i6 230], 3917, [(3726, .cells (u8s [1, 0, 14, 0, 1, 0, 0, 0, 7, 23, 113, 182, 1] ++ u8z 5 ++ u8s [5, 0, 0, 0, 255, 255, 255, 255] ++ u8z 230) 5 false),
  (3727, .cells [.slice (some ⟨3726, 0, none⟩) 256 256, i6 26] 360 true)], i6 0, 3946, [(3727, some (.cells [.slice (some ⟨3726, 0, none⟩) 256 256, i6 256] 360 true))]⟩
theorem m24_36_ok : m24_36.ok (call evT evF k24_36 100000 m24_36.f m24_36.args m24_36.preH) = true := by kernel_rfl
theorem q24_36 : HkOk Tryz.prog (hkMemo m24_36) := hkMemo_ok evT_ok evF_ok k24_36_ok rfl m24_36_ok
noncomputable def k24_44 : Hk := hkLib
theorem k24_44_ok : HkOk Tryz.prog k24_44 := hkLib_ok
noncomputable def m24_44 : Mm :=
  ⟨165, [.slice (some ⟨4625, 0, none⟩) 3 3], 4626, [(3140, .cells [i6 1, i6 0, i6 2, i6 0] 147 false),
  (4140, .cells [i6 0, i6 0, i6 1, .int .i64 (.negSucc 0)] 147 true),
  (4624, .cells [i6 0, i6 1, i6 4, .int .i64 (.negSucc 0)] 147 true),
  (4625, .cells [.slice (some ⟨4140, 0, none⟩) 1 1, .slice (some ⟨3140, 0, none⟩) 1 1, .slice (some ⟨4624, 0, none⟩) 1 1] 157 true)], .slice (some ⟨4733, 0, none⟩) 3 3, 4734, [(4733, some (.cells [i6 0, i6 0, i6 1, .int .i64 (.negSucc 0), i6 1, i6 0, i6 2, i6 0, i6 0, i6 1, i6 4, .int .i64 (.negSucc 0)] 147 false))]⟩
theorem m24_44_ok : m24_44.ok (call evT evF k24_44 100000 m24_44.f m24_44.args m24_44.preH) = true := by kernel_rfl
theorem q24_44 : HkOk Tryz.prog (hkMemo m24_44) := hkMemo_ok evT_ok evF_ok k24_44_ok rfl m24_44_ok
noncomputable def k24_47 : Hk := hkLib
theorem k24_47_ok : HkOk Tryz.prog k24_47 := hkLib_ok
noncomputable def m24_47 : Mm :=
  ⟨283, [i6 1, .slice (some ⟨4965, 0, none⟩) 14 14], 5007, [(4965, .cells (u8s [1] ++ u8z 5 ++ u8s [5, 0, 0, 0, 255, 255, 255, 255]) 5 false)], .tuple #[.agg #[.bool true, .slice (some ⟨5181, 0, none⟩) 1 1, .slice none 0 0], i6 0], 5196, [(5181, some (.cells [i6 0, i6 0, i6 5, .int .i64 (.negSucc 0)] 147 false))]⟩
theorem m24_47_ok : m24_47.ok (call evT evF k24_47 100000 m24_47.f m24_47.args m24_47.preH) = true := by kernel_rfl
theorem q24_47 : HkOk Tryz.prog (hkMemo m24_47) := hkMemo_ok evT_ok evF_ok k24_47_ok rfl m24_47_ok
noncomputable def k24_50 : Hk := hkLib
theorem k24_50_ok : HkOk Tryz.prog k24_50 := hkLib_ok
noncomputable def m24_50 : Mm :=
  ⟨340, [.agg #[.bool true, .slice (some ⟨4733, 0, none⟩) 3 3, .slice none 0 0]], 5289, [(4733, .cells [i6 0, i6 0, i6 1, .int .i64 (.negSucc 0), i6 1, i6 0, i6 2, i6 0, i6 0, i6 1, i6 4, .int .i64 (.negSucc 0)] 147 false)], .tuple #[i6 1, .slice (some ⟨5390, 0, none⟩) 40 40, i6 0], 5391, [(5390, some (.cells (u8s [3] ++ u8z 5 ++ u8s [1, 0, 0, 0, 255, 255, 255, 255, 1] ++ u8z 4 ++ u8s [2] ++ u8z 8 ++ u8s [1, 0, 0, 0, 4, 0, 0, 0, 255, 255, 255, 255]) 5 false))]⟩
theorem m24_50_ok : m24_50.ok (call evT evF k24_50 100000 m24_50.f m24_50.args m24_50.preH) = true := by kernel_rfl
theorem q24_50 : HkOk Tryz.prog (hkMemo m24_50) := hkMemo_ok evT_ok evF_ok k24_50_ok rfl m24_50_ok
noncomputable def k24_52 : Hk := hkLib
theorem k24_52_ok : HkOk Tryz.prog k24_52 := hkLib_ok
noncomputable def m24_52 : Mm :=
  ⟨263, [pt 67 0, i6 3, .slice (some ⟨5393, 0, none⟩) 256 256], 5404, [(1, .map [⟨.string ⟨#[111, 114, 105, 103, 105, 110, 97, 108]⟩, pt 32 0, 0⟩, ⟨.string ⟨#[115, 116, 111, 114, 101]⟩, pt 423 0, 1⟩] 2),
  (2, .cells [i6 1048576, i6 6, .int .i64 (.negSucc 5), .bool false, .bool false, .map (some 1), .slice none 0 0] 61 true),
  (32, .cells [.slice (some ⟨34, 0, none⟩) 5 5, .slice (some ⟨35, 0, none⟩) 5 5, .bool true] 130 true),
  (34, .cells (u8s [97, 98, 99, 10, 100]) 5 false),
  (35, .cells (u8s [97, 98, 99, 10, 100]) 5 false),
  (48, .map [⟨i6 1, pt 225 0, 0⟩, ⟨i6 2, pt 350 0, 1⟩] 2),
  (49, .cells [i6 5, i6 0, i6 0, .bool false, pt 225 0, pt 350 0, .map (some 48)] 357 true),
  (66, .map [⟨i6 1, .slice (some ⟨251, 0, none⟩) 256 256, 0⟩, ⟨i6 2, .slice (some ⟨376, 0, none⟩) 256 256, 1⟩] 2),
  (67, .cells [pt 49 0, pt 2 0, .string ⟨#[115, 116, 111, 114, 101]⟩, i6 5, .map (some 66), i6 0] 249 true),
  (225, .cells [i6 1, i6 0, .bool false, pt 350 0, pt 49 1] 351 true),
  (350, .cells [i6 2, i6 0, .bool false, pt 49 1, pt 225 0] 351 true),
  (423, .cells [.slice (some ⟨2265, 0, none⟩) 768 768, .slice (some ⟨3001, 0, none⟩) 768 768, .bool true] 130 true),
  (5393, .cells (u8s [1, 0, 40, 0, 3, 0, 0, 0, 189, 203, 162, 90, 3] ++ u8z 5 ++ u8s [1, 0, 0, 0, 255, 255, 255, 255, 1] ++ u8z 4 ++ u8s [2] ++ u8z 8 ++ u8s [1, 0, 0, 0, 4, 0, 0, 0, 255, 255, 255, 255] ++ u8z 204) 414 true)], i6 0, 5451, [(48, some (.map [⟨i6 1, pt 225 0, 0⟩, ⟨i6 2, pt 350 0, 1⟩, ⟨i6 3, pt 5424 0, 2⟩] 3)),
  (49, some (.cells [i6 5, i6 0, i6 0, .bool false, pt 5424 0, pt 350 0, .map (some 48)] 357 true)),
  (66, some (.map [⟨i6 1, .slice (some ⟨251, 0, none⟩) 256 256, 0⟩, ⟨i6 2, .slice (some ⟨376, 0, none⟩) 256 256, 1⟩, ⟨i6 3, .slice (some ⟨5450, 0, none⟩) 256 256, 2⟩] 3)),
  (225, some (.cells [i6 1, i6 0, .bool false, pt 350 0, pt 5424 0] 351 true)),
  (5424, some (.cells [i6 3, i6 0, .bool true, pt 225 0, pt 49 1] 351 true)),
  (5450, some (.cells (u8s [1, 0, 40, 0, 3, 0, 0, 0, 189, 203, 162, 90, 3] ++ u8z 5 ++ u8s [1, 0, 0, 0, 255, 255, 255, 255, 1] ++ u8z 4 ++ u8s [2] ++ u8z 8 ++ u8s [1, 0, 0, 0, 4, 0, 0, 0, 255, 255, 255, 255] ++ u8z 204) 5 false))]⟩
theorem m24_52_ok : m24_52.ok (call evT evF k24_52 100000 m24_52.f m24_52.args m24_52.preH) = true := by kernel_rfl
theorem q24_52 : HkOk Tryz.prog (hkMemo m24_52) := hkMemo_ok evT_ok evF_ok k24_52_ok rfl m24_52_ok
noncomputable def k24_58 : Hk := hkLib
theorem k24_58_ok : HkOk Tryz.prog k24_58 := hkLib_ok
noncomputable def m24_58 : Mm :=
  ⟨184, [pt 5647 0, i6 204], 5837, [(5646, .cells (u8s [1, 0, 40, 0, 3, 0, 0, 0, 189, 203, 162, 90, 3] ++ u8z 5 ++ u8s [1, 0, 0, 0, 255, 255, 255, 255, 1] ++ u8z 4 ++ u8s [2] ++ u8z 8 ++ u8s [1, 0, 0, 0, 4, 0, 0, 0, 255, 255, 255, 255] ++ u8z 204) 5 false),
  (5647, .cells [.slice (some ⟨5646, 0, none⟩) 256 256, i6 52] 360 true)], i6 0, 5866, [(5647, some (.cells [.slice (some ⟨5646, 0, none⟩) 256 256, i6 256] 360 true))]⟩
theorem m24_58_ok : m24_58.ok (call evT evF k24_58 100000 m24_58.f m24_58.args m24_58.preH) = true := by kernel_rfl
theorem q24_58 : HkOk Tryz.prog (hkMemo m24_58) := hkMemo_ok evT_ok evF_ok k24_58_ok rfl m24_58_ok
noncomputable def k24_62 : Hk := hkLib
theorem k24_62_ok : HkOk Tryz.prog k24_62 := hkLib_ok
noncomputable def m24_62 : Mm :=
  ⟨228, [.agg #[.bool true, .slice (some ⟨6301, 0, none⟩) 3 3, .slice none 0 0]], 6322, [(6301, .cells [i6 0, i6 0, i6 1, .int .i64 (.negSucc 0), i6 1, i6 0, i6 2, i6 0, i6 0, i6 1, i6 4, .int .i64 (.negSucc 0)] 147 false)], .tuple #[i6 7, .int .i64 (.negSucc 0), i6 3], 6379, []⟩
theorem m24_62_ok : m24_62.ok (call evT evF k24_62 100000 m24_62.f m24_62.args m24_62.preH) = true := by kernel_rfl
theorem q24_62 : HkOk Tryz.prog (hkMemo m24_62) := hkMemo_ok evT_ok evF_ok k24_62_ok rfl m24_62_ok
noncomputable def k24_63 : Hk := hkLib
theorem k24_63_ok : HkOk Tryz.prog k24_63 := hkLib_ok
noncomputable def m24_63 : Mm :=
  ⟨259, [.slice (some ⟨6399, 0, none⟩) 2 2], 6420, [(6399, .cells [i6 1, i6 5, i6 3, i6 7] 119 false)], .tuple #[.slice (some ⟨6434, 0, none⟩) 17 17, i6 0], 6435, [(6434, some (.cells (u8s [2, 1, 0, 0, 0, 5, 0, 0, 0, 3, 0, 0, 0, 7, 0, 0, 0]) 5 false))]⟩
theorem m24_63_ok : m24_63.ok (call evT evF k24_63 100000 m24_63.f m24_63.args m24_63.preH) = true := by kernel_rfl
theorem q24_63 : HkOk Tryz.prog (hkMemo m24_63) := hkMemo_ok evT_ok evF_ok k24_63_ok rfl m24_63_ok
noncomputable def k24_65 : Hk := hkLib
theorem k24_65_ok : HkOk Tryz.prog k24_65 := hkLib_ok
noncomputable def m24_65 : Mm :=
  ⟨263, [pt 67 0, i6 4, .slice (some ⟨6438, 0, none⟩) 256 256], 6449, [(1, .map [⟨.string ⟨#[111, 114, 105, 103, 105, 110, 97, 108]⟩, pt 32 0, 0⟩, ⟨.string ⟨#[115, 116, 111, 114, 101]⟩, pt 423 0, 1⟩, ⟨.string ⟨#[116, 97, 105, 108]⟩, pt 5545 0, 2⟩] 3),
  (2, .cells [i6 1048576, i6 7, .int .i64 (.negSucc 6), .bool false, .bool false, .map (some 1), .slice (some ⟨5569, 0, none⟩) 1 1] 61 true),
  (32, .cells [.slice (some ⟨34, 0, none⟩) 5 5, .slice (some ⟨35, 0, none⟩) 5 5, .bool true] 130 true),
  (34, .cells (u8s [97, 98, 99, 10, 100]) 5 false),
  (35, .cells (u8s [97, 98, 99, 10, 100]) 5 false),
  (48, .map [⟨i6 1, pt 225 0, 0⟩, ⟨i6 2, pt 350 0, 1⟩, ⟨i6 3, pt 5424 0, 2⟩] 3),
  (49, .cells [i6 5, i6 0, i6 0, .bool false, pt 5424 0, pt 350 0, .map (some 48)] 357 true),
  (66, .map [⟨i6 1, .slice (some ⟨251, 0, none⟩) 256 256, 0⟩, ⟨i6 2, .slice (some ⟨376, 0, none⟩) 256 256, 1⟩, ⟨i6 3, .slice (some ⟨5450, 0, none⟩) 256 256, 2⟩] 3),
  (67, .cells [pt 49 0, pt 2 0, .string ⟨#[115, 116, 111, 114, 101]⟩, i6 5, .map (some 66), i6 0] 249 true),
  (225, .cells [i6 1, i6 0, .bool false, pt 350 0, pt 5424 0] 351 true),
  (350, .cells [i6 2, i6 0, .bool false, pt 49 1, pt 225 0] 351 true),
  (423, .cells [.slice (some ⟨2265, 0, none⟩) 768 768, .slice (some ⟨3001, 0, none⟩) 768 768, .bool true] 130 true),
  (5424, .cells [i6 3, i6 0, .bool true, pt 225 0, pt 49 1] 351 true),
  (5545, .cells [.slice (some ⟨5549, 0, none⟩) 2 2, .slice none 0 0, .bool false] 130 true),
  (5549, .cells (u8s [120, 121]) 5 false),
  (5568, .cells (u8s [120, 121]) 5 false),
  (5569, .cells [.string ⟨#[116, 97, 105, 108]⟩, i6 0, .slice (some ⟨5568, 0, none⟩) 2 2] 134 false),
  (6438, .cells (u8s [3, 0, 17, 0, 4, 0, 0, 0, 178, 66, 147, 60, 2, 1, 0, 0, 0, 5, 0, 0, 0, 3, 0, 0, 0, 7] ++ u8z 230) 414 true)], i6 0, 6496, [(48, some (.map [⟨i6 1, pt 225 0, 0⟩, ⟨i6 2, pt 350 0, 1⟩, ⟨i6 3, pt 5424 0, 2⟩, ⟨i6 4, pt 6469 0, 3⟩] 4)),
  (49, some (.cells [i6 5, i6 0, i6 0, .bool false, pt 6469 0, pt 350 0, .map (some 48)] 357 true)),
  (66, some (.map [⟨i6 1, .slice (some ⟨251, 0, none⟩) 256 256, 0⟩, ⟨i6 2, .slice (some ⟨376, 0, none⟩) 256 256, 1⟩, ⟨i6 3, .slice (some ⟨5450, 0, none⟩) 256 256, 2⟩, ⟨i6 4, .slice (some ⟨6495, 0, none⟩) 256 256, 3⟩] 4)),
  (5424, some (.cells [i6 3, i6 0, .bool true, pt 225 0, pt 6469 0] 351 true)),
  (6469, some (.cells [i6 4, i6 0, .bool true, pt 5424 0, pt 49 1] 351 true)),
  (6495, some (.cells (u8s [3, 0, 17, 0, 4, 0, 0, 0, 178, 66, 147, 60, 2, 1, 0, 0, 0, 5, 0, 0, 0, 3, 0, 0, 0, 7] ++ u8z 230) 5 false))]⟩
theorem m24_65_ok : m24_65.ok (call evT evF k24_65 100000 m24_65.f m24_65.args m24_65.preH) = true := by kernel_rfl
theorem q24_65 : HkOk Tryz.prog (hkMemo m24_65) := hkMemo_ok evT_ok evF_ok k24_65_ok rfl m24_65_ok
noncomputable def k24_66 : Hk := hkLib
theorem k24_66_ok : HkOk Tryz.prog k24_66 := hkLib_ok
noncomputable def m24_66 : Mm :=
  ⟨67, [.slice (some ⟨2265, 0, none⟩) 768 768, i6 768, .slice (some ⟨5450, 0, none⟩) 256 256], 6544, [(2265, .cells (u8z 64 ++ u8s [111, 99, 116, 97, 118, 111, 48, 49, 1] ++ u8z 5 ++ u8s [2] ++ u8z 8 ++ u8s [5] ++ u8z 36 ++ u8s [73, 229, 12, 250] ++ u8z 128 ++ u8s [1, 0, 14, 0, 1, 0, 0, 0, 7, 23, 113, 182, 1] ++ u8z 5 ++ u8s [5, 0, 0, 0, 255, 255, 255, 255] ++ u8z 230 ++ u8s [3, 0, 9, 0, 2, 0, 0, 0, 5, 212, 242, 114, 1, 1, 0, 0, 0, 5] ++ u8z 238) 5 false),
  (5450, .cells (u8s [1, 0, 40, 0, 3, 0, 0, 0, 189, 203, 162, 90, 3] ++ u8z 5 ++ u8s [1, 0, 0, 0, 255, 255, 255, 255, 1] ++ u8z 4 ++ u8s [2] ++ u8z 8 ++ u8s [1, 0, 0, 0, 4, 0, 0, 0, 255, 255, 255, 255] ++ u8z 204) 5 false)], .slice (some ⟨7055, 0, none⟩) 1024 1024, 7056, [(2265, none),
  (7055, some (.cells (u8z 64 ++ u8s [111, 99, 116, 97, 118, 111, 48, 49, 1] ++ u8z 5 ++ u8s [2] ++ u8z 8 ++ u8s [5] ++ u8z 36 ++ u8s [73, 229, 12, 250] ++ u8z 128 ++ u8s [1, 0, 14, 0, 1, 0, 0, 0, 7, 23, 113, 182, 1] ++ u8z 5 ++ u8s [5, 0, 0, 0, 255, 255, 255, 255] ++ u8z 230 ++ u8s [3, 0, 9, 0, 2, 0, 0, 0, 5, 212, 242, 114, 1, 1, 0, 0, 0, 5] ++ u8z 238 ++ u8s [1, 0, 40, 0, 3, 0, 0, 0, 189, 203, 162, 90, 3] ++ u8z 5 ++ u8s [1, 0, 0, 0, 255, 255, 255, 255, 1] ++ u8z 4 ++ u8s [2] ++ u8z 8 ++ u8s [1, 0, 0, 0, 4, 0, 0, 0, 255, 255, 255, 255] ++ u8z 204) 5 false))]⟩
theorem m24_66_ok : m24_66.ok (call evT evF k24_66 100000 m24_66.f m24_66.args m24_66.preH) = true := by kernel_rfl
theorem q24_66 : HkOk Tryz.prog (hkMemo m24_66) := hkMemo_ok evT_ok evF_ok k24_66_ok rfl m24_66_ok
noncomputable def k24_74 : Hk := hkLib
theorem k24_74_ok : HkOk Tryz.prog k24_74 := hkLib_ok
noncomputable def m24_74 : Mm :=
  ⟨184, [pt 7964 0, i6 230], 8154, [(7963, .cells (u8s [1, 0, 14, 0, 1, 0, 0, 0, 7, 23, 113, 182, 1] ++ u8z 5 ++ u8s [5, 0, 0, 0, 255, 255, 255, 255] ++ u8z 230) 5 false),
  (7964, .cells [.slice (some ⟨7963, 0, none⟩) 256 256, i6 26] 360 true)], i6 0, 8183, [(7964, some (.cells [.slice (some ⟨7963, 0, none⟩) 256 256, i6 256] 360 true))]⟩
theorem m24_74_ok : m24_74.ok (call evT evF k24_74 100000 m24_74.f m24_74.args m24_74.preH) = true := by kernel_rfl
theorem q24_74 : HkOk Tryz.prog (hkMemo m24_74) := hkMemo_ok evT_ok evF_ok k24_74_ok rfl m24_74_ok
noncomputable def k24_80 : Hk := hkLib
theorem k24_80_ok : HkOk Tryz.prog k24_80 := hkLib_ok
noncomputable def m24_80 : Mm :=
  ⟨283, [i6 1, .slice (some ⟨8617, 0, none⟩) 40 40], 8659, [(8617, .cells (u8s [3] ++ u8z 5 ++ u8s [1, 0, 0, 0, 255, 255, 255, 255, 1] ++ u8z 4 ++ u8s [2] ++ u8z 8 ++ u8s [1, 0, 0, 0, 4, 0, 0, 0, 255, 255, 255, 255]) 5 false)], .tuple #[.agg #[.bool true, .slice (some ⟨9093, 0, none⟩) 3 3, .slice none 0 0], i6 0], 9114, [(9093, some (.cells [i6 0, i6 0, i6 1, .int .i64 (.negSucc 0), i6 1, i6 0, i6 2, i6 0, i6 0, i6 1, i6 4, .int .i64 (.negSucc 0)] 147 false))]⟩
theorem m24_80_ok : m24_80.ok (call evT evF k24_80 100000 m24_80.f m24_80.args m24_80.preH) = true := by kernel_rfl
theorem q24_80 : HkOk Tryz.prog (hkMemo m24_80) := hkMemo_ok evT_ok evF_ok k24_80_ok rfl m24_80_ok
noncomputable def k24_91 : Hk := hkLib
theorem k24_91_ok : HkOk Tryz.prog k24_91 := hkLib_ok
noncomputable def m24_91 : Mm :=
  ⟨11, [pt 2 0, .string ⟨#[115, 116, 111, 114, 101]⟩, i6 64, .slice (some ⟨9404, 0, none⟩) 64 64], 9415, [(1, .map [⟨.string ⟨#[111, 114, 105, 103, 105, 110, 97, 108]⟩, pt 32 0, 0⟩, ⟨.string ⟨#[115, 116, 111, 114, 101]⟩, pt 423 0, 1⟩, ⟨.string ⟨#[116, 97, 105, 108]⟩, pt 5545 0, 2⟩] 3),
  (2, .cells [i6 1048576, i6 13, .int .i64 (.negSucc 12), .bool false, .bool false, .map (some 1), .slice none 0 0] 61 true),
  (32, .cells [.slice (some ⟨34, 0, none⟩) 5 5, .slice (some ⟨35, 0, none⟩) 5 5, .bool true] 130 true),
  (34, .cells (u8s [97, 98, 99, 10, 100]) 5 false),
  (35, .cells (u8s [97, 98, 99, 10, 100]) 5 false),
  (423, .cells [.slice (some ⟨7726, 0, none⟩) 1280 1280, .slice (some ⟨9255, 0, none⟩) 1280 1280, .bool true] 130 true),
  (5545, .cells [.slice (some ⟨5549, 0, none⟩) 2 2, .slice (some ⟨7863, 0, none⟩) 2 2, .bool true] 130 true),
  (5549, .cells (u8s [120, 121]) 5 false),
  (7726, .cells (u8s [111, 99, 116, 97, 118, 111, 48, 49, 2] ++ u8z 5 ++ u8s [4, 0, 0, 0, 1, 2, 0, 0, 0, 5] ++ u8z 36 ++ u8s [152, 29, 250, 49, 111, 99, 116, 97, 118, 111, 48, 49, 1] ++ u8z 5 ++ u8s [2] ++ u8z 8 ++ u8s [5] ++ u8z 36 ++ u8s [73, 229, 12, 250] ++ u8z 128 ++ u8s [1, 0, 14, 0, 1, 0, 0, 0, 7, 23, 113, 182, 1] ++ u8z 5 ++ u8s [5, 0, 0, 0, 255, 255, 255, 255] ++ u8z 230 ++ u8s [3, 0, 9, 0, 2, 0, 0, 0, 5, 212, 242, 114, 1, 1, 0, 0, 0, 5] ++ u8z 238 ++ u8s [1, 0, 40, 0, 3, 0, 0, 0, 189, 203, 162, 90, 3] ++ u8z 5 ++ u8s [1, 0, 0, 0, 255, 255, 255, 255, 1] ++ u8z 4 ++ u8s [2] ++ u8z 8 ++ u8s [1, 0, 0, 0, 4, 0, 0, 0, 255, 255, 255, 255] ++ u8z 204 ++ u8s [3, 0, 17, 0, 4, 0, 0, 0, 178, 66, 147, 60, 2, 1, 0, 0, 0, 5, 0, 0, 0, 3, 0, 0, 0, 7] ++ u8z 230) 5 false),
  (7863, .cells (u8s [120, 121]) 5 false),
  (9404, .cells (u8s [111, 99, 116, 97, 118, 111, 48, 49, 3] ++ u8z 5 ++ u8s [4] ++ u8z 4 ++ u8s [2, 0, 0, 0, 5] ++ u8z 36 ++ u8s [123, 101, 15, 249]) 5 false)], i6 0, 9459, [(2, some (.cells [i6 1048576, i6 14, .int .i64 (.negSucc 13), .bool false, .bool false, .map (some 1), .slice (some ⟨9450, 0, none⟩) 1 1] 61 true)),
  (7726, some (.cells (u8s [111, 99, 116, 97, 118, 111, 48, 49, 2] ++ u8z 5 ++ u8s [4, 0, 0, 0, 1, 2, 0, 0, 0, 5] ++ u8z 36 ++ u8s [152, 29, 250, 49, 111, 99, 116, 97, 118, 111, 48, 49, 3] ++ u8z 5 ++ u8s [4] ++ u8z 4 ++ u8s [2, 0, 0, 0, 5] ++ u8z 36 ++ u8s [123, 101, 15, 249] ++ u8z 128 ++ u8s [1, 0, 14, 0, 1, 0, 0, 0, 7, 23, 113, 182, 1] ++ u8z 5 ++ u8s [5, 0, 0, 0, 255, 255, 255, 255] ++ u8z 230 ++ u8s [3, 0, 9, 0, 2, 0, 0, 0, 5, 212, 242, 114, 1, 1, 0, 0, 0, 5] ++ u8z 238 ++ u8s [1, 0, 40, 0, 3, 0, 0, 0, 189, 203, 162, 90, 3] ++ u8z 5 ++ u8s [1, 0, 0, 0, 255, 255, 255, 255, 1] ++ u8z 4 ++ u8s [2] ++ u8z 8 ++ u8s [1, 0, 0, 0, 4, 0, 0, 0, 255, 255, 255, 255] ++ u8z 204 ++ u8s [3, 0, 17, 0, 4, 0, 0, 0, 178, 66, 147, 60, 2, 1, 0, 0, 0, 5, 0, 0, 0, 3, 0, 0, 0, 7] ++ u8z 230) 5 false)),
  (9449, some (.cells (u8s [111, 99, 116, 97, 118, 111, 48, 49, 3] ++ u8z 5 ++ u8s [4] ++ u8z 4 ++ u8s [2, 0, 0, 0, 5] ++ u8z 36 ++ u8s [123, 101, 15, 249]) 5 false)),
  (9450, some (.cells [.string ⟨#[115, 116, 111, 114, 101]⟩, i6 64, .slice (some ⟨9449, 0, none⟩) 64 64] 134 false))]⟩
theorem m24_91_ok : m24_91.ok (call evT evF k24_91 100000 m24_91.f m24_91.args m24_91.preH) = true := by kernel_rfl
theorem q24_91 : HkOk Tryz.prog (hkMemo m24_91) := hkMemo_ok evT_ok evF_ok k24_91_ok rfl m24_91_ok
noncomputable def k24_103 : Hk := hkLib
theorem k24_103_ok : HkOk Tryz.prog k24_103 := hkLib_ok
noncomputable def m24_103 : Mm :=
  ⟨283, [i6 1, .slice (some ⟨10280, 0, none⟩) 14 14], 10322, [(10280, .cells (u8s [1] ++ u8z 5 ++ u8s [5, 0, 0, 0, 255, 255, 255, 255]) 5 false)], .tuple #[.agg #[.bool true, .slice (some ⟨10496, 0, none⟩) 1 1, .slice none 0 0], i6 0], 10511, [(10496, some (.cells [i6 0, i6 0, i6 5, .int .i64 (.negSucc 0)] 147 false))]⟩
theorem m24_103_ok : m24_103.ok (call evT evF k24_103 100000 m24_103.f m24_103.args m24_103.preH) = true := by kernel_rfl
theorem q24_103 : HkOk Tryz.prog (hkMemo m24_103) := hkMemo_ok evT_ok evF_ok k24_103_ok rfl m24_103_ok
noncomputable def k24_106 : Hk := hkLib
theorem k24_106_ok : HkOk Tryz.prog k24_106 := hkLib_ok
noncomputable def m24_106 : Mm :=
  ⟨113, [.agg #[i6 4, i6 4, i6 1, i6 2, i6 5]], 10575, [], .tuple #[.slice (some ⟨10598, 0, none⟩) 64 64, i6 0], 10599, [(10598, some (.cells (u8s [111, 99, 116, 97, 118, 111, 48, 49, 4] ++ u8z 5 ++ u8s [4, 0, 0, 0, 1, 2, 0, 0, 0, 5] ++ u8z 36 ++ u8s [247, 19, 33, 158]) 5 false))]⟩
theorem m24_106_ok : m24_106.ok (call evT evF k24_106 100000 m24_106.f m24_106.args m24_106.preH) = true := by kernel_rfl
theorem q24_106 : HkOk Tryz.prog (hkMemo m24_106) := hkMemo_ok evT_ok evF_ok k24_106_ok rfl m24_106_ok
noncomputable def k24_108 : Hk := hkLib
theorem k24_108_ok : HkOk Tryz.prog k24_108 := hkLib_ok
noncomputable def m24_108 : Mm :=
  ⟨122, [pt 73 0, .agg #[i6 4, i6 4, i6 1, i6 2, i6 5], .slice (some ⟨10552, 0, none⟩) 2 2, .slice (some ⟨9126, 0, none⟩) 2 2], 10656, [(1, .map [⟨.string ⟨#[111, 114, 105, 103, 105, 110, 97, 108]⟩, pt 32 0, 0⟩, ⟨.string ⟨#[115, 116, 111, 114, 101]⟩, pt 423 0, 1⟩, ⟨.string ⟨#[116, 97, 105, 108]⟩, pt 5545 0, 2⟩] 3),
  (2, .cells [i6 1048576, i6 17, .int .i64 (.negSucc 16), .bool false, .bool false, .map (some 1), .slice none 0 0] 61 true),
  (32, .cells [.slice (some ⟨34, 0, none⟩) 5 5, .slice (some ⟨35, 0, none⟩) 5 5, .bool true] 130 true),
  (34, .cells (u8s [97, 98, 99, 10, 100]) 5 false),
  (35, .cells (u8s [97, 98, 99, 10, 100]) 5 false),
  (48, .map [⟨i6 1, pt 225 0, 0⟩, ⟨i6 3, pt 5424 0, 2⟩, ⟨i6 4, pt 6469 0, 3⟩] 4),
  (49, .cells [i6 5, i6 0, i6 0, .bool false, pt 225 0, pt 6469 0, .map (some 48)] 357 true),
  (66, .map [⟨i6 1, .slice (some ⟨251, 0, none⟩) 256 256, 0⟩, ⟨i6 3, .slice (some ⟨5450, 0, none⟩) 256 256, 2⟩, ⟨i6 4, .slice (some ⟨6495, 0, none⟩) 256 256, 3⟩] 4),
  (67, .cells [pt 49 0, pt 2 0, .string ⟨#[115, 116, 111, 114, 101]⟩, i6 5, .map (some 66), i6 0] 249 true),
  (68, .map [⟨i6 4, .bool true, 9⟩, ⟨i6 1, .bool true, 10⟩, ⟨i6 3, .bool true, 11⟩] 12),
  (69, .map [] 0),
  (70, .cells [i6 1, .map (some 68), .map (some 69), .slice none 0 0] 214 true),
  (71, .cells [pt 67 0, pt 70 0] 257 true),
  (73, .cells [pt 67 0, pt 70 0, pt 71 0, pt 2 0, pt 83 0, pt 3037 0, .slice (some ⟨9473, 0, none⟩) 2 2, i6 0, i6 3, i6 4, i6 0, i6 2, i6 5, i6 0, i6 0, i6 0, i6 0, i6 0, .slice (some ⟨9126, 0, none⟩) 2 2] 85 true),
  (83, .cells [pt 2 0, i6 2] 216 true),
  (225, .cells [i6 1, i6 0, .bool false, pt 5424 0, pt 49 1] 351 true),
  (423, .cells [.slice (some ⟨7726, 0, none⟩) 1280 1280, .slice (some ⟨10654, 0, none⟩) 1280 1280, .bool true] 130 true),
  (3016, .map [] 0),
  (3017, .cells [pt 2 0, .string ⟨#[111, 114, 105, 103, 105, 110, 97, 108]⟩, i6 5, i6 0, .map (some 3016)] 372 true),
  (3037, .cells [pt 71 0, pt 3017 0, pt 83 0] 233 true),
  (5424, .cells [i6 3, i6 0, .bool false, pt 6469 0, pt 225 0] 351 true),
  (5545, .cells [.slice (some ⟨5549, 0, none⟩) 2 2, .slice (some ⟨7863, 0, none⟩) 2 2, .bool true] 130 true),
  (5549, .cells (u8s [120, 121]) 5 false),
  (6469, .cells [i6 4, i6 0, .bool false, pt 49 1, pt 5424 0] 351 true),
  (7863, .cells (u8s [120, 121]) 5 false),
  (9126, .cells [i6 1, i6 3] 3 false),
  (9473, .cells [i6 1, i6 5, i6 3, i6 7] 119 false),
  (10552, .cells [i6 1, i6 5, i6 3, i6 7] 119 false)], i6 0, 10685, [(68, some (.map [⟨i6 4, .bool true, 12⟩, ⟨i6 1, .bool true, 13⟩, ⟨i6 3, .bool true, 14⟩] 15)),
  (73, some (.cells [pt 67 0, pt 70 0, pt 71 0, pt 2 0, pt 83 0, pt 3037 0, .slice (some ⟨10667, 0, none⟩) 2 2, i6 1, i6 4, i6 4, i6 1, i6 2, i6 5, i6 0, i6 0, i6 0, i6 0, i6 0, .slice (some ⟨9126, 0, none⟩) 2 2] 85 true)),
  (10667, some (.cells [i6 1, i6 5, i6 3, i6 7] 119 false))]⟩
theorem m24_108_ok : m24_108.ok (call evT evF k24_108 100000 m24_108.f m24_108.args m24_108.preH) = true := by kernel_rfl
theorem q24_108 : HkOk Tryz.prog (hkMemo m24_108) := hkMemo_ok evT_ok evF_ok k24_108_ok rfl m24_108_ok
noncomputable def k24_112 : Hk := hkLib
theorem k24_112_ok : HkOk Tryz.prog k24_112 := hkLib_ok
noncomputable def m24_112 : Mm :=
  ⟨184, [pt 10838 0, i6 230], 11028, [(10837, .cells (u8s [1, 0, 14, 0, 1, 0, 0, 0, 7, 23, 113, 182, 1] ++ u8z 5 ++ u8s [5, 0, 0, 0, 255, 255, 255, 255] ++ u8z 230) 5 false),
  (10838, .cells [.slice (some ⟨10837, 0, none⟩) 256 256, i6 26] 360 true)], i6 0, 11057, [(10838, some (.cells [.slice (some ⟨10837, 0, none⟩) 256 256, i6 256] 360 true))]⟩
theorem m24_112_ok : m24_112.ok (call evT evF k24_112 100000 m24_112.f m24_112.args m24_112.preH) = true := by kernel_rfl
theorem q24_112 : HkOk Tryz.prog (hkMemo m24_112) := hkMemo_ok evT_ok evF_ok k24_112_ok rfl m24_112_ok
noncomputable def k24_120 : Hk := hkLib
theorem k24_120_ok : HkOk Tryz.prog k24_120 := hkLib_ok
noncomputable def m24_120 : Mm :=
  ⟨184, [pt 12081 0, i6 204], 12271, [(12080, .cells (u8s [1, 0, 40, 0, 3, 0, 0, 0, 189, 203, 162, 90, 3] ++ u8z 5 ++ u8s [1, 0, 0, 0, 255, 255, 255, 255, 1] ++ u8z 4 ++ u8s [2] ++ u8z 8 ++ u8s [1, 0, 0, 0, 4, 0, 0, 0, 255, 255, 255, 255] ++ u8z 204) 5 false),
  (12081, .cells [.slice (some ⟨12080, 0, none⟩) 256 256, i6 52] 360 true)], i6 0, 12300, [(12081, some (.cells [.slice (some ⟨12080, 0, none⟩) 256 256, i6 256] 360 true))]⟩
theorem m24_120_ok : m24_120.ok (call evT evF k24_120 100000 m24_120.f m24_120.args m24_120.preH) = true := by kernel_rfl
theorem q24_120 : HkOk Tryz.prog (hkMemo m24_120) := hkMemo_ok evT_ok evF_ok k24_120_ok rfl m24_120_ok
noncomputable def k24_125 : Hk := hkLib
theorem k24_125_ok : HkOk Tryz.prog k24_125 := hkLib_ok
noncomputable def m24_125 : Mm :=
  ⟨273, [.slice (some ⟨12767, 0, none⟩) 3 3], 12890, [(12767, .cells [i6 0, i6 0, i6 1, i6 1, i6 0, i6 2, i6 0, i6 1, i6 4] 145 false)], .slice (some ⟨13044, 0, none⟩) 3 3, 13059, [(13044, some (.cells [i6 0, i6 0, i6 1, i6 0, i6 1, i6 0, i6 2, i6 1, i6 0, i6 1, i6 5, i6 3] 423 false))]⟩
theorem m24_125_ok : m24_125.ok (call evT evF k24_125 100000 m24_125.f m24_125.args m24_125.preH) = true := by kernel_rfl
theorem q24_125 : HkOk Tryz.prog (hkMemo m24_125) := hkMemo_ok evT_ok evF_ok k24_125_ok rfl m24_125_ok
noncomputable def k24_126 : Hk := hkLib
theorem k24_126_ok : HkOk Tryz.prog k24_126 := hkLib_ok
noncomputable def m24_126 : Mm :=
  ⟨275, [.slice (some ⟨13090, 0, none⟩) 2 2], 13105, [(13090, .cells [i6 0, i6 0, i6 1, i6 0, i6 3, i6 4] 145 false)], .slice (some ⟨13169, 0, none⟩) 2 2, 13170, [(13169, some (.cells [i6 0, i6 0, i6 1, i6 0, i6 3, i6 4] 145 false))]⟩
theorem m24_126_ok : m24_126.ok (call evT evF k24_126 100000 m24_126.f m24_126.args m24_126.preH) = true := by kernel_rfl
theorem q24_126 : HkOk Tryz.prog (hkMemo m24_126) := hkMemo_ok evT_ok evF_ok k24_126_ok rfl m24_126_ok
noncomputable def k24_131 : Hk := hkLib
theorem k24_131_ok : HkOk Tryz.prog k24_131 := hkLib_ok
noncomputable def m24_131 : Mm :=
  ⟨262, [i6 2, i6 1, .slice (some ⟨13362, 0, none⟩) 27 27], 13365, [(13362, .cells (u8s [2] ++ u8z 5 ++ u8s [1, 0, 0, 0, 255, 255, 255, 255, 0, 3, 0, 0, 0, 4, 0, 0, 0, 255, 255, 255, 255]) 5 false)], .tuple #[.slice (some ⟨13365, 0, none⟩) 256 256, i6 0], 13376, [(13365, some (.cells (u8s [1, 0, 27, 0, 2, 0, 0, 0, 69, 219, 48, 151, 2] ++ u8z 5 ++ u8s [1, 0, 0, 0, 255, 255, 255, 255, 0, 3, 0, 0, 0, 4, 0, 0, 0, 255, 255, 255, 255] ++ u8z 217) 414 true))]⟩
theorem m24_131_ok : m24_131.ok (call evT evF k24_131 100000 m24_131.f m24_131.args m24_131.preH) = true := by kernel_rfl
theorem q24_131 : HkOk Tryz.prog (hkMemo m24_131) := hkMemo_ok evT_ok evF_ok k24_131_ok rfl m24_131_ok
noncomputable def k24_136 : Hk := hkLib
theorem k24_136_ok : HkOk Tryz.prog k24_136 := hkLib_ok
noncomputable def m24_136 : Mm :=
  ⟨277, [.slice (some ⟨13728, 0, none⟩) 1 1], 13729, [(13710, .cells [i6 0, i6 0, i6 1, i6 0, i6 1, i6 2, i6 0, i6 3, i6 4] 145 false),
  (13728, .cells [.slice (some ⟨13710, 0, none⟩) 3 3] 113 true)], .slice (some ⟨13759, 0, none⟩) 1 1, 13840, [(13759, some (.cells [i6 0, i6 0, i6 7] 145 false))]⟩
theorem m24_136_ok : m24_136.ok (call evT evF k24_136 100000 m24_136.f m24_136.args m24_136.preH) = true := by kernel_rfl
theorem q24_136 : HkOk Tryz.prog (hkMemo m24_136) := hkMemo_ok evT_ok evF_ok k24_136_ok rfl m24_136_ok
noncomputable def k24_144 : Hk := hkLib
theorem k24_144_ok : HkOk Tryz.prog k24_144 := hkLib_ok
noncomputable def m24_144 : Mm :=
  ⟨278, [.slice (some ⟨12767, 0, none⟩) 3 3, i6 0, i6 7], 14071, [(12767, .cells [i6 0, i6 0, i6 1, i6 1, i6 0, i6 2, i6 0, i6 1, i6 4] 145 false)], .slice (some ⟨14123, 0, none⟩) 3 3, 14134, [(14123, some (.cells [i6 0, i6 0, i6 1, i6 1, i6 0, i6 2, i6 0, i6 1, i6 4] 145 false))]⟩
theorem m24_144_ok : m24_144.ok (call evT evF k24_144 100000 m24_144.f m24_144.args m24_144.preH) = true := by kernel_rfl
theorem q24_144 : HkOk Tryz.prog (hkMemo m24_144) := hkMemo_ok evT_ok evF_ok k24_144_ok rfl m24_144_ok
noncomputable def k24_159 : Hk := hkLib
theorem k24_159_ok : HkOk Tryz.prog k24_159 := hkLib_ok
noncomputable def m24_159 : Mm :=
  ⟨67, [.slice (some ⟨15348, 0, none⟩) 1536 1536, i6 1536, .slice (some ⟨14630, 0, none⟩) 256 256], 15508, [(14630, .cells (u8s [3, 0, 17, 0, 6, 0, 0, 0, 87, 212, 48, 146, 2, 2, 0, 0, 0, 5, 0, 0, 0, 5, 0, 0, 0, 7] ++ u8z 230) 5 false),
  (15348, .cells (u8s [111, 99, 116, 97, 118, 111, 48, 49, 4] ++ u8z 5 ++ u8s [4, 0, 0, 0, 1, 2, 0, 0, 0, 5] ++ u8z 36 ++ u8s [247, 19, 33, 158, 111, 99, 116, 97, 118, 111, 48, 49, 3] ++ u8z 5 ++ u8s [4] ++ u8z 4 ++ u8s [2, 0, 0, 0, 5] ++ u8z 36 ++ u8s [123, 101, 15, 249] ++ u8z 128 ++ u8s [1, 0, 14, 0, 1, 0, 0, 0, 7, 23, 113, 182, 1] ++ u8z 5 ++ u8s [5, 0, 0, 0, 255, 255, 255, 255] ++ u8z 230 ++ u8s [1, 0, 27, 0, 2, 0, 0, 0, 69, 219, 48, 151, 2] ++ u8z 5 ++ u8s [1, 0, 0, 0, 255, 255, 255, 255, 0, 3, 0, 0, 0, 4, 0, 0, 0, 255, 255, 255, 255] ++ u8z 217 ++ u8s [1, 0, 40, 0, 3, 0, 0, 0, 189, 203, 162, 90, 3] ++ u8z 5 ++ u8s [1, 0, 0, 0, 255, 255, 255, 255, 1] ++ u8z 4 ++ u8s [2] ++ u8z 8 ++ u8s [1, 0, 0, 0, 4, 0, 0, 0, 255, 255, 255, 255] ++ u8z 204 ++ u8s [3, 0, 17, 0, 4, 0, 0, 0, 178, 66, 147, 60, 2, 1, 0, 0, 0, 5, 0, 0, 0, 3, 0, 0, 0, 7] ++ u8z 230 ++ u8s [1, 0, 14, 0, 5, 0, 0, 0, 2, 120, 233, 144, 1] ++ u8z 5 ++ u8s [7, 0, 0, 0, 255, 255, 255, 255] ++ u8z 230) 5 false)], .slice (some ⟨16019, 0, none⟩) 1792 1792, 16020, [(15348, none),
  (16019, some (.cells (u8s [111, 99, 116, 97, 118, 111, 48, 49, 4] ++ u8z 5 ++ u8s [4, 0, 0, 0, 1, 2, 0, 0, 0, 5] ++ u8z 36 ++ u8s [247, 19, 33, 158, 111, 99, 116, 97, 118, 111, 48, 49, 3] ++ u8z 5 ++ u8s [4] ++ u8z 4 ++ u8s [2, 0, 0, 0, 5] ++ u8z 36 ++ u8s [123, 101, 15, 249] ++ u8z 128 ++ u8s [1, 0, 14, 0, 1, 0, 0, 0, 7, 23, 113, 182, 1] ++ u8z 5 ++ u8s [5, 0, 0, 0, 255, 255, 255, 255] ++ u8z 230 ++ u8s [1, 0, 27, 0, 2, 0, 0, 0, 69, 219, 48, 151, 2] ++ u8z 5 ++ u8s [1, 0, 0, 0, 255, 255, 255, 255, 0, 3, 0, 0, 0, 4, 0, 0, 0, 255, 255, 255, 255] ++ u8z 217 ++ u8s [1, 0, 40, 0, 3, 0, 0, 0, 189, 203, 162, 90, 3] ++ u8z 5 ++ u8s [1, 0, 0, 0, 255, 255, 255, 255, 1] ++ u8z 4 ++ u8s [2] ++ u8z 8 ++ u8s [1, 0, 0, 0, 4, 0, 0, 0, 255, 255, 255, 255] ++ u8z 204 ++ u8s [3, 0, 17, 0, 4, 0, 0, 0, 178, 66, 147, 60, 2, 1, 0, 0, 0, 5, 0, 0, 0, 3, 0, 0, 0, 7] ++ u8z 230 ++ u8s [1, 0, 14, 0, 5, 0, 0, 0, 2, 120, 233, 144, 1] ++ u8z 5 ++ u8s [7, 0, 0, 0, 255, 255, 255, 255] ++ u8z 230 ++ u8s [3, 0, 17, 0, 6, 0, 0, 0, 87, 212, 48, 146, 2, 2, 0, 0, 0, 5, 0, 0, 0, 5, 0, 0, 0, 7] ++ u8z 230) 5 false))]⟩
theorem m24_159_ok : m24_159.ok (call evT evF k24_159 100000 m24_159.f m24_159.args m24_159.preH) = true := by kernel_rfl
theorem q24_159 : HkOk Tryz.prog (hkMemo m24_159) := hkMemo_ok evT_ok evF_ok k24_159_ok rfl m24_159_ok
noncomputable def k24_164 : Hk := hkLib
theorem k24_164_ok : HkOk Tryz.prog k24_164 := hkLib_ok
noncomputable def m24_164 : Mm :=
  ⟨11, [pt 2 0, .string ⟨#[111, 114, 105, 103, 105, 110, 97, 108]⟩, i6 5, .slice (some ⟨16196, 0, none⟩) 2 2], 16199, [(1, .map [⟨.string ⟨#[111, 114, 105, 103, 105, 110, 97, 108]⟩, pt 32 0, 0⟩, ⟨.string ⟨#[115, 116, 111, 114, 101]⟩, pt 423 0, 1⟩, ⟨.string ⟨#[116, 97, 105, 108]⟩, pt 5545 0, 2⟩] 3),
  (2, .cells [i6 1048576, i6 22, .int .i64 (.negSucc 21), .bool false, .bool false, .map (some 1), .slice none 0 0] 61 true),
  (32, .cells [.slice (some ⟨34, 0, none⟩) 5 5, .slice (some ⟨35, 0, none⟩) 5 5, .bool true] 130 true),
  (34, .cells (u8s [97, 98, 99, 10, 100]) 5 false),
  (35, .cells (u8s [97, 98, 99, 10, 100]) 5 false),
  (423, .cells [.slice (some ⟨16019, 0, none⟩) 1792 1792, .slice (some ⟨16143, 0, none⟩) 1792 1792, .bool true] 130 true),
  (5545, .cells [.slice (some ⟨5549, 0, none⟩) 2 2, .slice (some ⟨16157, 0, none⟩) 2 2, .bool true] 130 true),
  (5549, .cells (u8s [120, 121]) 5 false),
  (16157, .cells (u8s [120, 121]) 5 false),
  (16196, .cells (u8s [0, 0]) 5 true)], i6 0, 16248, [(2, some (.cells [i6 1048576, i6 23, .int .i64 (.negSucc 22), .bool false, .bool false, .map (some 1), .slice (some ⟨16239, 0, none⟩) 1 1] 61 true)),
  (32, some (.cells [.slice (some ⟨16219, 0, none⟩) 7 7, .slice (some ⟨35, 0, none⟩) 5 5, .bool true] 130 true)),
  (34, none),
  (16219, some (.cells (u8s [97, 98, 99, 10, 100, 0, 0]) 5 false)),
  (16238, some (.cells (u8s [0, 0]) 5 false)),
  (16239, some (.cells [.string ⟨#[111, 114, 105, 103, 105, 110, 97, 108]⟩, i6 5, .slice (some ⟨16238, 0, none⟩) 2 2] 134 false))]⟩
theorem m24_164_ok : m24_164.ok (call evT evF k24_164 100000 m24_164.f m24_164.args m24_164.preH) = true := by kernel_rfl
theorem q24_164 : HkOk Tryz.prog (hkMemo m24_164) := hkMemo_ok evT_ok evF_ok k24_164_ok rfl m24_164_ok
noncomputable def k24_173 : Hk := hkLib
theorem k24_173_ok : HkOk Tryz.prog k24_173 := hkLib_ok
noncomputable def m24_173 : Mm :=
  ⟨142, [.agg #[i6 0, .bool false, i6 104, .int .u32 (.ofNat 233402013)]], 17265, [], .tuple #[.slice (some ⟨17295, 0, none⟩) 64 64, i6 0], 17296, [(17295, some (.cells (u8s [111, 99, 116, 97, 118, 111, 45, 106] ++ u8z 5 ++ u8s [104, 0, 0, 0, 157, 110, 233, 13] ++ u8z 39 ++ u8s [135, 81, 132, 197]) 5 false))]⟩
theorem m24_173_ok : m24_173.ok (call evT evF k24_173 100000 m24_173.f m24_173.args m24_173.preH) = true := by kernel_rfl
theorem q24_173 : HkOk Tryz.prog (hkMemo m24_173) := hkMemo_ok evT_ok evF_ok k24_173_ok rfl m24_173_ok
noncomputable def k24_176 : Hk := hkLib
theorem k24_176_ok : HkOk Tryz.prog k24_176 := hkLib_ok
noncomputable def m24_176 : Mm :=
  ⟨109, [pt 10747 0, .agg #[i6 0, .slice (some ⟨14491, 0, none⟩) 3 3]], 17356, [(1, .map [⟨.string ⟨#[111, 114, 105, 103, 105, 110, 97, 108]⟩, pt 32 0, 0⟩, ⟨.string ⟨#[115, 116, 111, 114, 101]⟩, pt 423 0, 1⟩, ⟨.string ⟨#[116, 97, 105, 108]⟩, pt 5545 0, 2⟩, ⟨.string ⟨#[106, 111, 117, 114, 110, 97, 108]⟩, pt 16616 0, 3⟩] 4),
  (2, .cells [i6 1048576, i6 28, .int .i64 (.negSucc 27), .bool false, .bool false, .map (some 1), .slice none 0 0] 61 true),
  (32, .cells [.slice (some ⟨16219, 0, none⟩) 7 7, .slice (some ⟨16249, 0, none⟩) 7 7, .bool true] 130 true),
  (48, .map [⟨i6 1, pt 225 0, 0⟩, ⟨i6 3, pt 5424 0, 2⟩, ⟨i6 2, pt 13396 0, 4⟩, ⟨i6 5, pt 13982 0, 5⟩, ⟨i6 6, pt 14604 0, 6⟩] 7),
  (49, .cells [i6 5, i6 0, i6 0, .bool false, pt 14604 0, pt 225 0, .map (some 48)] 357 true),
  (66, .map [⟨i6 1, .slice (some ⟨251, 0, none⟩) 256 256, 0⟩, ⟨i6 3, .slice (some ⟨5450, 0, none⟩) 256 256, 2⟩, ⟨i6 2, .slice (some ⟨13422, 0, none⟩) 256 256, 4⟩, ⟨i6 5, .slice (some ⟨14008, 0, none⟩) 256 256, 5⟩, ⟨i6 6, .slice (some ⟨14630, 0, none⟩) 256 256, 6⟩] 7),
  (67, .cells [pt 49 0, pt 2 0, .string ⟨#[115, 116, 111, 114, 101]⟩, i6 5, .map (some 66), i6 0] 249 true),
  (68, .map [⟨i6 4, .bool true, 12⟩, ⟨i6 1, .bool true, 13⟩, ⟨i6 3, .bool true, 14⟩, ⟨i6 2, .bool true, 15⟩, ⟨i6 5, .bool true, 16⟩, ⟨i6 6, .bool true, 17⟩] 18),
  (69, .map [] 0),
  (70, .cells [i6 1, .map (some 68), .map (some 69), .slice (some ⟨14549, 0, none⟩) 3 3] 214 true),
  (71, .cells [pt 67 0, pt 70 0] 257 true),
  (83, .cells [pt 2 0, i6 2] 216 true),
  (225, .cells [i6 1, i6 0, .bool false, pt 49 1, pt 5424 0] 351 true),
  (423, .cells [.slice (some ⟨16019, 0, none⟩) 1792 1792, .slice (some ⟨16143, 0, none⟩) 1792 1792, .bool true] 130 true),
  (3016, .map [] 0),
  (3017, .cells [pt 2 0, .string ⟨#[111, 114, 105, 103, 105, 110, 97, 108]⟩, i6 5, i6 0, .map (some 3016)] 372 true),
  (3037, .cells [pt 71 0, pt 3017 0, pt 83 0] 233 true),
  (5424, .cells [i6 3, i6 0, .bool false, pt 225 0, pt 13396 0] 351 true),
  (5545, .cells [.slice (some ⟨5549, 0, none⟩) 2 2, .slice (some ⟨16157, 0, none⟩) 2 2, .bool true] 130 true),
  (5549, .cells (u8s [120, 121]) 5 false),
  (9126, .cells [i6 1, i6 3] 3 false),
  (10667, .cells [i6 1, i6 5, i6 3, i6 7] 119 false),
  (10747, .cells [pt 2 0, i6 5, i6 5, i6 6, i6 1, i6 2, i6 7, i6 7, .slice none 0 0, .slice (some ⟨14502, 0, none⟩) 1 1, .slice none 0 0, i6 104, .int .u32 (.ofNat 233402013), pt 73 0, .slice (some ⟨12767, 0, none⟩) 3 3, .slice (some ⟨12010, 0, none⟩) 2 2, .slice (some ⟨14046, 0, none⟩) 2 2, i6 0, i6 2] 116 true),
  (11252, .cells [i6 0, i6 0, i6 5] 145 false),
  (12009, .cells [i6 0, i6 0, i6 1, i6 1, i6 0, i6 2, i6 0, i6 1, i6 4] 145 false),
  (12010, .cells [.slice (some ⟨11252, 0, none⟩) 1 1, .slice (some ⟨12009, 0, none⟩) 3 3] 113 false),
  (12767, .cells [i6 0, i6 0, i6 1, i6 1, i6 0, i6 2, i6 0, i6 1, i6 4] 145 false),
  (13396, .cells [i6 2, i6 0, .bool false, pt 5424 0, pt 13982 0] 351 true),
  (13982, .cells [i6 5, i6 0, .bool false, pt 13396 0, pt 14604 0] 351 true),
  (14046, .cells [i6 2, i6 5, i6 5, i6 7] 119 false),
  (14319, .cells [i6 0, .slice (some ⟨14491, 0, none⟩) 3 3] 175 false),
  (14491, .cells [i6 0, i6 0, i6 1, i6 1, i6 0, i6 2, i6 0, i6 1, i6 4] 145 false),
  (14502, .cells [.complex .f32 14320 1] 173 false),
  (14549, .cells [i6 2, i6 5, i6 6] 3 false),
  (14604, .cells [i6 6, i6 0, .bool false, pt 13982 0, pt 49 1] 351 true),
  (16157, .cells (u8s [120, 121]) 5 false),
  (16219, .cells (u8s [97, 98, 99, 10, 100, 0, 0]) 5 false),
  (16249, .cells (u8s [97, 98, 99, 10, 100, 0, 0]) 5 false),
  (16616, .cells [.slice (some ⟨17128, 0, none⟩) 256 256, .slice (some ⟨17341, 0, none⟩) 256 256, .bool true] 130 true)], .slice (some ⟨17410, 0, none⟩) 7 7, 17411, [(17410, some (.cells (u8s [97, 120, 121, 98, 99, 10, 100]) 5 false))]⟩
theorem m24_176_ok : m24_176.ok (call evT evF k24_176 100000 m24_176.f m24_176.args m24_176.preH) = true := by kernel_rfl
theorem q24_176 : HkOk Tryz.prog (hkMemo m24_176) := hkMemo_ok evT_ok evF_ok k24_176_ok rfl m24_176_ok
noncomputable def k24_184 : Hk := hkLib
theorem k24_184_ok : HkOk Tryz.prog k24_184 := hkLib_ok
noncomputable def m24_184 : Mm :=
  ⟨11, [pt 2 0, .string ⟨#[106, 111, 117, 114, 110, 97, 108]⟩, i6 0, .slice (some ⟨17684, 0, none⟩) 64 64], 17685, [(1, .map [⟨.string ⟨#[111, 114, 105, 103, 105, 110, 97, 108]⟩, pt 32 0, 0⟩, ⟨.string ⟨#[115, 116, 111, 114, 101]⟩, pt 423 0, 1⟩, ⟨.string ⟨#[116, 97, 105, 108]⟩, pt 5545 0, 2⟩, ⟨.string ⟨#[106, 111, 117, 114, 110, 97, 108]⟩, pt 16616 0, 3⟩] 4),
  (2, .cells [i6 1048576, i6 34, .int .i64 (.negSucc 33), .bool false, .bool false, .map (some 1), .slice none 0 0] 61 true),
  (32, .cells [.slice (some ⟨16219, 0, none⟩) 7 7, .slice (some ⟨17635, 0, none⟩) 7 7, .bool true] 130 true),
  (423, .cells [.slice (some ⟨16019, 0, none⟩) 1792 1792, .slice (some ⟨16143, 0, none⟩) 1792 1792, .bool true] 130 true),
  (5545, .cells [.slice (some ⟨5549, 0, none⟩) 2 2, .slice (some ⟨16157, 0, none⟩) 2 2, .bool true] 130 true),
  (5549, .cells (u8s [120, 121]) 5 false),
  (16157, .cells (u8s [120, 121]) 5 false),
  (16219, .cells (u8s [97, 120, 121, 98, 99, 10, 100]) 5 false),
  (16616, .cells [.slice (some ⟨17128, 0, none⟩) 256 256, .slice (some ⟨17551, 0, none⟩) 256 256, .bool true] 130 true),
  (17128, .cells (u8s [111, 99, 116, 97, 118, 111, 45, 106] ++ u8z 4 ++ u8s [1, 104, 0, 0, 0, 157, 110, 233, 13] ++ u8z 39 ++ u8s [91, 189, 53, 248, 5, 0, 0, 0, 111, 99, 116, 97, 118, 111, 48, 49, 5] ++ u8z 5 ++ u8s [6, 0, 0, 0, 1, 2, 0, 0, 0, 7] ++ u8z 36 ++ u8s [163, 240, 239, 210, 7] ++ u8z 7 ++ u8s [1, 0, 0, 0, 1] ++ u8z 4 ++ u8s [3] ++ u8z 5 ++ u8s [1, 1] ++ u8z 4 ++ u8s [2, 0, 1, 0, 0, 0, 4] ++ u8z 24 ++ u8s [97, 120, 121, 98, 99, 10, 100] ++ u8z 57) 5 false),
  (17635, .cells (u8s [97, 120, 121, 98, 99, 10, 100]) 5 false),
  (17684, .cells (u8s [111, 99, 116, 97, 118, 111, 45, 106, 1] ++ u8z 4 ++ u8s [104, 0, 0, 0, 157, 110, 233, 13] ++ u8z 39 ++ u8s [138, 173, 72, 172]) 5 false)], i6 0, 17729, [(2, some (.cells [i6 1048576, i6 35, .int .i64 (.negSucc 34), .bool false, .bool false, .map (some 1), .slice (some ⟨17720, 0, none⟩) 1 1] 61 true)),
  (17128, some (.cells (u8s [111, 99, 116, 97, 118, 111, 45, 106, 1] ++ u8z 4 ++ u8s [104, 0, 0, 0, 157, 110, 233, 13] ++ u8z 39 ++ u8s [138, 173, 72, 172, 5, 0, 0, 0, 111, 99, 116, 97, 118, 111, 48, 49, 5] ++ u8z 5 ++ u8s [6, 0, 0, 0, 1, 2, 0, 0, 0, 7] ++ u8z 36 ++ u8s [163, 240, 239, 210, 7] ++ u8z 7 ++ u8s [1, 0, 0, 0, 1] ++ u8z 4 ++ u8s [3] ++ u8z 5 ++ u8s [1, 1] ++ u8z 4 ++ u8s [2, 0, 1, 0, 0, 0, 4] ++ u8z 24 ++ u8s [97, 120, 121, 98, 99, 10, 100] ++ u8z 57) 5 false)),
  (17719, some (.cells (u8s [111, 99, 116, 97, 118, 111, 45, 106, 1] ++ u8z 4 ++ u8s [104, 0, 0, 0, 157, 110, 233, 13] ++ u8z 39 ++ u8s [138, 173, 72, 172]) 5 false)),
  (17720, some (.cells [.string ⟨#[106, 111, 117, 114, 110, 97, 108]⟩, i6 0, .slice (some ⟨17719, 0, none⟩) 64 64] 134 false))]⟩
theorem m24_184_ok : m24_184.ok (call evT evF k24_184 100000 m24_184.f m24_184.args m24_184.preH) = true := by kernel_rfl
theorem q24_184 : HkOk Tryz.prog (hkMemo m24_184) := hkMemo_ok evT_ok evF_ok k24_184_ok rfl m24_184_ok
noncomputable def k24_191 : Hk := hkLib
theorem k24_191_ok : HkOk Tryz.prog k24_191 := hkLib_ok
noncomputable def m24_191 : Mm :=
  ⟨283, [i6 1, .slice (some ⟨18114, 0, none⟩) 27 27], 18156, [(18114, .cells (u8s [2] ++ u8z 5 ++ u8s [1, 0, 0, 0, 255, 255, 255, 255, 0, 3, 0, 0, 0, 4, 0, 0, 0, 255, 255, 255, 255]) 5 false)], .tuple #[.agg #[.bool true, .slice (some ⟨18460, 0, none⟩) 2 2, .slice none 0 0], i6 0], 18478, [(18460, some (.cells [i6 0, i6 0, i6 1, .int .i64 (.negSucc 0), i6 0, i6 3, i6 4, .int .i64 (.negSucc 0)] 147 false))]⟩
theorem m24_191_ok : m24_191.ok (call evT evF k24_191 100000 m24_191.f m24_191.args m24_191.preH) = true := by kernel_rfl
theorem q24_191 : HkOk Tryz.prog (hkMemo m24_191) := hkMemo_ok evT_ok evF_ok k24_191_ok rfl m24_191_ok
noncomputable def k24_204 : Hk := hkLib
theorem k24_204_ok : HkOk Tryz.prog k24_204 := hkLib_ok
noncomputable def m24_204 : Mm :=
  ⟨70, [pt 2 0, .string ⟨#[111, 114, 105, 103, 105, 110, 97, 108]⟩], 19160, [(1, .map [⟨.string ⟨#[111, 114, 105, 103, 105, 110, 97, 108]⟩, pt 32 0, 0⟩, ⟨.string ⟨#[115, 116, 111, 114, 101]⟩, pt 423 0, 1⟩, ⟨.string ⟨#[116, 97, 105, 108]⟩, pt 5545 0, 2⟩, ⟨.string ⟨#[106, 111, 117, 114, 110, 97, 108]⟩, pt 16616 0, 3⟩] 4),
  (2, .cells [i6 1048576, i6 41, .int .i64 (.negSucc 40), .bool false, .bool false, .map (some 1), .slice none 0 0] 61 true),
  (32, .cells [.slice (some ⟨16219, 0, none⟩) 7 7, .slice (some ⟨17745, 0, none⟩) 7 7, .bool true] 130 true),
  (423, .cells [.slice (some ⟨16019, 0, none⟩) 1792 1792, .slice (some ⟨17829, 0, none⟩) 1792 1792, .bool true] 130 true),
  (5545, .cells [.slice (some ⟨5549, 0, none⟩) 2 2, .slice (some ⟨16157, 0, none⟩) 2 2, .bool true] 130 true),
  (5549, .cells (u8s [120, 121]) 5 false),
  (16157, .cells (u8s [120, 121]) 5 false),
  (16219, .cells (u8s [97, 120, 121, 98, 99, 10, 100]) 5 false),
  (16616, .cells [.slice (some ⟨17128, 0, none⟩) 0 256, .slice (some ⟨17833, 0, none⟩) 0 0, .bool true] 130 true),
  (17745, .cells (u8s [97, 120, 121, 98, 99, 10, 100]) 5 false),
  (17833, .cells [] 5 true)], .slice (some ⟨19161, 0, none⟩) 7 7, 19162, [(19161, some (.cells (u8s [97, 120, 121, 98, 99, 10, 100]) 5 false))]⟩
theorem m24_204_ok : m24_204.ok (call evT evF k24_204 100000 m24_204.f m24_204.args m24_204.preH) = true := by kernel_rfl
theorem q24_204 : HkOk Tryz.prog (hkMemo m24_204) := hkMemo_ok evT_ok evF_ok k24_204_ok rfl m24_204_ok
end Go.Proofs.YtjclpdlijblpjaaGreat
