/-
  Calls that were reckoned out, one by one. Printed by a program.
-/
import Derived.Test.YtjclpdlijblpjaaGreatEvl
import Derived.Test.YtjclpdlijblpjaaGreatEvM24a
import Derived.Test.YtjclpdlijblpjaaGreatEvM24b
import Derived.Test.YtjclpdlijblpjaaGreatEvM24c
namespace Go.Proofs.YtjclpdlijblpjaaGreat
open Go.Ev
set_option maxRecDepth 1000000
noncomputable def k24_11 : Hk := orHk (hkMemo m24_10) (hkLib)
theorem k24_11_ok : HkOk Tryz.prog k24_11 := orHk_ok q24_10 (hkLib_ok)
noncomputable def m24_11 : Mm :=
  ⟨11, [pt 2 0, .string ⟨#[115, 116, 111, 114, 101]⟩, i6 256, .slice (some ⟨251, 0, none⟩) 256 256], 1066, [(1, .map [⟨.string ⟨#[111, 114, 105, 103, 105, 110, 97, 108]⟩, pt 32 0, 0⟩, ⟨.string ⟨#[115, 116, 111, 114, 101]⟩, pt 423 0, 1⟩] 2),
  (2, .cells [i6 1048576, i6 1, .int .i64 (.negSucc 0), .bool false, .bool false, .map (some 1), .slice (some ⟨1039, 0, none⟩) 4 4] 61 true),
  (32, .cells [.slice (some ⟨34, 0, none⟩) 5 5, .slice (some ⟨35, 0, none⟩) 5 5, .bool true] 130 true),
  (34, .cells (u8s [97, 98, 99, 10, 100]) 5 false),
  (35, .cells (u8s [97, 98, 99, 10, 100]) 5 false),
  (251, .cells (u8s [1, 0, 14, 0, 1, 0, 0, 0, 7, 23, 113, 182, 1] ++ u8z 5 ++ u8s [5, 0, 0, 0, 255, 255, 255, 255] ++ u8z 230) 5 false),
  (423, .cells [.slice (some ⟨935, 0, none⟩) 256 256, .slice none 0 0, .bool false] 130 true),
  (935, .cells (u8z 256) 5 false),
  (1039, .cells [.string ⟨#[115, 116, 111, 114, 101]⟩, i6 0, .slice (some ⟨954, 0, none⟩) 64 64, .string ⟨#[115, 116, 111, 114, 101]⟩, i6 64, .slice (some ⟨982, 0, none⟩) 64 64, .string ⟨#[115, 116, 111, 114, 101]⟩, i6 128, .slice (some ⟨1010, 0, none⟩) 64 64, .string ⟨#[115, 116, 111, 114, 101]⟩, i6 192, .slice (some ⟨1038, 0, none⟩) 64 64] 134 false)], i6 0, 1707, [(2, some (.cells [i6 1048576, i6 2, .int .i64 (.negSucc 1), .bool false, .bool false, .map (some 1), .slice (some ⟨1698, 0, none⟩) 8 8] 61 true)),
  (423, some (.cells [.slice (some ⟨1594, 0, none⟩) 512 512, .slice none 0 0, .bool false] 130 true)),
  (935, none),
  (1039, none),
  (1594, some (.cells (u8z 256 ++ u8s [1, 0, 14, 0, 1, 0, 0, 0, 7, 23, 113, 182, 1] ++ u8z 5 ++ u8s [5, 0, 0, 0, 255, 255, 255, 255] ++ u8z 230) 5 false)),
  (1613, some (.cells (u8s [1, 0, 14, 0, 1, 0, 0, 0, 7, 23, 113, 182, 1] ++ u8z 5 ++ u8s [5, 0, 0, 0, 255, 255, 255, 255] ++ u8z 38) 5 false)),
  (1641, some (.cells (u8z 64) 5 false)),
  (1669, some (.cells (u8z 64) 5 false)),
  (1697, some (.cells (u8z 64) 5 false)),
  (1698, some (.cells [.string ⟨#[115, 116, 111, 114, 101]⟩, i6 0, .slice (some ⟨954, 0, none⟩) 64 64, .string ⟨#[115, 116, 111, 114, 101]⟩, i6 64, .slice (some ⟨982, 0, none⟩) 64 64, .string ⟨#[115, 116, 111, 114, 101]⟩, i6 128, .slice (some ⟨1010, 0, none⟩) 64 64, .string ⟨#[115, 116, 111, 114, 101]⟩, i6 192, .slice (some ⟨1038, 0, none⟩) 64 64, .string ⟨#[115, 116, 111, 114, 101]⟩, i6 256, .slice (some ⟨1613, 0, none⟩) 64 64, .string ⟨#[115, 116, 111, 114, 101]⟩, i6 320, .slice (some ⟨1641, 0, none⟩) 64 64, .string ⟨#[115, 116, 111, 114, 101]⟩, i6 384, .slice (some ⟨1669, 0, none⟩) 64 64, .string ⟨#[115, 116, 111, 114, 101]⟩, i6 448, .slice (some ⟨1697, 0, none⟩) 64 64] 134 false))]⟩
theorem m24_11_ok : m24_11.ok (call evT evF k24_11 100000 m24_11.f m24_11.args m24_11.preH) = true := by kernel_rfl
theorem q24_11 : HkOk Tryz.prog (hkMemo m24_11) := hkMemo_ok evT_ok evF_ok k24_11_ok rfl m24_11_ok
noncomputable def k24_19 : Hk := orHk (hkMemo m24_18) (hkLib)
theorem k24_19_ok : HkOk Tryz.prog k24_19 := orHk_ok q24_18 (hkLib_ok)
noncomputable def m24_19 : Mm :=
  ⟨254, [i6 1, .slice (some ⟨2489, 0, none⟩) 256 256], 2490, [(2489, .cells (u8s [1, 0, 14, 0, 1, 0, 0, 0, 7, 23, 113, 182, 1] ++ u8z 5 ++ u8s [5, 0, 0, 0, 255, 255, 255, 255] ++ u8z 230) 5 false)], .tuple #[i6 1, .slice (some ⟨2679, 0, none⟩) 14 14, i6 0], 2720, [(2679, some (.cells (u8s [1] ++ u8z 5 ++ u8s [5, 0, 0, 0, 255, 255, 255, 255]) 5 false))]⟩
theorem m24_19_ok : m24_19.ok (call evT evF k24_19 100000 m24_19.f m24_19.args m24_19.preH) = true := by kernel_rfl
theorem q24_19 : HkOk Tryz.prog (hkMemo m24_19) := hkMemo_ok evT_ok evF_ok k24_19_ok rfl m24_19_ok
noncomputable def k24_37 : Hk := orHk (hkMemo m24_36) (hkLib)
theorem k24_37_ok : HkOk Tryz.prog k24_37 := orHk_ok q24_36 (hkLib_ok)
noncomputable def m24_37 : Mm :=
  ⟨254, [i6 1, .slice (some ⟨3715, 0, none⟩) 256 256], 3716, [(3715, .cells (u8s [1, 0, 14, 0, 1, 0, 0, 0, 7, 23, 113, 182, 1] ++ u8z 5 ++ u8s [5, 0, 0, 0, 255, 255, 255, 255] ++ u8z 230) 5 false)], .tuple #[i6 1, .slice (some ⟨3905, 0, none⟩) 14 14, i6 0], 3946, [(3905, some (.cells (u8s [1] ++ u8z 5 ++ u8s [5, 0, 0, 0, 255, 255, 255, 255]) 5 false))]⟩
theorem m24_37_ok : m24_37.ok (call evT evF k24_37 100000 m24_37.f m24_37.args m24_37.preH) = true := by kernel_rfl
theorem q24_37 : HkOk Tryz.prog (hkMemo m24_37) := hkMemo_ok evT_ok evF_ok k24_37_ok rfl m24_37_ok
noncomputable def k24_46 : Hk := orHk (hkMemo m24_45) (hkLib)
theorem k24_46_ok : HkOk Tryz.prog k24_46 := orHk_ok q24_45 (hkLib_ok)
noncomputable def m24_46 : Mm :=
  ⟨254, [i6 1, .slice (some ⟨4775, 0, none⟩) 256 256], 4776, [(4775, .cells (u8s [1, 0, 14, 0, 1, 0, 0, 0, 7, 23, 113, 182, 1] ++ u8z 5 ++ u8s [5, 0, 0, 0, 255, 255, 255, 255] ++ u8z 230) 5 false)], .tuple #[i6 1, .slice (some ⟨4965, 0, none⟩) 14 14, i6 0], 5006, [(4965, some (.cells (u8s [1] ++ u8z 5 ++ u8s [5, 0, 0, 0, 255, 255, 255, 255]) 5 false))]⟩
theorem m24_46_ok : m24_46.ok (call evT evF k24_46 100000 m24_46.f m24_46.args m24_46.preH) = true := by kernel_rfl
theorem q24_46 : HkOk Tryz.prog (hkMemo m24_46) := hkMemo_ok evT_ok evF_ok k24_46_ok rfl m24_46_ok
noncomputable def k24_67 : Hk := orHk (hkMemo m24_66) (hkLib)
theorem k24_67_ok : HkOk Tryz.prog k24_67 := orHk_ok q24_66 (hkLib_ok)
noncomputable def m24_67 : Mm :=
  ⟨11, [pt 2 0, .string ⟨#[115, 116, 111, 114, 101]⟩, i6 768, .slice (some ⟨5450, 0, none⟩) 256 256], 6527, [(1, .map [⟨.string ⟨#[111, 114, 105, 103, 105, 110, 97, 108]⟩, pt 32 0, 0⟩, ⟨.string ⟨#[115, 116, 111, 114, 101]⟩, pt 423 0, 1⟩, ⟨.string ⟨#[116, 97, 105, 108]⟩, pt 5545 0, 2⟩] 3),
  (2, .cells [i6 1048576, i6 7, .int .i64 (.negSucc 6), .bool false, .bool false, .map (some 1), .slice (some ⟨5569, 0, none⟩) 1 1] 61 true),
  (32, .cells [.slice (some ⟨34, 0, none⟩) 5 5, .slice (some ⟨35, 0, none⟩) 5 5, .bool true] 130 true),
  (34, .cells (u8s [97, 98, 99, 10, 100]) 5 false),
  (35, .cells (u8s [97, 98, 99, 10, 100]) 5 false),
  (423, .cells [.slice (some ⟨2265, 0, none⟩) 768 768, .slice (some ⟨3001, 0, none⟩) 768 768, .bool true] 130 true),
  (2265, .cells (u8z 64 ++ u8s [111, 99, 116, 97, 118, 111, 48, 49, 1] ++ u8z 5 ++ u8s [2] ++ u8z 8 ++ u8s [5] ++ u8z 36 ++ u8s [73, 229, 12, 250] ++ u8z 128 ++ u8s [1, 0, 14, 0, 1, 0, 0, 0, 7, 23, 113, 182, 1] ++ u8z 5 ++ u8s [5, 0, 0, 0, 255, 255, 255, 255] ++ u8z 230 ++ u8s [3, 0, 9, 0, 2, 0, 0, 0, 5, 212, 242, 114, 1, 1, 0, 0, 0, 5] ++ u8z 238) 5 false),
  (5450, .cells (u8s [1, 0, 40, 0, 3, 0, 0, 0, 189, 203, 162, 90, 3] ++ u8z 5 ++ u8s [1, 0, 0, 0, 255, 255, 255, 255, 1] ++ u8z 4 ++ u8s [2] ++ u8z 8 ++ u8s [1, 0, 0, 0, 4, 0, 0, 0, 255, 255, 255, 255] ++ u8z 204) 5 false),
  (5545, .cells [.slice (some ⟨5549, 0, none⟩) 2 2, .slice none 0 0, .bool false] 130 true),
  (5549, .cells (u8s [120, 121]) 5 false),
  (5568, .cells (u8s [120, 121]) 5 false),
  (5569, .cells [.string ⟨#[116, 97, 105, 108]⟩, i6 0, .slice (some ⟨5568, 0, none⟩) 2 2] 134 false)], i6 0, 7168, [(2, some (.cells [i6 1048576, i6 8, .int .i64 (.negSucc 7), .bool false, .bool false, .map (some 1), .slice (some ⟨7159, 0, none⟩) 5 5] 61 true)),
  (423, some (.cells [.slice (some ⟨7055, 0, none⟩) 1024 1024, .slice (some ⟨3001, 0, none⟩) 768 768, .bool true] 130 true)),
  (2265, none),
  (5569, none),
  (7055, some (.cells (u8z 64 ++ u8s [111, 99, 116, 97, 118, 111, 48, 49, 1] ++ u8z 5 ++ u8s [2] ++ u8z 8 ++ u8s [5] ++ u8z 36 ++ u8s [73, 229, 12, 250] ++ u8z 128 ++ u8s [1, 0, 14, 0, 1, 0, 0, 0, 7, 23, 113, 182, 1] ++ u8z 5 ++ u8s [5, 0, 0, 0, 255, 255, 255, 255] ++ u8z 230 ++ u8s [3, 0, 9, 0, 2, 0, 0, 0, 5, 212, 242, 114, 1, 1, 0, 0, 0, 5] ++ u8z 238 ++ u8s [1, 0, 40, 0, 3, 0, 0, 0, 189, 203, 162, 90, 3] ++ u8z 5 ++ u8s [1, 0, 0, 0, 255, 255, 255, 255, 1] ++ u8z 4 ++ u8s [2] ++ u8z 8 ++ u8s [1, 0, 0, 0, 4, 0, 0, 0, 255, 255, 255, 255] ++ u8z 204) 5 false)),
  (7074, some (.cells (u8s [1, 0, 40, 0, 3, 0, 0, 0, 189, 203, 162, 90, 3] ++ u8z 5 ++ u8s [1, 0, 0, 0, 255, 255, 255, 255, 1] ++ u8z 4 ++ u8s [2] ++ u8z 8 ++ u8s [1, 0, 0, 0, 4, 0, 0, 0, 255, 255, 255, 255] ++ u8z 12) 5 false)),
  (7102, some (.cells (u8z 64) 5 false)),
  (7130, some (.cells (u8z 64) 5 false)),
  (7158, some (.cells (u8z 64) 5 false)),
  (7159, some (.cells [.string ⟨#[116, 97, 105, 108]⟩, i6 0, .slice (some ⟨5568, 0, none⟩) 2 2, .string ⟨#[115, 116, 111, 114, 101]⟩, i6 768, .slice (some ⟨7074, 0, none⟩) 64 64, .string ⟨#[115, 116, 111, 114, 101]⟩, i6 832, .slice (some ⟨7102, 0, none⟩) 64 64, .string ⟨#[115, 116, 111, 114, 101]⟩, i6 896, .slice (some ⟨7130, 0, none⟩) 64 64, .string ⟨#[115, 116, 111, 114, 101]⟩, i6 960, .slice (some ⟨7158, 0, none⟩) 64 64] 134 false))]⟩
theorem m24_67_ok : m24_67.ok (call evT evF k24_67 100000 m24_67.f m24_67.args m24_67.preH) = true := by kernel_rfl
theorem q24_67 : HkOk Tryz.prog (hkMemo m24_67) := hkMemo_ok evT_ok evF_ok k24_67_ok rfl m24_67_ok
noncomputable def k24_75 : Hk := orHk (hkMemo m24_74) (hkLib)
theorem k24_75_ok : HkOk Tryz.prog k24_75 := orHk_ok q24_74 (hkLib_ok)
noncomputable def m24_75 : Mm :=
  ⟨254, [i6 1, .slice (some ⟨7952, 0, none⟩) 256 256], 7953, [(7952, .cells (u8s [1, 0, 14, 0, 1, 0, 0, 0, 7, 23, 113, 182, 1] ++ u8z 5 ++ u8s [5, 0, 0, 0, 255, 255, 255, 255] ++ u8z 230) 5 false)], .tuple #[i6 1, .slice (some ⟨8142, 0, none⟩) 14 14, i6 0], 8183, [(8142, some (.cells (u8s [1] ++ u8z 5 ++ u8s [5, 0, 0, 0, 255, 255, 255, 255]) 5 false))]⟩
theorem m24_75_ok : m24_75.ok (call evT evF k24_75 100000 m24_75.f m24_75.args m24_75.preH) = true := by kernel_rfl
theorem q24_75 : HkOk Tryz.prog (hkMemo m24_75) := hkMemo_ok evT_ok evF_ok k24_75_ok rfl m24_75_ok
noncomputable def k24_97 : Hk := orHk (hkMemo m24_96) (hkLib)
theorem k24_97_ok : HkOk Tryz.prog k24_97 := orHk_ok q24_96 (hkLib_ok)
noncomputable def m24_97 : Mm :=
  ⟨254, [i6 1, .slice (some ⟨9595, 0, none⟩) 256 256], 9596, [(9595, .cells (u8s [1, 0, 14, 0, 1, 0, 0, 0, 7, 23, 113, 182, 1] ++ u8z 5 ++ u8s [5, 0, 0, 0, 255, 255, 255, 255] ++ u8z 230) 5 false)], .tuple #[i6 1, .slice (some ⟨9785, 0, none⟩) 14 14, i6 0], 9826, [(9785, some (.cells (u8s [1] ++ u8z 5 ++ u8s [5, 0, 0, 0, 255, 255, 255, 255]) 5 false))]⟩
theorem m24_97_ok : m24_97.ok (call evT evF k24_97 100000 m24_97.f m24_97.args m24_97.preH) = true := by kernel_rfl
theorem q24_97 : HkOk Tryz.prog (hkMemo m24_97) := hkMemo_ok evT_ok evF_ok k24_97_ok rfl m24_97_ok
noncomputable def k24_109 : Hk := orHk (hkMemo m24_106) (orHk (hkMemo m24_107) (orHk (hkMemo m24_108) (hkLib)))
theorem k24_109_ok : HkOk Tryz.prog k24_109 := orHk_ok q24_106 (orHk_ok q24_107 (orHk_ok q24_108 (hkLib_ok)))
noncomputable def m24_109 : Mm :=
  ⟨205, [pt 73 0, .agg #[i6 4, i6 4, i6 1, i6 2, i6 5], .slice (some ⟨10552, 0, none⟩) 2 2, .slice (some ⟨9126, 0, none⟩) 2 2], 10574, [(1, .map [⟨.string ⟨#[111, 114, 105, 103, 105, 110, 97, 108]⟩, pt 32 0, 0⟩, ⟨.string ⟨#[115, 116, 111, 114, 101]⟩, pt 423 0, 1⟩, ⟨.string ⟨#[116, 97, 105, 108]⟩, pt 5545 0, 2⟩] 3),
  (2, .cells [i6 1048576, i6 15, .int .i64 (.negSucc 14), .bool false, .bool false, .map (some 1), .slice none 0 0] 61 true),
  (32, .cells [.slice (some ⟨34, 0, none⟩) 5 5, .slice (some ⟨35, 0, none⟩) 5 5, .bool true] 130 true),
  (34, .cells (u8s [97, 98, 99, 10, 100]) 5 false),
  (35, .cells (u8s [97, 98, 99, 10, 100]) 5 false),
  (48, .map [⟨i6 1, pt 225 0, 0⟩, ⟨i6 3, pt 5424 0, 2⟩, ⟨i6 4, pt 6469 0, 3⟩] 4),
  (49, .cells [i6 5, i6 0, i6 0, .bool false, pt 225 0, pt 6469 0, .map (some 48)] 357 true),
  (66, .map [⟨i6 1, .slice (some ⟨251, 0, none⟩) 256 256, 0⟩, ⟨i6 3, .slice (some ⟨5450, 0, none⟩) 256 256, 2⟩, ⟨i6 4, .slice (some ⟨6495, 0, none⟩) 256 256, 3⟩] 4),
  (67, .cells [pt 49 0, pt 2 0, .string ⟨#[115, 116, 111, 114, 101]⟩, i6 5, .map (some 66), i6 0] 249 true),
  (68, .map [⟨i6 4, .bool true, 9⟩, ⟨i6 1, .bool true, 10⟩, ⟨i6 3, .bool true, 11⟩] 12),
  (69, .map [] 0),
  (70, .cells [i6 1, .map (some 68), .map (some 69), .slice none 0 0] 214 true),
  (71, .cells [pt 67 0, pt 70 0] 257 true),
  (73, .cells [pt 67 0, pt 70 0, pt 71 0, pt 2 0, pt 83 0, pt 3037 0, .slice (some ⟨9473, 0, none⟩) 2 2, i6 0, i6 3, i6 4, i6 0, i6 2, i6 5, i6 0, i6 0, i6 0, i6 0, i6 0, .slice (some ⟨9126, 0, none⟩) 2 2] 85 true),
  (83, .cells [pt 2 0, i6 2] 216 true),
  (225, .cells [i6 1, i6 0, .bool false, pt 5424 0, pt 49 1] 351 true),
  (423, .cells [.slice (some ⟨7726, 0, none⟩) 1280 1280, .slice (some ⟨9460, 0, none⟩) 1280 1280, .bool true] 130 true),
  (3016, .map [] 0),
  (3017, .cells [pt 2 0, .string ⟨#[111, 114, 105, 103, 105, 110, 97, 108]⟩, i6 5, i6 0, .map (some 3016)] 372 true),
  (3037, .cells [pt 71 0, pt 3017 0, pt 83 0] 233 true),
  (5424, .cells [i6 3, i6 0, .bool false, pt 6469 0, pt 225 0] 351 true),
  (5545, .cells [.slice (some ⟨5549, 0, none⟩) 2 2, .slice (some ⟨7863, 0, none⟩) 2 2, .bool true] 130 true),
  (5549, .cells (u8s [120, 121]) 5 false),
  (6469, .cells [i6 4, i6 0, .bool false, pt 49 1, pt 5424 0] 351 true),
  (7726, .cells (u8s [111, 99, 116, 97, 118, 111, 48, 49, 2] ++ u8z 5 ++ u8s [4, 0, 0, 0, 1, 2, 0, 0, 0, 5] ++ u8z 36 ++ u8s [152, 29, 250, 49, 111, 99, 116, 97, 118, 111, 48, 49, 3] ++ u8z 5 ++ u8s [4] ++ u8z 4 ++ u8s [2, 0, 0, 0, 5] ++ u8z 36 ++ u8s [123, 101, 15, 249] ++ u8z 128 ++ u8s [1, 0, 14, 0, 1, 0, 0, 0, 7, 23, 113, 182, 1] ++ u8z 5 ++ u8s [5, 0, 0, 0, 255, 255, 255, 255] ++ u8z 230 ++ u8s [3, 0, 9, 0, 2, 0, 0, 0, 5, 212, 242, 114, 1, 1, 0, 0, 0, 5] ++ u8z 238 ++ u8s [1, 0, 40, 0, 3, 0, 0, 0, 189, 203, 162, 90, 3] ++ u8z 5 ++ u8s [1, 0, 0, 0, 255, 255, 255, 255, 1] ++ u8z 4 ++ u8s [2] ++ u8z 8 ++ u8s [1, 0, 0, 0, 4, 0, 0, 0, 255, 255, 255, 255] ++ u8z 204 ++ u8s [3, 0, 17, 0, 4, 0, 0, 0, 178, 66, 147, 60, 2, 1, 0, 0, 0, 5, 0, 0, 0, 3, 0, 0, 0, 7] ++ u8z 230) 5 false),
  (7863, .cells (u8s [120, 121]) 5 false),
  (9126, .cells [i6 1, i6 3] 3 false),
  (9473, .cells [i6 1, i6 5, i6 3, i6 7] 119 false),
  (10552, .cells [i6 1, i6 5, i6 3, i6 7] 119 false)], i6 0, 10685, [(2, some (.cells [i6 1048576, i6 17, .int .i64 (.negSucc 16), .bool false, .bool false, .map (some 1), .slice none 0 0] 61 true)),
  (68, some (.map [⟨i6 4, .bool true, 12⟩, ⟨i6 1, .bool true, 13⟩, ⟨i6 3, .bool true, 14⟩] 15)),
  (73, some (.cells [pt 67 0, pt 70 0, pt 71 0, pt 2 0, pt 83 0, pt 3037 0, .slice (some ⟨10667, 0, none⟩) 2 2, i6 1, i6 4, i6 4, i6 1, i6 2, i6 5, i6 0, i6 0, i6 0, i6 0, i6 0, .slice (some ⟨9126, 0, none⟩) 2 2] 85 true)),
  (423, some (.cells [.slice (some ⟨7726, 0, none⟩) 1280 1280, .slice (some ⟨10654, 0, none⟩) 1280 1280, .bool true] 130 true)),
  (7726, some (.cells (u8s [111, 99, 116, 97, 118, 111, 48, 49, 4] ++ u8z 5 ++ u8s [4, 0, 0, 0, 1, 2, 0, 0, 0, 5] ++ u8z 36 ++ u8s [247, 19, 33, 158, 111, 99, 116, 97, 118, 111, 48, 49, 3] ++ u8z 5 ++ u8s [4] ++ u8z 4 ++ u8s [2, 0, 0, 0, 5] ++ u8z 36 ++ u8s [123, 101, 15, 249] ++ u8z 128 ++ u8s [1, 0, 14, 0, 1, 0, 0, 0, 7, 23, 113, 182, 1] ++ u8z 5 ++ u8s [5, 0, 0, 0, 255, 255, 255, 255] ++ u8z 230 ++ u8s [3, 0, 9, 0, 2, 0, 0, 0, 5, 212, 242, 114, 1, 1, 0, 0, 0, 5] ++ u8z 238 ++ u8s [1, 0, 40, 0, 3, 0, 0, 0, 189, 203, 162, 90, 3] ++ u8z 5 ++ u8s [1, 0, 0, 0, 255, 255, 255, 255, 1] ++ u8z 4 ++ u8s [2] ++ u8z 8 ++ u8s [1, 0, 0, 0, 4, 0, 0, 0, 255, 255, 255, 255] ++ u8z 204 ++ u8s [3, 0, 17, 0, 4, 0, 0, 0, 178, 66, 147, 60, 2, 1, 0, 0, 0, 5, 0, 0, 0, 3, 0, 0, 0, 7] ++ u8z 230) 5 false)),
  (10654, some (.cells (u8s [111, 99, 116, 97, 118, 111, 48, 49, 4] ++ u8z 5 ++ u8s [4, 0, 0, 0, 1, 2, 0, 0, 0, 5] ++ u8z 36 ++ u8s [247, 19, 33, 158, 111, 99, 116, 97, 118, 111, 48, 49, 3] ++ u8z 5 ++ u8s [4] ++ u8z 4 ++ u8s [2, 0, 0, 0, 5] ++ u8z 36 ++ u8s [123, 101, 15, 249] ++ u8z 128 ++ u8s [1, 0, 14, 0, 1, 0, 0, 0, 7, 23, 113, 182, 1] ++ u8z 5 ++ u8s [5, 0, 0, 0, 255, 255, 255, 255] ++ u8z 230 ++ u8s [3, 0, 9, 0, 2, 0, 0, 0, 5, 212, 242, 114, 1, 1, 0, 0, 0, 5] ++ u8z 238 ++ u8s [1, 0, 40, 0, 3, 0, 0, 0, 189, 203, 162, 90, 3] ++ u8z 5 ++ u8s [1, 0, 0, 0, 255, 255, 255, 255, 1] ++ u8z 4 ++ u8s [2] ++ u8z 8 ++ u8s [1, 0, 0, 0, 4, 0, 0, 0, 255, 255, 255, 255] ++ u8z 204 ++ u8s [3, 0, 17, 0, 4, 0, 0, 0, 178, 66, 147, 60, 2, 1, 0, 0, 0, 5, 0, 0, 0, 3, 0, 0, 0, 7] ++ u8z 230) 5 false)),
  (10667, some (.cells [i6 1, i6 5, i6 3, i6 7] 119 false))]⟩
theorem m24_109_ok : m24_109.ok (call evT evF k24_109 100000 m24_109.f m24_109.args m24_109.preH) = true := by kernel_rfl
theorem q24_109 : HkOk Tryz.prog (hkMemo m24_109) := hkMemo_ok evT_ok evF_ok k24_109_ok rfl m24_109_ok
noncomputable def k24_113 : Hk := orHk (hkMemo m24_112) (hkLib)
theorem k24_113_ok : HkOk Tryz.prog k24_113 := orHk_ok q24_112 (hkLib_ok)
noncomputable def m24_113 : Mm :=
  ⟨254, [i6 1, .slice (some ⟨10826, 0, none⟩) 256 256], 10827, [(10826, .cells (u8s [1, 0, 14, 0, 1, 0, 0, 0, 7, 23, 113, 182, 1] ++ u8z 5 ++ u8s [5, 0, 0, 0, 255, 255, 255, 255] ++ u8z 230) 5 false)], .tuple #[i6 1, .slice (some ⟨11016, 0, none⟩) 14 14, i6 0], 11057, [(11016, some (.cells (u8s [1] ++ u8z 5 ++ u8s [5, 0, 0, 0, 255, 255, 255, 255]) 5 false))]⟩
theorem m24_113_ok : m24_113.ok (call evT evF k24_113 100000 m24_113.f m24_113.args m24_113.preH) = true := by kernel_rfl
theorem q24_113 : HkOk Tryz.prog (hkMemo m24_113) := hkMemo_ok evT_ok evF_ok k24_113_ok rfl m24_113_ok
noncomputable def k24_121 : Hk := orHk (hkMemo m24_120) (hkLib)
theorem k24_121_ok : HkOk Tryz.prog k24_121 := orHk_ok q24_120 (hkLib_ok)
noncomputable def m24_121 : Mm :=
  ⟨254, [i6 3, .slice (some ⟨12069, 0, none⟩) 256 256], 12070, [(12069, .cells (u8s [1, 0, 40, 0, 3, 0, 0, 0, 189, 203, 162, 90, 3] ++ u8z 5 ++ u8s [1, 0, 0, 0, 255, 255, 255, 255, 1] ++ u8z 4 ++ u8s [2] ++ u8z 8 ++ u8s [1, 0, 0, 0, 4, 0, 0, 0, 255, 255, 255, 255] ++ u8z 204) 5 false)], .tuple #[i6 1, .slice (some ⟨12259, 0, none⟩) 40 40, i6 0], 12300, [(12259, some (.cells (u8s [3] ++ u8z 5 ++ u8s [1, 0, 0, 0, 255, 255, 255, 255, 1] ++ u8z 4 ++ u8s [2] ++ u8z 8 ++ u8s [1, 0, 0, 0, 4, 0, 0, 0, 255, 255, 255, 255]) 5 false))]⟩
theorem m24_121_ok : m24_121.ok (call evT evF k24_121 100000 m24_121.f m24_121.args m24_121.preH) = true := by kernel_rfl
theorem q24_121 : HkOk Tryz.prog (hkMemo m24_121) := hkMemo_ok evT_ok evF_ok k24_121_ok rfl m24_121_ok
noncomputable def k24_127 : Hk := orHk (hkMemo m24_125) (orHk (hkMemo m24_126) (hkLib))
theorem k24_127_ok : HkOk Tryz.prog k24_127 := orHk_ok q24_125 (orHk_ok q24_126 (hkLib_ok))
noncomputable def m24_127 : Mm :=
  ⟨215, [.slice (some ⟨12767, 0, none⟩) 3 3, .slice none 0 0, i6 2, .slice (some ⟨11252, 0, none⟩) 1 1], 12881, [(11252, .cells [i6 0, i6 0, i6 5] 145 false),
  (12767, .cells [i6 0, i6 0, i6 1, i6 1, i6 0, i6 2, i6 0, i6 1, i6 4] 145 false)], .tuple #[.slice (some ⟨13169, 0, none⟩) 2 2, i6 0], 13170, [(13169, some (.cells [i6 0, i6 0, i6 1, i6 0, i6 3, i6 4] 145 false))]⟩
theorem m24_127_ok : m24_127.ok (call evT evF k24_127 100000 m24_127.f m24_127.args m24_127.preH) = true := by kernel_rfl
theorem q24_127 : HkOk Tryz.prog (hkMemo m24_127) := hkMemo_ok evT_ok evF_ok k24_127_ok rfl m24_127_ok
noncomputable def k24_134 : Hk := orHk (hkMemo m24_130) (orHk (hkMemo m24_131) (orHk (hkMemo m24_132) (orHk (hkMemo m24_133) (hkLib))))
theorem k24_134_ok : HkOk Tryz.prog k24_134 := orHk_ok q24_130 (orHk_ok q24_131 (orHk_ok q24_132 (orHk_ok q24_133 (hkLib_ok))))
noncomputable def m24_134 : Mm :=
  ⟨242, [pt 71 0, .agg #[.bool true, .slice (some ⟨13282, 0, none⟩) 2 2, .slice none 0 0]], 13284, [(1, .map [⟨.string ⟨#[111, 114, 105, 103, 105, 110, 97, 108]⟩, pt 32 0, 0⟩, ⟨.string ⟨#[115, 116, 111, 114, 101]⟩, pt 423 0, 1⟩, ⟨.string ⟨#[116, 97, 105, 108]⟩, pt 5545 0, 2⟩] 3),
  (2, .cells [i6 1048576, i6 17, .int .i64 (.negSucc 16), .bool false, .bool false, .map (some 1), .slice none 0 0] 61 true),
  (32, .cells [.slice (some ⟨34, 0, none⟩) 5 5, .slice (some ⟨35, 0, none⟩) 5 5, .bool true] 130 true),
  (34, .cells (u8s [97, 98, 99, 10, 100]) 5 false),
  (35, .cells (u8s [97, 98, 99, 10, 100]) 5 false),
  (48, .map [⟨i6 1, pt 225 0, 0⟩, ⟨i6 3, pt 5424 0, 2⟩, ⟨i6 4, pt 6469 0, 3⟩] 4),
  (49, .cells [i6 5, i6 0, i6 0, .bool false, pt 5424 0, pt 6469 0, .map (some 48)] 357 true),
  (66, .map [⟨i6 1, .slice (some ⟨251, 0, none⟩) 256 256, 0⟩, ⟨i6 3, .slice (some ⟨5450, 0, none⟩) 256 256, 2⟩, ⟨i6 4, .slice (some ⟨6495, 0, none⟩) 256 256, 3⟩] 4),
  (67, .cells [pt 49 0, pt 2 0, .string ⟨#[115, 116, 111, 114, 101]⟩, i6 5, .map (some 66), i6 0] 249 true),
  (68, .map [⟨i6 4, .bool true, 12⟩, ⟨i6 1, .bool true, 13⟩, ⟨i6 3, .bool true, 14⟩] 15),
  (69, .map [] 0),
  (70, .cells [i6 1, .map (some 68), .map (some 69), .slice none 0 0] 214 true),
  (71, .cells [pt 67 0, pt 70 0] 257 true),
  (225, .cells [i6 1, i6 0, .bool false, pt 6469 0, pt 5424 0] 351 true),
  (423, .cells [.slice (some ⟨7726, 0, none⟩) 1280 1280, .slice (some ⟨10654, 0, none⟩) 1280 1280, .bool true] 130 true),
  (5424, .cells [i6 3, i6 0, .bool false, pt 225 0, pt 49 1] 351 true),
  (5545, .cells [.slice (some ⟨5549, 0, none⟩) 2 2, .slice (some ⟨7863, 0, none⟩) 2 2, .bool true] 130 true),
  (5549, .cells (u8s [120, 121]) 5 false),
  (6469, .cells [i6 4, i6 0, .bool false, pt 49 1, pt 225 0] 351 true),
  (7863, .cells (u8s [120, 121]) 5 false),
  (13282, .cells [i6 0, i6 0, i6 1, .int .i64 (.negSucc 0), i6 0, i6 3, i6 4, .int .i64 (.negSucc 0)] 147 false)], .slice (some ⟨13469, 0, none⟩) 1 1, 13470, [(48, some (.map [⟨i6 1, pt 225 0, 0⟩, ⟨i6 3, pt 5424 0, 2⟩, ⟨i6 4, pt 6469 0, 3⟩, ⟨i6 2, pt 13396 0, 4⟩] 5)),
  (49, some (.cells [i6 5, i6 0, i6 0, .bool false, pt 13396 0, pt 6469 0, .map (some 48)] 357 true)),
  (66, some (.map [⟨i6 1, .slice (some ⟨251, 0, none⟩) 256 256, 0⟩, ⟨i6 3, .slice (some ⟨5450, 0, none⟩) 256 256, 2⟩, ⟨i6 4, .slice (some ⟨6495, 0, none⟩) 256 256, 3⟩, ⟨i6 2, .slice (some ⟨13422, 0, none⟩) 256 256, 4⟩] 5)),
  (68, some (.map [⟨i6 4, .bool true, 12⟩, ⟨i6 1, .bool true, 13⟩, ⟨i6 3, .bool true, 14⟩, ⟨i6 2, .bool true, 15⟩] 16)),
  (70, some (.cells [i6 1, .map (some 68), .map (some 69), .slice (some ⟨13364, 0, none⟩) 1 1] 214 true)),
  (5424, some (.cells [i6 3, i6 0, .bool false, pt 225 0, pt 13396 0] 351 true)),
  (13364, some (.cells [i6 2] 3 false)),
  (13396, some (.cells [i6 2, i6 0, .bool true, pt 5424 0, pt 49 1] 351 true)),
  (13422, some (.cells (u8s [1, 0, 27, 0, 2, 0, 0, 0, 69, 219, 48, 151, 2] ++ u8z 5 ++ u8s [1, 0, 0, 0, 255, 255, 255, 255, 0, 3, 0, 0, 0, 4, 0, 0, 0, 255, 255, 255, 255] ++ u8z 217) 5 false)),
  (13469, some (.cells [i6 2, i6 5, .int .i64 (.negSucc 0), i6 2] 262 false))]⟩
theorem m24_134_ok : m24_134.ok (call evT evF k24_134 100000 m24_134.f m24_134.args m24_134.preH) = true := by kernel_rfl
theorem q24_134 : HkOk Tryz.prog (hkMemo m24_134) := hkMemo_ok evT_ok evF_ok k24_134_ok rfl m24_134_ok
noncomputable def k24_137 : Hk := orHk (hkMemo m24_135) (orHk (hkMemo m24_136) (hkLib))
theorem k24_137_ok : HkOk Tryz.prog k24_137 := orHk_ok q24_135 (orHk_ok q24_136 (hkLib_ok))
noncomputable def m24_137 : Mm :=
  ⟨215, [.slice (some ⟨12767, 0, none⟩) 3 3, .slice none 0 0, i6 2, .slice (some ⟨12009, 0, none⟩) 3 3], 13473, [(12009, .cells [i6 0, i6 0, i6 1, i6 1, i6 0, i6 2, i6 0, i6 1, i6 4] 145 false),
  (12767, .cells [i6 0, i6 0, i6 1, i6 1, i6 0, i6 2, i6 0, i6 1, i6 4] 145 false)], .tuple #[.slice (some ⟨13759, 0, none⟩) 1 1, i6 0], 13840, [(13759, some (.cells [i6 0, i6 0, i6 7] 145 false))]⟩
theorem m24_137_ok : m24_137.ok (call evT evF k24_137 100000 m24_137.f m24_137.args m24_137.preH) = true := by kernel_rfl
theorem q24_137 : HkOk Tryz.prog (hkMemo m24_137) := hkMemo_ok evT_ok evF_ok k24_137_ok rfl m24_137_ok
noncomputable def k24_149 : Hk := orHk (hkMemo m24_148) (hkLib)
theorem k24_149_ok : HkOk Tryz.prog k24_149 := orHk_ok q24_148 (hkLib_ok)
noncomputable def m24_149 : Mm :=
  ⟨225, [pt 14064 0, i6 7, i6 64], 14363, [(14062, .map [] 1),
  (14063, .map [] 0),
  (14064, .cells [.map (some 14062), .map (some 14063), .slice none 0 0, .slice (some ⟨14319, 0, none⟩) 1 1] 326 true),
  (14227, .cells [i6 0, i6 0, i6 1, i6 1, i6 0, i6 2, i6 0, i6 1, i6 4] 145 false),
  (14319, .cells [i6 0, .slice (some ⟨14227, 0, none⟩) 3 3] 175 false)], .agg #[i6 7, .slice none 0 0, .slice (some ⟨14502, 0, none⟩) 1 1], 14503, [(14319, some (.cells [i6 0, .slice (some ⟨14491, 0, none⟩) 3 3] 175 false)),
  (14491, some (.cells [i6 0, i6 0, i6 1, i6 1, i6 0, i6 2, i6 0, i6 1, i6 4] 145 false)),
  (14502, some (.cells [.complex .f32 14320 1] 173 false))]⟩
theorem m24_149_ok : m24_149.ok (call evT evF k24_149 100000 m24_149.f m24_149.args m24_149.preH) = true := by kernel_rfl
theorem q24_149 : HkOk Tryz.prog (hkMemo m24_149) := hkMemo_ok evT_ok evF_ok k24_149_ok rfl m24_149_ok
noncomputable def k24_157 : Hk := orHk (hkMemo m24_156) (hkLib)
theorem k24_157_ok : HkOk Tryz.prog k24_157 := orHk_ok q24_156 (hkLib_ok)
noncomputable def m24_157 : Mm :=
  ⟨11, [pt 2 0, .string ⟨#[115, 116, 111, 114, 101]⟩, i6 1280, .slice (some ⟨14008, 0, none⟩) 256 256], 14820, [(1, .map [⟨.string ⟨#[111, 114, 105, 103, 105, 110, 97, 108]⟩, pt 32 0, 0⟩, ⟨.string ⟨#[115, 116, 111, 114, 101]⟩, pt 423 0, 1⟩, ⟨.string ⟨#[116, 97, 105, 108]⟩, pt 5545 0, 2⟩] 3),
  (2, .cells [i6 1048576, i6 18, .int .i64 (.negSucc 17), .bool false, .bool false, .map (some 1), .slice (some ⟨14781, 0, none⟩) 4 4] 61 true),
  (32, .cells [.slice (some ⟨34, 0, none⟩) 5 5, .slice (some ⟨35, 0, none⟩) 5 5, .bool true] 130 true),
  (34, .cells (u8s [97, 98, 99, 10, 100]) 5 false),
  (35, .cells (u8s [97, 98, 99, 10, 100]) 5 false),
  (423, .cells [.slice (some ⟨7726, 0, none⟩) 1280 1280, .slice (some ⟨10654, 0, none⟩) 1280 1280, .bool true] 130 true),
  (5545, .cells [.slice (some ⟨5549, 0, none⟩) 2 2, .slice (some ⟨7863, 0, none⟩) 2 2, .bool true] 130 true),
  (5549, .cells (u8s [120, 121]) 5 false),
  (7726, .cells (u8s [111, 99, 116, 97, 118, 111, 48, 49, 4] ++ u8z 5 ++ u8s [4, 0, 0, 0, 1, 2, 0, 0, 0, 5] ++ u8z 36 ++ u8s [247, 19, 33, 158, 111, 99, 116, 97, 118, 111, 48, 49, 3] ++ u8z 5 ++ u8s [4] ++ u8z 4 ++ u8s [2, 0, 0, 0, 5] ++ u8z 36 ++ u8s [123, 101, 15, 249] ++ u8z 128 ++ u8s [1, 0, 14, 0, 1, 0, 0, 0, 7, 23, 113, 182, 1] ++ u8z 5 ++ u8s [5, 0, 0, 0, 255, 255, 255, 255] ++ u8z 230 ++ u8s [1, 0, 27, 0, 2, 0, 0, 0, 69, 219, 48, 151, 2] ++ u8z 5 ++ u8s [1, 0, 0, 0, 255, 255, 255, 255, 0, 3, 0, 0, 0, 4, 0, 0, 0, 255, 255, 255, 255] ++ u8z 217 ++ u8s [1, 0, 40, 0, 3, 0, 0, 0, 189, 203, 162, 90, 3] ++ u8z 5 ++ u8s [1, 0, 0, 0, 255, 255, 255, 255, 1] ++ u8z 4 ++ u8s [2] ++ u8z 8 ++ u8s [1, 0, 0, 0, 4, 0, 0, 0, 255, 255, 255, 255] ++ u8z 204 ++ u8s [3, 0, 17, 0, 4, 0, 0, 0, 178, 66, 147, 60, 2, 1, 0, 0, 0, 5, 0, 0, 0, 3, 0, 0, 0, 7] ++ u8z 230) 5 false),
  (7863, .cells (u8s [120, 121]) 5 false),
  (14008, .cells (u8s [1, 0, 14, 0, 5, 0, 0, 0, 2, 120, 233, 144, 1] ++ u8z 5 ++ u8s [7, 0, 0, 0, 255, 255, 255, 255] ++ u8z 230) 5 false),
  (14781, .cells [.string ⟨#[115, 116, 111, 114, 101]⟩, i6 512, .slice (some ⟨14696, 0, none⟩) 64 64, .string ⟨#[115, 116, 111, 114, 101]⟩, i6 576, .slice (some ⟨14724, 0, none⟩) 64 64, .string ⟨#[115, 116, 111, 114, 101]⟩, i6 640, .slice (some ⟨14752, 0, none⟩) 64 64, .string ⟨#[115, 116, 111, 114, 101]⟩, i6 704, .slice (some ⟨14780, 0, none⟩) 64 64] 134 false)], i6 0, 15461, [(2, some (.cells [i6 1048576, i6 19, .int .i64 (.negSucc 18), .bool false, .bool false, .map (some 1), .slice (some ⟨15452, 0, none⟩) 8 8] 61 true)),
  (423, some (.cells [.slice (some ⟨15348, 0, none⟩) 1536 1536, .slice (some ⟨10654, 0, none⟩) 1280 1280, .bool true] 130 true)),
  (7726, none),
  (14781, none),
  (15348, some (.cells (u8s [111, 99, 116, 97, 118, 111, 48, 49, 4] ++ u8z 5 ++ u8s [4, 0, 0, 0, 1, 2, 0, 0, 0, 5] ++ u8z 36 ++ u8s [247, 19, 33, 158, 111, 99, 116, 97, 118, 111, 48, 49, 3] ++ u8z 5 ++ u8s [4] ++ u8z 4 ++ u8s [2, 0, 0, 0, 5] ++ u8z 36 ++ u8s [123, 101, 15, 249] ++ u8z 128 ++ u8s [1, 0, 14, 0, 1, 0, 0, 0, 7, 23, 113, 182, 1] ++ u8z 5 ++ u8s [5, 0, 0, 0, 255, 255, 255, 255] ++ u8z 230 ++ u8s [1, 0, 27, 0, 2, 0, 0, 0, 69, 219, 48, 151, 2] ++ u8z 5 ++ u8s [1, 0, 0, 0, 255, 255, 255, 255, 0, 3, 0, 0, 0, 4, 0, 0, 0, 255, 255, 255, 255] ++ u8z 217 ++ u8s [1, 0, 40, 0, 3, 0, 0, 0, 189, 203, 162, 90, 3] ++ u8z 5 ++ u8s [1, 0, 0, 0, 255, 255, 255, 255, 1] ++ u8z 4 ++ u8s [2] ++ u8z 8 ++ u8s [1, 0, 0, 0, 4, 0, 0, 0, 255, 255, 255, 255] ++ u8z 204 ++ u8s [3, 0, 17, 0, 4, 0, 0, 0, 178, 66, 147, 60, 2, 1, 0, 0, 0, 5, 0, 0, 0, 3, 0, 0, 0, 7] ++ u8z 230 ++ u8s [1, 0, 14, 0, 5, 0, 0, 0, 2, 120, 233, 144, 1] ++ u8z 5 ++ u8s [7, 0, 0, 0, 255, 255, 255, 255] ++ u8z 230) 5 false)),
  (15367, some (.cells (u8s [1, 0, 14, 0, 5, 0, 0, 0, 2, 120, 233, 144, 1] ++ u8z 5 ++ u8s [7, 0, 0, 0, 255, 255, 255, 255] ++ u8z 38) 5 false)),
  (15395, some (.cells (u8z 64) 5 false)),
  (15423, some (.cells (u8z 64) 5 false)),
  (15451, some (.cells (u8z 64) 5 false)),
  (15452, some (.cells [.string ⟨#[115, 116, 111, 114, 101]⟩, i6 512, .slice (some ⟨14696, 0, none⟩) 64 64, .string ⟨#[115, 116, 111, 114, 101]⟩, i6 576, .slice (some ⟨14724, 0, none⟩) 64 64, .string ⟨#[115, 116, 111, 114, 101]⟩, i6 640, .slice (some ⟨14752, 0, none⟩) 64 64, .string ⟨#[115, 116, 111, 114, 101]⟩, i6 704, .slice (some ⟨14780, 0, none⟩) 64 64, .string ⟨#[115, 116, 111, 114, 101]⟩, i6 1280, .slice (some ⟨15367, 0, none⟩) 64 64, .string ⟨#[115, 116, 111, 114, 101]⟩, i6 1344, .slice (some ⟨15395, 0, none⟩) 64 64, .string ⟨#[115, 116, 111, 114, 101]⟩, i6 1408, .slice (some ⟨15423, 0, none⟩) 64 64, .string ⟨#[115, 116, 111, 114, 101]⟩, i6 1472, .slice (some ⟨15451, 0, none⟩) 64 64] 134 false))]⟩
theorem m24_157_ok : m24_157.ok (call evT evF k24_157 100000 m24_157.f m24_157.args m24_157.preH) = true := by kernel_rfl
theorem q24_157 : HkOk Tryz.prog (hkMemo m24_157) := hkMemo_ok evT_ok evF_ok k24_157_ok rfl m24_157_ok
noncomputable def k24_166 : Hk := orHk (hkMemo m24_165) (hkLib)
theorem k24_166_ok : HkOk Tryz.prog k24_166 := orHk_ok q24_165 (hkLib_ok)
noncomputable def m24_166 : Mm :=
  ⟨252, [.agg #[i6 7, .slice none 0 0, .slice (some ⟨14502, 0, none⟩) 1 1], i6 5, i6 2], 16298, [(14319, .cells [i6 0, .slice (some ⟨14491, 0, none⟩) 3 3] 175 false),
  (14491, .cells [i6 0, i6 0, i6 1, i6 1, i6 0, i6 2, i6 0, i6 1, i6 4] 145 false),
  (14502, .cells [.complex .f32 14320 1] 173 false)], i6 0, 16476, []⟩
theorem m24_166_ok : m24_166.ok (call evT evF k24_166 100000 m24_166.f m24_166.args m24_166.preH) = true := by kernel_rfl
theorem q24_166 : HkOk Tryz.prog (hkMemo m24_166) := hkMemo_ok evT_ok evF_ok k24_166_ok rfl m24_166_ok
noncomputable def k24_170 : Hk := orHk (hkMemo m24_169) (hkLib)
theorem k24_170_ok : HkOk Tryz.prog k24_170 := orHk_ok q24_169 (hkLib_ok)
noncomputable def m24_170 : Mm :=
  ⟨11, [pt 2 0, .string ⟨#[106, 111, 117, 114, 110, 97, 108]⟩, i6 0, .slice (some ⟨16598, 0, none⟩) 256 256], 16599, [(1, .map [⟨.string ⟨#[111, 114, 105, 103, 105, 110, 97, 108]⟩, pt 32 0, 0⟩, ⟨.string ⟨#[115, 116, 111, 114, 101]⟩, pt 423 0, 1⟩, ⟨.string ⟨#[116, 97, 105, 108]⟩, pt 5545 0, 2⟩] 3),
  (2, .cells [i6 1048576, i6 24, .int .i64 (.negSucc 23), .bool false, .bool false, .map (some 1), .slice none 0 0] 61 true),
  (32, .cells [.slice (some ⟨16219, 0, none⟩) 7 7, .slice (some ⟨16249, 0, none⟩) 7 7, .bool true] 130 true),
  (423, .cells [.slice (some ⟨16019, 0, none⟩) 1792 1792, .slice (some ⟨16143, 0, none⟩) 1792 1792, .bool true] 130 true),
  (5545, .cells [.slice (some ⟨5549, 0, none⟩) 2 2, .slice (some ⟨16157, 0, none⟩) 2 2, .bool true] 130 true),
  (5549, .cells (u8s [120, 121]) 5 false),
  (16157, .cells (u8s [120, 121]) 5 false),
  (16219, .cells (u8s [97, 98, 99, 10, 100, 0, 0]) 5 false),
  (16249, .cells (u8s [97, 98, 99, 10, 100, 0, 0]) 5 false),
  (16598, .cells (u8z 64 ++ u8s [5, 0, 0, 0, 111, 99, 116, 97, 118, 111, 48, 49, 5] ++ u8z 5 ++ u8s [6, 0, 0, 0, 1, 2, 0, 0, 0, 7] ++ u8z 36 ++ u8s [163, 240, 239, 210, 7] ++ u8z 7 ++ u8s [1, 0, 0, 0, 1] ++ u8z 4 ++ u8s [3] ++ u8z 5 ++ u8s [1, 1] ++ u8z 4 ++ u8s [2, 0, 1, 0, 0, 0, 4] ++ u8z 88) 5 false)], i6 0, 17241, [(1, some (.map [⟨.string ⟨#[111, 114, 105, 103, 105, 110, 97, 108]⟩, pt 32 0, 0⟩, ⟨.string ⟨#[115, 116, 111, 114, 101]⟩, pt 423 0, 1⟩, ⟨.string ⟨#[116, 97, 105, 108]⟩, pt 5545 0, 2⟩, ⟨.string ⟨#[106, 111, 117, 114, 110, 97, 108]⟩, pt 16616 0, 3⟩] 4)),
  (2, some (.cells [i6 1048576, i6 25, .int .i64 (.negSucc 24), .bool false, .bool false, .map (some 1), .slice (some ⟨17232, 0, none⟩) 4 4] 61 true)),
  (16616, some (.cells [.slice (some ⟨17128, 0, none⟩) 256 256, .slice none 0 0, .bool false] 130 true)),
  (17128, some (.cells (u8z 64 ++ u8s [5, 0, 0, 0, 111, 99, 116, 97, 118, 111, 48, 49, 5] ++ u8z 5 ++ u8s [6, 0, 0, 0, 1, 2, 0, 0, 0, 7] ++ u8z 36 ++ u8s [163, 240, 239, 210, 7] ++ u8z 7 ++ u8s [1, 0, 0, 0, 1] ++ u8z 4 ++ u8s [3] ++ u8z 5 ++ u8s [1, 1] ++ u8z 4 ++ u8s [2, 0, 1, 0, 0, 0, 4] ++ u8z 88) 5 false)),
  (17147, some (.cells (u8z 64) 5 false)),
  (17175, some (.cells (u8s [5, 0, 0, 0, 111, 99, 116, 97, 118, 111, 48, 49, 5] ++ u8z 5 ++ u8s [6, 0, 0, 0, 1, 2, 0, 0, 0, 7] ++ u8z 36) 5 false)),
  (17203, some (.cells (u8s [163, 240, 239, 210, 7] ++ u8z 7 ++ u8s [1, 0, 0, 0, 1] ++ u8z 4 ++ u8s [3] ++ u8z 5 ++ u8s [1, 1] ++ u8z 4 ++ u8s [2, 0, 1, 0, 0, 0, 4] ++ u8z 24) 5 false)),
  (17231, some (.cells (u8z 64) 5 false)),
  (17232, some (.cells [.string ⟨#[106, 111, 117, 114, 110, 97, 108]⟩, i6 0, .slice (some ⟨17147, 0, none⟩) 64 64, .string ⟨#[106, 111, 117, 114, 110, 97, 108]⟩, i6 64, .slice (some ⟨17175, 0, none⟩) 64 64, .string ⟨#[106, 111, 117, 114, 110, 97, 108]⟩, i6 128, .slice (some ⟨17203, 0, none⟩) 64 64, .string ⟨#[106, 111, 117, 114, 110, 97, 108]⟩, i6 192, .slice (some ⟨17231, 0, none⟩) 64 64] 134 false))]⟩
theorem m24_170_ok : m24_170.ok (call evT evF k24_170 100000 m24_170.f m24_170.args m24_170.preH) = true := by kernel_rfl
theorem q24_170 : HkOk Tryz.prog (hkMemo m24_170) := hkMemo_ok evT_ok evF_ok k24_170_ok rfl m24_170_ok
noncomputable def k24_175 : Hk := orHk (hkMemo m24_173) (orHk (hkMemo m24_174) (hkLib))
theorem k24_175_ok : HkOk Tryz.prog k24_175 := orHk_ok q24_173 (orHk_ok q24_174 (hkLib_ok))
noncomputable def m24_175 : Mm :=
  ⟨61, [pt 10747 0, i6 0, .bool false], 17248, [(1, .map [⟨.string ⟨#[111, 114, 105, 103, 105, 110, 97, 108]⟩, pt 32 0, 0⟩, ⟨.string ⟨#[115, 116, 111, 114, 101]⟩, pt 423 0, 1⟩, ⟨.string ⟨#[116, 97, 105, 108]⟩, pt 5545 0, 2⟩, ⟨.string ⟨#[106, 111, 117, 114, 110, 97, 108]⟩, pt 16616 0, 3⟩] 4),
  (2, .cells [i6 1048576, i6 26, .int .i64 (.negSucc 25), .bool false, .bool false, .map (some 1), .slice none 0 0] 61 true),
  (32, .cells [.slice (some ⟨16219, 0, none⟩) 7 7, .slice (some ⟨16249, 0, none⟩) 7 7, .bool true] 130 true),
  (48, .map [⟨i6 1, pt 225 0, 0⟩, ⟨i6 3, pt 5424 0, 2⟩, ⟨i6 2, pt 13396 0, 4⟩, ⟨i6 5, pt 13982 0, 5⟩, ⟨i6 6, pt 14604 0, 6⟩] 7),
  (49, .cells [i6 5, i6 0, i6 0, .bool false, pt 14604 0, pt 225 0, .map (some 48)] 357 true),
  (66, .map [⟨i6 1, .slice (some ⟨251, 0, none⟩) 256 256, 0⟩, ⟨i6 3, .slice (some ⟨5450, 0, none⟩) 256 256, 2⟩, ⟨i6 2, .slice (some ⟨13422, 0, none⟩) 256 256, 4⟩, ⟨i6 5, .slice (some ⟨14008, 0, none⟩) 256 256, 5⟩, ⟨i6 6, .slice (some ⟨14630, 0, none⟩) 256 256, 6⟩] 7),
  (67, .cells [pt 49 0, pt 2 0, .string ⟨#[115, 116, 111, 114, 101]⟩, i6 5, .map (some 66), i6 0] 249 true),
  (68, .map [⟨i6 4, .bool true, 12⟩, ⟨i6 1, .bool true, 13⟩, ⟨i6 3, .bool true, 14⟩, ⟨i6 2, .bool true, 15⟩, ⟨i6 5, .bool true, 16⟩, ⟨i6 6, .bool true, 17⟩] 18),
  (69, .map [] 0),
  (70, .cells [i6 1, .map (some 68), .map (some 69), .slice (some ⟨14549, 0, none⟩) 3 3] 214 true),
  (71, .cells [pt 67 0, pt 70 0] 257 true),
  (83, .cells [pt 2 0, i6 2] 216 true),
  (225, .cells [i6 1, i6 0, .bool false, pt 49 1, pt 5424 0] 351 true),
  (423, .cells [.slice (some ⟨16019, 0, none⟩) 1792 1792, .slice (some ⟨16143, 0, none⟩) 1792 1792, .bool true] 130 true),
  (3016, .map [] 0),
  (3017, .cells [pt 2 0, .string ⟨#[111, 114, 105, 103, 105, 110, 97, 108]⟩, i6 5, i6 0, .map (some 3016)] 372 true),
  (3037, .cells [pt 71 0, pt 3017 0, pt 83 0] 233 true),
  (5424, .cells [i6 3, i6 0, .bool false, pt 225 0, pt 13396 0] 351 true),
  (5545, .cells [.slice (some ⟨5549, 0, none⟩) 2 2, .slice (some ⟨16157, 0, none⟩) 2 2, .bool true] 130 true),
  (5549, .cells (u8s [120, 121]) 5 false),
  (9126, .cells [i6 1, i6 3] 3 false),
  (10667, .cells [i6 1, i6 5, i6 3, i6 7] 119 false),
  (10747, .cells [pt 2 0, i6 5, i6 5, i6 6, i6 1, i6 2, i6 7, i6 7, .slice none 0 0, .slice (some ⟨14502, 0, none⟩) 1 1, .slice none 0 0, i6 104, .int .u32 (.ofNat 233402013), pt 73 0, .slice (some ⟨12767, 0, none⟩) 3 3, .slice (some ⟨12010, 0, none⟩) 2 2, .slice (some ⟨14046, 0, none⟩) 2 2, i6 0, i6 2] 116 true),
  (11252, .cells [i6 0, i6 0, i6 5] 145 false),
  (12009, .cells [i6 0, i6 0, i6 1, i6 1, i6 0, i6 2, i6 0, i6 1, i6 4] 145 false),
  (12010, .cells [.slice (some ⟨11252, 0, none⟩) 1 1, .slice (some ⟨12009, 0, none⟩) 3 3] 113 false),
  (12767, .cells [i6 0, i6 0, i6 1, i6 1, i6 0, i6 2, i6 0, i6 1, i6 4] 145 false),
  (13396, .cells [i6 2, i6 0, .bool false, pt 5424 0, pt 13982 0] 351 true),
  (13982, .cells [i6 5, i6 0, .bool false, pt 13396 0, pt 14604 0] 351 true),
  (14046, .cells [i6 2, i6 5, i6 5, i6 7] 119 false),
  (14319, .cells [i6 0, .slice (some ⟨14491, 0, none⟩) 3 3] 175 false),
  (14491, .cells [i6 0, i6 0, i6 1, i6 1, i6 0, i6 2, i6 0, i6 1, i6 4] 145 false),
  (14502, .cells [.complex .f32 14320 1] 173 false),
  (14549, .cells [i6 2, i6 5, i6 6] 3 false),
  (14604, .cells [i6 6, i6 0, .bool false, pt 13982 0, pt 49 1] 351 true),
  (16157, .cells (u8s [120, 121]) 5 false),
  (16219, .cells (u8s [97, 98, 99, 10, 100, 0, 0]) 5 false),
  (16249, .cells (u8s [97, 98, 99, 10, 100, 0, 0]) 5 false),
  (16616, .cells [.slice (some ⟨17128, 0, none⟩) 256 256, .slice (some ⟨17242, 0, none⟩) 256 256, .bool true] 130 true),
  (17128, .cells (u8z 64 ++ u8s [5, 0, 0, 0, 111, 99, 116, 97, 118, 111, 48, 49, 5] ++ u8z 5 ++ u8s [6, 0, 0, 0, 1, 2, 0, 0, 0, 7] ++ u8z 36 ++ u8s [163, 240, 239, 210, 7] ++ u8z 7 ++ u8s [1, 0, 0, 0, 1] ++ u8z 4 ++ u8s [3] ++ u8z 5 ++ u8s [1, 1] ++ u8z 4 ++ u8s [2, 0, 1, 0, 0, 0, 4] ++ u8z 88) 5 false)], .tuple #[], 17343, [(2, some (.cells [i6 1048576, i6 28, .int .i64 (.negSucc 27), .bool false, .bool false, .map (some 1), .slice none 0 0] 61 true)),
  (16616, some (.cells [.slice (some ⟨17128, 0, none⟩) 256 256, .slice (some ⟨17341, 0, none⟩) 256 256, .bool true] 130 true)),
  (17128, some (.cells (u8s [111, 99, 116, 97, 118, 111, 45, 106] ++ u8z 5 ++ u8s [104, 0, 0, 0, 157, 110, 233, 13] ++ u8z 39 ++ u8s [135, 81, 132, 197, 5, 0, 0, 0, 111, 99, 116, 97, 118, 111, 48, 49, 5] ++ u8z 5 ++ u8s [6, 0, 0, 0, 1, 2, 0, 0, 0, 7] ++ u8z 36 ++ u8s [163, 240, 239, 210, 7] ++ u8z 7 ++ u8s [1, 0, 0, 0, 1] ++ u8z 4 ++ u8s [3] ++ u8z 5 ++ u8s [1, 1] ++ u8z 4 ++ u8s [2, 0, 1, 0, 0, 0, 4] ++ u8z 88) 5 false)),
  (17341, some (.cells (u8s [111, 99, 116, 97, 118, 111, 45, 106] ++ u8z 5 ++ u8s [104, 0, 0, 0, 157, 110, 233, 13] ++ u8z 39 ++ u8s [135, 81, 132, 197, 5, 0, 0, 0, 111, 99, 116, 97, 118, 111, 48, 49, 5] ++ u8z 5 ++ u8s [6, 0, 0, 0, 1, 2, 0, 0, 0, 7] ++ u8z 36 ++ u8s [163, 240, 239, 210, 7] ++ u8z 7 ++ u8s [1, 0, 0, 0, 1] ++ u8z 4 ++ u8s [3] ++ u8z 5 ++ u8s [1, 1] ++ u8z 4 ++ u8s [2, 0, 1, 0, 0, 0, 4] ++ u8z 88) 5 false))]⟩
theorem m24_175_ok : m24_175.ok (call evT evF k24_175 100000 m24_175.f m24_175.args m24_175.preH) = true := by kernel_rfl
theorem q24_175 : HkOk Tryz.prog (hkMemo m24_175) := hkMemo_ok evT_ok evF_ok k24_175_ok rfl m24_175_ok
noncomputable def k24_180 : Hk := orHk (hkMemo m24_178) (orHk (hkMemo m24_179) (hkLib))
theorem k24_180_ok : HkOk Tryz.prog k24_180 := orHk_ok q24_178 (orHk_ok q24_179 (hkLib_ok))
noncomputable def m24_180 : Mm :=
  ⟨61, [pt 10747 0, i6 0, .bool true], 17458, [(1, .map [⟨.string ⟨#[111, 114, 105, 103, 105, 110, 97, 108]⟩, pt 32 0, 0⟩, ⟨.string ⟨#[115, 116, 111, 114, 101]⟩, pt 423 0, 1⟩, ⟨.string ⟨#[116, 97, 105, 108]⟩, pt 5545 0, 2⟩, ⟨.string ⟨#[106, 111, 117, 114, 110, 97, 108]⟩, pt 16616 0, 3⟩] 4),
  (2, .cells [i6 1048576, i6 30, .int .i64 (.negSucc 29), .bool false, .bool false, .map (some 1), .slice none 0 0] 61 true),
  (32, .cells [.slice (some ⟨16219, 0, none⟩) 7 7, .slice (some ⟨16249, 0, none⟩) 7 7, .bool true] 130 true),
  (48, .map [⟨i6 1, pt 225 0, 0⟩, ⟨i6 3, pt 5424 0, 2⟩, ⟨i6 2, pt 13396 0, 4⟩, ⟨i6 5, pt 13982 0, 5⟩, ⟨i6 6, pt 14604 0, 6⟩] 7),
  (49, .cells [i6 5, i6 0, i6 0, .bool false, pt 14604 0, pt 225 0, .map (some 48)] 357 true),
  (66, .map [⟨i6 1, .slice (some ⟨251, 0, none⟩) 256 256, 0⟩, ⟨i6 3, .slice (some ⟨5450, 0, none⟩) 256 256, 2⟩, ⟨i6 2, .slice (some ⟨13422, 0, none⟩) 256 256, 4⟩, ⟨i6 5, .slice (some ⟨14008, 0, none⟩) 256 256, 5⟩, ⟨i6 6, .slice (some ⟨14630, 0, none⟩) 256 256, 6⟩] 7),
  (67, .cells [pt 49 0, pt 2 0, .string ⟨#[115, 116, 111, 114, 101]⟩, i6 5, .map (some 66), i6 0] 249 true),
  (68, .map [⟨i6 4, .bool true, 12⟩, ⟨i6 1, .bool true, 13⟩, ⟨i6 3, .bool true, 14⟩, ⟨i6 2, .bool true, 15⟩, ⟨i6 5, .bool true, 16⟩, ⟨i6 6, .bool true, 17⟩] 18),
  (69, .map [] 0),
  (70, .cells [i6 1, .map (some 68), .map (some 69), .slice (some ⟨14549, 0, none⟩) 3 3] 214 true),
  (71, .cells [pt 67 0, pt 70 0] 257 true),
  (83, .cells [pt 2 0, i6 2] 216 true),
  (225, .cells [i6 1, i6 0, .bool false, pt 49 1, pt 5424 0] 351 true),
  (423, .cells [.slice (some ⟨16019, 0, none⟩) 1792 1792, .slice (some ⟨16143, 0, none⟩) 1792 1792, .bool true] 130 true),
  (3016, .map [] 0),
  (3017, .cells [pt 2 0, .string ⟨#[111, 114, 105, 103, 105, 110, 97, 108]⟩, i6 5, i6 0, .map (some 3016)] 372 true),
  (3037, .cells [pt 71 0, pt 3017 0, pt 83 0] 233 true),
  (5424, .cells [i6 3, i6 0, .bool false, pt 225 0, pt 13396 0] 351 true),
  (5545, .cells [.slice (some ⟨5549, 0, none⟩) 2 2, .slice (some ⟨16157, 0, none⟩) 2 2, .bool true] 130 true),
  (5549, .cells (u8s [120, 121]) 5 false),
  (9126, .cells [i6 1, i6 3] 3 false),
  (10667, .cells [i6 1, i6 5, i6 3, i6 7] 119 false),
  (10747, .cells [pt 2 0, i6 5, i6 5, i6 6, i6 1, i6 2, i6 7, i6 7, .slice none 0 0, .slice (some ⟨14502, 0, none⟩) 1 1, .slice none 0 0, i6 104, .int .u32 (.ofNat 233402013), pt 73 0, .slice (some ⟨12767, 0, none⟩) 3 3, .slice (some ⟨12010, 0, none⟩) 2 2, .slice (some ⟨14046, 0, none⟩) 2 2, i6 0, i6 2] 116 true),
  (11252, .cells [i6 0, i6 0, i6 5] 145 false),
  (12009, .cells [i6 0, i6 0, i6 1, i6 1, i6 0, i6 2, i6 0, i6 1, i6 4] 145 false),
  (12010, .cells [.slice (some ⟨11252, 0, none⟩) 1 1, .slice (some ⟨12009, 0, none⟩) 3 3] 113 false),
  (12767, .cells [i6 0, i6 0, i6 1, i6 1, i6 0, i6 2, i6 0, i6 1, i6 4] 145 false),
  (13396, .cells [i6 2, i6 0, .bool false, pt 5424 0, pt 13982 0] 351 true),
  (13982, .cells [i6 5, i6 0, .bool false, pt 13396 0, pt 14604 0] 351 true),
  (14046, .cells [i6 2, i6 5, i6 5, i6 7] 119 false),
  (14319, .cells [i6 0, .slice (some ⟨14491, 0, none⟩) 3 3] 175 false),
  (14491, .cells [i6 0, i6 0, i6 1, i6 1, i6 0, i6 2, i6 0, i6 1, i6 4] 145 false),
  (14502, .cells [.complex .f32 14320 1] 173 false),
  (14549, .cells [i6 2, i6 5, i6 6] 3 false),
  (14604, .cells [i6 6, i6 0, .bool false, pt 13982 0, pt 49 1] 351 true),
  (16157, .cells (u8s [120, 121]) 5 false),
  (16219, .cells (u8s [97, 98, 99, 10, 100, 0, 0]) 5 false),
  (16249, .cells (u8s [97, 98, 99, 10, 100, 0, 0]) 5 false),
  (16616, .cells [.slice (some ⟨17128, 0, none⟩) 256 256, .slice (some ⟨17456, 0, none⟩) 256 256, .bool true] 130 true),
  (17128, .cells (u8s [111, 99, 116, 97, 118, 111, 45, 106] ++ u8z 5 ++ u8s [104, 0, 0, 0, 157, 110, 233, 13] ++ u8z 39 ++ u8s [135, 81, 132, 197, 5, 0, 0, 0, 111, 99, 116, 97, 118, 111, 48, 49, 5] ++ u8z 5 ++ u8s [6, 0, 0, 0, 1, 2, 0, 0, 0, 7] ++ u8z 36 ++ u8s [163, 240, 239, 210, 7] ++ u8z 7 ++ u8s [1, 0, 0, 0, 1] ++ u8z 4 ++ u8s [3] ++ u8z 5 ++ u8s [1, 1] ++ u8z 4 ++ u8s [2, 0, 1, 0, 0, 0, 4] ++ u8z 24 ++ u8s [97, 120, 121, 98, 99, 10, 100] ++ u8z 57) 5 false)], .tuple #[], 17553, [(2, some (.cells [i6 1048576, i6 32, .int .i64 (.negSucc 31), .bool false, .bool false, .map (some 1), .slice none 0 0] 61 true)),
  (16616, some (.cells [.slice (some ⟨17128, 0, none⟩) 256 256, .slice (some ⟨17551, 0, none⟩) 256 256, .bool true] 130 true)),
  (17128, some (.cells (u8s [111, 99, 116, 97, 118, 111, 45, 106] ++ u8z 4 ++ u8s [1, 104, 0, 0, 0, 157, 110, 233, 13] ++ u8z 39 ++ u8s [91, 189, 53, 248, 5, 0, 0, 0, 111, 99, 116, 97, 118, 111, 48, 49, 5] ++ u8z 5 ++ u8s [6, 0, 0, 0, 1, 2, 0, 0, 0, 7] ++ u8z 36 ++ u8s [163, 240, 239, 210, 7] ++ u8z 7 ++ u8s [1, 0, 0, 0, 1] ++ u8z 4 ++ u8s [3] ++ u8z 5 ++ u8s [1, 1] ++ u8z 4 ++ u8s [2, 0, 1, 0, 0, 0, 4] ++ u8z 24 ++ u8s [97, 120, 121, 98, 99, 10, 100] ++ u8z 57) 5 false)),
  (17551, some (.cells (u8s [111, 99, 116, 97, 118, 111, 45, 106] ++ u8z 4 ++ u8s [1, 104, 0, 0, 0, 157, 110, 233, 13] ++ u8z 39 ++ u8s [91, 189, 53, 248, 5, 0, 0, 0, 111, 99, 116, 97, 118, 111, 48, 49, 5] ++ u8z 5 ++ u8s [6, 0, 0, 0, 1, 2, 0, 0, 0, 7] ++ u8z 36 ++ u8s [163, 240, 239, 210, 7] ++ u8z 7 ++ u8s [1, 0, 0, 0, 1] ++ u8z 4 ++ u8s [3] ++ u8z 5 ++ u8s [1, 1] ++ u8z 4 ++ u8s [2, 0, 1, 0, 0, 0, 4] ++ u8z 24 ++ u8s [97, 120, 121, 98, 99, 10, 100] ++ u8z 57) 5 false))]⟩
theorem m24_180_ok : m24_180.ok (call evT evF k24_180 100000 m24_180.f m24_180.args m24_180.preH) = true := by kernel_rfl
theorem q24_180 : HkOk Tryz.prog (hkMemo m24_180) := hkMemo_ok evT_ok evF_ok k24_180_ok rfl m24_180_ok
noncomputable def k24_194 : Hk := orHk (hkMemo m24_193) (hkLib)
theorem k24_194_ok : HkOk Tryz.prog k24_194 := orHk_ok q24_193 (hkLib_ok)
noncomputable def m24_194 : Mm :=
  ⟨254, [i6 5, .slice (some ⟨18532, 0, none⟩) 256 256], 18533, [(18532, .cells (u8s [1, 0, 14, 0, 5, 0, 0, 0, 2, 120, 233, 144, 1] ++ u8z 5 ++ u8s [7, 0, 0, 0, 255, 255, 255, 255] ++ u8z 230) 5 false)], .tuple #[i6 1, .slice (some ⟨18722, 0, none⟩) 14 14, i6 0], 18763, [(18722, some (.cells (u8s [1] ++ u8z 5 ++ u8s [7, 0, 0, 0, 255, 255, 255, 255]) 5 false))]⟩
theorem m24_194_ok : m24_194.ok (call evT evF k24_194 100000 m24_194.f m24_194.args m24_194.preH) = true := by kernel_rfl
theorem q24_194 : HkOk Tryz.prog (hkMemo m24_194) := hkMemo_ok evT_ok evF_ok k24_194_ok rfl m24_194_ok
noncomputable def k24_199 : Hk := orHk (hkMemo m24_198) (hkLib)
theorem k24_199_ok : HkOk Tryz.prog k24_199 := orHk_ok q24_198 (hkLib_ok)
noncomputable def m24_199 : Mm :=
  ⟨122, [pt 73 0, .agg #[i6 5, i6 6, i6 1, i6 2, i6 7], .slice (some ⟨14046, 0, none⟩) 2 2, .slice (some ⟨18965, 0, none⟩) 2 2], 19014, [(1, .map [⟨.string ⟨#[111, 114, 105, 103, 105, 110, 97, 108]⟩, pt 32 0, 0⟩, ⟨.string ⟨#[115, 116, 111, 114, 101]⟩, pt 423 0, 1⟩, ⟨.string ⟨#[116, 97, 105, 108]⟩, pt 5545 0, 2⟩, ⟨.string ⟨#[106, 111, 117, 114, 110, 97, 108]⟩, pt 16616 0, 3⟩] 4),
  (2, .cells [i6 1048576, i6 41, .int .i64 (.negSucc 40), .bool false, .bool false, .map (some 1), .slice none 0 0] 61 true),
  (32, .cells [.slice (some ⟨16219, 0, none⟩) 7 7, .slice (some ⟨17745, 0, none⟩) 7 7, .bool true] 130 true),
  (48, .map [⟨i6 1, pt 225 0, 0⟩, ⟨i6 3, pt 5424 0, 2⟩, ⟨i6 2, pt 13396 0, 4⟩, ⟨i6 5, pt 13982 0, 5⟩, ⟨i6 6, pt 14604 0, 6⟩] 7),
  (49, .cells [i6 5, i6 0, i6 0, .bool false, pt 13982 0, pt 225 0, .map (some 48)] 357 true),
  (66, .map [⟨i6 1, .slice (some ⟨251, 0, none⟩) 256 256, 0⟩, ⟨i6 3, .slice (some ⟨5450, 0, none⟩) 256 256, 2⟩, ⟨i6 2, .slice (some ⟨13422, 0, none⟩) 256 256, 4⟩, ⟨i6 5, .slice (some ⟨14008, 0, none⟩) 256 256, 5⟩, ⟨i6 6, .slice (some ⟨14630, 0, none⟩) 256 256, 6⟩] 7),
  (67, .cells [pt 49 0, pt 2 0, .string ⟨#[115, 116, 111, 114, 101]⟩, i6 5, .map (some 66), i6 0] 249 true),
  (68, .map [⟨i6 4, .bool true, 12⟩, ⟨i6 1, .bool true, 13⟩, ⟨i6 3, .bool true, 14⟩, ⟨i6 2, .bool true, 15⟩, ⟨i6 5, .bool true, 16⟩, ⟨i6 6, .bool true, 17⟩] 18),
  (69, .map [] 0),
  (70, .cells [i6 1, .map (some 68), .map (some 69), .slice (some ⟨14549, 0, none⟩) 3 3] 214 true),
  (71, .cells [pt 67 0, pt 70 0] 257 true),
  (73, .cells [pt 67 0, pt 70 0, pt 71 0, pt 2 0, pt 83 0, .pointer none, .slice (some ⟨10667, 0, none⟩) 2 2, i6 1, i6 4, i6 4, i6 1, i6 2, i6 5, i6 5, i6 6, i6 1, i6 2, i6 7, .slice (some ⟨9126, 0, none⟩) 2 2] 85 true),
  (83, .cells [pt 2 0, i6 2] 216 true),
  (225, .cells [i6 1, i6 0, .bool false, pt 49 1, pt 5424 0] 351 true),
  (423, .cells [.slice (some ⟨16019, 0, none⟩) 1792 1792, .slice (some ⟨17829, 0, none⟩) 1792 1792, .bool true] 130 true),
  (5424, .cells [i6 3, i6 0, .bool false, pt 225 0, pt 14604 0] 351 true),
  (5545, .cells [.slice (some ⟨5549, 0, none⟩) 2 2, .slice (some ⟨16157, 0, none⟩) 2 2, .bool true] 130 true),
  (5549, .cells (u8s [120, 121]) 5 false),
  (9126, .cells [i6 1, i6 3] 3 false),
  (10667, .cells [i6 1, i6 5, i6 3, i6 7] 119 false),
  (13396, .cells [i6 2, i6 0, .bool false, pt 14604 0, pt 13982 0] 351 true),
  (13982, .cells [i6 5, i6 0, .bool false, pt 13396 0, pt 49 1] 351 true),
  (14046, .cells [i6 2, i6 5, i6 5, i6 7] 119 false),
  (14549, .cells [i6 2, i6 5, i6 6] 3 false),
  (14604, .cells [i6 6, i6 0, .bool false, pt 5424 0, pt 13396 0] 351 true),
  (16157, .cells (u8s [120, 121]) 5 false),
  (16219, .cells (u8s [97, 120, 121, 98, 99, 10, 100]) 5 false),
  (16616, .cells [.slice (some ⟨17128, 0, none⟩) 0 256, .slice (some ⟨17833, 0, none⟩) 0 0, .bool true] 130 true),
  (17745, .cells (u8s [97, 120, 121, 98, 99, 10, 100]) 5 false),
  (17833, .cells [] 5 true),
  (18965, .cells [i6 2, i6 5] 3 false)], i6 0, 19120, [(48, some (.map [⟨i6 2, pt 13396 0, 4⟩, ⟨i6 5, pt 13982 0, 5⟩, ⟨i6 6, pt 14604 0, 6⟩] 7)),
  (49, some (.cells [i6 5, i6 0, i6 0, .bool false, pt 13982 0, pt 14604 0, .map (some 48)] 357 true)),
  (66, some (.map [⟨i6 2, .slice (some ⟨13422, 0, none⟩) 256 256, 4⟩, ⟨i6 5, .slice (some ⟨14008, 0, none⟩) 256 256, 5⟩, ⟨i6 6, .slice (some ⟨14630, 0, none⟩) 256 256, 6⟩] 7)),
  (68, some (.map [⟨i6 6, .bool true, 18⟩, ⟨i6 2, .bool true, 19⟩, ⟨i6 5, .bool true, 20⟩] 21)),
  (70, some (.cells [i6 1, .map (some 68), .map (some 69), .slice none 0 0] 214 true)),
  (73, some (.cells [pt 67 0, pt 70 0, pt 71 0, pt 2 0, pt 83 0, pt 19048 0, .slice (some ⟨19059, 0, none⟩) 2 2, i6 1, i6 5, i6 6, i6 1, i6 2, i6 7, i6 0, i6 0, i6 0, i6 0, i6 0, .slice (some ⟨18965, 0, none⟩) 2 2] 85 true)),
  (5424, some (.cells [i6 3, i6 0, .bool false, pt 49 1, pt 14604 0] 351 true)),
  (14604, some (.cells [i6 6, i6 0, .bool false, pt 49 1, pt 13396 0] 351 true)),
  (19027, some (.map [] 0)),
  (19028, some (.cells [pt 2 0, .string ⟨#[111, 114, 105, 103, 105, 110, 97, 108]⟩, i6 7, i6 0, .map (some 19027)] 372 true)),
  (19048, some (.cells [pt 71 0, pt 19028 0, pt 83 0] 233 true)),
  (19059, some (.cells [i6 2, i6 5, i6 5, i6 7] 119 false))]⟩
theorem m24_199_ok : m24_199.ok (call evT evF k24_199 100000 m24_199.f m24_199.args m24_199.preH) = true := by kernel_rfl
theorem q24_199 : HkOk Tryz.prog (hkMemo m24_199) := hkMemo_ok evT_ok evF_ok k24_199_ok rfl m24_199_ok
end Go.Proofs.YtjclpdlijblpjaaGreat
