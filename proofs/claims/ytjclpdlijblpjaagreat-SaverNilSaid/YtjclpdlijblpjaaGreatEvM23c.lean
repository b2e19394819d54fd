/-
  Calls that were reckoned out, one by one. Printed by a program.
-/
import Derived.Test.YtjclpdlijblpjaaGreatEvl
namespace Go.Proofs.YtjclpdlijblpjaaGreat
open Go.Ev
set_option maxRecDepth 1000000
noncomputable def k23_1 : Hk := hkLib
theorem k23_1_ok : HkOk Tryz.prog k23_1 := hkLib_ok
noncomputable def m23_1 : Mm :=
  ⟨262, [.int .i64 (.ofNat 1), .int .i64 (.ofNat 1), .slice (some ⟨180, 0, none⟩) 14 14], 183, [(180, .cells (u8s [1] ++ u8z 5 ++ u8s [3, 0, 0, 0, 255, 255, 255, 255]) 5 false)], .tuple #[.slice (some ⟨183, 0, none⟩) 256 256, .int .i64 (.ofNat 0)], 194, [(183, some (.cells (u8s [1, 0, 14, 0, 1, 0, 0, 0, 194, 105, 111, 233, 1] ++ u8z 5 ++ u8s [3, 0, 0, 0, 255, 255, 255, 255] ++ u8z 230) 414 true))]⟩
theorem m23_1_ok : m23_1.ok (call evT evF k23_1 100000 m23_1.f m23_1.args m23_1.preH) = true := by kernel_rfl
theorem q23_1 : HkOk Tryz.prog (hkMemo m23_1) := hkMemo_ok evT_ok evF_ok k23_1_ok rfl m23_1_ok
noncomputable def k23_7 : Hk := hkLib
theorem k23_7_ok : HkOk Tryz.prog k23_7 := hkLib_ok
noncomputable def m23_7 : Mm :=
  ⟨67, [.slice none 0 0, .int .i64 (.ofNat 0), .slice (some ⟨392, 0, none⟩) 256 256], 413, [(392, .cells (u8z 256) 5 true)], .slice (some ⟨924, 0, none⟩) 256 256, 925, [(924, some (.cells (u8z 256) 5 false))]⟩
theorem m23_7_ok : m23_7.ok (call evT evF k23_7 100000 m23_7.f m23_7.args m23_7.preH) = true := by kernel_rfl
theorem q23_7 : HkOk Tryz.prog (hkMemo m23_7) := hkMemo_ok evT_ok evF_ok k23_7_ok rfl m23_7_ok
noncomputable def k23_9 : Hk := hkLib
theorem k23_9_ok : HkOk Tryz.prog k23_9 := hkLib_ok
noncomputable def m23_9 : Mm :=
  ⟨67, [.slice (some ⟨924, 0, none⟩) 256 256, .int .i64 (.ofNat 256), .slice (some ⟨240, 0, none⟩) 256 256], 1072, [(240, .cells (u8s [1, 0, 14, 0, 1, 0, 0, 0, 194, 105, 111, 233, 1] ++ u8z 5 ++ u8s [3, 0, 0, 0, 255, 255, 255, 255] ++ u8z 230) 5 false),
  (924, .cells (u8z 256) 5 false)], .slice (some ⟨1583, 0, none⟩) 512 512, 1584, [(924, none),
  (1583, some (.cells (u8z 256 ++ u8s [1, 0, 14, 0, 1, 0, 0, 0, 194, 105, 111, 233, 1] ++ u8z 5 ++ u8s [3, 0, 0, 0, 255, 255, 255, 255] ++ u8z 230) 5 false))]⟩
theorem m23_9_ok : m23_9.ok (call evT evF k23_9 100000 m23_9.f m23_9.args m23_9.preH) = true := by kernel_rfl
theorem q23_9 : HkOk Tryz.prog (hkMemo m23_9) := hkMemo_ok evT_ok evF_ok k23_9_ok rfl m23_9_ok
noncomputable def k23_19 : Hk := hkLib
theorem k23_19_ok : HkOk Tryz.prog k23_19 := hkLib_ok
noncomputable def m23_19 : Mm :=
  ⟨283, [.int .i64 (.ofNat 1), .slice (some ⟨2668, 0, none⟩) 14 14], 2710, [(2668, .cells (u8s [1] ++ u8z 5 ++ u8s [3, 0, 0, 0, 255, 255, 255, 255]) 5 false)], .tuple #[.agg #[.bool true, .slice (some ⟨2884, 0, none⟩) 1 1, .slice none 0 0], .int .i64 (.ofNat 0)], 2899, [(2884, some (.cells [.int .i64 (.ofNat 0), .int .i64 (.ofNat 0), .int .i64 (.ofNat 3), .int .i64 (.negSucc 0)] 147 false))]⟩
theorem m23_19_ok : m23_19.ok (call evT evF k23_19 100000 m23_19.f m23_19.args m23_19.preH) = true := by kernel_rfl
theorem q23_19 : HkOk Tryz.prog (hkMemo m23_19) := hkMemo_ok evT_ok evF_ok k23_19_ok rfl m23_19_ok
noncomputable def k23_21 : Hk := hkLib
theorem k23_21_ok : HkOk Tryz.prog k23_21 := hkLib_ok
noncomputable def m23_21 : Mm :=
  ⟨113, [.agg #[.int .i64 (.ofNat 1), .int .i64 (.ofNat 2), .int .i64 (.ofNat 0), .int .i64 (.ofNat 0), .int .i64 (.ofNat 3)]], 2911, [], .tuple #[.slice (some ⟨2934, 0, none⟩) 64 64, .int .i64 (.ofNat 0)], 2935, [(2934, some (.cells (u8s [111, 99, 116, 97, 118, 111, 48, 49, 1] ++ u8z 5 ++ u8s [2] ++ u8z 8 ++ u8s [3] ++ u8z 36 ++ u8s [137, 155, 206, 78]) 5 false))]⟩
theorem m23_21_ok : m23_21.ok (call evT evF k23_21 100000 m23_21.f m23_21.args m23_21.preH) = true := by kernel_rfl
theorem q23_21 : HkOk Tryz.prog (hkMemo m23_21) := hkMemo_ok evT_ok evF_ok k23_21_ok rfl m23_21_ok
noncomputable def k23_29 : Hk := hkLib
theorem k23_29_ok : HkOk Tryz.prog k23_29 := hkLib_ok
noncomputable def m23_29 : Mm :=
  ⟨11, [.pointer (some ⟨2, 0, none⟩), .string ⟨#[116, 97, 105, 108]⟩, .int .i64 (.ofNat 0), .slice (some ⟨3094, 0, none⟩) 1 1], 3131, [(1, .map [⟨.string ⟨#[111, 114, 105, 103, 105, 110, 97, 108]⟩, .pointer (some ⟨32, 0, none⟩), 0⟩, ⟨.string ⟨#[115, 116, 111, 114, 101]⟩, .pointer (some ⟨412, 0, none⟩), 1⟩] 2),
  (2, .cells [.int .i64 (.ofNat 100000), .int .i64 (.ofNat 6), .int .i64 (.negSucc 5), .bool false, .bool false, .map (some 1), .slice none 0 0] 61 true),
  (32, .cells [.slice (some ⟨34, 0, none⟩) 3 3, .slice (some ⟨35, 0, none⟩) 3 3, .bool true] 130 true),
  (34, .cells (u8s [97, 98, 99]) 5 false),
  (35, .cells (u8s [97, 98, 99]) 5 false),
  (412, .cells [.slice (some ⟨2254, 0, none⟩) 768 768, .slice (some ⟨2990, 0, none⟩) 768 768, .bool true] 130 true),
  (3094, .cells (u8s [120]) 5 false)], .int .i64 (.ofNat 0), 3179, [(1, some (.map [⟨.string ⟨#[111, 114, 105, 103, 105, 110, 97, 108]⟩, .pointer (some ⟨32, 0, none⟩), 0⟩, ⟨.string ⟨#[115, 116, 111, 114, 101]⟩, .pointer (some ⟨412, 0, none⟩), 1⟩, ⟨.string ⟨#[116, 97, 105, 108]⟩, .pointer (some ⟨3148, 0, none⟩), 2⟩] 3)),
  (2, some (.cells [.int .i64 (.ofNat 100000), .int .i64 (.ofNat 7), .int .i64 (.negSucc 6), .bool false, .bool false, .map (some 1), .slice (some ⟨3170, 0, none⟩) 1 1] 61 true)),
  (3148, some (.cells [.slice (some ⟨3150, 0, none⟩) 1 1, .slice none 0 0, .bool false] 130 true)),
  (3150, some (.cells (u8s [120]) 5 false)),
  (3169, some (.cells (u8s [120]) 5 false)),
  (3170, some (.cells [.string ⟨#[116, 97, 105, 108]⟩, .int .i64 (.ofNat 0), .slice (some ⟨3169, 0, none⟩) 1 1] 134 false))]⟩
theorem m23_29_ok : m23_29.ok (call evT evF k23_29 100000 m23_29.f m23_29.args m23_29.preH) = true := by kernel_rfl
theorem q23_29 : HkOk Tryz.prog (hkMemo m23_29) := hkMemo_ok evT_ok evF_ok k23_29_ok rfl m23_29_ok
noncomputable def k23_30 : Hk := hkLib
theorem k23_30_ok : HkOk Tryz.prog k23_30 := hkLib_ok
noncomputable def m23_30 : Mm :=
  ⟨184, [.pointer (some ⟨3284, 0, none⟩), .int .i64 (.ofNat 230)], 3474, [(3283, .cells (u8s [1, 0, 14, 0, 1, 0, 0, 0, 194, 105, 111, 233, 1] ++ u8z 5 ++ u8s [3, 0, 0, 0, 255, 255, 255, 255] ++ u8z 230) 5 false),
  (3284, .cells [.slice (some ⟨3283, 0, none⟩) 256 256, .int .i64 (.ofNat 26)] 360 true)], .int .i64 (.ofNat 0), 3503, [(3284, some (.cells [.slice (some ⟨3283, 0, none⟩) 256 256, .int .i64 (.ofNat 256)] 360 true))]⟩
theorem m23_30_ok : m23_30.ok (call evT evF k23_30 100000 m23_30.f m23_30.args m23_30.preH) = true := by kernel_rfl
theorem q23_30 : HkOk Tryz.prog (hkMemo m23_30) := hkMemo_ok evT_ok evF_ok k23_30_ok rfl m23_30_ok
noncomputable def k23_42 : Hk := hkLib
theorem k23_42_ok : HkOk Tryz.prog k23_42 := hkLib_ok
noncomputable def m23_42 : Mm :=
  ⟨283, [.int .i64 (.ofNat 1), .slice (some ⟨4515, 0, none⟩) 14 14], 4557, [(4515, .cells (u8s [1] ++ u8z 5 ++ u8s [3, 0, 0, 0, 255, 255, 255, 255]) 5 false)], .tuple #[.agg #[.bool true, .slice (some ⟨4731, 0, none⟩) 1 1, .slice none 0 0], .int .i64 (.ofNat 0)], 4746, [(4731, some (.cells [.int .i64 (.ofNat 0), .int .i64 (.ofNat 0), .int .i64 (.ofNat 3), .int .i64 (.negSucc 0)] 147 false))]⟩
theorem m23_42_ok : m23_42.ok (call evT evF k23_42 100000 m23_42.f m23_42.args m23_42.preH) = true := by kernel_rfl
theorem q23_42 : HkOk Tryz.prog (hkMemo m23_42) := hkMemo_ok evT_ok evF_ok k23_42_ok rfl m23_42_ok
noncomputable def k23_45 : Hk := hkLib
theorem k23_45_ok : HkOk Tryz.prog k23_45 := hkLib_ok
noncomputable def m23_45 : Mm :=
  ⟨340, [.agg #[.bool true, .slice (some ⟨4283, 0, none⟩) 2 2, .slice none 0 0]], 4839, [(4283, .cells [.int .i64 (.ofNat 1), .int .i64 (.ofNat 0), .int .i64 (.ofNat 1), .int .i64 (.ofNat 0), .int .i64 (.ofNat 0), .int .i64 (.ofNat 0), .int .i64 (.ofNat 3), .int .i64 (.negSucc 0)] 147 false)], .tuple #[.int .i64 (.ofNat 1), .slice (some ⟨4911, 0, none⟩) 27 27, .int .i64 (.ofNat 0)], 4912, [(4911, some (.cells (u8s [2, 1] ++ u8z 4 ++ u8s [1] ++ u8z 12 ++ u8s [3, 0, 0, 0, 255, 255, 255, 255]) 5 false))]⟩
theorem m23_45_ok : m23_45.ok (call evT evF k23_45 100000 m23_45.f m23_45.args m23_45.preH) = true := by kernel_rfl
theorem q23_45 : HkOk Tryz.prog (hkMemo m23_45) := hkMemo_ok evT_ok evF_ok k23_45_ok rfl m23_45_ok
noncomputable def k23_54 : Hk := hkLib
theorem k23_54_ok : HkOk Tryz.prog k23_54 := hkLib_ok
noncomputable def m23_54 : Mm :=
  ⟨283, [.int .i64 (.ofNat 1), .slice (some ⟨5272, 0, none⟩) 27 27], 5314, [(5272, .cells (u8s [2, 1] ++ u8z 4 ++ u8s [1] ++ u8z 12 ++ u8s [3, 0, 0, 0, 255, 255, 255, 255]) 5 false)], .tuple #[.agg #[.bool true, .slice (some ⟨5618, 0, none⟩) 2 2, .slice none 0 0], .int .i64 (.ofNat 0)], 5636, [(5618, some (.cells [.int .i64 (.ofNat 1), .int .i64 (.ofNat 0), .int .i64 (.ofNat 1), .int .i64 (.ofNat 0), .int .i64 (.ofNat 0), .int .i64 (.ofNat 0), .int .i64 (.ofNat 3), .int .i64 (.negSucc 0)] 147 false))]⟩
theorem m23_54_ok : m23_54.ok (call evT evF k23_54 100000 m23_54.f m23_54.args m23_54.preH) = true := by kernel_rfl
theorem q23_54 : HkOk Tryz.prog (hkMemo m23_54) := hkMemo_ok evT_ok evF_ok k23_54_ok rfl m23_54_ok
noncomputable def k23_57 : Hk := hkLib
theorem k23_57_ok : HkOk Tryz.prog k23_57 := hkLib_ok
noncomputable def m23_57 : Mm :=
  ⟨259, [.slice (some ⟨5701, 0, none⟩) 2 2], 5722, [(5701, .cells [.int .i64 (.ofNat 1), .int .i64 (.ofNat 3), .int .i64 (.ofNat 3), .int .i64 (.ofNat 4)] 119 false)], .tuple #[.slice (some ⟨5736, 0, none⟩) 17 17, .int .i64 (.ofNat 0)], 5737, [(5736, some (.cells (u8s [2, 1, 0, 0, 0, 3, 0, 0, 0, 3, 0, 0, 0, 4, 0, 0, 0]) 5 false))]⟩
theorem m23_57_ok : m23_57.ok (call evT evF k23_57 100000 m23_57.f m23_57.args m23_57.preH) = true := by kernel_rfl
theorem q23_57 : HkOk Tryz.prog (hkMemo m23_57) := hkMemo_ok evT_ok evF_ok k23_57_ok rfl m23_57_ok
noncomputable def k23_58 : Hk := hkLib
theorem k23_58_ok : HkOk Tryz.prog k23_58 := hkLib_ok
noncomputable def m23_58 : Mm :=
  ⟨262, [.int .i64 (.ofNat 4), .int .i64 (.ofNat 3), .slice (some ⟨5736, 0, none⟩) 17 17], 5740, [(5736, .cells (u8s [2, 1, 0, 0, 0, 3, 0, 0, 0, 3, 0, 0, 0, 4, 0, 0, 0]) 5 false)], .tuple #[.slice (some ⟨5740, 0, none⟩) 256 256, .int .i64 (.ofNat 0)], 5751, [(5740, some (.cells (u8s [3, 0, 17, 0, 4, 0, 0, 0, 199, 184, 67, 119, 2, 1, 0, 0, 0, 3, 0, 0, 0, 3, 0, 0, 0, 4] ++ u8z 230) 414 true))]⟩
theorem m23_58_ok : m23_58.ok (call evT evF k23_58 100000 m23_58.f m23_58.args m23_58.preH) = true := by kernel_rfl
theorem q23_58 : HkOk Tryz.prog (hkMemo m23_58) := hkMemo_ok evT_ok evF_ok k23_58_ok rfl m23_58_ok
noncomputable def k23_63 : Hk := hkLib
theorem k23_63_ok : HkOk Tryz.prog k23_63 := hkLib_ok
noncomputable def m23_63 : Mm :=
  ⟨67, [.slice (some ⟨6357, 0, none⟩) 1024 1024, .int .i64 (.ofNat 1024), .slice (some ⟨5797, 0, none⟩) 256 256], 6517, [(5797, .cells (u8s [3, 0, 17, 0, 4, 0, 0, 0, 199, 184, 67, 119, 2, 1, 0, 0, 0, 3, 0, 0, 0, 3, 0, 0, 0, 4] ++ u8z 230) 5 false),
  (6357, .cells (u8z 64 ++ u8s [111, 99, 116, 97, 118, 111, 48, 49, 1] ++ u8z 5 ++ u8s [2] ++ u8z 8 ++ u8s [3] ++ u8z 36 ++ u8s [137, 155, 206, 78] ++ u8z 128 ++ u8s [1, 0, 14, 0, 1, 0, 0, 0, 194, 105, 111, 233, 1] ++ u8z 5 ++ u8s [3, 0, 0, 0, 255, 255, 255, 255] ++ u8z 230 ++ u8s [3, 0, 9, 0, 2, 0, 0, 0, 68, 252, 163, 153, 1, 1, 0, 0, 0, 3] ++ u8z 238 ++ u8s [1, 0, 27, 0, 3, 0, 0, 0, 50, 165, 25, 235, 2, 1] ++ u8z 4 ++ u8s [1] ++ u8z 12 ++ u8s [3, 0, 0, 0, 255, 255, 255, 255] ++ u8z 217) 5 false)], .slice (some ⟨7028, 0, none⟩) 1280 1280, 7029, [(6357, none),
  (7028, some (.cells (u8z 64 ++ u8s [111, 99, 116, 97, 118, 111, 48, 49, 1] ++ u8z 5 ++ u8s [2] ++ u8z 8 ++ u8s [3] ++ u8z 36 ++ u8s [137, 155, 206, 78] ++ u8z 128 ++ u8s [1, 0, 14, 0, 1, 0, 0, 0, 194, 105, 111, 233, 1] ++ u8z 5 ++ u8s [3, 0, 0, 0, 255, 255, 255, 255] ++ u8z 230 ++ u8s [3, 0, 9, 0, 2, 0, 0, 0, 68, 252, 163, 153, 1, 1, 0, 0, 0, 3] ++ u8z 238 ++ u8s [1, 0, 27, 0, 3, 0, 0, 0, 50, 165, 25, 235, 2, 1] ++ u8z 4 ++ u8s [1] ++ u8z 12 ++ u8s [3, 0, 0, 0, 255, 255, 255, 255] ++ u8z 217 ++ u8s [3, 0, 17, 0, 4, 0, 0, 0, 199, 184, 67, 119, 2, 1, 0, 0, 0, 3, 0, 0, 0, 3, 0, 0, 0, 4] ++ u8z 230) 5 false))]⟩
theorem m23_63_ok : m23_63.ok (call evT evF k23_63 100000 m23_63.f m23_63.args m23_63.preH) = true := by kernel_rfl
theorem q23_63 : HkOk Tryz.prog (hkMemo m23_63) := hkMemo_ok evT_ok evF_ok k23_63_ok rfl m23_63_ok
noncomputable def k23_68 : Hk := hkLib
theorem k23_68_ok : HkOk Tryz.prog k23_68 := hkLib_ok
noncomputable def m23_68 : Mm :=
  ⟨184, [.pointer (some ⟨7266, 0, none⟩), .int .i64 (.ofNat 230)], 7456, [(7265, .cells (u8s [1, 0, 14, 0, 1, 0, 0, 0, 194, 105, 111, 233, 1] ++ u8z 5 ++ u8s [3, 0, 0, 0, 255, 255, 255, 255] ++ u8z 230) 5 false),
  (7266, .cells [.slice (some ⟨7265, 0, none⟩) 256 256, .int .i64 (.ofNat 26)] 360 true)], .int .i64 (.ofNat 0), 7485, [(7266, some (.cells [.slice (some ⟨7265, 0, none⟩) 256 256, .int .i64 (.ofNat 256)] 360 true))]⟩
theorem m23_68_ok : m23_68.ok (call evT evF k23_68 100000 m23_68.f m23_68.args m23_68.preH) = true := by kernel_rfl
theorem q23_68 : HkOk Tryz.prog (hkMemo m23_68) := hkMemo_ok evT_ok evF_ok k23_68_ok rfl m23_68_ok
noncomputable def k23_72 : Hk := hkLib
theorem k23_72_ok : HkOk Tryz.prog k23_72 := hkLib_ok
noncomputable def m23_72 : Mm :=
  ⟨184, [.pointer (some ⟨7741, 0, none⟩), .int .i64 (.ofNat 217)], 7931, [(7740, .cells (u8s [1, 0, 27, 0, 3, 0, 0, 0, 50, 165, 25, 235, 2, 1] ++ u8z 4 ++ u8s [1] ++ u8z 12 ++ u8s [3, 0, 0, 0, 255, 255, 255, 255] ++ u8z 217) 5 false),
  (7741, .cells [.slice (some ⟨7740, 0, none⟩) 256 256, .int .i64 (.ofNat 39)] 360 true)], .int .i64 (.ofNat 0), 7960, [(7741, some (.cells [.slice (some ⟨7740, 0, none⟩) 256 256, .int .i64 (.ofNat 256)] 360 true))]⟩
theorem m23_72_ok : m23_72.ok (call evT evF k23_72 100000 m23_72.f m23_72.args m23_72.preH) = true := by kernel_rfl
theorem q23_72 : HkOk Tryz.prog (hkMemo m23_72) := hkMemo_ok evT_ok evF_ok k23_72_ok rfl m23_72_ok
noncomputable def k23_74 : Hk := hkLib
theorem k23_74_ok : HkOk Tryz.prog k23_74 := hkLib_ok
noncomputable def m23_74 : Mm :=
  ⟨283, [.int .i64 (.ofNat 1), .slice (some ⟨7919, 0, none⟩) 27 27], 7961, [(7919, .cells (u8s [2, 1] ++ u8z 4 ++ u8s [1] ++ u8z 12 ++ u8s [3, 0, 0, 0, 255, 255, 255, 255]) 5 false)], .tuple #[.agg #[.bool true, .slice (some ⟨8265, 0, none⟩) 2 2, .slice none 0 0], .int .i64 (.ofNat 0)], 8283, [(8265, some (.cells [.int .i64 (.ofNat 1), .int .i64 (.ofNat 0), .int .i64 (.ofNat 1), .int .i64 (.ofNat 0), .int .i64 (.ofNat 0), .int .i64 (.ofNat 0), .int .i64 (.ofNat 3), .int .i64 (.negSucc 0)] 147 false))]⟩
theorem m23_74_ok : m23_74.ok (call evT evF k23_74 100000 m23_74.f m23_74.args m23_74.preH) = true := by kernel_rfl
theorem q23_74 : HkOk Tryz.prog (hkMemo m23_74) := hkMemo_ok evT_ok evF_ok k23_74_ok rfl m23_74_ok
noncomputable def k23_78 : Hk := hkLib
theorem k23_78_ok : HkOk Tryz.prog k23_78 := hkLib_ok
noncomputable def m23_78 : Mm :=
  ⟨11, [.pointer (some ⟨2, 0, none⟩), .string ⟨#[115, 116, 111, 114, 101]⟩, .int .i64 (.ofNat 0), .slice (some ⟨8368, 0, none⟩) 64 64], 8379, [(1, .map [⟨.string ⟨#[111, 114, 105, 103, 105, 110, 97, 108]⟩, .pointer (some ⟨32, 0, none⟩), 0⟩, ⟨.string ⟨#[115, 116, 111, 114, 101]⟩, .pointer (some ⟨412, 0, none⟩), 1⟩, ⟨.string ⟨#[116, 97, 105, 108]⟩, .pointer (some ⟨3148, 0, none⟩), 2⟩] 3),
  (2, .cells [.int .i64 (.ofNat 100000), .int .i64 (.ofNat 11), .int .i64 (.negSucc 10), .bool false, .bool false, .map (some 1), .slice none 0 0] 61 true),
  (32, .cells [.slice (some ⟨34, 0, none⟩) 3 3, .slice (some ⟨35, 0, none⟩) 3 3, .bool true] 130 true),
  (34, .cells (u8s [97, 98, 99]) 5 false),
  (35, .cells (u8s [97, 98, 99]) 5 false),
  (412, .cells [.slice (some ⟨7028, 0, none⟩) 1280 1280, .slice (some ⟨7152, 0, none⟩) 1280 1280, .bool true] 130 true),
  (3148, .cells [.slice (some ⟨3150, 0, none⟩) 1 1, .slice (some ⟨7165, 0, none⟩) 1 1, .bool true] 130 true),
  (3150, .cells (u8s [120]) 5 false),
  (7028, .cells (u8z 64 ++ u8s [111, 99, 116, 97, 118, 111, 48, 49, 1] ++ u8z 5 ++ u8s [2] ++ u8z 8 ++ u8s [3] ++ u8z 36 ++ u8s [137, 155, 206, 78] ++ u8z 128 ++ u8s [1, 0, 14, 0, 1, 0, 0, 0, 194, 105, 111, 233, 1] ++ u8z 5 ++ u8s [3, 0, 0, 0, 255, 255, 255, 255] ++ u8z 230 ++ u8s [3, 0, 9, 0, 2, 0, 0, 0, 68, 252, 163, 153, 1, 1, 0, 0, 0, 3] ++ u8z 238 ++ u8s [1, 0, 27, 0, 3, 0, 0, 0, 50, 165, 25, 235, 2, 1] ++ u8z 4 ++ u8s [1] ++ u8z 12 ++ u8s [3, 0, 0, 0, 255, 255, 255, 255] ++ u8z 217 ++ u8s [3, 0, 17, 0, 4, 0, 0, 0, 199, 184, 67, 119, 2, 1, 0, 0, 0, 3, 0, 0, 0, 3, 0, 0, 0, 4] ++ u8z 230) 5 false),
  (7165, .cells (u8s [120]) 5 false),
  (8368, .cells (u8s [111, 99, 116, 97, 118, 111, 48, 49, 2] ++ u8z 5 ++ u8s [4, 0, 0, 0, 1, 1, 0, 0, 0, 3] ++ u8z 36 ++ u8s [250, 212, 113, 102]) 5 false)], .int .i64 (.ofNat 0), 8423, [(2, some (.cells [.int .i64 (.ofNat 100000), .int .i64 (.ofNat 12), .int .i64 (.negSucc 11), .bool false, .bool false, .map (some 1), .slice (some ⟨8414, 0, none⟩) 1 1] 61 true)),
  (7028, some (.cells (u8s [111, 99, 116, 97, 118, 111, 48, 49, 2] ++ u8z 5 ++ u8s [4, 0, 0, 0, 1, 1, 0, 0, 0, 3] ++ u8z 36 ++ u8s [250, 212, 113, 102, 111, 99, 116, 97, 118, 111, 48, 49, 1] ++ u8z 5 ++ u8s [2] ++ u8z 8 ++ u8s [3] ++ u8z 36 ++ u8s [137, 155, 206, 78] ++ u8z 128 ++ u8s [1, 0, 14, 0, 1, 0, 0, 0, 194, 105, 111, 233, 1] ++ u8z 5 ++ u8s [3, 0, 0, 0, 255, 255, 255, 255] ++ u8z 230 ++ u8s [3, 0, 9, 0, 2, 0, 0, 0, 68, 252, 163, 153, 1, 1, 0, 0, 0, 3] ++ u8z 238 ++ u8s [1, 0, 27, 0, 3, 0, 0, 0, 50, 165, 25, 235, 2, 1] ++ u8z 4 ++ u8s [1] ++ u8z 12 ++ u8s [3, 0, 0, 0, 255, 255, 255, 255] ++ u8z 217 ++ u8s [3, 0, 17, 0, 4, 0, 0, 0, 199, 184, 67, 119, 2, 1, 0, 0, 0, 3, 0, 0, 0, 3, 0, 0, 0, 4] ++ u8z 230) 5 false)),
  (8413, some (.cells (u8s [111, 99, 116, 97, 118, 111, 48, 49, 2] ++ u8z 5 ++ u8s [4, 0, 0, 0, 1, 1, 0, 0, 0, 3] ++ u8z 36 ++ u8s [250, 212, 113, 102]) 5 false)),
  (8414, some (.cells [.string ⟨#[115, 116, 111, 114, 101]⟩, .int .i64 (.ofNat 0), .slice (some ⟨8413, 0, none⟩) 64 64] 134 false))]⟩
theorem m23_78_ok : m23_78.ok (call evT evF k23_78 100000 m23_78.f m23_78.args m23_78.preH) = true := by kernel_rfl
theorem q23_78 : HkOk Tryz.prog (hkMemo m23_78) := hkMemo_ok evT_ok evF_ok k23_78_ok rfl m23_78_ok
noncomputable def k23_90 : Hk := hkLib
theorem k23_90_ok : HkOk Tryz.prog k23_90 := hkLib_ok
noncomputable def m23_90 : Mm :=
  ⟨283, [.int .i64 (.ofNat 1), .slice (some ⟨9275, 0, none⟩) 27 27], 9317, [(9275, .cells (u8s [2, 1] ++ u8z 4 ++ u8s [1] ++ u8z 12 ++ u8s [3, 0, 0, 0, 255, 255, 255, 255]) 5 false)], .tuple #[.agg #[.bool true, .slice (some ⟨9621, 0, none⟩) 2 2, .slice none 0 0], .int .i64 (.ofNat 0)], 9639, [(9621, some (.cells [.int .i64 (.ofNat 1), .int .i64 (.ofNat 0), .int .i64 (.ofNat 1), .int .i64 (.ofNat 0), .int .i64 (.ofNat 0), .int .i64 (.ofNat 0), .int .i64 (.ofNat 3), .int .i64 (.negSucc 0)] 147 false))]⟩
theorem m23_90_ok : m23_90.ok (call evT evF k23_90 100000 m23_90.f m23_90.args m23_90.preH) = true := by kernel_rfl
theorem q23_90 : HkOk Tryz.prog (hkMemo m23_90) := hkMemo_ok evT_ok evF_ok k23_90_ok rfl m23_90_ok
noncomputable def k23_94 : Hk := hkLib
theorem k23_94_ok : HkOk Tryz.prog k23_94 := hkLib_ok
noncomputable def m23_94 : Mm :=
  ⟨283, [.int .i64 (.ofNat 1), .slice (some ⟨9897, 0, none⟩) 27 27], 9939, [(9897, .cells (u8s [2, 1] ++ u8z 4 ++ u8s [1] ++ u8z 12 ++ u8s [3, 0, 0, 0, 255, 255, 255, 255]) 5 false)], .tuple #[.agg #[.bool true, .slice (some ⟨10243, 0, none⟩) 2 2, .slice none 0 0], .int .i64 (.ofNat 0)], 10261, [(10243, some (.cells [.int .i64 (.ofNat 1), .int .i64 (.ofNat 0), .int .i64 (.ofNat 1), .int .i64 (.ofNat 0), .int .i64 (.ofNat 0), .int .i64 (.ofNat 0), .int .i64 (.ofNat 3), .int .i64 (.negSucc 0)] 147 false))]⟩
theorem m23_94_ok : m23_94.ok (call evT evF k23_94 100000 m23_94.f m23_94.args m23_94.preH) = true := by kernel_rfl
theorem q23_94 : HkOk Tryz.prog (hkMemo m23_94) := hkMemo_ok evT_ok evF_ok k23_94_ok rfl m23_94_ok
noncomputable def k23_96 : Hk := hkLib
theorem k23_96_ok : HkOk Tryz.prog k23_96 := hkLib_ok
noncomputable def m23_96 : Mm :=
  ⟨214, [.slice (some ⟨10269, 0, none⟩) 2 2, .slice (some ⟨9648, 0, none⟩) 2 2], 10295, [(9026, .cells [.int .i64 (.ofNat 0), .int .i64 (.ofNat 0), .int .i64 (.ofNat 3)] 145 false),
  (9647, .cells [.int .i64 (.ofNat 1), .int .i64 (.ofNat 0), .int .i64 (.ofNat 1), .int .i64 (.ofNat 0), .int .i64 (.ofNat 0), .int .i64 (.ofNat 3)] 145 false),
  (9648, .cells [.slice (some ⟨9026, 0, none⟩) 1 1, .slice (some ⟨9647, 0, none⟩) 2 2] 113 false),
  (10269, .cells [.int .i64 (.ofNat 1), .int .i64 (.ofNat 0), .int .i64 (.ofNat 1), .int .i64 (.ofNat 0), .int .i64 (.ofNat 0), .int .i64 (.ofNat 3)] 145 false)], .tuple #[.slice none 0 0, .int .i64 (.ofNat 0)], 10373, []⟩
theorem m23_96_ok : m23_96.ok (call evT evF k23_96 100000 m23_96.f m23_96.args m23_96.preH) = true := by kernel_rfl
theorem q23_96 : HkOk Tryz.prog (hkMemo m23_96) := hkMemo_ok evT_ok evF_ok k23_96_ok rfl m23_96_ok
noncomputable def k23_105 : Hk := hkLib
theorem k23_105_ok : HkOk Tryz.prog k23_105 := hkLib_ok
noncomputable def m23_105 : Mm :=
  ⟨277, [.slice (some ⟨10907, 0, none⟩) 1 1], 10908, [(10890, .cells [.int .i64 (.ofNat 0), .int .i64 (.ofNat 0), .int .i64 (.ofNat 1), .int .i64 (.ofNat 0), .int .i64 (.ofNat 1), .int .i64 (.ofNat 3)] 145 false),
  (10907, .cells [.slice (some ⟨10890, 0, none⟩) 2 2] 113 true)], .slice (some ⟨10938, 0, none⟩) 1 1, 10979, [(10938, some (.cells [.int .i64 (.ofNat 0), .int .i64 (.ofNat 0), .int .i64 (.ofNat 4)] 145 false))]⟩
theorem m23_105_ok : m23_105.ok (call evT evF k23_105 100000 m23_105.f m23_105.args m23_105.preH) = true := by kernel_rfl
theorem q23_105 : HkOk Tryz.prog (hkMemo m23_105) := hkMemo_ok evT_ok evF_ok k23_105_ok rfl m23_105_ok
noncomputable def k23_107 : Hk := hkLib
theorem k23_107_ok : HkOk Tryz.prog k23_107 := hkLib_ok
noncomputable def m23_107 : Mm :=
  ⟨340, [.agg #[.bool true, .slice (some ⟨11036, 0, none⟩) 1 1, .slice none 0 0]], 11044, [(11036, .cells [.int .i64 (.ofNat 0), .int .i64 (.ofNat 0), .int .i64 (.ofNat 4), .int .i64 (.negSucc 0)] 147 false)], .tuple #[.int .i64 (.ofNat 1), .slice (some ⟨11087, 0, none⟩) 14 14, .int .i64 (.ofNat 0)], 11088, [(11087, some (.cells (u8s [1] ++ u8z 5 ++ u8s [4, 0, 0, 0, 255, 255, 255, 255]) 5 false))]⟩
theorem m23_107_ok : m23_107.ok (call evT evF k23_107 100000 m23_107.f m23_107.args m23_107.preH) = true := by kernel_rfl
theorem q23_107 : HkOk Tryz.prog (hkMemo m23_107) := hkMemo_ok evT_ok evF_ok k23_107_ok rfl m23_107_ok
noncomputable def k23_109 : Hk := hkLib
theorem k23_109_ok : HkOk Tryz.prog k23_109 := hkLib_ok
noncomputable def m23_109 : Mm :=
  ⟨263, [.pointer (some ⟨56, 0, none⟩), .int .i64 (.ofNat 5), .slice (some ⟨11090, 0, none⟩) 256 256], 11101, [(1, .map [⟨.string ⟨#[111, 114, 105, 103, 105, 110, 97, 108]⟩, .pointer (some ⟨32, 0, none⟩), 0⟩, ⟨.string ⟨#[115, 116, 111, 114, 101]⟩, .pointer (some ⟨412, 0, none⟩), 1⟩, ⟨.string ⟨#[116, 97, 105, 108]⟩, .pointer (some ⟨3148, 0, none⟩), 2⟩] 3),
  (2, .cells [.int .i64 (.ofNat 100000), .int .i64 (.ofNat 13), .int .i64 (.negSucc 12), .bool false, .bool false, .map (some 1), .slice none 0 0] 61 true),
  (32, .cells [.slice (some ⟨34, 0, none⟩) 3 3, .slice (some ⟨35, 0, none⟩) 3 3, .bool true] 130 true),
  (34, .cells (u8s [97, 98, 99]) 5 false),
  (35, .cells (u8s [97, 98, 99]) 5 false),
  (37, .map [⟨.int .i64 (.ofNat 1), .pointer (some ⟨214, 0, none⟩), 0⟩, ⟨.int .i64 (.ofNat 3), .pointer (some ⟨4945, 0, none⟩), 2⟩, ⟨.int .i64 (.ofNat 4), .pointer (some ⟨5771, 0, none⟩), 3⟩, ⟨.int .i64 (.ofNat 2), .pointer (some ⟨10682, 0, none⟩), 4⟩] 5),
  (38, .cells [.int .i64 (.ofNat 5), .int .i64 (.ofNat 0), .int .i64 (.ofNat 0), .bool false, .pointer (some ⟨10682, 0, none⟩), .pointer (some ⟨5771, 0, none⟩), .map (some 37)] 357 true),
  (55, .map [⟨.int .i64 (.ofNat 1), .slice (some ⟨240, 0, none⟩) 256 256, 0⟩, ⟨.int .i64 (.ofNat 3), .slice (some ⟨4971, 0, none⟩) 256 256, 2⟩, ⟨.int .i64 (.ofNat 4), .slice (some ⟨5797, 0, none⟩) 256 256, 3⟩, ⟨.int .i64 (.ofNat 2), .slice (some ⟨10708, 0, none⟩) 256 256, 4⟩] 5),
  (56, .cells [.pointer (some ⟨38, 0, none⟩), .pointer (some ⟨2, 0, none⟩), .string ⟨#[115, 116, 111, 114, 101]⟩, .int .i64 (.ofNat 5), .map (some 55), .int .i64 (.ofNat 0)] 249 true),
  (214, .cells [.int .i64 (.ofNat 1), .int .i64 (.ofNat 0), .bool false, .pointer (some ⟨5771, 0, none⟩), .pointer (some ⟨4945, 0, none⟩)] 351 true),
  (412, .cells [.slice (some ⟨7028, 0, none⟩) 1280 1280, .slice (some ⟨8424, 0, none⟩) 1280 1280, .bool true] 130 true),
  (3148, .cells [.slice (some ⟨3150, 0, none⟩) 1 1, .slice (some ⟨7165, 0, none⟩) 1 1, .bool true] 130 true),
  (3150, .cells (u8s [120]) 5 false),
  (4945, .cells [.int .i64 (.ofNat 3), .int .i64 (.ofNat 0), .bool false, .pointer (some ⟨214, 0, none⟩), .pointer (some ⟨10682, 0, none⟩)] 351 true),
  (5771, .cells [.int .i64 (.ofNat 4), .int .i64 (.ofNat 0), .bool false, .pointer (some ⟨38, 1, none⟩), .pointer (some ⟨214, 0, none⟩)] 351 true),
  (7165, .cells (u8s [120]) 5 false),
  (10682, .cells [.int .i64 (.ofNat 2), .int .i64 (.ofNat 0), .bool true, .pointer (some ⟨4945, 0, none⟩), .pointer (some ⟨38, 1, none⟩)] 351 true),
  (11090, .cells (u8s [1, 0, 14, 0, 5, 0, 0, 0, 64, 196, 222, 82, 1] ++ u8z 5 ++ u8s [4, 0, 0, 0, 255, 255, 255, 255] ++ u8z 230) 414 true)], .int .i64 (.ofNat 0), 11148, [(37, some (.map [⟨.int .i64 (.ofNat 1), .pointer (some ⟨214, 0, none⟩), 0⟩, ⟨.int .i64 (.ofNat 3), .pointer (some ⟨4945, 0, none⟩), 2⟩, ⟨.int .i64 (.ofNat 4), .pointer (some ⟨5771, 0, none⟩), 3⟩, ⟨.int .i64 (.ofNat 2), .pointer (some ⟨10682, 0, none⟩), 4⟩, ⟨.int .i64 (.ofNat 5), .pointer (some ⟨11121, 0, none⟩), 5⟩] 6)),
  (38, some (.cells [.int .i64 (.ofNat 5), .int .i64 (.ofNat 0), .int .i64 (.ofNat 0), .bool false, .pointer (some ⟨11121, 0, none⟩), .pointer (some ⟨5771, 0, none⟩), .map (some 37)] 357 true)),
  (55, some (.map [⟨.int .i64 (.ofNat 1), .slice (some ⟨240, 0, none⟩) 256 256, 0⟩, ⟨.int .i64 (.ofNat 3), .slice (some ⟨4971, 0, none⟩) 256 256, 2⟩, ⟨.int .i64 (.ofNat 4), .slice (some ⟨5797, 0, none⟩) 256 256, 3⟩, ⟨.int .i64 (.ofNat 2), .slice (some ⟨10708, 0, none⟩) 256 256, 4⟩, ⟨.int .i64 (.ofNat 5), .slice (some ⟨11147, 0, none⟩) 256 256, 5⟩] 6)),
  (10682, some (.cells [.int .i64 (.ofNat 2), .int .i64 (.ofNat 0), .bool true, .pointer (some ⟨4945, 0, none⟩), .pointer (some ⟨11121, 0, none⟩)] 351 true)),
  (11121, some (.cells [.int .i64 (.ofNat 5), .int .i64 (.ofNat 0), .bool true, .pointer (some ⟨10682, 0, none⟩), .pointer (some ⟨38, 1, none⟩)] 351 true)),
  (11147, some (.cells (u8s [1, 0, 14, 0, 5, 0, 0, 0, 64, 196, 222, 82, 1] ++ u8z 5 ++ u8s [4, 0, 0, 0, 255, 255, 255, 255] ++ u8z 230) 5 false))]⟩
theorem m23_109_ok : m23_109.ok (call evT evF k23_109 100000 m23_109.f m23_109.args m23_109.preH) = true := by kernel_rfl
theorem q23_109 : HkOk Tryz.prog (hkMemo m23_109) := hkMemo_ok evT_ok evF_ok k23_109_ok rfl m23_109_ok
noncomputable def k23_117 : Hk := hkLib
theorem k23_117_ok : HkOk Tryz.prog k23_117 := hkLib_ok
noncomputable def m23_117 : Mm :=
  ⟨259, [.slice (some ⟨11185, 0, none⟩) 2 2], 11560, [(11185, .cells [.int .i64 (.ofNat 2), .int .i64 (.ofNat 3), .int .i64 (.ofNat 5), .int .i64 (.ofNat 4)] 119 false)], .tuple #[.slice (some ⟨11574, 0, none⟩) 17 17, .int .i64 (.ofNat 0)], 11575, [(11574, some (.cells (u8s [2, 2, 0, 0, 0, 3, 0, 0, 0, 5, 0, 0, 0, 4, 0, 0, 0]) 5 false))]⟩
theorem m23_117_ok : m23_117.ok (call evT evF k23_117 100000 m23_117.f m23_117.args m23_117.preH) = true := by kernel_rfl
theorem q23_117 : HkOk Tryz.prog (hkMemo m23_117) := hkMemo_ok evT_ok evF_ok k23_117_ok rfl m23_117_ok
noncomputable def k23_118 : Hk := hkLib
theorem k23_118_ok : HkOk Tryz.prog k23_118 := hkLib_ok
noncomputable def m23_118 : Mm :=
  ⟨262, [.int .i64 (.ofNat 6), .int .i64 (.ofNat 3), .slice (some ⟨11574, 0, none⟩) 17 17], 11578, [(11574, .cells (u8s [2, 2, 0, 0, 0, 3, 0, 0, 0, 5, 0, 0, 0, 4, 0, 0, 0]) 5 false)], .tuple #[.slice (some ⟨11578, 0, none⟩) 256 256, .int .i64 (.ofNat 0)], 11589, [(11578, some (.cells (u8s [3, 0, 17, 0, 6, 0, 0, 0, 34, 46, 224, 217, 2, 2, 0, 0, 0, 3, 0, 0, 0, 5, 0, 0, 0, 4] ++ u8z 230) 414 true))]⟩
theorem m23_118_ok : m23_118.ok (call evT evF k23_118 100000 m23_118.f m23_118.args m23_118.preH) = true := by kernel_rfl
theorem q23_118 : HkOk Tryz.prog (hkMemo m23_118) := hkMemo_ok evT_ok evF_ok k23_118_ok rfl m23_118_ok
noncomputable def k23_120 : Hk := hkLib
theorem k23_120_ok : HkOk Tryz.prog k23_120 := hkLib_ok
noncomputable def m23_120 : Mm :=
  ⟨11, [.pointer (some ⟨2, 0, none⟩), .string ⟨#[115, 116, 111, 114, 101]⟩, .int .i64 (.ofNat 512), .slice (some ⟨10708, 0, none⟩) 256 256], 11690, [(1, .map [⟨.string ⟨#[111, 114, 105, 103, 105, 110, 97, 108]⟩, .pointer (some ⟨32, 0, none⟩), 0⟩, ⟨.string ⟨#[115, 116, 111, 114, 101]⟩, .pointer (some ⟨412, 0, none⟩), 1⟩, ⟨.string ⟨#[116, 97, 105, 108]⟩, .pointer (some ⟨3148, 0, none⟩), 2⟩] 3),
  (2, .cells [.int .i64 (.ofNat 100000), .int .i64 (.ofNat 13), .int .i64 (.negSucc 12), .bool false, .bool false, .map (some 1), .slice none 0 0] 61 true),
  (32, .cells [.slice (some ⟨34, 0, none⟩) 3 3, .slice (some ⟨35, 0, none⟩) 3 3, .bool true] 130 true),
  (34, .cells (u8s [97, 98, 99]) 5 false),
  (35, .cells (u8s [97, 98, 99]) 5 false),
  (412, .cells [.slice (some ⟨7028, 0, none⟩) 1280 1280, .slice (some ⟨8424, 0, none⟩) 1280 1280, .bool true] 130 true),
  (3148, .cells [.slice (some ⟨3150, 0, none⟩) 1 1, .slice (some ⟨7165, 0, none⟩) 1 1, .bool true] 130 true),
  (3150, .cells (u8s [120]) 5 false),
  (7028, .cells (u8s [111, 99, 116, 97, 118, 111, 48, 49, 2] ++ u8z 5 ++ u8s [4, 0, 0, 0, 1, 1, 0, 0, 0, 3] ++ u8z 36 ++ u8s [250, 212, 113, 102, 111, 99, 116, 97, 118, 111, 48, 49, 1] ++ u8z 5 ++ u8s [2] ++ u8z 8 ++ u8s [3] ++ u8z 36 ++ u8s [137, 155, 206, 78] ++ u8z 128 ++ u8s [1, 0, 14, 0, 1, 0, 0, 0, 194, 105, 111, 233, 1] ++ u8z 5 ++ u8s [3, 0, 0, 0, 255, 255, 255, 255] ++ u8z 230 ++ u8s [3, 0, 9, 0, 2, 0, 0, 0, 68, 252, 163, 153, 1, 1, 0, 0, 0, 3] ++ u8z 238 ++ u8s [1, 0, 27, 0, 3, 0, 0, 0, 50, 165, 25, 235, 2, 1] ++ u8z 4 ++ u8s [1] ++ u8z 12 ++ u8s [3, 0, 0, 0, 255, 255, 255, 255] ++ u8z 217 ++ u8s [3, 0, 17, 0, 4, 0, 0, 0, 199, 184, 67, 119, 2, 1, 0, 0, 0, 3, 0, 0, 0, 3, 0, 0, 0, 4] ++ u8z 230) 5 false),
  (7165, .cells (u8s [120]) 5 false),
  (10708, .cells (u8s [1, 0, 14, 0, 2, 0, 0, 0, 54, 213, 233, 1, 1, 0, 1, 0, 0, 0, 3, 0, 0, 0, 255, 255, 255, 255] ++ u8z 230) 5 false)], .int .i64 (.ofNat 0), 11818, [(2, some (.cells [.int .i64 (.ofNat 100000), .int .i64 (.ofNat 14), .int .i64 (.negSucc 13), .bool false, .bool false, .map (some 1), .slice (some ⟨11809, 0, none⟩) 4 4] 61 true)),
  (7028, some (.cells (u8s [111, 99, 116, 97, 118, 111, 48, 49, 2] ++ u8z 5 ++ u8s [4, 0, 0, 0, 1, 1, 0, 0, 0, 3] ++ u8z 36 ++ u8s [250, 212, 113, 102, 111, 99, 116, 97, 118, 111, 48, 49, 1] ++ u8z 5 ++ u8s [2] ++ u8z 8 ++ u8s [3] ++ u8z 36 ++ u8s [137, 155, 206, 78] ++ u8z 128 ++ u8s [1, 0, 14, 0, 1, 0, 0, 0, 194, 105, 111, 233, 1] ++ u8z 5 ++ u8s [3, 0, 0, 0, 255, 255, 255, 255] ++ u8z 230 ++ u8s [1, 0, 14, 0, 2, 0, 0, 0, 54, 213, 233, 1, 1, 0, 1, 0, 0, 0, 3, 0, 0, 0, 255, 255, 255, 255] ++ u8z 230 ++ u8s [1, 0, 27, 0, 3, 0, 0, 0, 50, 165, 25, 235, 2, 1] ++ u8z 4 ++ u8s [1] ++ u8z 12 ++ u8s [3, 0, 0, 0, 255, 255, 255, 255] ++ u8z 217 ++ u8s [3, 0, 17, 0, 4, 0, 0, 0, 199, 184, 67, 119, 2, 1, 0, 0, 0, 3, 0, 0, 0, 3, 0, 0, 0, 4] ++ u8z 230) 5 false)),
  (11724, some (.cells (u8s [1, 0, 14, 0, 2, 0, 0, 0, 54, 213, 233, 1, 1, 0, 1, 0, 0, 0, 3, 0, 0, 0, 255, 255, 255, 255] ++ u8z 38) 5 false)),
  (11752, some (.cells (u8z 64) 5 false)),
  (11780, some (.cells (u8z 64) 5 false)),
  (11808, some (.cells (u8z 64) 5 false)),
  (11809, some (.cells [.string ⟨#[115, 116, 111, 114, 101]⟩, .int .i64 (.ofNat 512), .slice (some ⟨11724, 0, none⟩) 64 64, .string ⟨#[115, 116, 111, 114, 101]⟩, .int .i64 (.ofNat 576), .slice (some ⟨11752, 0, none⟩) 64 64, .string ⟨#[115, 116, 111, 114, 101]⟩, .int .i64 (.ofNat 640), .slice (some ⟨11780, 0, none⟩) 64 64, .string ⟨#[115, 116, 111, 114, 101]⟩, .int .i64 (.ofNat 704), .slice (some ⟨11808, 0, none⟩) 64 64] 134 false))]⟩
theorem m23_120_ok : m23_120.ok (call evT evF k23_120 100000 m23_120.f m23_120.args m23_120.preH) = true := by kernel_rfl
theorem q23_120 : HkOk Tryz.prog (hkMemo m23_120) := hkMemo_ok evT_ok evF_ok k23_120_ok rfl m23_120_ok
noncomputable def k23_140 : Hk := hkLib
theorem k23_140_ok : HkOk Tryz.prog k23_140 := hkLib_ok
noncomputable def m23_140 : Mm :=
  ⟨11, [.pointer (some ⟨2, 0, none⟩), .string ⟨#[106, 111, 117, 114, 110, 97, 108]⟩, .int .i64 (.ofNat 0), .slice (some ⟨14255, 0, none⟩) 64 64], 14256, [(1, .map [⟨.string ⟨#[111, 114, 105, 103, 105, 110, 97, 108]⟩, .pointer (some ⟨32, 0, none⟩), 0⟩, ⟨.string ⟨#[115, 116, 111, 114, 101]⟩, .pointer (some ⟨412, 0, none⟩), 1⟩, ⟨.string ⟨#[116, 97, 105, 108]⟩, .pointer (some ⟨3148, 0, none⟩), 2⟩, ⟨.string ⟨#[106, 111, 117, 114, 110, 97, 108]⟩, .pointer (some ⟨13576, 0, none⟩), 3⟩] 4),
  (2, .cells [.int .i64 (.ofNat 100000), .int .i64 (.ofNat 22), .int .i64 (.negSucc 21), .bool false, .bool false, .map (some 1), .slice none 0 0] 61 true),
  (32, .cells [.slice (some ⟨13245, 0, none⟩) 4 4, .slice (some ⟨13275, 0, none⟩) 4 4, .bool true] 130 true),
  (412, .cells [.slice (some ⟨13047, 0, none⟩) 1792 1792, .slice (some ⟨13171, 0, none⟩) 1792 1792, .bool true] 130 true),
  (3148, .cells [.slice (some ⟨3150, 0, none⟩) 1 1, .slice (some ⟨13185, 0, none⟩) 1 1, .bool true] 130 true),
  (3150, .cells (u8s [120]) 5 false),
  (13185, .cells (u8s [120]) 5 false),
  (13245, .cells (u8s [97, 98, 99, 0]) 5 false),
  (13275, .cells (u8s [97, 98, 99, 0]) 5 false),
  (13576, .cells [.slice (some ⟨14088, 0, none⟩) 256 256, .slice (some ⟨14202, 0, none⟩) 256 256, .bool true] 130 true),
  (14088, .cells (u8z 64 ++ u8s [3, 0, 0, 0, 111, 99, 116, 97, 118, 111, 48, 49, 3] ++ u8z 5 ++ u8s [6, 0, 0, 0, 1, 1, 0, 0, 0, 4] ++ u8z 36 ++ u8s [14, 118, 28, 196, 4] ++ u8z 7 ++ u8s [1, 0, 0, 0, 1] ++ u8z 4 ++ u8s [2, 1] ++ u8z 4 ++ u8s [1] ++ u8z 5 ++ u8s [3] ++ u8z 94) 5 false),
  (14255, .cells (u8s [111, 99, 116, 97, 118, 111, 45, 106] ++ u8z 5 ++ u8s [98, 0, 0, 0, 223, 178, 47, 253] ++ u8z 39 ++ u8s [138, 247, 168, 249]) 5 false)], .int .i64 (.ofNat 0), 14300, [(2, some (.cells [.int .i64 (.ofNat 100000), .int .i64 (.ofNat 23), .int .i64 (.negSucc 22), .bool false, .bool false, .map (some 1), .slice (some ⟨14291, 0, none⟩) 1 1] 61 true)),
  (14088, some (.cells (u8s [111, 99, 116, 97, 118, 111, 45, 106] ++ u8z 5 ++ u8s [98, 0, 0, 0, 223, 178, 47, 253] ++ u8z 39 ++ u8s [138, 247, 168, 249, 3, 0, 0, 0, 111, 99, 116, 97, 118, 111, 48, 49, 3] ++ u8z 5 ++ u8s [6, 0, 0, 0, 1, 1, 0, 0, 0, 4] ++ u8z 36 ++ u8s [14, 118, 28, 196, 4] ++ u8z 7 ++ u8s [1, 0, 0, 0, 1] ++ u8z 4 ++ u8s [2, 1] ++ u8z 4 ++ u8s [1] ++ u8z 5 ++ u8s [3] ++ u8z 94) 5 false)),
  (14290, some (.cells (u8s [111, 99, 116, 97, 118, 111, 45, 106] ++ u8z 5 ++ u8s [98, 0, 0, 0, 223, 178, 47, 253] ++ u8z 39 ++ u8s [138, 247, 168, 249]) 5 false)),
  (14291, some (.cells [.string ⟨#[106, 111, 117, 114, 110, 97, 108]⟩, .int .i64 (.ofNat 0), .slice (some ⟨14290, 0, none⟩) 64 64] 134 false))]⟩
theorem m23_140_ok : m23_140.ok (call evT evF k23_140 100000 m23_140.f m23_140.args m23_140.preH) = true := by kernel_rfl
theorem q23_140 : HkOk Tryz.prog (hkMemo m23_140) := hkMemo_ok evT_ok evF_ok k23_140_ok rfl m23_140_ok
noncomputable def k23_144 : Hk := hkLib
theorem k23_144_ok : HkOk Tryz.prog k23_144 := hkLib_ok
noncomputable def m23_144 : Mm :=
  ⟨142, [.agg #[.int .i64 (.ofNat 0), .bool true, .int .i64 (.ofNat 98), .int .u32 (.ofNat 4247761631)]], 14417, [], .tuple #[.slice (some ⟨14447, 0, none⟩) 64 64, .int .i64 (.ofNat 0)], 14448, [(14447, some (.cells (u8s [111, 99, 116, 97, 118, 111, 45, 106] ++ u8z 4 ++ u8s [1, 98, 0, 0, 0, 223, 178, 47, 253] ++ u8z 39 ++ u8s [86, 27, 25, 196]) 5 false))]⟩
theorem m23_144_ok : m23_144.ok (call evT evF k23_144 100000 m23_144.f m23_144.args m23_144.preH) = true := by kernel_rfl
theorem q23_144 : HkOk Tryz.prog (hkMemo m23_144) := hkMemo_ok evT_ok evF_ok k23_144_ok rfl m23_144_ok
noncomputable def k23_150 : Hk := hkLib
theorem k23_150_ok : HkOk Tryz.prog k23_150 := hkLib_ok
noncomputable def m23_150 : Mm :=
  ⟨11, [.pointer (some ⟨2, 0, none⟩), .string ⟨#[106, 111, 117, 114, 110, 97, 108]⟩, .int .i64 (.ofNat 0), .slice (some ⟨14626, 0, none⟩) 64 64], 14627, [(1, .map [⟨.string ⟨#[111, 114, 105, 103, 105, 110, 97, 108]⟩, .pointer (some ⟨32, 0, none⟩), 0⟩, ⟨.string ⟨#[115, 116, 111, 114, 101]⟩, .pointer (some ⟨412, 0, none⟩), 1⟩, ⟨.string ⟨#[116, 97, 105, 108]⟩, .pointer (some ⟨3148, 0, none⟩), 2⟩, ⟨.string ⟨#[106, 111, 117, 114, 110, 97, 108]⟩, .pointer (some ⟨13576, 0, none⟩), 3⟩] 4),
  (2, .cells [.int .i64 (.ofNat 100000), .int .i64 (.ofNat 30), .int .i64 (.negSucc 29), .bool false, .bool false, .map (some 1), .slice none 0 0] 61 true),
  (32, .cells [.slice (some ⟨13245, 0, none⟩) 4 4, .slice (some ⟨14577, 0, none⟩) 4 4, .bool true] 130 true),
  (412, .cells [.slice (some ⟨13047, 0, none⟩) 1792 1792, .slice (some ⟨13171, 0, none⟩) 1792 1792, .bool true] 130 true),
  (3148, .cells [.slice (some ⟨3150, 0, none⟩) 1 1, .slice (some ⟨13185, 0, none⟩) 1 1, .bool true] 130 true),
  (3150, .cells (u8s [120]) 5 false),
  (13185, .cells (u8s [120]) 5 false),
  (13245, .cells (u8s [120, 97, 98, 99]) 5 false),
  (13576, .cells [.slice (some ⟨14088, 0, none⟩) 256 256, .slice (some ⟨14493, 0, none⟩) 256 256, .bool true] 130 true),
  (14088, .cells (u8s [111, 99, 116, 97, 118, 111, 45, 106] ++ u8z 4 ++ u8s [1, 98, 0, 0, 0, 223, 178, 47, 253] ++ u8z 39 ++ u8s [86, 27, 25, 196, 3, 0, 0, 0, 111, 99, 116, 97, 118, 111, 48, 49, 3] ++ u8z 5 ++ u8s [6, 0, 0, 0, 1, 1, 0, 0, 0, 4] ++ u8z 36 ++ u8s [14, 118, 28, 196, 4] ++ u8z 7 ++ u8s [1, 0, 0, 0, 1] ++ u8z 4 ++ u8s [2, 1] ++ u8z 4 ++ u8s [1] ++ u8z 5 ++ u8s [3] ++ u8z 30 ++ u8s [120, 97, 98, 99] ++ u8z 60) 5 false),
  (14577, .cells (u8s [120, 97, 98, 99]) 5 false),
  (14626, .cells (u8s [111, 99, 116, 97, 118, 111, 45, 106, 1] ++ u8z 4 ++ u8s [98, 0, 0, 0, 223, 178, 47, 253] ++ u8z 39 ++ u8s [135, 11, 100, 144]) 5 false)], .int .i64 (.ofNat 0), 14671, [(2, some (.cells [.int .i64 (.ofNat 100000), .int .i64 (.ofNat 31), .int .i64 (.negSucc 30), .bool false, .bool false, .map (some 1), .slice (some ⟨14662, 0, none⟩) 1 1] 61 true)),
  (14088, some (.cells (u8s [111, 99, 116, 97, 118, 111, 45, 106, 1] ++ u8z 4 ++ u8s [98, 0, 0, 0, 223, 178, 47, 253] ++ u8z 39 ++ u8s [135, 11, 100, 144, 3, 0, 0, 0, 111, 99, 116, 97, 118, 111, 48, 49, 3] ++ u8z 5 ++ u8s [6, 0, 0, 0, 1, 1, 0, 0, 0, 4] ++ u8z 36 ++ u8s [14, 118, 28, 196, 4] ++ u8z 7 ++ u8s [1, 0, 0, 0, 1] ++ u8z 4 ++ u8s [2, 1] ++ u8z 4 ++ u8s [1] ++ u8z 5 ++ u8s [3] ++ u8z 30 ++ u8s [120, 97, 98, 99] ++ u8z 60) 5 false)),
  (14661, some (.cells (u8s [111, 99, 116, 97, 118, 111, 45, 106, 1] ++ u8z 4 ++ u8s [98, 0, 0, 0, 223, 178, 47, 253] ++ u8z 39 ++ u8s [135, 11, 100, 144]) 5 false)),
  (14662, some (.cells [.string ⟨#[106, 111, 117, 114, 110, 97, 108]⟩, .int .i64 (.ofNat 0), .slice (some ⟨14661, 0, none⟩) 64 64] 134 false))]⟩
theorem m23_150_ok : m23_150.ok (call evT evF k23_150 100000 m23_150.f m23_150.args m23_150.preH) = true := by kernel_rfl
theorem q23_150 : HkOk Tryz.prog (hkMemo m23_150) := hkMemo_ok evT_ok evF_ok k23_150_ok rfl m23_150_ok
noncomputable def k23_152 : Hk := hkLib
theorem k23_152_ok : HkOk Tryz.prog k23_152 := hkLib_ok
noncomputable def m23_152 : Mm :=
  ⟨113, [.agg #[.int .i64 (.ofNat 3), .int .i64 (.ofNat 6), .int .i64 (.ofNat 1), .int .i64 (.ofNat 1), .int .i64 (.ofNat 4)]], 14688, [], .tuple #[.slice (some ⟨14711, 0, none⟩) 64 64, .int .i64 (.ofNat 0)], 14712, [(14711, some (.cells (u8s [111, 99, 116, 97, 118, 111, 48, 49, 3] ++ u8z 5 ++ u8s [6, 0, 0, 0, 1, 1, 0, 0, 0, 4] ++ u8z 36 ++ u8s [14, 118, 28, 196]) 5 false))]⟩
theorem m23_152_ok : m23_152.ok (call evT evF k23_152 100000 m23_152.f m23_152.args m23_152.preH) = true := by kernel_rfl
theorem q23_152 : HkOk Tryz.prog (hkMemo m23_152) := hkMemo_ok evT_ok evF_ok k23_152_ok rfl m23_152_ok
noncomputable def k23_153 : Hk := hkLib
theorem k23_153_ok : HkOk Tryz.prog k23_153 := hkLib_ok
noncomputable def m23_153 : Mm :=
  ⟨11, [.pointer (some ⟨2, 0, none⟩), .string ⟨#[115, 116, 111, 114, 101]⟩, .int .i64 (.ofNat 64), .slice (some ⟨14711, 0, none⟩) 64 64], 14726, [(1, .map [⟨.string ⟨#[111, 114, 105, 103, 105, 110, 97, 108]⟩, .pointer (some ⟨32, 0, none⟩), 0⟩, ⟨.string ⟨#[115, 116, 111, 114, 101]⟩, .pointer (some ⟨412, 0, none⟩), 1⟩, ⟨.string ⟨#[116, 97, 105, 108]⟩, .pointer (some ⟨3148, 0, none⟩), 2⟩, ⟨.string ⟨#[106, 111, 117, 114, 110, 97, 108]⟩, .pointer (some ⟨13576, 0, none⟩), 3⟩] 4),
  (2, .cells [.int .i64 (.ofNat 100000), .int .i64 (.ofNat 33), .int .i64 (.negSucc 32), .bool false, .bool false, .map (some 1), .slice none 0 0] 61 true),
  (32, .cells [.slice (some ⟨13245, 0, none⟩) 4 4, .slice (some ⟨14687, 0, none⟩) 4 4, .bool true] 130 true),
  (412, .cells [.slice (some ⟨13047, 0, none⟩) 1792 1792, .slice (some ⟨13171, 0, none⟩) 1792 1792, .bool true] 130 true),
  (3148, .cells [.slice (some ⟨3150, 0, none⟩) 1 1, .slice (some ⟨13185, 0, none⟩) 1 1, .bool true] 130 true),
  (3150, .cells (u8s [120]) 5 false),
  (13047, .cells (u8s [111, 99, 116, 97, 118, 111, 48, 49, 2] ++ u8z 5 ++ u8s [4, 0, 0, 0, 1, 1, 0, 0, 0, 3] ++ u8z 36 ++ u8s [250, 212, 113, 102, 111, 99, 116, 97, 118, 111, 48, 49, 1] ++ u8z 5 ++ u8s [2] ++ u8z 8 ++ u8s [3] ++ u8z 36 ++ u8s [137, 155, 206, 78] ++ u8z 128 ++ u8s [1, 0, 14, 0, 1, 0, 0, 0, 194, 105, 111, 233, 1] ++ u8z 5 ++ u8s [3, 0, 0, 0, 255, 255, 255, 255] ++ u8z 230 ++ u8s [1, 0, 14, 0, 2, 0, 0, 0, 54, 213, 233, 1, 1, 0, 1, 0, 0, 0, 3, 0, 0, 0, 255, 255, 255, 255] ++ u8z 230 ++ u8s [1, 0, 27, 0, 3, 0, 0, 0, 50, 165, 25, 235, 2, 1] ++ u8z 4 ++ u8s [1] ++ u8z 12 ++ u8s [3, 0, 0, 0, 255, 255, 255, 255] ++ u8z 217 ++ u8s [3, 0, 17, 0, 4, 0, 0, 0, 199, 184, 67, 119, 2, 1, 0, 0, 0, 3, 0, 0, 0, 3, 0, 0, 0, 4] ++ u8z 230 ++ u8s [1, 0, 14, 0, 5, 0, 0, 0, 64, 196, 222, 82, 1] ++ u8z 5 ++ u8s [4, 0, 0, 0, 255, 255, 255, 255] ++ u8z 230 ++ u8s [3, 0, 17, 0, 6, 0, 0, 0, 34, 46, 224, 217, 2, 2, 0, 0, 0, 3, 0, 0, 0, 5, 0, 0, 0, 4] ++ u8z 230) 5 false),
  (13185, .cells (u8s [120]) 5 false),
  (13245, .cells (u8s [120, 97, 98, 99]) 5 false),
  (13576, .cells [.slice (some ⟨14088, 0, none⟩) 256 256, .slice (some ⟨14672, 0, none⟩) 256 256, .bool true] 130 true),
  (14687, .cells (u8s [120, 97, 98, 99]) 5 false),
  (14711, .cells (u8s [111, 99, 116, 97, 118, 111, 48, 49, 3] ++ u8z 5 ++ u8s [6, 0, 0, 0, 1, 1, 0, 0, 0, 4] ++ u8z 36 ++ u8s [14, 118, 28, 196]) 5 false)], .int .i64 (.ofNat 0), 14770, [(2, some (.cells [.int .i64 (.ofNat 100000), .int .i64 (.ofNat 34), .int .i64 (.negSucc 33), .bool false, .bool false, .map (some 1), .slice (some ⟨14761, 0, none⟩) 1 1] 61 true)),
  (13047, some (.cells (u8s [111, 99, 116, 97, 118, 111, 48, 49, 2] ++ u8z 5 ++ u8s [4, 0, 0, 0, 1, 1, 0, 0, 0, 3] ++ u8z 36 ++ u8s [250, 212, 113, 102, 111, 99, 116, 97, 118, 111, 48, 49, 3] ++ u8z 5 ++ u8s [6, 0, 0, 0, 1, 1, 0, 0, 0, 4] ++ u8z 36 ++ u8s [14, 118, 28, 196] ++ u8z 128 ++ u8s [1, 0, 14, 0, 1, 0, 0, 0, 194, 105, 111, 233, 1] ++ u8z 5 ++ u8s [3, 0, 0, 0, 255, 255, 255, 255] ++ u8z 230 ++ u8s [1, 0, 14, 0, 2, 0, 0, 0, 54, 213, 233, 1, 1, 0, 1, 0, 0, 0, 3, 0, 0, 0, 255, 255, 255, 255] ++ u8z 230 ++ u8s [1, 0, 27, 0, 3, 0, 0, 0, 50, 165, 25, 235, 2, 1] ++ u8z 4 ++ u8s [1] ++ u8z 12 ++ u8s [3, 0, 0, 0, 255, 255, 255, 255] ++ u8z 217 ++ u8s [3, 0, 17, 0, 4, 0, 0, 0, 199, 184, 67, 119, 2, 1, 0, 0, 0, 3, 0, 0, 0, 3, 0, 0, 0, 4] ++ u8z 230 ++ u8s [1, 0, 14, 0, 5, 0, 0, 0, 64, 196, 222, 82, 1] ++ u8z 5 ++ u8s [4, 0, 0, 0, 255, 255, 255, 255] ++ u8z 230 ++ u8s [3, 0, 17, 0, 6, 0, 0, 0, 34, 46, 224, 217, 2, 2, 0, 0, 0, 3, 0, 0, 0, 5, 0, 0, 0, 4] ++ u8z 230) 5 false)),
  (14760, some (.cells (u8s [111, 99, 116, 97, 118, 111, 48, 49, 3] ++ u8z 5 ++ u8s [6, 0, 0, 0, 1, 1, 0, 0, 0, 4] ++ u8z 36 ++ u8s [14, 118, 28, 196]) 5 false)),
  (14761, some (.cells [.string ⟨#[115, 116, 111, 114, 101]⟩, .int .i64 (.ofNat 64), .slice (some ⟨14760, 0, none⟩) 64 64] 134 false))]⟩
theorem m23_153_ok : m23_153.ok (call evT evF k23_153 100000 m23_153.f m23_153.args m23_153.preH) = true := by kernel_rfl
theorem q23_153 : HkOk Tryz.prog (hkMemo m23_153) := hkMemo_ok evT_ok evF_ok k23_153_ok rfl m23_153_ok
noncomputable def k23_157 : Hk := hkLib
theorem k23_157_ok : HkOk Tryz.prog k23_157 := hkLib_ok
noncomputable def m23_157 : Mm :=
  ⟨283, [.int .i64 (.ofNat 1), .slice (some ⟨15056, 0, none⟩) 14 14], 15098, [(15056, .cells (u8s [1, 0, 1, 0, 0, 0, 3, 0, 0, 0, 255, 255, 255, 255]) 5 false)], .tuple #[.agg #[.bool true, .slice (some ⟨15272, 0, none⟩) 1 1, .slice none 0 0], .int .i64 (.ofNat 0)], 15287, [(15272, some (.cells [.int .i64 (.ofNat 0), .int .i64 (.ofNat 1), .int .i64 (.ofNat 3), .int .i64 (.negSucc 0)] 147 false))]⟩
theorem m23_157_ok : m23_157.ok (call evT evF k23_157 100000 m23_157.f m23_157.args m23_157.preH) = true := by kernel_rfl
theorem q23_157 : HkOk Tryz.prog (hkMemo m23_157) := hkMemo_ok evT_ok evF_ok k23_157_ok rfl m23_157_ok
noncomputable def k23_159 : Hk := hkLib
theorem k23_159_ok : HkOk Tryz.prog k23_159 := hkLib_ok
noncomputable def m23_159 : Mm :=
  ⟨184, [.pointer (some ⟨15353, 0, none⟩), .int .i64 (.ofNat 230)], 15543, [(15352, .cells (u8s [1, 0, 14, 0, 5, 0, 0, 0, 64, 196, 222, 82, 1] ++ u8z 5 ++ u8s [4, 0, 0, 0, 255, 255, 255, 255] ++ u8z 230) 5 false),
  (15353, .cells [.slice (some ⟨15352, 0, none⟩) 256 256, .int .i64 (.ofNat 26)] 360 true)], .int .i64 (.ofNat 0), 15572, [(15353, some (.cells [.slice (some ⟨15352, 0, none⟩) 256 256, .int .i64 (.ofNat 256)] 360 true))]⟩
theorem m23_159_ok : m23_159.ok (call evT evF k23_159 100000 m23_159.f m23_159.args m23_159.preH) = true := by kernel_rfl
theorem q23_159 : HkOk Tryz.prog (hkMemo m23_159) := hkMemo_ok evT_ok evF_ok k23_159_ok rfl m23_159_ok
noncomputable def k23_176 : Hk := hkLib
theorem k23_176_ok : HkOk Tryz.prog k23_176 := hkLib_ok
noncomputable def m23_176 : Mm :=
  ⟨357, [.int .i64 (.ofNat 5), .int .i64 (.ofNat 1), .slice (some ⟨19096, 0, none⟩) 14 14], 19097, [(19096, .cells (u8s [1] ++ u8z 5 ++ u8s [4, 0, 0, 0, 255, 255, 255, 255]) 5 false)], .tuple #[.slice (some ⟨19626, 0, none⟩) 256 256, .int .i64 (.ofNat 0)], 19627, [(19626, some (.cells (u8s [1, 0, 14, 0, 5, 0, 0, 0, 64, 196, 222, 82, 1] ++ u8z 5 ++ u8s [4, 0, 0, 0, 255, 255, 255, 255] ++ u8z 230) 5 false))]⟩
theorem m23_176_ok : m23_176.ok (call evT evF k23_176 100000 m23_176.f m23_176.args m23_176.preH) = true := by kernel_rfl
theorem q23_176 : HkOk Tryz.prog (hkMemo m23_176) := hkMemo_ok evT_ok evF_ok k23_176_ok rfl m23_176_ok
end Go.Proofs.YtjclpdlijblpjaaGreat
