/-
  Calls that were reckoned out, one by one. Printed by a program.
-/
import Derived.Test.YtjclpdlijblpjaaGreatEvl
namespace Go.Proofs.YtjclpdlijblpjaaGreat
open Go.Ev
set_option maxRecDepth 1000000
noncomputable def k23_0 : Hk := hkLib
theorem k23_0_ok : HkOk Tryz.prog k23_0 := hkLib_ok
noncomputable def m23_0 : Mm :=
  ⟨340, [.agg #[.bool true, .slice (some ⟨129, 0, none⟩) 1 1, .slice none 0 0]], 137, [(129, .cells [.int .i64 (.ofNat 0), .int .i64 (.ofNat 0), .int .i64 (.ofNat 3), .int .i64 (.negSucc 0)] 147 false)], .tuple #[.int .i64 (.ofNat 1), .slice (some ⟨180, 0, none⟩) 14 14, .int .i64 (.ofNat 0)], 181, [(180, some (.cells (u8s [1] ++ u8z 5 ++ u8s [3, 0, 0, 0, 255, 255, 255, 255]) 5 false))]⟩
theorem m23_0_ok : m23_0.ok (call evT evF k23_0 100000 m23_0.f m23_0.args m23_0.preH) = true := by kernel_rfl
theorem q23_0 : HkOk Tryz.prog (hkMemo m23_0) := hkMemo_ok evT_ok evF_ok k23_0_ok rfl m23_0_ok
noncomputable def k23_2 : Hk := hkLib
theorem k23_2_ok : HkOk Tryz.prog k23_2 := hkLib_ok
noncomputable def m23_2 : Mm :=
  ⟨263, [.pointer (some ⟨56, 0, none⟩), .int .i64 (.ofNat 1), .slice (some ⟨183, 0, none⟩) 256 256], 194, [(1, .map [⟨.string ⟨#[111, 114, 105, 103, 105, 110, 97, 108]⟩, .pointer (some ⟨32, 0, none⟩), 0⟩] 1),
  (2, .cells [.int .i64 (.ofNat 100000), .int .i64 (.ofNat 0), .int .i64 (.ofNat 0), .bool false, .bool false, .map (some 1), .slice none 0 0] 61 true),
  (32, .cells [.slice (some ⟨34, 0, none⟩) 3 3, .slice (some ⟨35, 0, none⟩) 3 3, .bool true] 130 true),
  (34, .cells (u8s [97, 98, 99]) 5 false),
  (35, .cells (u8s [97, 98, 99]) 5 false),
  (37, .map [] 0),
  (38, .cells [.int .i64 (.ofNat 5), .int .i64 (.ofNat 0), .int .i64 (.ofNat 0), .bool false, .pointer (some ⟨38, 1, none⟩), .pointer (some ⟨38, 1, none⟩), .map (some 37)] 357 true),
  (55, .map [] 0),
  (56, .cells [.pointer (some ⟨38, 0, none⟩), .pointer (some ⟨2, 0, none⟩), .string ⟨#[115, 116, 111, 114, 101]⟩, .int .i64 (.ofNat 5), .map (some 55), .int .i64 (.ofNat 0)] 249 true),
  (183, .cells (u8s [1, 0, 14, 0, 1, 0, 0, 0, 194, 105, 111, 233, 1] ++ u8z 5 ++ u8s [3, 0, 0, 0, 255, 255, 255, 255] ++ u8z 230) 414 true)], .int .i64 (.ofNat 0), 241, [(37, some (.map [⟨.int .i64 (.ofNat 1), .pointer (some ⟨214, 0, none⟩), 0⟩] 1)),
  (38, some (.cells [.int .i64 (.ofNat 5), .int .i64 (.ofNat 0), .int .i64 (.ofNat 0), .bool false, .pointer (some ⟨214, 0, none⟩), .pointer (some ⟨214, 0, none⟩), .map (some 37)] 357 true)),
  (55, some (.map [⟨.int .i64 (.ofNat 1), .slice (some ⟨240, 0, none⟩) 256 256, 0⟩] 1)),
  (214, some (.cells [.int .i64 (.ofNat 1), .int .i64 (.ofNat 0), .bool true, .pointer (some ⟨38, 1, none⟩), .pointer (some ⟨38, 1, none⟩)] 351 true)),
  (240, some (.cells (u8s [1, 0, 14, 0, 1, 0, 0, 0, 194, 105, 111, 233, 1] ++ u8z 5 ++ u8s [3, 0, 0, 0, 255, 255, 255, 255] ++ u8z 230) 5 false))]⟩
theorem m23_2_ok : m23_2.ok (call evT evF k23_2 100000 m23_2.f m23_2.args m23_2.preH) = true := by kernel_rfl
theorem q23_2 : HkOk Tryz.prog (hkMemo m23_2) := hkMemo_ok evT_ok evF_ok k23_2_ok rfl m23_2_ok
noncomputable def k23_5 : Hk := hkLib
theorem k23_5_ok : HkOk Tryz.prog k23_5 := hkLib_ok
noncomputable def m23_5 : Mm :=
  ⟨262, [.int .i64 (.ofNat 2), .int .i64 (.ofNat 3), .slice (some ⟨304, 0, none⟩) 9 9], 308, [(304, .cells (u8s [1, 1, 0, 0, 0, 3, 0, 0, 0]) 5 false)], .tuple #[.slice (some ⟨308, 0, none⟩) 256 256, .int .i64 (.ofNat 0)], 319, [(308, some (.cells (u8s [3, 0, 9, 0, 2, 0, 0, 0, 68, 252, 163, 153, 1, 1, 0, 0, 0, 3] ++ u8z 238) 414 true))]⟩
theorem m23_5_ok : m23_5.ok (call evT evF k23_5 100000 m23_5.f m23_5.args m23_5.preH) = true := by kernel_rfl
theorem q23_5 : HkOk Tryz.prog (hkMemo m23_5) := hkMemo_ok evT_ok evF_ok k23_5_ok rfl m23_5_ok
noncomputable def k23_23 : Hk := hkLib
theorem k23_23_ok : HkOk Tryz.prog k23_23 := hkLib_ok
noncomputable def m23_23 : Mm :=
  ⟨122, [.pointer (some ⟨62, 0, none⟩), .agg #[.int .i64 (.ofNat 1), .int .i64 (.ofNat 2), .int .i64 (.ofNat 0), .int .i64 (.ofNat 0), .int .i64 (.ofNat 3)], .slice (some ⟨277, 0, none⟩) 1 1, .slice (some ⟨2909, 0, none⟩) 1 1], 2992, [(1, .map [⟨.string ⟨#[111, 114, 105, 103, 105, 110, 97, 108]⟩, .pointer (some ⟨32, 0, none⟩), 0⟩, ⟨.string ⟨#[115, 116, 111, 114, 101]⟩, .pointer (some ⟨412, 0, none⟩), 1⟩] 2),
  (2, .cells [.int .i64 (.ofNat 100000), .int .i64 (.ofNat 6), .int .i64 (.negSucc 5), .bool false, .bool false, .map (some 1), .slice none 0 0] 61 true),
  (32, .cells [.slice (some ⟨34, 0, none⟩) 3 3, .slice (some ⟨35, 0, none⟩) 3 3, .bool true] 130 true),
  (34, .cells (u8s [97, 98, 99]) 5 false),
  (35, .cells (u8s [97, 98, 99]) 5 false),
  (37, .map [⟨.int .i64 (.ofNat 1), .pointer (some ⟨214, 0, none⟩), 0⟩, ⟨.int .i64 (.ofNat 2), .pointer (some ⟨339, 0, none⟩), 1⟩] 2),
  (38, .cells [.int .i64 (.ofNat 5), .int .i64 (.ofNat 0), .int .i64 (.ofNat 0), .bool false, .pointer (some ⟨214, 0, none⟩), .pointer (some ⟨339, 0, none⟩), .map (some 37)] 357 true),
  (55, .map [⟨.int .i64 (.ofNat 1), .slice (some ⟨240, 0, none⟩) 256 256, 0⟩, ⟨.int .i64 (.ofNat 2), .slice (some ⟨365, 0, none⟩) 256 256, 1⟩] 2),
  (56, .cells [.pointer (some ⟨38, 0, none⟩), .pointer (some ⟨2, 0, none⟩), .string ⟨#[115, 116, 111, 114, 101]⟩, .int .i64 (.ofNat 5), .map (some 55), .int .i64 (.ofNat 0)] 249 true),
  (57, .map [⟨.int .i64 (.ofNat 1), .bool true, 0⟩, ⟨.int .i64 (.ofNat 2), .bool true, 1⟩] 2),
  (58, .map [] 0),
  (59, .cells [.int .i64 (.ofNat 1), .map (some 57), .map (some 58), .slice (some ⟨307, 0, none⟩) 2 2] 214 true),
  (60, .cells [.pointer (some ⟨56, 0, none⟩), .pointer (some ⟨59, 0, none⟩)] 257 true),
  (62, .cells [.pointer (some ⟨56, 0, none⟩), .pointer (some ⟨59, 0, none⟩), .pointer (some ⟨60, 0, none⟩), .pointer (some ⟨2, 0, none⟩), .pointer (some ⟨72, 0, none⟩), .pointer none, .slice none 0 0, .int .i64 (.ofNat 0), .int .i64 (.ofNat 0), .int .i64 (.ofNat 0), .int .i64 (.ofNat 0), .int .i64 (.ofNat 0), .int .i64 (.ofNat 3), .int .i64 (.ofNat 0), .int .i64 (.ofNat 0), .int .i64 (.ofNat 0), .int .i64 (.ofNat 0), .int .i64 (.ofNat 0), .slice none 0 0] 85 true),
  (72, .cells [.pointer (some ⟨2, 0, none⟩), .int .i64 (.ofNat 0)] 216 true),
  (214, .cells [.int .i64 (.ofNat 1), .int .i64 (.ofNat 0), .bool false, .pointer (some ⟨339, 0, none⟩), .pointer (some ⟨38, 1, none⟩)] 351 true),
  (277, .cells [.int .i64 (.ofNat 1), .int .i64 (.ofNat 3)] 119 true),
  (307, .cells [.int .i64 (.ofNat 1), .int .i64 (.ofNat 2)] 3 false),
  (339, .cells [.int .i64 (.ofNat 2), .int .i64 (.ofNat 0), .bool false, .pointer (some ⟨38, 1, none⟩), .pointer (some ⟨214, 0, none⟩)] 351 true),
  (412, .cells [.slice (some ⟨2254, 0, none⟩) 768 768, .slice (some ⟨2990, 0, none⟩) 768 768, .bool true] 130 true),
  (2909, .cells [.int .i64 (.ofNat 1)] 3 false)], .int .i64 (.ofNat 0), 3054, [(57, some (.map [⟨.int .i64 (.ofNat 2), .bool true, 2⟩, ⟨.int .i64 (.ofNat 1), .bool true, 3⟩] 4)),
  (59, some (.cells [.int .i64 (.ofNat 1), .map (some 57), .map (some 58), .slice none 0 0] 214 true)),
  (62, some (.cells [.pointer (some ⟨56, 0, none⟩), .pointer (some ⟨59, 0, none⟩), .pointer (some ⟨60, 0, none⟩), .pointer (some ⟨2, 0, none⟩), .pointer (some ⟨72, 0, none⟩), .pointer (some ⟨3026, 0, none⟩), .slice (some ⟨3037, 0, none⟩) 1 1, .int .i64 (.ofNat 0), .int .i64 (.ofNat 1), .int .i64 (.ofNat 2), .int .i64 (.ofNat 0), .int .i64 (.ofNat 0), .int .i64 (.ofNat 3), .int .i64 (.ofNat 0), .int .i64 (.ofNat 0), .int .i64 (.ofNat 0), .int .i64 (.ofNat 0), .int .i64 (.ofNat 0), .slice (some ⟨2909, 0, none⟩) 1 1] 85 true)),
  (3005, some (.map [] 0)),
  (3006, some (.cells [.pointer (some ⟨2, 0, none⟩), .string ⟨#[111, 114, 105, 103, 105, 110, 97, 108]⟩, .int .i64 (.ofNat 3), .int .i64 (.ofNat 0), .map (some 3005)] 372 true)),
  (3026, some (.cells [.pointer (some ⟨60, 0, none⟩), .pointer (some ⟨3006, 0, none⟩), .pointer (some ⟨72, 0, none⟩)] 233 true)),
  (3037, some (.cells [.int .i64 (.ofNat 1), .int .i64 (.ofNat 3)] 119 false))]⟩
theorem m23_23_ok : m23_23.ok (call evT evF k23_23 100000 m23_23.f m23_23.args m23_23.preH) = true := by kernel_rfl
theorem q23_23 : HkOk Tryz.prog (hkMemo m23_23) := hkMemo_ok evT_ok evF_ok k23_23_ok rfl m23_23_ok
noncomputable def k23_32 : Hk := hkLib
theorem k23_32_ok : HkOk Tryz.prog k23_32 := hkLib_ok
noncomputable def m23_32 : Mm :=
  ⟨283, [.int .i64 (.ofNat 1), .slice (some ⟨3462, 0, none⟩) 14 14], 3504, [(3462, .cells (u8s [1] ++ u8z 5 ++ u8s [3, 0, 0, 0, 255, 255, 255, 255]) 5 false)], .tuple #[.agg #[.bool true, .slice (some ⟨3678, 0, none⟩) 1 1, .slice none 0 0], .int .i64 (.ofNat 0)], 3693, [(3678, some (.cells [.int .i64 (.ofNat 0), .int .i64 (.ofNat 0), .int .i64 (.ofNat 3), .int .i64 (.negSucc 0)] 147 false))]⟩
theorem m23_32_ok : m23_32.ok (call evT evF k23_32 100000 m23_32.f m23_32.args m23_32.preH) = true := by kernel_rfl
theorem q23_32 : HkOk Tryz.prog (hkMemo m23_32) := hkMemo_ok evT_ok evF_ok k23_32_ok rfl m23_32_ok
noncomputable def k23_35 : Hk := hkLib
theorem k23_35_ok : HkOk Tryz.prog k23_35 := hkLib_ok
noncomputable def m23_35 : Mm :=
  ⟨184, [.pointer (some ⟨3780, 0, none⟩), .int .i64 (.ofNat 230)], 3970, [(3779, .cells (u8s [1, 0, 14, 0, 1, 0, 0, 0, 194, 105, 111, 233, 1] ++ u8z 5 ++ u8s [3, 0, 0, 0, 255, 255, 255, 255] ++ u8z 230) 5 false),
  (3780, .cells [.slice (some ⟨3779, 0, none⟩) 256 256, .int .i64 (.ofNat 26)] 360 true)], .int .i64 (.ofNat 0), 3999, [(3780, some (.cells [.slice (some ⟨3779, 0, none⟩) 256 256, .int .i64 (.ofNat 256)] 360 true))]⟩
theorem m23_35_ok : m23_35.ok (call evT evF k23_35 100000 m23_35.f m23_35.args m23_35.preH) = true := by kernel_rfl
theorem q23_35 : HkOk Tryz.prog (hkMemo m23_35) := hkMemo_ok evT_ok evF_ok k23_35_ok rfl m23_35_ok
noncomputable def k23_39 : Hk := hkLib
theorem k23_39_ok : HkOk Tryz.prog k23_39 := hkLib_ok
noncomputable def m23_39 : Mm :=
  ⟨165, [.slice (some ⟨4211, 0, none⟩) 3 3], 4212, [(3193, .cells [.int .i64 (.ofNat 1), .int .i64 (.ofNat 0), .int .i64 (.ofNat 1), .int .i64 (.ofNat 0)] 147 false),
  (4210, .cells [.int .i64 (.ofNat 0), .int .i64 (.ofNat 0), .int .i64 (.ofNat 3), .int .i64 (.negSucc 0)] 147 true),
  (4211, .cells [.slice none 0 0, .slice (some ⟨3193, 0, none⟩) 1 1, .slice (some ⟨4210, 0, none⟩) 1 1] 157 true)], .slice (some ⟨4283, 0, none⟩) 2 2, 4284, [(4283, some (.cells [.int .i64 (.ofNat 1), .int .i64 (.ofNat 0), .int .i64 (.ofNat 1), .int .i64 (.ofNat 0), .int .i64 (.ofNat 0), .int .i64 (.ofNat 0), .int .i64 (.ofNat 3), .int .i64 (.negSucc 0)] 147 false))]⟩
theorem m23_39_ok : m23_39.ok (call evT evF k23_39 100000 m23_39.f m23_39.args m23_39.preH) = true := by kernel_rfl
theorem q23_39 : HkOk Tryz.prog (hkMemo m23_39) := hkMemo_ok evT_ok evF_ok k23_39_ok rfl m23_39_ok
noncomputable def k23_48 : Hk := hkLib
theorem k23_48_ok : HkOk Tryz.prog k23_48 := hkLib_ok
noncomputable def m23_48 : Mm :=
  ⟨228, [.agg #[.bool true, .slice (some ⟨4283, 0, none⟩) 2 2, .slice none 0 0]], 4972, [(4283, .cells [.int .i64 (.ofNat 1), .int .i64 (.ofNat 0), .int .i64 (.ofNat 1), .int .i64 (.ofNat 0), .int .i64 (.ofNat 0), .int .i64 (.ofNat 0), .int .i64 (.ofNat 3), .int .i64 (.negSucc 0)] 147 false)], .tuple #[.int .i64 (.ofNat 4), .int .i64 (.negSucc 0), .int .i64 (.ofNat 2)], 5017, []⟩
theorem m23_48_ok : m23_48.ok (call evT evF k23_48 100000 m23_48.f m23_48.args m23_48.preH) = true := by kernel_rfl
theorem q23_48 : HkOk Tryz.prog (hkMemo m23_48) := hkMemo_ok evT_ok evF_ok k23_48_ok rfl m23_48_ok
noncomputable def k23_59 : Hk := hkLib
theorem k23_59_ok : HkOk Tryz.prog k23_59 := hkLib_ok
noncomputable def m23_59 : Mm :=
  ⟨263, [.pointer (some ⟨56, 0, none⟩), .int .i64 (.ofNat 4), .slice (some ⟨5740, 0, none⟩) 256 256], 5751, [(1, .map [⟨.string ⟨#[111, 114, 105, 103, 105, 110, 97, 108]⟩, .pointer (some ⟨32, 0, none⟩), 0⟩, ⟨.string ⟨#[115, 116, 111, 114, 101]⟩, .pointer (some ⟨412, 0, none⟩), 1⟩, ⟨.string ⟨#[116, 97, 105, 108]⟩, .pointer (some ⟨3148, 0, none⟩), 2⟩] 3),
  (2, .cells [.int .i64 (.ofNat 100000), .int .i64 (.ofNat 7), .int .i64 (.negSucc 6), .bool false, .bool false, .map (some 1), .slice (some ⟨3170, 0, none⟩) 1 1] 61 true),
  (32, .cells [.slice (some ⟨34, 0, none⟩) 3 3, .slice (some ⟨35, 0, none⟩) 3 3, .bool true] 130 true),
  (34, .cells (u8s [97, 98, 99]) 5 false),
  (35, .cells (u8s [97, 98, 99]) 5 false),
  (37, .map [⟨.int .i64 (.ofNat 1), .pointer (some ⟨214, 0, none⟩), 0⟩, ⟨.int .i64 (.ofNat 2), .pointer (some ⟨339, 0, none⟩), 1⟩, ⟨.int .i64 (.ofNat 3), .pointer (some ⟨4945, 0, none⟩), 2⟩] 3),
  (38, .cells [.int .i64 (.ofNat 5), .int .i64 (.ofNat 0), .int .i64 (.ofNat 0), .bool false, .pointer (some ⟨4945, 0, none⟩), .pointer (some ⟨339, 0, none⟩), .map (some 37)] 357 true),
  (55, .map [⟨.int .i64 (.ofNat 1), .slice (some ⟨240, 0, none⟩) 256 256, 0⟩, ⟨.int .i64 (.ofNat 2), .slice (some ⟨365, 0, none⟩) 256 256, 1⟩, ⟨.int .i64 (.ofNat 3), .slice (some ⟨4971, 0, none⟩) 256 256, 2⟩] 3),
  (56, .cells [.pointer (some ⟨38, 0, none⟩), .pointer (some ⟨2, 0, none⟩), .string ⟨#[115, 116, 111, 114, 101]⟩, .int .i64 (.ofNat 5), .map (some 55), .int .i64 (.ofNat 0)] 249 true),
  (214, .cells [.int .i64 (.ofNat 1), .int .i64 (.ofNat 0), .bool false, .pointer (some ⟨339, 0, none⟩), .pointer (some ⟨4945, 0, none⟩)] 351 true),
  (339, .cells [.int .i64 (.ofNat 2), .int .i64 (.ofNat 0), .bool false, .pointer (some ⟨38, 1, none⟩), .pointer (some ⟨214, 0, none⟩)] 351 true),
  (412, .cells [.slice (some ⟨2254, 0, none⟩) 768 768, .slice (some ⟨2990, 0, none⟩) 768 768, .bool true] 130 true),
  (3148, .cells [.slice (some ⟨3150, 0, none⟩) 1 1, .slice none 0 0, .bool false] 130 true),
  (3150, .cells (u8s [120]) 5 false),
  (3169, .cells (u8s [120]) 5 false),
  (3170, .cells [.string ⟨#[116, 97, 105, 108]⟩, .int .i64 (.ofNat 0), .slice (some ⟨3169, 0, none⟩) 1 1] 134 false),
  (4945, .cells [.int .i64 (.ofNat 3), .int .i64 (.ofNat 0), .bool true, .pointer (some ⟨214, 0, none⟩), .pointer (some ⟨38, 1, none⟩)] 351 true),
  (5740, .cells (u8s [3, 0, 17, 0, 4, 0, 0, 0, 199, 184, 67, 119, 2, 1, 0, 0, 0, 3, 0, 0, 0, 3, 0, 0, 0, 4] ++ u8z 230) 414 true)], .int .i64 (.ofNat 0), 5798, [(37, some (.map [⟨.int .i64 (.ofNat 1), .pointer (some ⟨214, 0, none⟩), 0⟩, ⟨.int .i64 (.ofNat 2), .pointer (some ⟨339, 0, none⟩), 1⟩, ⟨.int .i64 (.ofNat 3), .pointer (some ⟨4945, 0, none⟩), 2⟩, ⟨.int .i64 (.ofNat 4), .pointer (some ⟨5771, 0, none⟩), 3⟩] 4)),
  (38, some (.cells [.int .i64 (.ofNat 5), .int .i64 (.ofNat 0), .int .i64 (.ofNat 0), .bool false, .pointer (some ⟨5771, 0, none⟩), .pointer (some ⟨339, 0, none⟩), .map (some 37)] 357 true)),
  (55, some (.map [⟨.int .i64 (.ofNat 1), .slice (some ⟨240, 0, none⟩) 256 256, 0⟩, ⟨.int .i64 (.ofNat 2), .slice (some ⟨365, 0, none⟩) 256 256, 1⟩, ⟨.int .i64 (.ofNat 3), .slice (some ⟨4971, 0, none⟩) 256 256, 2⟩, ⟨.int .i64 (.ofNat 4), .slice (some ⟨5797, 0, none⟩) 256 256, 3⟩] 4)),
  (4945, some (.cells [.int .i64 (.ofNat 3), .int .i64 (.ofNat 0), .bool true, .pointer (some ⟨214, 0, none⟩), .pointer (some ⟨5771, 0, none⟩)] 351 true)),
  (5771, some (.cells [.int .i64 (.ofNat 4), .int .i64 (.ofNat 0), .bool true, .pointer (some ⟨4945, 0, none⟩), .pointer (some ⟨38, 1, none⟩)] 351 true)),
  (5797, some (.cells (u8s [3, 0, 17, 0, 4, 0, 0, 0, 199, 184, 67, 119, 2, 1, 0, 0, 0, 3, 0, 0, 0, 3, 0, 0, 0, 4] ++ u8z 230) 5 false))]⟩
theorem m23_59_ok : m23_59.ok (call evT evF k23_59 100000 m23_59.f m23_59.args m23_59.preH) = true := by kernel_rfl
theorem q23_59 : HkOk Tryz.prog (hkMemo m23_59) := hkMemo_ok evT_ok evF_ok k23_59_ok rfl m23_59_ok
noncomputable def k23_60 : Hk := hkLib
theorem k23_60_ok : HkOk Tryz.prog k23_60 := hkLib_ok
noncomputable def m23_60 : Mm :=
  ⟨67, [.slice (some ⟨2254, 0, none⟩) 768 768, .int .i64 (.ofNat 768), .slice (some ⟨4971, 0, none⟩) 256 256], 5846, [(2254, .cells (u8z 64 ++ u8s [111, 99, 116, 97, 118, 111, 48, 49, 1] ++ u8z 5 ++ u8s [2] ++ u8z 8 ++ u8s [3] ++ u8z 36 ++ u8s [137, 155, 206, 78] ++ u8z 128 ++ u8s [1, 0, 14, 0, 1, 0, 0, 0, 194, 105, 111, 233, 1] ++ u8z 5 ++ u8s [3, 0, 0, 0, 255, 255, 255, 255] ++ u8z 230 ++ u8s [3, 0, 9, 0, 2, 0, 0, 0, 68, 252, 163, 153, 1, 1, 0, 0, 0, 3] ++ u8z 238) 5 false),
  (4971, .cells (u8s [1, 0, 27, 0, 3, 0, 0, 0, 50, 165, 25, 235, 2, 1] ++ u8z 4 ++ u8s [1] ++ u8z 12 ++ u8s [3, 0, 0, 0, 255, 255, 255, 255] ++ u8z 217) 5 false)], .slice (some ⟨6357, 0, none⟩) 1024 1024, 6358, [(2254, none),
  (6357, some (.cells (u8z 64 ++ u8s [111, 99, 116, 97, 118, 111, 48, 49, 1] ++ u8z 5 ++ u8s [2] ++ u8z 8 ++ u8s [3] ++ u8z 36 ++ u8s [137, 155, 206, 78] ++ u8z 128 ++ u8s [1, 0, 14, 0, 1, 0, 0, 0, 194, 105, 111, 233, 1] ++ u8z 5 ++ u8s [3, 0, 0, 0, 255, 255, 255, 255] ++ u8z 230 ++ u8s [3, 0, 9, 0, 2, 0, 0, 0, 68, 252, 163, 153, 1, 1, 0, 0, 0, 3] ++ u8z 238 ++ u8s [1, 0, 27, 0, 3, 0, 0, 0, 50, 165, 25, 235, 2, 1] ++ u8z 4 ++ u8s [1] ++ u8z 12 ++ u8s [3, 0, 0, 0, 255, 255, 255, 255] ++ u8z 217) 5 false))]⟩
theorem m23_60_ok : m23_60.ok (call evT evF k23_60 100000 m23_60.f m23_60.args m23_60.preH) = true := by kernel_rfl
theorem q23_60 : HkOk Tryz.prog (hkMemo m23_60) := hkMemo_ok evT_ok evF_ok k23_60_ok rfl m23_60_ok
noncomputable def k23_70 : Hk := hkLib
theorem k23_70_ok : HkOk Tryz.prog k23_70 := hkLib_ok
noncomputable def m23_70 : Mm :=
  ⟨283, [.int .i64 (.ofNat 1), .slice (some ⟨7444, 0, none⟩) 14 14], 7486, [(7444, .cells (u8s [1] ++ u8z 5 ++ u8s [3, 0, 0, 0, 255, 255, 255, 255]) 5 false)], .tuple #[.agg #[.bool true, .slice (some ⟨7660, 0, none⟩) 1 1, .slice none 0 0], .int .i64 (.ofNat 0)], 7675, [(7660, some (.cells [.int .i64 (.ofNat 0), .int .i64 (.ofNat 0), .int .i64 (.ofNat 3), .int .i64 (.negSucc 0)] 147 false))]⟩
theorem m23_70_ok : m23_70.ok (call evT evF k23_70 100000 m23_70.f m23_70.args m23_70.preH) = true := by kernel_rfl
theorem q23_70 : HkOk Tryz.prog (hkMemo m23_70) := hkMemo_ok evT_ok evF_ok k23_70_ok rfl m23_70_ok
noncomputable def k23_84 : Hk := hkLib
theorem k23_84_ok : HkOk Tryz.prog k23_84 := hkLib_ok
noncomputable def m23_84 : Mm :=
  ⟨184, [.pointer (some ⟨8612, 0, none⟩), .int .i64 (.ofNat 230)], 8802, [(8611, .cells (u8s [1, 0, 14, 0, 1, 0, 0, 0, 194, 105, 111, 233, 1] ++ u8z 5 ++ u8s [3, 0, 0, 0, 255, 255, 255, 255] ++ u8z 230) 5 false),
  (8612, .cells [.slice (some ⟨8611, 0, none⟩) 256 256, .int .i64 (.ofNat 26)] 360 true)], .int .i64 (.ofNat 0), 8831, [(8612, some (.cells [.slice (some ⟨8611, 0, none⟩) 256 256, .int .i64 (.ofNat 256)] 360 true))]⟩
theorem m23_84_ok : m23_84.ok (call evT evF k23_84 100000 m23_84.f m23_84.args m23_84.preH) = true := by kernel_rfl
theorem q23_84 : HkOk Tryz.prog (hkMemo m23_84) := hkMemo_ok evT_ok evF_ok k23_84_ok rfl m23_84_ok
noncomputable def k23_88 : Hk := hkLib
theorem k23_88_ok : HkOk Tryz.prog k23_88 := hkLib_ok
noncomputable def m23_88 : Mm :=
  ⟨184, [.pointer (some ⟨9097, 0, none⟩), .int .i64 (.ofNat 217)], 9287, [(9096, .cells (u8s [1, 0, 27, 0, 3, 0, 0, 0, 50, 165, 25, 235, 2, 1] ++ u8z 4 ++ u8s [1] ++ u8z 12 ++ u8s [3, 0, 0, 0, 255, 255, 255, 255] ++ u8z 217) 5 false),
  (9097, .cells [.slice (some ⟨9096, 0, none⟩) 256 256, .int .i64 (.ofNat 39)] 360 true)], .int .i64 (.ofNat 0), 9316, [(9097, some (.cells [.slice (some ⟨9096, 0, none⟩) 256 256, .int .i64 (.ofNat 256)] 360 true))]⟩
theorem m23_88_ok : m23_88.ok (call evT evF k23_88 100000 m23_88.f m23_88.args m23_88.preH) = true := by kernel_rfl
theorem q23_88 : HkOk Tryz.prog (hkMemo m23_88) := hkMemo_ok evT_ok evF_ok k23_88_ok rfl m23_88_ok
noncomputable def k23_100 : Hk := hkLib
theorem k23_100_ok : HkOk Tryz.prog k23_100 := hkLib_ok
noncomputable def m23_100 : Mm :=
  ⟨262, [.int .i64 (.ofNat 2), .int .i64 (.ofNat 1), .slice (some ⟨10648, 0, none⟩) 14 14], 10651, [(10648, .cells (u8s [1, 0, 1, 0, 0, 0, 3, 0, 0, 0, 255, 255, 255, 255]) 5 false)], .tuple #[.slice (some ⟨10651, 0, none⟩) 256 256, .int .i64 (.ofNat 0)], 10662, [(10651, some (.cells (u8s [1, 0, 14, 0, 2, 0, 0, 0, 54, 213, 233, 1, 1, 0, 1, 0, 0, 0, 3, 0, 0, 0, 255, 255, 255, 255] ++ u8z 230) 414 true))]⟩
theorem m23_100_ok : m23_100.ok (call evT evF k23_100 100000 m23_100.f m23_100.args m23_100.preH) = true := by kernel_rfl
theorem q23_100 : HkOk Tryz.prog (hkMemo m23_100) := hkMemo_ok evT_ok evF_ok k23_100_ok rfl m23_100_ok
noncomputable def k23_101 : Hk := hkLib
theorem k23_101_ok : HkOk Tryz.prog k23_101 := hkLib_ok
noncomputable def m23_101 : Mm :=
  ⟨263, [.pointer (some ⟨56, 0, none⟩), .int .i64 (.ofNat 2), .slice (some ⟨10651, 0, none⟩) 256 256], 10662, [(1, .map [⟨.string ⟨#[111, 114, 105, 103, 105, 110, 97, 108]⟩, .pointer (some ⟨32, 0, none⟩), 0⟩, ⟨.string ⟨#[115, 116, 111, 114, 101]⟩, .pointer (some ⟨412, 0, none⟩), 1⟩, ⟨.string ⟨#[116, 97, 105, 108]⟩, .pointer (some ⟨3148, 0, none⟩), 2⟩] 3),
  (2, .cells [.int .i64 (.ofNat 100000), .int .i64 (.ofNat 13), .int .i64 (.negSucc 12), .bool false, .bool false, .map (some 1), .slice none 0 0] 61 true),
  (32, .cells [.slice (some ⟨34, 0, none⟩) 3 3, .slice (some ⟨35, 0, none⟩) 3 3, .bool true] 130 true),
  (34, .cells (u8s [97, 98, 99]) 5 false),
  (35, .cells (u8s [97, 98, 99]) 5 false),
  (37, .map [⟨.int .i64 (.ofNat 1), .pointer (some ⟨214, 0, none⟩), 0⟩, ⟨.int .i64 (.ofNat 3), .pointer (some ⟨4945, 0, none⟩), 2⟩, ⟨.int .i64 (.ofNat 4), .pointer (some ⟨5771, 0, none⟩), 3⟩] 4),
  (38, .cells [.int .i64 (.ofNat 5), .int .i64 (.ofNat 0), .int .i64 (.ofNat 0), .bool false, .pointer (some ⟨4945, 0, none⟩), .pointer (some ⟨5771, 0, none⟩), .map (some 37)] 357 true),
  (55, .map [⟨.int .i64 (.ofNat 1), .slice (some ⟨240, 0, none⟩) 256 256, 0⟩, ⟨.int .i64 (.ofNat 3), .slice (some ⟨4971, 0, none⟩) 256 256, 2⟩, ⟨.int .i64 (.ofNat 4), .slice (some ⟨5797, 0, none⟩) 256 256, 3⟩] 4),
  (56, .cells [.pointer (some ⟨38, 0, none⟩), .pointer (some ⟨2, 0, none⟩), .string ⟨#[115, 116, 111, 114, 101]⟩, .int .i64 (.ofNat 5), .map (some 55), .int .i64 (.ofNat 0)] 249 true),
  (214, .cells [.int .i64 (.ofNat 1), .int .i64 (.ofNat 0), .bool false, .pointer (some ⟨5771, 0, none⟩), .pointer (some ⟨4945, 0, none⟩)] 351 true),
  (412, .cells [.slice (some ⟨7028, 0, none⟩) 1280 1280, .slice (some ⟨8424, 0, none⟩) 1280 1280, .bool true] 130 true),
  (3148, .cells [.slice (some ⟨3150, 0, none⟩) 1 1, .slice (some ⟨7165, 0, none⟩) 1 1, .bool true] 130 true),
  (3150, .cells (u8s [120]) 5 false),
  (4945, .cells [.int .i64 (.ofNat 3), .int .i64 (.ofNat 0), .bool false, .pointer (some ⟨214, 0, none⟩), .pointer (some ⟨38, 1, none⟩)] 351 true),
  (5771, .cells [.int .i64 (.ofNat 4), .int .i64 (.ofNat 0), .bool false, .pointer (some ⟨38, 1, none⟩), .pointer (some ⟨214, 0, none⟩)] 351 true),
  (7165, .cells (u8s [120]) 5 false),
  (10651, .cells (u8s [1, 0, 14, 0, 2, 0, 0, 0, 54, 213, 233, 1, 1, 0, 1, 0, 0, 0, 3, 0, 0, 0, 255, 255, 255, 255] ++ u8z 230) 414 true)], .int .i64 (.ofNat 0), 10709, [(37, some (.map [⟨.int .i64 (.ofNat 1), .pointer (some ⟨214, 0, none⟩), 0⟩, ⟨.int .i64 (.ofNat 3), .pointer (some ⟨4945, 0, none⟩), 2⟩, ⟨.int .i64 (.ofNat 4), .pointer (some ⟨5771, 0, none⟩), 3⟩, ⟨.int .i64 (.ofNat 2), .pointer (some ⟨10682, 0, none⟩), 4⟩] 5)),
  (38, some (.cells [.int .i64 (.ofNat 5), .int .i64 (.ofNat 0), .int .i64 (.ofNat 0), .bool false, .pointer (some ⟨10682, 0, none⟩), .pointer (some ⟨5771, 0, none⟩), .map (some 37)] 357 true)),
  (55, some (.map [⟨.int .i64 (.ofNat 1), .slice (some ⟨240, 0, none⟩) 256 256, 0⟩, ⟨.int .i64 (.ofNat 3), .slice (some ⟨4971, 0, none⟩) 256 256, 2⟩, ⟨.int .i64 (.ofNat 4), .slice (some ⟨5797, 0, none⟩) 256 256, 3⟩, ⟨.int .i64 (.ofNat 2), .slice (some ⟨10708, 0, none⟩) 256 256, 4⟩] 5)),
  (4945, some (.cells [.int .i64 (.ofNat 3), .int .i64 (.ofNat 0), .bool false, .pointer (some ⟨214, 0, none⟩), .pointer (some ⟨10682, 0, none⟩)] 351 true)),
  (10682, some (.cells [.int .i64 (.ofNat 2), .int .i64 (.ofNat 0), .bool true, .pointer (some ⟨4945, 0, none⟩), .pointer (some ⟨38, 1, none⟩)] 351 true)),
  (10708, some (.cells (u8s [1, 0, 14, 0, 2, 0, 0, 0, 54, 213, 233, 1, 1, 0, 1, 0, 0, 0, 3, 0, 0, 0, 255, 255, 255, 255] ++ u8z 230) 5 false))]⟩
theorem m23_101_ok : m23_101.ok (call evT evF k23_101 100000 m23_101.f m23_101.args m23_101.preH) = true := by kernel_rfl
theorem q23_101 : HkOk Tryz.prog (hkMemo m23_101) := hkMemo_ok evT_ok evF_ok k23_101_ok rfl m23_101_ok
noncomputable def k23_104 : Hk := hkLib
theorem k23_104_ok : HkOk Tryz.prog k23_104 := hkLib_ok
noncomputable def m23_104 : Mm :=
  ⟨273, [.slice (some ⟨10269, 0, none⟩) 2 2], 10756, [(10269, .cells [.int .i64 (.ofNat 1), .int .i64 (.ofNat 0), .int .i64 (.ofNat 1), .int .i64 (.ofNat 0), .int .i64 (.ofNat 0), .int .i64 (.ofNat 3)] 145 false)], .slice (some ⟨10845, 0, none⟩) 2 2, 10859, [(10845, some (.cells [.int .i64 (.ofNat 1), .int .i64 (.ofNat 0), .int .i64 (.ofNat 1), .int .i64 (.ofNat 0), .int .i64 (.ofNat 0), .int .i64 (.ofNat 0), .int .i64 (.ofNat 3), .int .i64 (.ofNat 1)] 423 false))]⟩
theorem m23_104_ok : m23_104.ok (call evT evF k23_104 100000 m23_104.f m23_104.args m23_104.preH) = true := by kernel_rfl
theorem q23_104 : HkOk Tryz.prog (hkMemo m23_104) := hkMemo_ok evT_ok evF_ok k23_104_ok rfl m23_104_ok
noncomputable def k23_115 : Hk := hkLib
theorem k23_115_ok : HkOk Tryz.prog k23_115 := hkLib_ok
noncomputable def m23_115 : Mm :=
  ⟨275, [.slice (some ⟨11454, 0, none⟩) 2 2], 11455, [(11454, .cells [.int .i64 (.ofNat 1), .int .i64 (.ofNat 0), .int .i64 (.ofNat 1), .int .i64 (.ofNat 0), .int .i64 (.ofNat 0), .int .i64 (.ofNat 3)] 145 false)], .slice (some ⟨11519, 0, none⟩) 2 2, 11520, [(11519, some (.cells [.int .i64 (.ofNat 1), .int .i64 (.ofNat 0), .int .i64 (.ofNat 1), .int .i64 (.ofNat 0), .int .i64 (.ofNat 0), .int .i64 (.ofNat 3)] 145 false))]⟩
theorem m23_115_ok : m23_115.ok (call evT evF k23_115 100000 m23_115.f m23_115.args m23_115.preH) = true := by kernel_rfl
theorem q23_115 : HkOk Tryz.prog (hkMemo m23_115) := hkMemo_ok evT_ok evF_ok k23_115_ok rfl m23_115_ok
noncomputable def k23_125 : Hk := hkLib
theorem k23_125_ok : HkOk Tryz.prog k23_125 := hkLib_ok
noncomputable def m23_125 : Mm :=
  ⟨67, [.slice (some ⟨12376, 0, none⟩) 1536 1536, .int .i64 (.ofNat 1536), .slice (some ⟨11658, 0, none⟩) 256 256], 12536, [(11658, .cells (u8s [3, 0, 17, 0, 6, 0, 0, 0, 34, 46, 224, 217, 2, 2, 0, 0, 0, 3, 0, 0, 0, 5, 0, 0, 0, 4] ++ u8z 230) 5 false),
  (12376, .cells (u8s [111, 99, 116, 97, 118, 111, 48, 49, 2] ++ u8z 5 ++ u8s [4, 0, 0, 0, 1, 1, 0, 0, 0, 3] ++ u8z 36 ++ u8s [250, 212, 113, 102, 111, 99, 116, 97, 118, 111, 48, 49, 1] ++ u8z 5 ++ u8s [2] ++ u8z 8 ++ u8s [3] ++ u8z 36 ++ u8s [137, 155, 206, 78] ++ u8z 128 ++ u8s [1, 0, 14, 0, 1, 0, 0, 0, 194, 105, 111, 233, 1] ++ u8z 5 ++ u8s [3, 0, 0, 0, 255, 255, 255, 255] ++ u8z 230 ++ u8s [1, 0, 14, 0, 2, 0, 0, 0, 54, 213, 233, 1, 1, 0, 1, 0, 0, 0, 3, 0, 0, 0, 255, 255, 255, 255] ++ u8z 230 ++ u8s [1, 0, 27, 0, 3, 0, 0, 0, 50, 165, 25, 235, 2, 1] ++ u8z 4 ++ u8s [1] ++ u8z 12 ++ u8s [3, 0, 0, 0, 255, 255, 255, 255] ++ u8z 217 ++ u8s [3, 0, 17, 0, 4, 0, 0, 0, 199, 184, 67, 119, 2, 1, 0, 0, 0, 3, 0, 0, 0, 3, 0, 0, 0, 4] ++ u8z 230 ++ u8s [1, 0, 14, 0, 5, 0, 0, 0, 64, 196, 222, 82, 1] ++ u8z 5 ++ u8s [4, 0, 0, 0, 255, 255, 255, 255] ++ u8z 230) 5 false)], .slice (some ⟨13047, 0, none⟩) 1792 1792, 13048, [(12376, none),
  (13047, some (.cells (u8s [111, 99, 116, 97, 118, 111, 48, 49, 2] ++ u8z 5 ++ u8s [4, 0, 0, 0, 1, 1, 0, 0, 0, 3] ++ u8z 36 ++ u8s [250, 212, 113, 102, 111, 99, 116, 97, 118, 111, 48, 49, 1] ++ u8z 5 ++ u8s [2] ++ u8z 8 ++ u8s [3] ++ u8z 36 ++ u8s [137, 155, 206, 78] ++ u8z 128 ++ u8s [1, 0, 14, 0, 1, 0, 0, 0, 194, 105, 111, 233, 1] ++ u8z 5 ++ u8s [3, 0, 0, 0, 255, 255, 255, 255] ++ u8z 230 ++ u8s [1, 0, 14, 0, 2, 0, 0, 0, 54, 213, 233, 1, 1, 0, 1, 0, 0, 0, 3, 0, 0, 0, 255, 255, 255, 255] ++ u8z 230 ++ u8s [1, 0, 27, 0, 3, 0, 0, 0, 50, 165, 25, 235, 2, 1] ++ u8z 4 ++ u8s [1] ++ u8z 12 ++ u8s [3, 0, 0, 0, 255, 255, 255, 255] ++ u8z 217 ++ u8s [3, 0, 17, 0, 4, 0, 0, 0, 199, 184, 67, 119, 2, 1, 0, 0, 0, 3, 0, 0, 0, 3, 0, 0, 0, 4] ++ u8z 230 ++ u8s [1, 0, 14, 0, 5, 0, 0, 0, 64, 196, 222, 82, 1] ++ u8z 5 ++ u8s [4, 0, 0, 0, 255, 255, 255, 255] ++ u8z 230 ++ u8s [3, 0, 17, 0, 6, 0, 0, 0, 34, 46, 224, 217, 2, 2, 0, 0, 0, 3, 0, 0, 0, 5, 0, 0, 0, 4] ++ u8z 230) 5 false))]⟩
theorem m23_125_ok : m23_125.ok (call evT evF k23_125 100000 m23_125.f m23_125.args m23_125.preH) = true := by kernel_rfl
theorem q23_125 : HkOk Tryz.prog (hkMemo m23_125) := hkMemo_ok evT_ok evF_ok k23_125_ok rfl m23_125_ok
noncomputable def k23_130 : Hk := hkLib
theorem k23_130_ok : HkOk Tryz.prog k23_130 := hkLib_ok
noncomputable def m23_130 : Mm :=
  ⟨11, [.pointer (some ⟨2, 0, none⟩), .string ⟨#[111, 114, 105, 103, 105, 110, 97, 108]⟩, .int .i64 (.ofNat 3), .slice (some ⟨13224, 0, none⟩) 1 1], 13227, [(1, .map [⟨.string ⟨#[111, 114, 105, 103, 105, 110, 97, 108]⟩, .pointer (some ⟨32, 0, none⟩), 0⟩, ⟨.string ⟨#[115, 116, 111, 114, 101]⟩, .pointer (some ⟨412, 0, none⟩), 1⟩, ⟨.string ⟨#[116, 97, 105, 108]⟩, .pointer (some ⟨3148, 0, none⟩), 2⟩] 3),
  (2, .cells [.int .i64 (.ofNat 100000), .int .i64 (.ofNat 18), .int .i64 (.negSucc 17), .bool false, .bool false, .map (some 1), .slice none 0 0] 61 true),
  (32, .cells [.slice (some ⟨34, 0, none⟩) 3 3, .slice (some ⟨35, 0, none⟩) 3 3, .bool true] 130 true),
  (34, .cells (u8s [97, 98, 99]) 5 false),
  (35, .cells (u8s [97, 98, 99]) 5 false),
  (412, .cells [.slice (some ⟨13047, 0, none⟩) 1792 1792, .slice (some ⟨13171, 0, none⟩) 1792 1792, .bool true] 130 true),
  (3148, .cells [.slice (some ⟨3150, 0, none⟩) 1 1, .slice (some ⟨13185, 0, none⟩) 1 1, .bool true] 130 true),
  (3150, .cells (u8s [120]) 5 false),
  (13185, .cells (u8s [120]) 5 false),
  (13224, .cells (u8s [0]) 5 true)], .int .i64 (.ofNat 0), 13274, [(2, some (.cells [.int .i64 (.ofNat 100000), .int .i64 (.ofNat 19), .int .i64 (.negSucc 18), .bool false, .bool false, .map (some 1), .slice (some ⟨13265, 0, none⟩) 1 1] 61 true)),
  (32, some (.cells [.slice (some ⟨13245, 0, none⟩) 4 4, .slice (some ⟨35, 0, none⟩) 3 3, .bool true] 130 true)),
  (34, none),
  (13245, some (.cells (u8s [97, 98, 99, 0]) 5 false)),
  (13264, some (.cells (u8s [0]) 5 false)),
  (13265, some (.cells [.string ⟨#[111, 114, 105, 103, 105, 110, 97, 108]⟩, .int .i64 (.ofNat 3), .slice (some ⟨13264, 0, none⟩) 1 1] 134 false))]⟩
theorem m23_130_ok : m23_130.ok (call evT evF k23_130 100000 m23_130.f m23_130.args m23_130.preH) = true := by kernel_rfl
theorem q23_130 : HkOk Tryz.prog (hkMemo m23_130) := hkMemo_ok evT_ok evF_ok k23_130_ok rfl m23_130_ok
noncomputable def k23_133 : Hk := hkLib
theorem k23_133_ok : HkOk Tryz.prog k23_133 := hkLib_ok
noncomputable def m23_133 : Mm :=
  ⟨113, [.agg #[.int .i64 (.ofNat 3), .int .i64 (.ofNat 6), .int .i64 (.ofNat 1), .int .i64 (.ofNat 1), .int .i64 (.ofNat 4)]], 13458, [], .tuple #[.slice (some ⟨13481, 0, none⟩) 64 64, .int .i64 (.ofNat 0)], 13482, [(13481, some (.cells (u8s [111, 99, 116, 97, 118, 111, 48, 49, 3] ++ u8z 5 ++ u8s [6, 0, 0, 0, 1, 1, 0, 0, 0, 4] ++ u8z 36 ++ u8s [14, 118, 28, 196]) 5 false))]⟩
theorem m23_133_ok : m23_133.ok (call evT evF k23_133 100000 m23_133.f m23_133.args m23_133.preH) = true := by kernel_rfl
theorem q23_133 : HkOk Tryz.prog (hkMemo m23_133) := hkMemo_ok evT_ok evF_ok k23_133_ok rfl m23_133_ok
noncomputable def k23_142 : Hk := hkLib
theorem k23_142_ok : HkOk Tryz.prog k23_142 := hkLib_ok
noncomputable def m23_142 : Mm :=
  ⟨109, [.pointer (some ⟨8521, 0, none⟩), .agg #[.int .i64 (.ofNat 0), .slice (some ⟨11519, 0, none⟩) 2 2]], 14316, [(1, .map [⟨.string ⟨#[111, 114, 105, 103, 105, 110, 97, 108]⟩, .pointer (some ⟨32, 0, none⟩), 0⟩, ⟨.string ⟨#[115, 116, 111, 114, 101]⟩, .pointer (some ⟨412, 0, none⟩), 1⟩, ⟨.string ⟨#[116, 97, 105, 108]⟩, .pointer (some ⟨3148, 0, none⟩), 2⟩, ⟨.string ⟨#[106, 111, 117, 114, 110, 97, 108]⟩, .pointer (some ⟨13576, 0, none⟩), 3⟩] 4),
  (2, .cells [.int .i64 (.ofNat 100000), .int .i64 (.ofNat 24), .int .i64 (.negSucc 23), .bool false, .bool false, .map (some 1), .slice none 0 0] 61 true),
  (32, .cells [.slice (some ⟨13245, 0, none⟩) 4 4, .slice (some ⟨13275, 0, none⟩) 4 4, .bool true] 130 true),
  (37, .map [⟨.int .i64 (.ofNat 1), .pointer (some ⟨214, 0, none⟩), 0⟩, ⟨.int .i64 (.ofNat 3), .pointer (some ⟨4945, 0, none⟩), 2⟩, ⟨.int .i64 (.ofNat 2), .pointer (some ⟨10682, 0, none⟩), 4⟩, ⟨.int .i64 (.ofNat 5), .pointer (some ⟨11121, 0, none⟩), 5⟩, ⟨.int .i64 (.ofNat 6), .pointer (some ⟨11632, 0, none⟩), 6⟩] 7),
  (38, .cells [.int .i64 (.ofNat 5), .int .i64 (.ofNat 0), .int .i64 (.ofNat 0), .bool false, .pointer (some ⟨11632, 0, none⟩), .pointer (some ⟨214, 0, none⟩), .map (some 37)] 357 true),
  (55, .map [⟨.int .i64 (.ofNat 1), .slice (some ⟨240, 0, none⟩) 256 256, 0⟩, ⟨.int .i64 (.ofNat 3), .slice (some ⟨4971, 0, none⟩) 256 256, 2⟩, ⟨.int .i64 (.ofNat 2), .slice (some ⟨10708, 0, none⟩) 256 256, 4⟩, ⟨.int .i64 (.ofNat 5), .slice (some ⟨11147, 0, none⟩) 256 256, 5⟩, ⟨.int .i64 (.ofNat 6), .slice (some ⟨11658, 0, none⟩) 256 256, 6⟩] 7),
  (56, .cells [.pointer (some ⟨38, 0, none⟩), .pointer (some ⟨2, 0, none⟩), .string ⟨#[115, 116, 111, 114, 101]⟩, .int .i64 (.ofNat 5), .map (some 55), .int .i64 (.ofNat 0)] 249 true),
  (57, .map [⟨.int .i64 (.ofNat 4), .bool true, 6⟩, ⟨.int .i64 (.ofNat 1), .bool true, 7⟩, ⟨.int .i64 (.ofNat 3), .bool true, 8⟩, ⟨.int .i64 (.ofNat 2), .bool true, 9⟩, ⟨.int .i64 (.ofNat 5), .bool true, 10⟩, ⟨.int .i64 (.ofNat 6), .bool true, 11⟩] 12),
  (58, .map [] 0),
  (59, .cells [.int .i64 (.ofNat 1), .map (some 57), .map (some 58), .slice (some ⟨11577, 0, none⟩) 3 3] 214 true),
  (60, .cells [.pointer (some ⟨56, 0, none⟩), .pointer (some ⟨59, 0, none⟩)] 257 true),
  (72, .cells [.pointer (some ⟨2, 0, none⟩), .int .i64 (.ofNat 1)] 216 true),
  (214, .cells [.int .i64 (.ofNat 1), .int .i64 (.ofNat 0), .bool false, .pointer (some ⟨38, 1, none⟩), .pointer (some ⟨4945, 0, none⟩)] 351 true),
  (412, .cells [.slice (some ⟨13047, 0, none⟩) 1792 1792, .slice (some ⟨13171, 0, none⟩) 1792 1792, .bool true] 130 true),
  (3005, .map [] 0),
  (3006, .cells [.pointer (some ⟨2, 0, none⟩), .string ⟨#[111, 114, 105, 103, 105, 110, 97, 108]⟩, .int .i64 (.ofNat 3), .int .i64 (.ofNat 0), .map (some 3005)] 372 true),
  (3026, .cells [.pointer (some ⟨60, 0, none⟩), .pointer (some ⟨3006, 0, none⟩), .pointer (some ⟨72, 0, none⟩)] 233 true),
  (3148, .cells [.slice (some ⟨3150, 0, none⟩) 1 1, .slice (some ⟨13185, 0, none⟩) 1 1, .bool true] 130 true),
  (3150, .cells (u8s [120]) 5 false),
  (4945, .cells [.int .i64 (.ofNat 3), .int .i64 (.ofNat 0), .bool false, .pointer (some ⟨214, 0, none⟩), .pointer (some ⟨10682, 0, none⟩)] 351 true),
  (8295, .cells [.int .i64 (.ofNat 1), .int .i64 (.ofNat 3)] 3 false),
  (8437, .cells [.int .i64 (.ofNat 1), .int .i64 (.ofNat 3), .int .i64 (.ofNat 3), .int .i64 (.ofNat 4)] 119 false),
  (8521, .cells [.pointer (some ⟨2, 0, none⟩), .int .i64 (.ofNat 3), .int .i64 (.ofNat 3), .int .i64 (.ofNat 6), .int .i64 (.ofNat 1), .int .i64 (.ofNat 1), .int .i64 (.ofNat 4), .int .i64 (.ofNat 4), .slice none 0 0, .slice (some ⟨11530, 0, none⟩) 1 1, .slice none 0 0, .int .i64 (.ofNat 98), .int .u32 (.ofNat 4247761631), .pointer (some ⟨62, 0, none⟩), .slice (some ⟨10269, 0, none⟩) 2 2, .slice (some ⟨9648, 0, none⟩) 2 2, .slice (some ⟨11185, 0, none⟩) 2 2, .int .i64 (.ofNat 0), .int .i64 (.ofNat 1)] 116 true),
  (9026, .cells [.int .i64 (.ofNat 0), .int .i64 (.ofNat 0), .int .i64 (.ofNat 3)] 145 false),
  (9647, .cells [.int .i64 (.ofNat 1), .int .i64 (.ofNat 0), .int .i64 (.ofNat 1), .int .i64 (.ofNat 0), .int .i64 (.ofNat 0), .int .i64 (.ofNat 3)] 145 false),
  (9648, .cells [.slice (some ⟨9026, 0, none⟩) 1 1, .slice (some ⟨9647, 0, none⟩) 2 2] 113 false),
  (10269, .cells [.int .i64 (.ofNat 1), .int .i64 (.ofNat 0), .int .i64 (.ofNat 1), .int .i64 (.ofNat 0), .int .i64 (.ofNat 0), .int .i64 (.ofNat 3)] 145 false),
  (10682, .cells [.int .i64 (.ofNat 2), .int .i64 (.ofNat 0), .bool false, .pointer (some ⟨4945, 0, none⟩), .pointer (some ⟨11121, 0, none⟩)] 351 true),
  (11121, .cells [.int .i64 (.ofNat 5), .int .i64 (.ofNat 0), .bool false, .pointer (some ⟨10682, 0, none⟩), .pointer (some ⟨11632, 0, none⟩)] 351 true),
  (11185, .cells [.int .i64 (.ofNat 2), .int .i64 (.ofNat 3), .int .i64 (.ofNat 5), .int .i64 (.ofNat 4)] 119 false),
  (11385, .cells [.int .i64 (.ofNat 0), .slice (some ⟨11519, 0, none⟩) 2 2] 175 false),
  (11519, .cells [.int .i64 (.ofNat 1), .int .i64 (.ofNat 0), .int .i64 (.ofNat 1), .int .i64 (.ofNat 0), .int .i64 (.ofNat 0), .int .i64 (.ofNat 3)] 145 false),
  (11530, .cells [.complex .f32 11386 1] 173 false),
  (11577, .cells [.int .i64 (.ofNat 2), .int .i64 (.ofNat 5), .int .i64 (.ofNat 6)] 3 false),
  (11632, .cells [.int .i64 (.ofNat 6), .int .i64 (.ofNat 0), .bool false, .pointer (some ⟨11121, 0, none⟩), .pointer (some ⟨38, 1, none⟩)] 351 true),
  (13185, .cells (u8s [120]) 5 false),
  (13245, .cells (u8s [97, 98, 99, 0]) 5 false),
  (13275, .cells (u8s [97, 98, 99, 0]) 5 false),
  (13576, .cells [.slice (some ⟨14088, 0, none⟩) 256 256, .slice (some ⟨14301, 0, none⟩) 256 256, .bool true] 130 true)], .slice (some ⟨14352, 0, none⟩) 4 4, 14353, [(14352, some (.cells (u8s [120, 97, 98, 99]) 5 false))]⟩
theorem m23_142_ok : m23_142.ok (call evT evF k23_142 100000 m23_142.f m23_142.args m23_142.preH) = true := by kernel_rfl
theorem q23_142 : HkOk Tryz.prog (hkMemo m23_142) := hkMemo_ok evT_ok evF_ok k23_142_ok rfl m23_142_ok
noncomputable def k23_143 : Hk := hkLib
theorem k23_143_ok : HkOk Tryz.prog k23_143 := hkLib_ok
noncomputable def m23_143 : Mm :=
  ⟨11, [.pointer (some ⟨2, 0, none⟩), .string ⟨#[106, 111, 117, 114, 110, 97, 108]⟩, .int .i64 (.ofNat 192), .slice (some ⟨14352, 0, none⟩) 4 4], 14353, [(1, .map [⟨.string ⟨#[111, 114, 105, 103, 105, 110, 97, 108]⟩, .pointer (some ⟨32, 0, none⟩), 0⟩, ⟨.string ⟨#[115, 116, 111, 114, 101]⟩, .pointer (some ⟨412, 0, none⟩), 1⟩, ⟨.string ⟨#[116, 97, 105, 108]⟩, .pointer (some ⟨3148, 0, none⟩), 2⟩, ⟨.string ⟨#[106, 111, 117, 114, 110, 97, 108]⟩, .pointer (some ⟨13576, 0, none⟩), 3⟩] 4),
  (2, .cells [.int .i64 (.ofNat 100000), .int .i64 (.ofNat 24), .int .i64 (.negSucc 23), .bool false, .bool false, .map (some 1), .slice none 0 0] 61 true),
  (32, .cells [.slice (some ⟨13245, 0, none⟩) 4 4, .slice (some ⟨13275, 0, none⟩) 4 4, .bool true] 130 true),
  (412, .cells [.slice (some ⟨13047, 0, none⟩) 1792 1792, .slice (some ⟨13171, 0, none⟩) 1792 1792, .bool true] 130 true),
  (3148, .cells [.slice (some ⟨3150, 0, none⟩) 1 1, .slice (some ⟨13185, 0, none⟩) 1 1, .bool true] 130 true),
  (3150, .cells (u8s [120]) 5 false),
  (13185, .cells (u8s [120]) 5 false),
  (13245, .cells (u8s [97, 98, 99, 0]) 5 false),
  (13275, .cells (u8s [97, 98, 99, 0]) 5 false),
  (13576, .cells [.slice (some ⟨14088, 0, none⟩) 256 256, .slice (some ⟨14301, 0, none⟩) 256 256, .bool true] 130 true),
  (14088, .cells (u8s [111, 99, 116, 97, 118, 111, 45, 106] ++ u8z 5 ++ u8s [98, 0, 0, 0, 223, 178, 47, 253] ++ u8z 39 ++ u8s [138, 247, 168, 249, 3, 0, 0, 0, 111, 99, 116, 97, 118, 111, 48, 49, 3] ++ u8z 5 ++ u8s [6, 0, 0, 0, 1, 1, 0, 0, 0, 4] ++ u8z 36 ++ u8s [14, 118, 28, 196, 4] ++ u8z 7 ++ u8s [1, 0, 0, 0, 1] ++ u8z 4 ++ u8s [2, 1] ++ u8z 4 ++ u8s [1] ++ u8z 5 ++ u8s [3] ++ u8z 94) 5 false),
  (14352, .cells (u8s [120, 97, 98, 99]) 5 false)], .int .i64 (.ofNat 0), 14397, [(2, some (.cells [.int .i64 (.ofNat 100000), .int .i64 (.ofNat 25), .int .i64 (.negSucc 24), .bool false, .bool false, .map (some 1), .slice (some ⟨14388, 0, none⟩) 1 1] 61 true)),
  (14088, some (.cells (u8s [111, 99, 116, 97, 118, 111, 45, 106] ++ u8z 5 ++ u8s [98, 0, 0, 0, 223, 178, 47, 253] ++ u8z 39 ++ u8s [138, 247, 168, 249, 3, 0, 0, 0, 111, 99, 116, 97, 118, 111, 48, 49, 3] ++ u8z 5 ++ u8s [6, 0, 0, 0, 1, 1, 0, 0, 0, 4] ++ u8z 36 ++ u8s [14, 118, 28, 196, 4] ++ u8z 7 ++ u8s [1, 0, 0, 0, 1] ++ u8z 4 ++ u8s [2, 1] ++ u8z 4 ++ u8s [1] ++ u8z 5 ++ u8s [3] ++ u8z 30 ++ u8s [120, 97, 98, 99] ++ u8z 60) 5 false)),
  (14387, some (.cells (u8s [120, 97, 98, 99]) 5 false)),
  (14388, some (.cells [.string ⟨#[106, 111, 117, 114, 110, 97, 108]⟩, .int .i64 (.ofNat 192), .slice (some ⟨14387, 0, none⟩) 4 4] 134 false))]⟩
theorem m23_143_ok : m23_143.ok (call evT evF k23_143 100000 m23_143.f m23_143.args m23_143.preH) = true := by kernel_rfl
theorem q23_143 : HkOk Tryz.prog (hkMemo m23_143) := hkMemo_ok evT_ok evF_ok k23_143_ok rfl m23_143_ok
noncomputable def k23_149 : Hk := hkLib
theorem k23_149_ok : HkOk Tryz.prog k23_149 := hkLib_ok
noncomputable def m23_149 : Mm :=
  ⟨142, [.agg #[.int .i64 (.ofNat 1), .bool false, .int .i64 (.ofNat 98), .int .u32 (.ofNat 4247761631)]], 14596, [], .tuple #[.slice (some ⟨14626, 0, none⟩) 64 64, .int .i64 (.ofNat 0)], 14627, [(14626, some (.cells (u8s [111, 99, 116, 97, 118, 111, 45, 106, 1] ++ u8z 4 ++ u8s [98, 0, 0, 0, 223, 178, 47, 253] ++ u8z 39 ++ u8s [135, 11, 100, 144]) 5 false))]⟩
theorem m23_149_ok : m23_149.ok (call evT evF k23_149 100000 m23_149.f m23_149.args m23_149.preH) = true := by kernel_rfl
theorem q23_149 : HkOk Tryz.prog (hkMemo m23_149) := hkMemo_ok evT_ok evF_ok k23_149_ok rfl m23_149_ok
noncomputable def k23_161 : Hk := hkLib
theorem k23_161_ok : HkOk Tryz.prog k23_161 := hkLib_ok
noncomputable def m23_161 : Mm :=
  ⟨283, [.int .i64 (.ofNat 1), .slice (some ⟨15531, 0, none⟩) 14 14], 15573, [(15531, .cells (u8s [1] ++ u8z 5 ++ u8s [4, 0, 0, 0, 255, 255, 255, 255]) 5 false)], .tuple #[.agg #[.bool true, .slice (some ⟨15747, 0, none⟩) 1 1, .slice none 0 0], .int .i64 (.ofNat 0)], 15762, [(15747, some (.cells [.int .i64 (.ofNat 0), .int .i64 (.ofNat 0), .int .i64 (.ofNat 4), .int .i64 (.negSucc 0)] 147 false))]⟩
theorem m23_161_ok : m23_161.ok (call evT evF k23_161 100000 m23_161.f m23_161.args m23_161.preH) = true := by kernel_rfl
theorem q23_161 : HkOk Tryz.prog (hkMemo m23_161) := hkMemo_ok evT_ok evF_ok k23_161_ok rfl m23_161_ok
noncomputable def k23_164 : Hk := hkLib
theorem k23_164_ok : HkOk Tryz.prog k23_164 := hkLib_ok
noncomputable def m23_164 : Mm :=
  ⟨177, [.pointer (some ⟨62, 0, none⟩)], 15869, [(1, .map [⟨.string ⟨#[111, 114, 105, 103, 105, 110, 97, 108]⟩, .pointer (some ⟨32, 0, none⟩), 0⟩, ⟨.string ⟨#[115, 116, 111, 114, 101]⟩, .pointer (some ⟨412, 0, none⟩), 1⟩, ⟨.string ⟨#[116, 97, 105, 108]⟩, .pointer (some ⟨3148, 0, none⟩), 2⟩, ⟨.string ⟨#[106, 111, 117, 114, 110, 97, 108]⟩, .pointer (some ⟨13576, 0, none⟩), 3⟩] 4),
  (2, .cells [.int .i64 (.ofNat 100000), .int .i64 (.ofNat 37), .int .i64 (.negSucc 36), .bool false, .bool false, .map (some 1), .slice none 0 0] 61 true),
  (32, .cells [.slice (some ⟨13245, 0, none⟩) 4 4, .slice (some ⟨14687, 0, none⟩) 4 4, .bool true] 130 true),
  (37, .map [⟨.int .i64 (.ofNat 1), .pointer (some ⟨214, 0, none⟩), 0⟩, ⟨.int .i64 (.ofNat 3), .pointer (some ⟨4945, 0, none⟩), 2⟩, ⟨.int .i64 (.ofNat 2), .pointer (some ⟨10682, 0, none⟩), 4⟩, ⟨.int .i64 (.ofNat 5), .pointer (some ⟨11121, 0, none⟩), 5⟩, ⟨.int .i64 (.ofNat 6), .pointer (some ⟨11632, 0, none⟩), 6⟩] 7),
  (38, .cells [.int .i64 (.ofNat 5), .int .i64 (.ofNat 0), .int .i64 (.ofNat 0), .bool false, .pointer (some ⟨11121, 0, none⟩), .pointer (some ⟨214, 0, none⟩), .map (some 37)] 357 true),
  (55, .map [⟨.int .i64 (.ofNat 1), .slice (some ⟨240, 0, none⟩) 256 256, 0⟩, ⟨.int .i64 (.ofNat 3), .slice (some ⟨4971, 0, none⟩) 256 256, 2⟩, ⟨.int .i64 (.ofNat 2), .slice (some ⟨10708, 0, none⟩) 256 256, 4⟩, ⟨.int .i64 (.ofNat 5), .slice (some ⟨11147, 0, none⟩) 256 256, 5⟩, ⟨.int .i64 (.ofNat 6), .slice (some ⟨11658, 0, none⟩) 256 256, 6⟩] 7),
  (56, .cells [.pointer (some ⟨38, 0, none⟩), .pointer (some ⟨2, 0, none⟩), .string ⟨#[115, 116, 111, 114, 101]⟩, .int .i64 (.ofNat 5), .map (some 55), .int .i64 (.ofNat 0)] 249 true),
  (57, .map [⟨.int .i64 (.ofNat 4), .bool true, 6⟩, ⟨.int .i64 (.ofNat 1), .bool true, 7⟩, ⟨.int .i64 (.ofNat 3), .bool true, 8⟩, ⟨.int .i64 (.ofNat 2), .bool true, 9⟩, ⟨.int .i64 (.ofNat 5), .bool true, 10⟩, ⟨.int .i64 (.ofNat 6), .bool true, 11⟩] 12),
  (58, .map [] 0),
  (59, .cells [.int .i64 (.ofNat 1), .map (some 57), .map (some 58), .slice (some ⟨11577, 0, none⟩) 3 3] 214 true),
  (60, .cells [.pointer (some ⟨56, 0, none⟩), .pointer (some ⟨59, 0, none⟩)] 257 true),
  (62, .cells [.pointer (some ⟨56, 0, none⟩), .pointer (some ⟨59, 0, none⟩), .pointer (some ⟨60, 0, none⟩), .pointer (some ⟨2, 0, none⟩), .pointer (some ⟨72, 0, none⟩), .pointer (some ⟨15857, 0, none⟩), .slice (some ⟨15868, 0, none⟩) 2 2, .int .i64 (.ofNat 1), .int .i64 (.ofNat 3), .int .i64 (.ofNat 6), .int .i64 (.ofNat 1), .int .i64 (.ofNat 1), .int .i64 (.ofNat 4), .int .i64 (.ofNat 0), .int .i64 (.ofNat 0), .int .i64 (.ofNat 0), .int .i64 (.ofNat 0), .int .i64 (.ofNat 0), .slice (some ⟨15774, 0, none⟩) 2 2] 85 true),
  (72, .cells [.pointer (some ⟨2, 0, none⟩), .int .i64 (.ofNat 1)] 216 true),
  (214, .cells [.int .i64 (.ofNat 1), .int .i64 (.ofNat 0), .bool false, .pointer (some ⟨38, 1, none⟩), .pointer (some ⟨4945, 0, none⟩)] 351 true),
  (412, .cells [.slice (some ⟨13047, 0, none⟩) 1792 1792, .slice (some ⟨14771, 0, none⟩) 1792 1792, .bool true] 130 true),
  (3148, .cells [.slice (some ⟨3150, 0, none⟩) 1 1, .slice (some ⟨13185, 0, none⟩) 1 1, .bool true] 130 true),
  (3150, .cells (u8s [120]) 5 false),
  (4945, .cells [.int .i64 (.ofNat 3), .int .i64 (.ofNat 0), .bool false, .pointer (some ⟨214, 0, none⟩), .pointer (some ⟨11632, 0, none⟩)] 351 true),
  (10682, .cells [.int .i64 (.ofNat 2), .int .i64 (.ofNat 0), .bool false, .pointer (some ⟨11632, 0, none⟩), .pointer (some ⟨11121, 0, none⟩)] 351 true),
  (11121, .cells [.int .i64 (.ofNat 5), .int .i64 (.ofNat 0), .bool false, .pointer (some ⟨10682, 0, none⟩), .pointer (some ⟨38, 1, none⟩)] 351 true),
  (11577, .cells [.int .i64 (.ofNat 2), .int .i64 (.ofNat 5), .int .i64 (.ofNat 6)] 3 false),
  (11632, .cells [.int .i64 (.ofNat 6), .int .i64 (.ofNat 0), .bool false, .pointer (some ⟨4945, 0, none⟩), .pointer (some ⟨10682, 0, none⟩)] 351 true),
  (13185, .cells (u8s [120]) 5 false),
  (13245, .cells (u8s [120, 97, 98, 99]) 5 false),
  (13576, .cells [.slice (some ⟨14088, 0, none⟩) 0 256, .slice (some ⟨14775, 0, none⟩) 0 0, .bool true] 130 true),
  (14687, .cells (u8s [120, 97, 98, 99]) 5 false),
  (14775, .cells [] 5 true),
  (15774, .cells [.int .i64 (.ofNat 2), .int .i64 (.ofNat 5)] 3 false),
  (15836, .map [] 0),
  (15837, .cells [.pointer (some ⟨2, 0, none⟩), .string ⟨#[111, 114, 105, 103, 105, 110, 97, 108]⟩, .int .i64 (.ofNat 4), .int .i64 (.ofNat 0), .map (some 15836)] 372 true),
  (15857, .cells [.pointer (some ⟨60, 0, none⟩), .pointer (some ⟨15837, 0, none⟩), .pointer (some ⟨72, 0, none⟩)] 233 true),
  (15868, .cells [.int .i64 (.ofNat 2), .int .i64 (.ofNat 3), .int .i64 (.ofNat 5), .int .i64 (.ofNat 4)] 119 false)], .int .i64 (.ofNat 0), 15929, [(37, some (.map [⟨.int .i64 (.ofNat 2), .pointer (some ⟨10682, 0, none⟩), 4⟩, ⟨.int .i64 (.ofNat 5), .pointer (some ⟨11121, 0, none⟩), 5⟩, ⟨.int .i64 (.ofNat 6), .pointer (some ⟨11632, 0, none⟩), 6⟩] 7)),
  (38, some (.cells [.int .i64 (.ofNat 5), .int .i64 (.ofNat 0), .int .i64 (.ofNat 0), .bool false, .pointer (some ⟨11121, 0, none⟩), .pointer (some ⟨11632, 0, none⟩), .map (some 37)] 357 true)),
  (55, some (.map [⟨.int .i64 (.ofNat 2), .slice (some ⟨10708, 0, none⟩) 256 256, 4⟩, ⟨.int .i64 (.ofNat 5), .slice (some ⟨11147, 0, none⟩) 256 256, 5⟩, ⟨.int .i64 (.ofNat 6), .slice (some ⟨11658, 0, none⟩) 256 256, 6⟩] 7)),
  (57, some (.map [⟨.int .i64 (.ofNat 6), .bool true, 12⟩, ⟨.int .i64 (.ofNat 2), .bool true, 13⟩, ⟨.int .i64 (.ofNat 5), .bool true, 14⟩] 15)),
  (59, some (.cells [.int .i64 (.ofNat 1), .map (some 57), .map (some 58), .slice none 0 0] 214 true)),
  (4945, some (.cells [.int .i64 (.ofNat 3), .int .i64 (.ofNat 0), .bool false, .pointer (some ⟨38, 1, none⟩), .pointer (some ⟨11632, 0, none⟩)] 351 true)),
  (11632, some (.cells [.int .i64 (.ofNat 6), .int .i64 (.ofNat 0), .bool false, .pointer (some ⟨38, 1, none⟩), .pointer (some ⟨10682, 0, none⟩)] 351 true))]⟩
theorem m23_164_ok : m23_164.ok (call evT evF k23_164 100000 m23_164.f m23_164.args m23_164.preH) = true := by kernel_rfl
theorem q23_164 : HkOk Tryz.prog (hkMemo m23_164) := hkMemo_ok evT_ok evF_ok k23_164_ok rfl m23_164_ok
noncomputable def k23_169 : Hk := hkLib
theorem k23_169_ok : HkOk Tryz.prog k23_169 := hkLib_ok
noncomputable def m23_169 : Mm :=
  ⟨46, [.pointer (some ⟨2, 0, none⟩), .string ⟨#[111, 114, 105, 103, 105, 110, 97, 108]⟩], 15966, [(1, .map [⟨.string ⟨#[111, 114, 105, 103, 105, 110, 97, 108]⟩, .pointer (some ⟨32, 0, none⟩), 0⟩, ⟨.string ⟨#[115, 116, 111, 114, 101]⟩, .pointer (some ⟨412, 0, none⟩), 1⟩, ⟨.string ⟨#[116, 97, 105, 108]⟩, .pointer (some ⟨3148, 0, none⟩), 2⟩, ⟨.string ⟨#[106, 111, 117, 114, 110, 97, 108]⟩, .pointer (some ⟨13576, 0, none⟩), 3⟩] 4),
  (2, .cells [.int .i64 (.ofNat 100000), .int .i64 (.ofNat 37), .int .i64 (.negSucc 36), .bool false, .bool false, .map (some 1), .slice none 0 0] 61 true),
  (32, .cells [.slice (some ⟨13245, 0, none⟩) 4 4, .slice (some ⟨14687, 0, none⟩) 4 4, .bool true] 130 true),
  (412, .cells [.slice (some ⟨13047, 0, none⟩) 1792 1792, .slice (some ⟨14771, 0, none⟩) 1792 1792, .bool true] 130 true),
  (3148, .cells [.slice (some ⟨3150, 0, none⟩) 1 1, .slice (some ⟨13185, 0, none⟩) 1 1, .bool true] 130 true),
  (3150, .cells (u8s [120]) 5 false),
  (13185, .cells (u8s [120]) 5 false),
  (13245, .cells (u8s [120, 97, 98, 99]) 5 false),
  (13576, .cells [.slice (some ⟨14088, 0, none⟩) 0 256, .slice (some ⟨14775, 0, none⟩) 0 0, .bool true] 130 true),
  (14687, .cells (u8s [120, 97, 98, 99]) 5 false),
  (14775, .cells [] 5 true)], .slice (some ⟨15967, 0, none⟩) 4 4, 15968, [(15967, some (.cells (u8s [120, 97, 98, 99]) 5 false))]⟩
theorem m23_169_ok : m23_169.ok (call evT evF k23_169 100000 m23_169.f m23_169.args m23_169.preH) = true := by kernel_rfl
theorem q23_169 : HkOk Tryz.prog (hkMemo m23_169) := hkMemo_ok evT_ok evF_ok k23_169_ok rfl m23_169_ok
noncomputable def k23_170 : Hk := hkLib
theorem k23_170_ok : HkOk Tryz.prog k23_170 := hkLib_ok
noncomputable def m23_170 : Mm :=
  ⟨357, [.int .i64 (.ofNat 2), .int .i64 (.ofNat 1), .slice (some ⟨16041, 0, none⟩) 14 14], 16042, [(16041, .cells (u8s [1, 0, 1, 0, 0, 0, 3, 0, 0, 0, 255, 255, 255, 255]) 5 false)], .tuple #[.slice (some ⟨16571, 0, none⟩) 256 256, .int .i64 (.ofNat 0)], 16572, [(16571, some (.cells (u8s [1, 0, 14, 0, 2, 0, 0, 0, 54, 213, 233, 1, 1, 0, 1, 0, 0, 0, 3, 0, 0, 0, 255, 255, 255, 255] ++ u8z 230) 5 false))]⟩
theorem m23_170_ok : m23_170.ok (call evT evF k23_170 100000 m23_170.f m23_170.args m23_170.preH) = true := by kernel_rfl
theorem q23_170 : HkOk Tryz.prog (hkMemo m23_170) := hkMemo_ok evT_ok evF_ok k23_170_ok rfl m23_170_ok
noncomputable def k23_177 : Hk := hkLib
theorem k23_177_ok : HkOk Tryz.prog k23_177 := hkLib_ok
noncomputable def m23_177 : Mm :=
  ⟨134, [.slice (some ⟨19626, 0, none⟩) 256 256, .slice (some ⟨15986, 1280, none⟩) 256 512], 19627, [(15986, .cells (u8s [111, 99, 116, 97, 118, 111, 48, 49, 2] ++ u8z 5 ++ u8s [4, 0, 0, 0, 1, 1, 0, 0, 0, 3] ++ u8z 36 ++ u8s [250, 212, 113, 102, 111, 99, 116, 97, 118, 111, 48, 49, 3] ++ u8z 5 ++ u8s [6, 0, 0, 0, 1, 1, 0, 0, 0, 4] ++ u8z 36 ++ u8s [14, 118, 28, 196] ++ u8z 128 ++ u8s [1, 0, 14, 0, 1, 0, 0, 0, 194, 105, 111, 233, 1] ++ u8z 5 ++ u8s [3, 0, 0, 0, 255, 255, 255, 255] ++ u8z 230 ++ u8s [1, 0, 14, 0, 2, 0, 0, 0, 54, 213, 233, 1, 1, 0, 1, 0, 0, 0, 3, 0, 0, 0, 255, 255, 255, 255] ++ u8z 230 ++ u8s [1, 0, 27, 0, 3, 0, 0, 0, 50, 165, 25, 235, 2, 1] ++ u8z 4 ++ u8s [1] ++ u8z 12 ++ u8s [3, 0, 0, 0, 255, 255, 255, 255] ++ u8z 217 ++ u8s [3, 0, 17, 0, 4, 0, 0, 0, 199, 184, 67, 119, 2, 1, 0, 0, 0, 3, 0, 0, 0, 3, 0, 0, 0, 4] ++ u8z 230 ++ u8s [1, 0, 14, 0, 5, 0, 0, 0, 64, 196, 222, 82, 1] ++ u8z 5 ++ u8s [4, 0, 0, 0, 255, 255, 255, 255] ++ u8z 230 ++ u8s [3, 0, 17, 0, 6, 0, 0, 0, 34, 46, 224, 217, 2, 2, 0, 0, 0, 3, 0, 0, 0, 5, 0, 0, 0, 4] ++ u8z 230) 5 false),
  (19626, .cells (u8s [1, 0, 14, 0, 5, 0, 0, 0, 64, 196, 222, 82, 1] ++ u8z 5 ++ u8s [4, 0, 0, 0, 255, 255, 255, 255] ++ u8z 230) 5 false)], .bool true, 21931, []⟩
theorem m23_177_ok : m23_177.ok (call evT evF k23_177 100000 m23_177.f m23_177.args m23_177.preH) = true := by kernel_rfl
theorem q23_177 : HkOk Tryz.prog (hkMemo m23_177) := hkMemo_ok evT_ok evF_ok k23_177_ok rfl m23_177_ok
noncomputable def k23_179 : Hk := hkLib
theorem k23_179_ok : HkOk Tryz.prog k23_179 := hkLib_ok
noncomputable def m23_179 : Mm :=
  ⟨316, [.int .i64 (.ofNat 1), .slice (some ⟨19096, 0, none⟩) 14 14], 21931, [(19096, .cells (u8s [1] ++ u8z 5 ++ u8s [4, 0, 0, 0, 255, 255, 255, 255]) 5 false)], .tuple #[.agg #[.bool true, .slice (some ⟨21954, 0, none⟩) 1 1, .slice none 0 0], .int .i64 (.ofNat 0)], 21971, [(21954, some (.cells [.int .i64 (.ofNat 0), .int .i64 (.ofNat 0), .int .i64 (.ofNat 4), .int .i64 (.negSucc 0)] 147 false))]⟩
theorem m23_179_ok : m23_179.ok (call evT evF k23_179 100000 m23_179.f m23_179.args m23_179.preH) = true := by kernel_rfl
theorem q23_179 : HkOk Tryz.prog (hkMemo m23_179) := hkMemo_ok evT_ok evF_ok k23_179_ok rfl m23_179_ok
noncomputable def k23_181 : Hk := hkLib
theorem k23_181_ok : HkOk Tryz.prog k23_181 := hkLib_ok
noncomputable def m23_181 : Mm :=
  ⟨133, [.pointer (some ⟨2, 0, none⟩), .slice (some ⟨21954, 0, none⟩) 1 1], 22026, [(1, .map [⟨.string ⟨#[111, 114, 105, 103, 105, 110, 97, 108]⟩, .pointer (some ⟨32, 0, none⟩), 0⟩, ⟨.string ⟨#[115, 116, 111, 114, 101]⟩, .pointer (some ⟨412, 0, none⟩), 1⟩, ⟨.string ⟨#[116, 97, 105, 108]⟩, .pointer (some ⟨3148, 0, none⟩), 2⟩, ⟨.string ⟨#[106, 111, 117, 114, 110, 97, 108]⟩, .pointer (some ⟨13576, 0, none⟩), 3⟩] 4),
  (2, .cells [.int .i64 (.ofNat 100000), .int .i64 (.ofNat 37), .int .i64 (.negSucc 36), .bool false, .bool false, .map (some 1), .slice none 0 0] 61 true),
  (32, .cells [.slice (some ⟨13245, 0, none⟩) 4 4, .slice (some ⟨14687, 0, none⟩) 4 4, .bool true] 130 true),
  (412, .cells [.slice (some ⟨13047, 0, none⟩) 1792 1792, .slice (some ⟨14771, 0, none⟩) 1792 1792, .bool true] 130 true),
  (3148, .cells [.slice (some ⟨3150, 0, none⟩) 1 1, .slice (some ⟨13185, 0, none⟩) 1 1, .bool true] 130 true),
  (3150, .cells (u8s [120]) 5 false),
  (13185, .cells (u8s [120]) 5 false),
  (13245, .cells (u8s [120, 97, 98, 99]) 5 false),
  (13576, .cells [.slice (some ⟨14088, 0, none⟩) 0 256, .slice (some ⟨14775, 0, none⟩) 0 0, .bool true] 130 true),
  (14687, .cells (u8s [120, 97, 98, 99]) 5 false),
  (14775, .cells [] 5 true),
  (21954, .cells [.int .i64 (.ofNat 0), .int .i64 (.ofNat 0), .int .i64 (.ofNat 4), .int .i64 (.negSucc 0)] 147 false)], .tuple #[.slice (some ⟨22069, 0, none⟩) 4 4, .bool true], 22070, [(22069, some (.cells (u8s [120, 97, 98, 99]) 5 false))]⟩
theorem m23_181_ok : m23_181.ok (call evT evF k23_181 100000 m23_181.f m23_181.args m23_181.preH) = true := by kernel_rfl
theorem q23_181 : HkOk Tryz.prog (hkMemo m23_181) := hkMemo_ok evT_ok evF_ok k23_181_ok rfl m23_181_ok
end Go.Proofs.YtjclpdlijblpjaaGreat
