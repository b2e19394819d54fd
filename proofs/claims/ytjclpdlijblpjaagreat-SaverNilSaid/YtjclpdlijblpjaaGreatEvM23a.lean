/-
  Calls that were reckoned out, one by one. Printed by a program.
-/
import Derived.Test.YtjclpdlijblpjaaGreatEvl
namespace Go.Proofs.YtjclpdlijblpjaaGreat
open Go.Ev
set_option maxRecDepth 1000000
noncomputable def k23_6 : Hk := hkLib
theorem k23_6_ok : HkOk Tryz.prog k23_6 := hkLib_ok
noncomputable def m23_6 : Mm :=
  ⟨263, [.pointer (some ⟨56, 0, none⟩), .int .i64 (.ofNat 2), .slice (some ⟨308, 0, none⟩) 256 256], 319, [(1, .map [⟨.string ⟨#[111, 114, 105, 103, 105, 110, 97, 108]⟩, .pointer (some ⟨32, 0, none⟩), 0⟩] 1),
  (2, .cells [.int .i64 (.ofNat 100000), .int .i64 (.ofNat 0), .int .i64 (.ofNat 0), .bool false, .bool false, .map (some 1), .slice none 0 0] 61 true),
  (32, .cells [.slice (some ⟨34, 0, none⟩) 3 3, .slice (some ⟨35, 0, none⟩) 3 3, .bool true] 130 true),
  (34, .cells (u8s [97, 98, 99]) 5 false),
  (35, .cells (u8s [97, 98, 99]) 5 false),
  (37, .map [⟨.int .i64 (.ofNat 1), .pointer (some ⟨214, 0, none⟩), 0⟩] 1),
  (38, .cells [.int .i64 (.ofNat 5), .int .i64 (.ofNat 0), .int .i64 (.ofNat 0), .bool false, .pointer (some ⟨214, 0, none⟩), .pointer (some ⟨214, 0, none⟩), .map (some 37)] 357 true),
  (55, .map [⟨.int .i64 (.ofNat 1), .slice (some ⟨240, 0, none⟩) 256 256, 0⟩] 1),
  (56, .cells [.pointer (some ⟨38, 0, none⟩), .pointer (some ⟨2, 0, none⟩), .string ⟨#[115, 116, 111, 114, 101]⟩, .int .i64 (.ofNat 5), .map (some 55), .int .i64 (.ofNat 0)] 249 true),
  (214, .cells [.int .i64 (.ofNat 1), .int .i64 (.ofNat 0), .bool true, .pointer (some ⟨38, 1, none⟩), .pointer (some ⟨38, 1, none⟩)] 351 true),
  (308, .cells (u8s [3, 0, 9, 0, 2, 0, 0, 0, 68, 252, 163, 153, 1, 1, 0, 0, 0, 3] ++ u8z 238) 414 true)], .int .i64 (.ofNat 0), 366, [(37, some (.map [⟨.int .i64 (.ofNat 1), .pointer (some ⟨214, 0, none⟩), 0⟩, ⟨.int .i64 (.ofNat 2), .pointer (some ⟨339, 0, none⟩), 1⟩] 2)),
  (38, some (.cells [.int .i64 (.ofNat 5), .int .i64 (.ofNat 0), .int .i64 (.ofNat 0), .bool false, .pointer (some ⟨339, 0, none⟩), .pointer (some ⟨214, 0, none⟩), .map (some 37)] 357 true)),
  (55, some (.map [⟨.int .i64 (.ofNat 1), .slice (some ⟨240, 0, none⟩) 256 256, 0⟩, ⟨.int .i64 (.ofNat 2), .slice (some ⟨365, 0, none⟩) 256 256, 1⟩] 2)),
  (214, some (.cells [.int .i64 (.ofNat 1), .int .i64 (.ofNat 0), .bool true, .pointer (some ⟨38, 1, none⟩), .pointer (some ⟨339, 0, none⟩)] 351 true)),
  (339, some (.cells [.int .i64 (.ofNat 2), .int .i64 (.ofNat 0), .bool true, .pointer (some ⟨214, 0, none⟩), .pointer (some ⟨38, 1, none⟩)] 351 true)),
  (365, some (.cells (u8s [3, 0, 9, 0, 2, 0, 0, 0, 68, 252, 163, 153, 1, 1, 0, 0, 0, 3] ++ u8z 238) 5 false))]⟩
theorem m23_6_ok : m23_6.ok (call evT evF k23_6 100000 m23_6.f m23_6.args m23_6.preH) = true := by kernel_rfl
theorem q23_6 : HkOk Tryz.prog (hkMemo m23_6) := hkMemo_ok evT_ok evF_ok k23_6_ok rfl m23_6_ok
noncomputable def k23_12 : Hk := hkLib
theorem k23_12_ok : HkOk Tryz.prog k23_12 := hkLib_ok
noncomputable def m23_12 : Mm :=
  ⟨67, [.slice (some ⟨1583, 0, none⟩) 512 512, .int .i64 (.ofNat 512), .slice (some ⟨365, 0, none⟩) 256 256], 1743, [(365, .cells (u8s [3, 0, 9, 0, 2, 0, 0, 0, 68, 252, 163, 153, 1, 1, 0, 0, 0, 3] ++ u8z 238) 5 false),
  (1583, .cells (u8z 256 ++ u8s [1, 0, 14, 0, 1, 0, 0, 0, 194, 105, 111, 233, 1] ++ u8z 5 ++ u8s [3, 0, 0, 0, 255, 255, 255, 255] ++ u8z 230) 5 false)], .slice (some ⟨2254, 0, none⟩) 768 768, 2255, [(1583, none),
  (2254, some (.cells (u8z 256 ++ u8s [1, 0, 14, 0, 1, 0, 0, 0, 194, 105, 111, 233, 1] ++ u8z 5 ++ u8s [3, 0, 0, 0, 255, 255, 255, 255] ++ u8z 230 ++ u8s [3, 0, 9, 0, 2, 0, 0, 0, 68, 252, 163, 153, 1, 1, 0, 0, 0, 3] ++ u8z 238) 5 false))]⟩
theorem m23_12_ok : m23_12.ok (call evT evF k23_12 100000 m23_12.f m23_12.args m23_12.preH) = true := by kernel_rfl
theorem q23_12 : HkOk Tryz.prog (hkMemo m23_12) := hkMemo_ok evT_ok evF_ok k23_12_ok rfl m23_12_ok
noncomputable def k23_17 : Hk := hkLib
theorem k23_17_ok : HkOk Tryz.prog k23_17 := hkLib_ok
noncomputable def m23_17 : Mm :=
  ⟨184, [.pointer (some ⟨2490, 0, none⟩), .int .i64 (.ofNat 230)], 2680, [(2489, .cells (u8s [1, 0, 14, 0, 1, 0, 0, 0, 194, 105, 111, 233, 1] ++ u8z 5 ++ u8s [3, 0, 0, 0, 255, 255, 255, 255] ++ u8z 230) 5 false),
  (2490, .cells [.slice (some ⟨2489, 0, none⟩) 256 256, .int .i64 (.ofNat 26)] 360 true)], .int .i64 (.ofNat 0), 2709, [(2490, some (.cells [.slice (some ⟨2489, 0, none⟩) 256 256, .int .i64 (.ofNat 256)] 360 true))]⟩
theorem m23_17_ok : m23_17.ok (call evT evF k23_17 100000 m23_17.f m23_17.args m23_17.preH) = true := by kernel_rfl
theorem q23_17 : HkOk Tryz.prog (hkMemo m23_17) := hkMemo_ok evT_ok evF_ok k23_17_ok rfl m23_17_ok
noncomputable def k23_22 : Hk := hkLib
theorem k23_22_ok : HkOk Tryz.prog k23_22 := hkLib_ok
noncomputable def m23_22 : Mm :=
  ⟨11, [.pointer (some ⟨2, 0, none⟩), .string ⟨#[115, 116, 111, 114, 101]⟩, .int .i64 (.ofNat 64), .slice (some ⟨2934, 0, none⟩) 64 64], 2945, [(1, .map [⟨.string ⟨#[111, 114, 105, 103, 105, 110, 97, 108]⟩, .pointer (some ⟨32, 0, none⟩), 0⟩, ⟨.string ⟨#[115, 116, 111, 114, 101]⟩, .pointer (some ⟨412, 0, none⟩), 1⟩] 2),
  (2, .cells [.int .i64 (.ofNat 100000), .int .i64 (.ofNat 4), .int .i64 (.negSucc 3), .bool false, .bool false, .map (some 1), .slice none 0 0] 61 true),
  (32, .cells [.slice (some ⟨34, 0, none⟩) 3 3, .slice (some ⟨35, 0, none⟩) 3 3, .bool true] 130 true),
  (34, .cells (u8s [97, 98, 99]) 5 false),
  (35, .cells (u8s [97, 98, 99]) 5 false),
  (412, .cells [.slice (some ⟨2254, 0, none⟩) 768 768, .slice (some ⟨2378, 0, none⟩) 768 768, .bool true] 130 true),
  (2254, .cells (u8z 256 ++ u8s [1, 0, 14, 0, 1, 0, 0, 0, 194, 105, 111, 233, 1] ++ u8z 5 ++ u8s [3, 0, 0, 0, 255, 255, 255, 255] ++ u8z 230 ++ u8s [3, 0, 9, 0, 2, 0, 0, 0, 68, 252, 163, 153, 1, 1, 0, 0, 0, 3] ++ u8z 238) 5 false),
  (2934, .cells (u8s [111, 99, 116, 97, 118, 111, 48, 49, 1] ++ u8z 5 ++ u8s [2] ++ u8z 8 ++ u8s [3] ++ u8z 36 ++ u8s [137, 155, 206, 78]) 5 false)], .int .i64 (.ofNat 0), 2989, [(2, some (.cells [.int .i64 (.ofNat 100000), .int .i64 (.ofNat 5), .int .i64 (.negSucc 4), .bool false, .bool false, .map (some 1), .slice (some ⟨2980, 0, none⟩) 1 1] 61 true)),
  (2254, some (.cells (u8z 64 ++ u8s [111, 99, 116, 97, 118, 111, 48, 49, 1] ++ u8z 5 ++ u8s [2] ++ u8z 8 ++ u8s [3] ++ u8z 36 ++ u8s [137, 155, 206, 78] ++ u8z 128 ++ u8s [1, 0, 14, 0, 1, 0, 0, 0, 194, 105, 111, 233, 1] ++ u8z 5 ++ u8s [3, 0, 0, 0, 255, 255, 255, 255] ++ u8z 230 ++ u8s [3, 0, 9, 0, 2, 0, 0, 0, 68, 252, 163, 153, 1, 1, 0, 0, 0, 3] ++ u8z 238) 5 false)),
  (2979, some (.cells (u8s [111, 99, 116, 97, 118, 111, 48, 49, 1] ++ u8z 5 ++ u8s [2] ++ u8z 8 ++ u8s [3] ++ u8z 36 ++ u8s [137, 155, 206, 78]) 5 false)),
  (2980, some (.cells [.string ⟨#[115, 116, 111, 114, 101]⟩, .int .i64 (.ofNat 64), .slice (some ⟨2979, 0, none⟩) 64 64] 134 false))]⟩
theorem m23_22_ok : m23_22.ok (call evT evF k23_22 100000 m23_22.f m23_22.args m23_22.preH) = true := by kernel_rfl
theorem q23_22 : HkOk Tryz.prog (hkMemo m23_22) := hkMemo_ok evT_ok evF_ok k23_22_ok rfl m23_22_ok
noncomputable def k23_37 : Hk := hkLib
theorem k23_37_ok : HkOk Tryz.prog k23_37 := hkLib_ok
noncomputable def m23_37 : Mm :=
  ⟨283, [.int .i64 (.ofNat 1), .slice (some ⟨3958, 0, none⟩) 14 14], 4000, [(3958, .cells (u8s [1] ++ u8z 5 ++ u8s [3, 0, 0, 0, 255, 255, 255, 255]) 5 false)], .tuple #[.agg #[.bool true, .slice (some ⟨4174, 0, none⟩) 1 1, .slice none 0 0], .int .i64 (.ofNat 0)], 4189, [(4174, some (.cells [.int .i64 (.ofNat 0), .int .i64 (.ofNat 0), .int .i64 (.ofNat 3), .int .i64 (.negSucc 0)] 147 false))]⟩
theorem m23_37_ok : m23_37.ok (call evT evF k23_37 100000 m23_37.f m23_37.args m23_37.preH) = true := by kernel_rfl
theorem q23_37 : HkOk Tryz.prog (hkMemo m23_37) := hkMemo_ok evT_ok evF_ok k23_37_ok rfl m23_37_ok
noncomputable def k23_40 : Hk := hkLib
theorem k23_40_ok : HkOk Tryz.prog k23_40 := hkLib_ok
noncomputable def m23_40 : Mm :=
  ⟨184, [.pointer (some ⟨4337, 0, none⟩), .int .i64 (.ofNat 230)], 4527, [(4336, .cells (u8s [1, 0, 14, 0, 1, 0, 0, 0, 194, 105, 111, 233, 1] ++ u8z 5 ++ u8s [3, 0, 0, 0, 255, 255, 255, 255] ++ u8z 230) 5 false),
  (4337, .cells [.slice (some ⟨4336, 0, none⟩) 256 256, .int .i64 (.ofNat 26)] 360 true)], .int .i64 (.ofNat 0), 4556, [(4337, some (.cells [.slice (some ⟨4336, 0, none⟩) 256 256, .int .i64 (.ofNat 256)] 360 true))]⟩
theorem m23_40_ok : m23_40.ok (call evT evF k23_40 100000 m23_40.f m23_40.args m23_40.preH) = true := by kernel_rfl
theorem q23_40 : HkOk Tryz.prog (hkMemo m23_40) := hkMemo_ok evT_ok evF_ok k23_40_ok rfl m23_40_ok
noncomputable def k23_46 : Hk := hkLib
theorem k23_46_ok : HkOk Tryz.prog k23_46 := hkLib_ok
noncomputable def m23_46 : Mm :=
  ⟨262, [.int .i64 (.ofNat 3), .int .i64 (.ofNat 1), .slice (some ⟨4911, 0, none⟩) 27 27], 4914, [(4911, .cells (u8s [2, 1] ++ u8z 4 ++ u8s [1] ++ u8z 12 ++ u8s [3, 0, 0, 0, 255, 255, 255, 255]) 5 false)], .tuple #[.slice (some ⟨4914, 0, none⟩) 256 256, .int .i64 (.ofNat 0)], 4925, [(4914, some (.cells (u8s [1, 0, 27, 0, 3, 0, 0, 0, 50, 165, 25, 235, 2, 1] ++ u8z 4 ++ u8s [1] ++ u8z 12 ++ u8s [3, 0, 0, 0, 255, 255, 255, 255] ++ u8z 217) 414 true))]⟩
theorem m23_46_ok : m23_46.ok (call evT evF k23_46 100000 m23_46.f m23_46.args m23_46.preH) = true := by kernel_rfl
theorem q23_46 : HkOk Tryz.prog (hkMemo m23_46) := hkMemo_ok evT_ok evF_ok k23_46_ok rfl m23_46_ok
noncomputable def k23_47 : Hk := hkLib
theorem k23_47_ok : HkOk Tryz.prog k23_47 := hkLib_ok
noncomputable def m23_47 : Mm :=
  ⟨263, [.pointer (some ⟨56, 0, none⟩), .int .i64 (.ofNat 3), .slice (some ⟨4914, 0, none⟩) 256 256], 4925, [(1, .map [⟨.string ⟨#[111, 114, 105, 103, 105, 110, 97, 108]⟩, .pointer (some ⟨32, 0, none⟩), 0⟩, ⟨.string ⟨#[115, 116, 111, 114, 101]⟩, .pointer (some ⟨412, 0, none⟩), 1⟩, ⟨.string ⟨#[116, 97, 105, 108]⟩, .pointer (some ⟨3148, 0, none⟩), 2⟩] 3),
  (2, .cells [.int .i64 (.ofNat 100000), .int .i64 (.ofNat 7), .int .i64 (.negSucc 6), .bool false, .bool false, .map (some 1), .slice (some ⟨3170, 0, none⟩) 1 1] 61 true),
  (32, .cells [.slice (some ⟨34, 0, none⟩) 3 3, .slice (some ⟨35, 0, none⟩) 3 3, .bool true] 130 true),
  (34, .cells (u8s [97, 98, 99]) 5 false),
  (35, .cells (u8s [97, 98, 99]) 5 false),
  (37, .map [⟨.int .i64 (.ofNat 1), .pointer (some ⟨214, 0, none⟩), 0⟩, ⟨.int .i64 (.ofNat 2), .pointer (some ⟨339, 0, none⟩), 1⟩] 2),
  (38, .cells [.int .i64 (.ofNat 5), .int .i64 (.ofNat 0), .int .i64 (.ofNat 0), .bool false, .pointer (some ⟨214, 0, none⟩), .pointer (some ⟨339, 0, none⟩), .map (some 37)] 357 true),
  (55, .map [⟨.int .i64 (.ofNat 1), .slice (some ⟨240, 0, none⟩) 256 256, 0⟩, ⟨.int .i64 (.ofNat 2), .slice (some ⟨365, 0, none⟩) 256 256, 1⟩] 2),
  (56, .cells [.pointer (some ⟨38, 0, none⟩), .pointer (some ⟨2, 0, none⟩), .string ⟨#[115, 116, 111, 114, 101]⟩, .int .i64 (.ofNat 5), .map (some 55), .int .i64 (.ofNat 0)] 249 true),
  (214, .cells [.int .i64 (.ofNat 1), .int .i64 (.ofNat 0), .bool false, .pointer (some ⟨339, 0, none⟩), .pointer (some ⟨38, 1, none⟩)] 351 true),
  (339, .cells [.int .i64 (.ofNat 2), .int .i64 (.ofNat 0), .bool false, .pointer (some ⟨38, 1, none⟩), .pointer (some ⟨214, 0, none⟩)] 351 true),
  (412, .cells [.slice (some ⟨2254, 0, none⟩) 768 768, .slice (some ⟨2990, 0, none⟩) 768 768, .bool true] 130 true),
  (3148, .cells [.slice (some ⟨3150, 0, none⟩) 1 1, .slice none 0 0, .bool false] 130 true),
  (3150, .cells (u8s [120]) 5 false),
  (3169, .cells (u8s [120]) 5 false),
  (3170, .cells [.string ⟨#[116, 97, 105, 108]⟩, .int .i64 (.ofNat 0), .slice (some ⟨3169, 0, none⟩) 1 1] 134 false),
  (4914, .cells (u8s [1, 0, 27, 0, 3, 0, 0, 0, 50, 165, 25, 235, 2, 1] ++ u8z 4 ++ u8s [1] ++ u8z 12 ++ u8s [3, 0, 0, 0, 255, 255, 255, 255] ++ u8z 217) 414 true)], .int .i64 (.ofNat 0), 4972, [(37, some (.map [⟨.int .i64 (.ofNat 1), .pointer (some ⟨214, 0, none⟩), 0⟩, ⟨.int .i64 (.ofNat 2), .pointer (some ⟨339, 0, none⟩), 1⟩, ⟨.int .i64 (.ofNat 3), .pointer (some ⟨4945, 0, none⟩), 2⟩] 3)),
  (38, some (.cells [.int .i64 (.ofNat 5), .int .i64 (.ofNat 0), .int .i64 (.ofNat 0), .bool false, .pointer (some ⟨4945, 0, none⟩), .pointer (some ⟨339, 0, none⟩), .map (some 37)] 357 true)),
  (55, some (.map [⟨.int .i64 (.ofNat 1), .slice (some ⟨240, 0, none⟩) 256 256, 0⟩, ⟨.int .i64 (.ofNat 2), .slice (some ⟨365, 0, none⟩) 256 256, 1⟩, ⟨.int .i64 (.ofNat 3), .slice (some ⟨4971, 0, none⟩) 256 256, 2⟩] 3)),
  (214, some (.cells [.int .i64 (.ofNat 1), .int .i64 (.ofNat 0), .bool false, .pointer (some ⟨339, 0, none⟩), .pointer (some ⟨4945, 0, none⟩)] 351 true)),
  (4945, some (.cells [.int .i64 (.ofNat 3), .int .i64 (.ofNat 0), .bool true, .pointer (some ⟨214, 0, none⟩), .pointer (some ⟨38, 1, none⟩)] 351 true)),
  (4971, some (.cells (u8s [1, 0, 27, 0, 3, 0, 0, 0, 50, 165, 25, 235, 2, 1] ++ u8z 4 ++ u8s [1] ++ u8z 12 ++ u8s [3, 0, 0, 0, 255, 255, 255, 255] ++ u8z 217) 5 false))]⟩
theorem m23_47_ok : m23_47.ok (call evT evF k23_47 100000 m23_47.f m23_47.args m23_47.preH) = true := by kernel_rfl
theorem q23_47 : HkOk Tryz.prog (hkMemo m23_47) := hkMemo_ok evT_ok evF_ok k23_47_ok rfl m23_47_ok
noncomputable def k23_52 : Hk := hkLib
theorem k23_52_ok : HkOk Tryz.prog k23_52 := hkLib_ok
noncomputable def m23_52 : Mm :=
  ⟨184, [.pointer (some ⟨5094, 0, none⟩), .int .i64 (.ofNat 217)], 5284, [(5093, .cells (u8s [1, 0, 27, 0, 3, 0, 0, 0, 50, 165, 25, 235, 2, 1] ++ u8z 4 ++ u8s [1] ++ u8z 12 ++ u8s [3, 0, 0, 0, 255, 255, 255, 255] ++ u8z 217) 5 false),
  (5094, .cells [.slice (some ⟨5093, 0, none⟩) 256 256, .int .i64 (.ofNat 39)] 360 true)], .int .i64 (.ofNat 0), 5313, [(5094, some (.cells [.slice (some ⟨5093, 0, none⟩) 256 256, .int .i64 (.ofNat 256)] 360 true))]⟩
theorem m23_52_ok : m23_52.ok (call evT evF k23_52 100000 m23_52.f m23_52.args m23_52.preH) = true := by kernel_rfl
theorem q23_52 : HkOk Tryz.prog (hkMemo m23_52) := hkMemo_ok evT_ok evF_ok k23_52_ok rfl m23_52_ok
noncomputable def k23_56 : Hk := hkLib
theorem k23_56_ok : HkOk Tryz.prog k23_56 := hkLib_ok
noncomputable def m23_56 : Mm :=
  ⟨228, [.agg #[.bool true, .slice (some ⟨5618, 0, none⟩) 2 2, .slice none 0 0]], 5636, [(5618, .cells [.int .i64 (.ofNat 1), .int .i64 (.ofNat 0), .int .i64 (.ofNat 1), .int .i64 (.ofNat 0), .int .i64 (.ofNat 0), .int .i64 (.ofNat 0), .int .i64 (.ofNat 3), .int .i64 (.negSucc 0)] 147 false)], .tuple #[.int .i64 (.ofNat 4), .int .i64 (.negSucc 0), .int .i64 (.ofNat 2)], 5681, []⟩
theorem m23_56_ok : m23_56.ok (call evT evF k23_56 100000 m23_56.f m23_56.args m23_56.preH) = true := by kernel_rfl
theorem q23_56 : HkOk Tryz.prog (hkMemo m23_56) := hkMemo_ok evT_ok evF_ok k23_56_ok rfl m23_56_ok
noncomputable def k23_77 : Hk := hkLib
theorem k23_77_ok : HkOk Tryz.prog k23_77 := hkLib_ok
noncomputable def m23_77 : Mm :=
  ⟨113, [.agg #[.int .i64 (.ofNat 2), .int .i64 (.ofNat 4), .int .i64 (.ofNat 1), .int .i64 (.ofNat 1), .int .i64 (.ofNat 3)]], 8345, [], .tuple #[.slice (some ⟨8368, 0, none⟩) 64 64, .int .i64 (.ofNat 0)], 8369, [(8368, some (.cells (u8s [111, 99, 116, 97, 118, 111, 48, 49, 2] ++ u8z 5 ++ u8s [4, 0, 0, 0, 1, 1, 0, 0, 0, 3] ++ u8z 36 ++ u8s [250, 212, 113, 102]) 5 false))]⟩
theorem m23_77_ok : m23_77.ok (call evT evF k23_77 100000 m23_77.f m23_77.args m23_77.preH) = true := by kernel_rfl
theorem q23_77 : HkOk Tryz.prog (hkMemo m23_77) := hkMemo_ok evT_ok evF_ok k23_77_ok rfl m23_77_ok
noncomputable def k23_79 : Hk := hkLib
theorem k23_79_ok : HkOk Tryz.prog k23_79 := hkLib_ok
noncomputable def m23_79 : Mm :=
  ⟨177, [.pointer (some ⟨62, 0, none⟩)], 8438, [(1, .map [⟨.string ⟨#[111, 114, 105, 103, 105, 110, 97, 108]⟩, .pointer (some ⟨32, 0, none⟩), 0⟩, ⟨.string ⟨#[115, 116, 111, 114, 101]⟩, .pointer (some ⟨412, 0, none⟩), 1⟩, ⟨.string ⟨#[116, 97, 105, 108]⟩, .pointer (some ⟨3148, 0, none⟩), 2⟩] 3),
  (2, .cells [.int .i64 (.ofNat 100000), .int .i64 (.ofNat 13), .int .i64 (.negSucc 12), .bool false, .bool false, .map (some 1), .slice none 0 0] 61 true),
  (32, .cells [.slice (some ⟨34, 0, none⟩) 3 3, .slice (some ⟨35, 0, none⟩) 3 3, .bool true] 130 true),
  (34, .cells (u8s [97, 98, 99]) 5 false),
  (35, .cells (u8s [97, 98, 99]) 5 false),
  (37, .map [⟨.int .i64 (.ofNat 1), .pointer (some ⟨214, 0, none⟩), 0⟩, ⟨.int .i64 (.ofNat 2), .pointer (some ⟨339, 0, none⟩), 1⟩, ⟨.int .i64 (.ofNat 3), .pointer (some ⟨4945, 0, none⟩), 2⟩, ⟨.int .i64 (.ofNat 4), .pointer (some ⟨5771, 0, none⟩), 3⟩] 4),
  (38, .cells [.int .i64 (.ofNat 5), .int .i64 (.ofNat 0), .int .i64 (.ofNat 0), .bool false, .pointer (some ⟨4945, 0, none⟩), .pointer (some ⟨339, 0, none⟩), .map (some 37)] 357 true),
  (55, .map [⟨.int .i64 (.ofNat 1), .slice (some ⟨240, 0, none⟩) 256 256, 0⟩, ⟨.int .i64 (.ofNat 2), .slice (some ⟨365, 0, none⟩) 256 256, 1⟩, ⟨.int .i64 (.ofNat 3), .slice (some ⟨4971, 0, none⟩) 256 256, 2⟩, ⟨.int .i64 (.ofNat 4), .slice (some ⟨5797, 0, none⟩) 256 256, 3⟩] 4),
  (56, .cells [.pointer (some ⟨38, 0, none⟩), .pointer (some ⟨2, 0, none⟩), .string ⟨#[115, 116, 111, 114, 101]⟩, .int .i64 (.ofNat 5), .map (some 55), .int .i64 (.ofNat 0)] 249 true),
  (57, .map [⟨.int .i64 (.ofNat 2), .bool true, 2⟩, ⟨.int .i64 (.ofNat 1), .bool true, 3⟩, ⟨.int .i64 (.ofNat 3), .bool true, 4⟩, ⟨.int .i64 (.ofNat 4), .bool true, 5⟩] 6),
  (58, .map [] 0),
  (59, .cells [.int .i64 (.ofNat 1), .map (some 57), .map (some 58), .slice (some ⟨5739, 0, none⟩) 2 2] 214 true),
  (60, .cells [.pointer (some ⟨56, 0, none⟩), .pointer (some ⟨59, 0, none⟩)] 257 true),
  (62, .cells [.pointer (some ⟨56, 0, none⟩), .pointer (some ⟨59, 0, none⟩), .pointer (some ⟨60, 0, none⟩), .pointer (some ⟨2, 0, none⟩), .pointer (some ⟨72, 0, none⟩), .pointer (some ⟨3026, 0, none⟩), .slice (some ⟨8437, 0, none⟩) 2 2, .int .i64 (.ofNat 1), .int .i64 (.ofNat 2), .int .i64 (.ofNat 4), .int .i64 (.ofNat 1), .int .i64 (.ofNat 1), .int .i64 (.ofNat 3), .int .i64 (.ofNat 0), .int .i64 (.ofNat 0), .int .i64 (.ofNat 0), .int .i64 (.ofNat 0), .int .i64 (.ofNat 0), .slice (some ⟨8295, 0, none⟩) 2 2] 85 true),
  (72, .cells [.pointer (some ⟨2, 0, none⟩), .int .i64 (.ofNat 1)] 216 true),
  (214, .cells [.int .i64 (.ofNat 1), .int .i64 (.ofNat 0), .bool false, .pointer (some ⟨5771, 0, none⟩), .pointer (some ⟨4945, 0, none⟩)] 351 true),
  (339, .cells [.int .i64 (.ofNat 2), .int .i64 (.ofNat 0), .bool false, .pointer (some ⟨38, 1, none⟩), .pointer (some ⟨5771, 0, none⟩)] 351 true),
  (412, .cells [.slice (some ⟨7028, 0, none⟩) 1280 1280, .slice (some ⟨8424, 0, none⟩) 1280 1280, .bool true] 130 true),
  (3005, .map [] 0),
  (3006, .cells [.pointer (some ⟨2, 0, none⟩), .string ⟨#[111, 114, 105, 103, 105, 110, 97, 108]⟩, .int .i64 (.ofNat 3), .int .i64 (.ofNat 0), .map (some 3005)] 372 true),
  (3026, .cells [.pointer (some ⟨60, 0, none⟩), .pointer (some ⟨3006, 0, none⟩), .pointer (some ⟨72, 0, none⟩)] 233 true),
  (3148, .cells [.slice (some ⟨3150, 0, none⟩) 1 1, .slice (some ⟨7165, 0, none⟩) 1 1, .bool true] 130 true),
  (3150, .cells (u8s [120]) 5 false),
  (4945, .cells [.int .i64 (.ofNat 3), .int .i64 (.ofNat 0), .bool false, .pointer (some ⟨214, 0, none⟩), .pointer (some ⟨38, 1, none⟩)] 351 true),
  (5739, .cells [.int .i64 (.ofNat 3), .int .i64 (.ofNat 4)] 3 false),
  (5771, .cells [.int .i64 (.ofNat 4), .int .i64 (.ofNat 0), .bool false, .pointer (some ⟨339, 0, none⟩), .pointer (some ⟨214, 0, none⟩)] 351 true),
  (7165, .cells (u8s [120]) 5 false),
  (8295, .cells [.int .i64 (.ofNat 1), .int .i64 (.ofNat 3)] 3 false),
  (8437, .cells [.int .i64 (.ofNat 1), .int .i64 (.ofNat 3), .int .i64 (.ofNat 3), .int .i64 (.ofNat 4)] 119 false)], .int .i64 (.ofNat 0), 8476, [(37, some (.map [⟨.int .i64 (.ofNat 1), .pointer (some ⟨214, 0, none⟩), 0⟩, ⟨.int .i64 (.ofNat 3), .pointer (some ⟨4945, 0, none⟩), 2⟩, ⟨.int .i64 (.ofNat 4), .pointer (some ⟨5771, 0, none⟩), 3⟩] 4)),
  (38, some (.cells [.int .i64 (.ofNat 5), .int .i64 (.ofNat 0), .int .i64 (.ofNat 0), .bool false, .pointer (some ⟨4945, 0, none⟩), .pointer (some ⟨5771, 0, none⟩), .map (some 37)] 357 true)),
  (55, some (.map [⟨.int .i64 (.ofNat 1), .slice (some ⟨240, 0, none⟩) 256 256, 0⟩, ⟨.int .i64 (.ofNat 3), .slice (some ⟨4971, 0, none⟩) 256 256, 2⟩, ⟨.int .i64 (.ofNat 4), .slice (some ⟨5797, 0, none⟩) 256 256, 3⟩] 4)),
  (57, some (.map [⟨.int .i64 (.ofNat 4), .bool true, 6⟩, ⟨.int .i64 (.ofNat 1), .bool true, 7⟩, ⟨.int .i64 (.ofNat 3), .bool true, 8⟩] 9)),
  (59, some (.cells [.int .i64 (.ofNat 1), .map (some 57), .map (some 58), .slice none 0 0] 214 true)),
  (5771, some (.cells [.int .i64 (.ofNat 4), .int .i64 (.ofNat 0), .bool false, .pointer (some ⟨38, 1, none⟩), .pointer (some ⟨214, 0, none⟩)] 351 true))]⟩
theorem m23_79_ok : m23_79.ok (call evT evF k23_79 100000 m23_79.f m23_79.args m23_79.preH) = true := by kernel_rfl
theorem q23_79 : HkOk Tryz.prog (hkMemo m23_79) := hkMemo_ok evT_ok evF_ok k23_79_ok rfl m23_79_ok
noncomputable def k23_86 : Hk := hkLib
theorem k23_86_ok : HkOk Tryz.prog k23_86 := hkLib_ok
noncomputable def m23_86 : Mm :=
  ⟨283, [.int .i64 (.ofNat 1), .slice (some ⟨8790, 0, none⟩) 14 14], 8832, [(8790, .cells (u8s [1] ++ u8z 5 ++ u8s [3, 0, 0, 0, 255, 255, 255, 255]) 5 false)], .tuple #[.agg #[.bool true, .slice (some ⟨9006, 0, none⟩) 1 1, .slice none 0 0], .int .i64 (.ofNat 0)], 9021, [(9006, some (.cells [.int .i64 (.ofNat 0), .int .i64 (.ofNat 0), .int .i64 (.ofNat 3), .int .i64 (.negSucc 0)] 147 false))]⟩
theorem m23_86_ok : m23_86.ok (call evT evF k23_86 100000 m23_86.f m23_86.args m23_86.preH) = true := by kernel_rfl
theorem q23_86 : HkOk Tryz.prog (hkMemo m23_86) := hkMemo_ok evT_ok evF_ok k23_86_ok rfl m23_86_ok
noncomputable def k23_92 : Hk := hkLib
theorem k23_92_ok : HkOk Tryz.prog k23_92 := hkLib_ok
noncomputable def m23_92 : Mm :=
  ⟨184, [.pointer (some ⟨9719, 0, none⟩), .int .i64 (.ofNat 217)], 9909, [(9718, .cells (u8s [1, 0, 27, 0, 3, 0, 0, 0, 50, 165, 25, 235, 2, 1] ++ u8z 4 ++ u8s [1] ++ u8z 12 ++ u8s [3, 0, 0, 0, 255, 255, 255, 255] ++ u8z 217) 5 false),
  (9719, .cells [.slice (some ⟨9718, 0, none⟩) 256 256, .int .i64 (.ofNat 39)] 360 true)], .int .i64 (.ofNat 0), 9938, [(9719, some (.cells [.slice (some ⟨9718, 0, none⟩) 256 256, .int .i64 (.ofNat 256)] 360 true))]⟩
theorem m23_92_ok : m23_92.ok (call evT evF k23_92 100000 m23_92.f m23_92.args m23_92.preH) = true := by kernel_rfl
theorem q23_92 : HkOk Tryz.prog (hkMemo m23_92) := hkMemo_ok evT_ok evF_ok k23_92_ok rfl m23_92_ok
noncomputable def k23_97 : Hk := hkLib
theorem k23_97_ok : HkOk Tryz.prog k23_97 := hkLib_ok
noncomputable def m23_97 : Mm :=
  ⟨273, [.slice (some ⟨10269, 0, none⟩) 2 2], 10380, [(10269, .cells [.int .i64 (.ofNat 1), .int .i64 (.ofNat 0), .int .i64 (.ofNat 1), .int .i64 (.ofNat 0), .int .i64 (.ofNat 0), .int .i64 (.ofNat 3)] 145 false)], .slice (some ⟨10469, 0, none⟩) 2 2, 10483, [(10469, some (.cells [.int .i64 (.ofNat 1), .int .i64 (.ofNat 0), .int .i64 (.ofNat 1), .int .i64 (.ofNat 0), .int .i64 (.ofNat 0), .int .i64 (.ofNat 0), .int .i64 (.ofNat 3), .int .i64 (.ofNat 1)] 423 false))]⟩
theorem m23_97_ok : m23_97.ok (call evT evF k23_97 100000 m23_97.f m23_97.args m23_97.preH) = true := by kernel_rfl
theorem q23_97 : HkOk Tryz.prog (hkMemo m23_97) := hkMemo_ok evT_ok evF_ok k23_97_ok rfl m23_97_ok
noncomputable def k23_99 : Hk := hkLib
theorem k23_99_ok : HkOk Tryz.prog k23_99 := hkLib_ok
noncomputable def m23_99 : Mm :=
  ⟨340, [.agg #[.bool true, .slice (some ⟨10597, 0, none⟩) 1 1, .slice none 0 0]], 10605, [(10597, .cells [.int .i64 (.ofNat 0), .int .i64 (.ofNat 1), .int .i64 (.ofNat 3), .int .i64 (.negSucc 0)] 147 false)], .tuple #[.int .i64 (.ofNat 1), .slice (some ⟨10648, 0, none⟩) 14 14, .int .i64 (.ofNat 0)], 10649, [(10648, some (.cells (u8s [1, 0, 1, 0, 0, 0, 3, 0, 0, 0, 255, 255, 255, 255]) 5 false))]⟩
theorem m23_99_ok : m23_99.ok (call evT evF k23_99 100000 m23_99.f m23_99.args m23_99.preH) = true := by kernel_rfl
theorem q23_99 : HkOk Tryz.prog (hkMemo m23_99) := hkMemo_ok evT_ok evF_ok k23_99_ok rfl m23_99_ok
noncomputable def k23_108 : Hk := hkLib
theorem k23_108_ok : HkOk Tryz.prog k23_108 := hkLib_ok
noncomputable def m23_108 : Mm :=
  ⟨262, [.int .i64 (.ofNat 5), .int .i64 (.ofNat 1), .slice (some ⟨11087, 0, none⟩) 14 14], 11090, [(11087, .cells (u8s [1] ++ u8z 5 ++ u8s [4, 0, 0, 0, 255, 255, 255, 255]) 5 false)], .tuple #[.slice (some ⟨11090, 0, none⟩) 256 256, .int .i64 (.ofNat 0)], 11101, [(11090, some (.cells (u8s [1, 0, 14, 0, 5, 0, 0, 0, 64, 196, 222, 82, 1] ++ u8z 5 ++ u8s [4, 0, 0, 0, 255, 255, 255, 255] ++ u8z 230) 414 true))]⟩
theorem m23_108_ok : m23_108.ok (call evT evF k23_108 100000 m23_108.f m23_108.args m23_108.preH) = true := by kernel_rfl
theorem q23_108 : HkOk Tryz.prog (hkMemo m23_108) := hkMemo_ok evT_ok evF_ok k23_108_ok rfl m23_108_ok
noncomputable def k23_113 : Hk := hkLib
theorem k23_113_ok : HkOk Tryz.prog k23_113 := hkLib_ok
noncomputable def m23_113 : Mm :=
  ⟨220, [.slice (some ⟨10269, 0, none⟩) 2 2, .int .i64 (.ofNat 4)], 11199, [(10269, .cells [.int .i64 (.ofNat 1), .int .i64 (.ofNat 0), .int .i64 (.ofNat 1), .int .i64 (.ofNat 0), .int .i64 (.ofNat 0), .int .i64 (.ofNat 3)] 145 false)], .tuple #[.slice (some ⟨11307, 0, none⟩) 2 2, .slice none 0 0, .int .i64 (.ofNat 0)], 11331, [(11307, some (.cells [.int .i64 (.ofNat 1), .int .i64 (.ofNat 0), .int .i64 (.ofNat 1), .int .i64 (.ofNat 0), .int .i64 (.ofNat 0), .int .i64 (.ofNat 3)] 145 false))]⟩
theorem m23_113_ok : m23_113.ok (call evT evF k23_113 100000 m23_113.f m23_113.args m23_113.preH) = true := by kernel_rfl
theorem q23_113 : HkOk Tryz.prog (hkMemo m23_113) := hkMemo_ok evT_ok evF_ok k23_113_ok rfl m23_113_ok
noncomputable def k23_114 : Hk := hkLib
theorem k23_114_ok : HkOk Tryz.prog k23_114 := hkLib_ok
noncomputable def m23_114 : Mm :=
  ⟨223, [.pointer (some ⟨11198, 0, none⟩), .int .i64 (.ofNat 0)], 11372, [(11196, .map [⟨.int .i64 (.ofNat 0), .agg #[.int .i64 (.ofNat 0), .slice (some ⟨11307, 0, none⟩) 2 2], 0⟩] 1),
  (11197, .map [] 0),
  (11198, .cells [.map (some 11196), .map (some 11197), .slice none 0 0, .slice none 0 0] 326 true),
  (11307, .cells [.int .i64 (.ofNat 1), .int .i64 (.ofNat 0), .int .i64 (.ofNat 1), .int .i64 (.ofNat 0), .int .i64 (.ofNat 0), .int .i64 (.ofNat 3)] 145 false)], .tuple #[], 11425, [(11196, some (.map [] 1)),
  (11198, some (.cells [.map (some 11196), .map (some 11197), .slice none 0 0, .slice (some ⟨11385, 0, none⟩) 1 1] 326 true)),
  (11385, some (.cells [.int .i64 (.ofNat 0), .slice (some ⟨11307, 0, none⟩) 2 2] 175 false))]⟩
theorem m23_114_ok : m23_114.ok (call evT evF k23_114 100000 m23_114.f m23_114.args m23_114.preH) = true := by kernel_rfl
theorem q23_114 : HkOk Tryz.prog (hkMemo m23_114) := hkMemo_ok evT_ok evF_ok k23_114_ok rfl m23_114_ok
noncomputable def k23_119 : Hk := hkLib
theorem k23_119_ok : HkOk Tryz.prog k23_119 := hkLib_ok
noncomputable def m23_119 : Mm :=
  ⟨310, [.pointer (some ⟨56, 0, none⟩), .int .i64 (.ofNat 6), .slice (some ⟨11578, 0, none⟩) 256 256], 11589, [(1, .map [⟨.string ⟨#[111, 114, 105, 103, 105, 110, 97, 108]⟩, .pointer (some ⟨32, 0, none⟩), 0⟩, ⟨.string ⟨#[115, 116, 111, 114, 101]⟩, .pointer (some ⟨412, 0, none⟩), 1⟩, ⟨.string ⟨#[116, 97, 105, 108]⟩, .pointer (some ⟨3148, 0, none⟩), 2⟩] 3),
  (2, .cells [.int .i64 (.ofNat 100000), .int .i64 (.ofNat 13), .int .i64 (.negSucc 12), .bool false, .bool false, .map (some 1), .slice none 0 0] 61 true),
  (32, .cells [.slice (some ⟨34, 0, none⟩) 3 3, .slice (some ⟨35, 0, none⟩) 3 3, .bool true] 130 true),
  (34, .cells (u8s [97, 98, 99]) 5 false),
  (35, .cells (u8s [97, 98, 99]) 5 false),
  (37, .map [⟨.int .i64 (.ofNat 1), .pointer (some ⟨214, 0, none⟩), 0⟩, ⟨.int .i64 (.ofNat 3), .pointer (some ⟨4945, 0, none⟩), 2⟩, ⟨.int .i64 (.ofNat 4), .pointer (some ⟨5771, 0, none⟩), 3⟩, ⟨.int .i64 (.ofNat 2), .pointer (some ⟨10682, 0, none⟩), 4⟩, ⟨.int .i64 (.ofNat 5), .pointer (some ⟨11121, 0, none⟩), 5⟩] 6),
  (38, .cells [.int .i64 (.ofNat 5), .int .i64 (.ofNat 0), .int .i64 (.ofNat 0), .bool false, .pointer (some ⟨11121, 0, none⟩), .pointer (some ⟨5771, 0, none⟩), .map (some 37)] 357 true),
  (55, .map [⟨.int .i64 (.ofNat 1), .slice (some ⟨240, 0, none⟩) 256 256, 0⟩, ⟨.int .i64 (.ofNat 3), .slice (some ⟨4971, 0, none⟩) 256 256, 2⟩, ⟨.int .i64 (.ofNat 4), .slice (some ⟨5797, 0, none⟩) 256 256, 3⟩, ⟨.int .i64 (.ofNat 2), .slice (some ⟨10708, 0, none⟩) 256 256, 4⟩, ⟨.int .i64 (.ofNat 5), .slice (some ⟨11147, 0, none⟩) 256 256, 5⟩] 6),
  (56, .cells [.pointer (some ⟨38, 0, none⟩), .pointer (some ⟨2, 0, none⟩), .string ⟨#[115, 116, 111, 114, 101]⟩, .int .i64 (.ofNat 5), .map (some 55), .int .i64 (.ofNat 0)] 249 true),
  (214, .cells [.int .i64 (.ofNat 1), .int .i64 (.ofNat 0), .bool false, .pointer (some ⟨5771, 0, none⟩), .pointer (some ⟨4945, 0, none⟩)] 351 true),
  (412, .cells [.slice (some ⟨7028, 0, none⟩) 1280 1280, .slice (some ⟨8424, 0, none⟩) 1280 1280, .bool true] 130 true),
  (3148, .cells [.slice (some ⟨3150, 0, none⟩) 1 1, .slice (some ⟨7165, 0, none⟩) 1 1, .bool true] 130 true),
  (3150, .cells (u8s [120]) 5 false),
  (4945, .cells [.int .i64 (.ofNat 3), .int .i64 (.ofNat 0), .bool false, .pointer (some ⟨214, 0, none⟩), .pointer (some ⟨10682, 0, none⟩)] 351 true),
  (5771, .cells [.int .i64 (.ofNat 4), .int .i64 (.ofNat 0), .bool false, .pointer (some ⟨38, 1, none⟩), .pointer (some ⟨214, 0, none⟩)] 351 true),
  (7165, .cells (u8s [120]) 5 false),
  (10682, .cells [.int .i64 (.ofNat 2), .int .i64 (.ofNat 0), .bool true, .pointer (some ⟨4945, 0, none⟩), .pointer (some ⟨11121, 0, none⟩)] 351 true),
  (11121, .cells [.int .i64 (.ofNat 5), .int .i64 (.ofNat 0), .bool true, .pointer (some ⟨10682, 0, none⟩), .pointer (some ⟨38, 1, none⟩)] 351 true),
  (11578, .cells (u8s [3, 0, 17, 0, 6, 0, 0, 0, 34, 46, 224, 217, 2, 2, 0, 0, 0, 3, 0, 0, 0, 5, 0, 0, 0, 4] ++ u8z 230) 414 true)], .int .i64 (.ofNat 0), 11659, [(37, some (.map [⟨.int .i64 (.ofNat 1), .pointer (some ⟨214, 0, none⟩), 0⟩, ⟨.int .i64 (.ofNat 3), .pointer (some ⟨4945, 0, none⟩), 2⟩, ⟨.int .i64 (.ofNat 2), .pointer (some ⟨10682, 0, none⟩), 4⟩, ⟨.int .i64 (.ofNat 5), .pointer (some ⟨11121, 0, none⟩), 5⟩, ⟨.int .i64 (.ofNat 6), .pointer (some ⟨11632, 0, none⟩), 6⟩] 7)),
  (38, some (.cells [.int .i64 (.ofNat 5), .int .i64 (.ofNat 0), .int .i64 (.ofNat 0), .bool false, .pointer (some ⟨11632, 0, none⟩), .pointer (some ⟨214, 0, none⟩), .map (some 37)] 357 true)),
  (55, some (.map [⟨.int .i64 (.ofNat 1), .slice (some ⟨240, 0, none⟩) 256 256, 0⟩, ⟨.int .i64 (.ofNat 3), .slice (some ⟨4971, 0, none⟩) 256 256, 2⟩, ⟨.int .i64 (.ofNat 2), .slice (some ⟨10708, 0, none⟩) 256 256, 4⟩, ⟨.int .i64 (.ofNat 5), .slice (some ⟨11147, 0, none⟩) 256 256, 5⟩, ⟨.int .i64 (.ofNat 6), .slice (some ⟨11658, 0, none⟩) 256 256, 6⟩] 7)),
  (214, some (.cells [.int .i64 (.ofNat 1), .int .i64 (.ofNat 0), .bool false, .pointer (some ⟨38, 1, none⟩), .pointer (some ⟨4945, 0, none⟩)] 351 true)),
  (11121, some (.cells [.int .i64 (.ofNat 5), .int .i64 (.ofNat 0), .bool true, .pointer (some ⟨10682, 0, none⟩), .pointer (some ⟨11632, 0, none⟩)] 351 true)),
  (11632, some (.cells [.int .i64 (.ofNat 6), .int .i64 (.ofNat 0), .bool false, .pointer (some ⟨11121, 0, none⟩), .pointer (some ⟨38, 1, none⟩)] 351 true)),
  (11658, some (.cells (u8s [3, 0, 17, 0, 6, 0, 0, 0, 34, 46, 224, 217, 2, 2, 0, 0, 0, 3, 0, 0, 0, 5, 0, 0, 0, 4] ++ u8z 230) 5 false))]⟩
theorem m23_119_ok : m23_119.ok (call evT evF k23_119 100000 m23_119.f m23_119.args m23_119.preH) = true := by kernel_rfl
theorem q23_119 : HkOk Tryz.prog (hkMemo m23_119) := hkMemo_ok evT_ok evF_ok k23_119_ok rfl m23_119_ok
noncomputable def k23_122 : Hk := hkLib
theorem k23_122_ok : HkOk Tryz.prog k23_122 := hkLib_ok
noncomputable def m23_122 : Mm :=
  ⟨67, [.slice (some ⟨7028, 0, none⟩) 1280 1280, .int .i64 (.ofNat 1280), .slice (some ⟨11147, 0, none⟩) 256 256], 11865, [(7028, .cells (u8s [111, 99, 116, 97, 118, 111, 48, 49, 2] ++ u8z 5 ++ u8s [4, 0, 0, 0, 1, 1, 0, 0, 0, 3] ++ u8z 36 ++ u8s [250, 212, 113, 102, 111, 99, 116, 97, 118, 111, 48, 49, 1] ++ u8z 5 ++ u8s [2] ++ u8z 8 ++ u8s [3] ++ u8z 36 ++ u8s [137, 155, 206, 78] ++ u8z 128 ++ u8s [1, 0, 14, 0, 1, 0, 0, 0, 194, 105, 111, 233, 1] ++ u8z 5 ++ u8s [3, 0, 0, 0, 255, 255, 255, 255] ++ u8z 230 ++ u8s [1, 0, 14, 0, 2, 0, 0, 0, 54, 213, 233, 1, 1, 0, 1, 0, 0, 0, 3, 0, 0, 0, 255, 255, 255, 255] ++ u8z 230 ++ u8s [1, 0, 27, 0, 3, 0, 0, 0, 50, 165, 25, 235, 2, 1] ++ u8z 4 ++ u8s [1] ++ u8z 12 ++ u8s [3, 0, 0, 0, 255, 255, 255, 255] ++ u8z 217 ++ u8s [3, 0, 17, 0, 4, 0, 0, 0, 199, 184, 67, 119, 2, 1, 0, 0, 0, 3, 0, 0, 0, 3, 0, 0, 0, 4] ++ u8z 230) 5 false),
  (11147, .cells (u8s [1, 0, 14, 0, 5, 0, 0, 0, 64, 196, 222, 82, 1] ++ u8z 5 ++ u8s [4, 0, 0, 0, 255, 255, 255, 255] ++ u8z 230) 5 false)], .slice (some ⟨12376, 0, none⟩) 1536 1536, 12377, [(7028, none),
  (12376, some (.cells (u8s [111, 99, 116, 97, 118, 111, 48, 49, 2] ++ u8z 5 ++ u8s [4, 0, 0, 0, 1, 1, 0, 0, 0, 3] ++ u8z 36 ++ u8s [250, 212, 113, 102, 111, 99, 116, 97, 118, 111, 48, 49, 1] ++ u8z 5 ++ u8s [2] ++ u8z 8 ++ u8s [3] ++ u8z 36 ++ u8s [137, 155, 206, 78] ++ u8z 128 ++ u8s [1, 0, 14, 0, 1, 0, 0, 0, 194, 105, 111, 233, 1] ++ u8z 5 ++ u8s [3, 0, 0, 0, 255, 255, 255, 255] ++ u8z 230 ++ u8s [1, 0, 14, 0, 2, 0, 0, 0, 54, 213, 233, 1, 1, 0, 1, 0, 0, 0, 3, 0, 0, 0, 255, 255, 255, 255] ++ u8z 230 ++ u8s [1, 0, 27, 0, 3, 0, 0, 0, 50, 165, 25, 235, 2, 1] ++ u8z 4 ++ u8s [1] ++ u8z 12 ++ u8s [3, 0, 0, 0, 255, 255, 255, 255] ++ u8z 217 ++ u8s [3, 0, 17, 0, 4, 0, 0, 0, 199, 184, 67, 119, 2, 1, 0, 0, 0, 3, 0, 0, 0, 3, 0, 0, 0, 4] ++ u8z 230 ++ u8s [1, 0, 14, 0, 5, 0, 0, 0, 64, 196, 222, 82, 1] ++ u8z 5 ++ u8s [4, 0, 0, 0, 255, 255, 255, 255] ++ u8z 230) 5 false))]⟩
theorem m23_122_ok : m23_122.ok (call evT evF k23_122 100000 m23_122.f m23_122.args m23_122.preH) = true := by kernel_rfl
theorem q23_122 : HkOk Tryz.prog (hkMemo m23_122) := hkMemo_ok evT_ok evF_ok k23_122_ok rfl m23_122_ok
noncomputable def k23_131 : Hk := hkLib
theorem k23_131_ok : HkOk Tryz.prog k23_131 := hkLib_ok
noncomputable def m23_131 : Mm :=
  ⟨275, [.slice (some ⟨11519, 0, none⟩) 2 2], 13366, [(11519, .cells [.int .i64 (.ofNat 1), .int .i64 (.ofNat 0), .int .i64 (.ofNat 1), .int .i64 (.ofNat 0), .int .i64 (.ofNat 0), .int .i64 (.ofNat 3)] 145 false)], .slice (some ⟨13430, 0, none⟩) 2 2, 13431, [(13430, some (.cells [.int .i64 (.ofNat 1), .int .i64 (.ofNat 0), .int .i64 (.ofNat 1), .int .i64 (.ofNat 0), .int .i64 (.ofNat 0), .int .i64 (.ofNat 3)] 145 false))]⟩
theorem m23_131_ok : m23_131.ok (call evT evF k23_131 100000 m23_131.f m23_131.args m23_131.preH) = true := by kernel_rfl
theorem q23_131 : HkOk Tryz.prog (hkMemo m23_131) := hkMemo_ok evT_ok evF_ok k23_131_ok rfl m23_131_ok
noncomputable def k23_135 : Hk := hkLib
theorem k23_135_ok : HkOk Tryz.prog k23_135 := hkLib_ok
noncomputable def m23_135 : Mm :=
  ⟨67, [.slice none 0 0, .int .i64 (.ofNat 0), .slice (some ⟨13558, 0, none⟩) 256 256], 13577, [(13558, .cells (u8z 64 ++ u8s [3, 0, 0, 0, 111, 99, 116, 97, 118, 111, 48, 49, 3] ++ u8z 5 ++ u8s [6, 0, 0, 0, 1, 1, 0, 0, 0, 4] ++ u8z 36 ++ u8s [14, 118, 28, 196, 4] ++ u8z 7 ++ u8s [1, 0, 0, 0, 1] ++ u8z 4 ++ u8s [2, 1] ++ u8z 4 ++ u8s [1] ++ u8z 5 ++ u8s [3] ++ u8z 94) 5 false)], .slice (some ⟨14088, 0, none⟩) 256 256, 14089, [(14088, some (.cells (u8z 64 ++ u8s [3, 0, 0, 0, 111, 99, 116, 97, 118, 111, 48, 49, 3] ++ u8z 5 ++ u8s [6, 0, 0, 0, 1, 1, 0, 0, 0, 4] ++ u8z 36 ++ u8s [14, 118, 28, 196, 4] ++ u8z 7 ++ u8s [1, 0, 0, 0, 1] ++ u8z 4 ++ u8s [2, 1] ++ u8z 4 ++ u8s [1] ++ u8z 5 ++ u8s [3] ++ u8z 94) 5 false))]⟩
theorem m23_135_ok : m23_135.ok (call evT evF k23_135 100000 m23_135.f m23_135.args m23_135.preH) = true := by kernel_rfl
theorem q23_135 : HkOk Tryz.prog (hkMemo m23_135) := hkMemo_ok evT_ok evF_ok k23_135_ok rfl m23_135_ok
noncomputable def k23_139 : Hk := hkLib
theorem k23_139_ok : HkOk Tryz.prog k23_139 := hkLib_ok
noncomputable def m23_139 : Mm :=
  ⟨142, [.agg #[.int .i64 (.ofNat 0), .bool false, .int .i64 (.ofNat 98), .int .u32 (.ofNat 4247761631)]], 14225, [], .tuple #[.slice (some ⟨14255, 0, none⟩) 64 64, .int .i64 (.ofNat 0)], 14256, [(14255, some (.cells (u8s [111, 99, 116, 97, 118, 111, 45, 106] ++ u8z 5 ++ u8s [98, 0, 0, 0, 223, 178, 47, 253] ++ u8z 39 ++ u8s [138, 247, 168, 249]) 5 false))]⟩
theorem m23_139_ok : m23_139.ok (call evT evF k23_139 100000 m23_139.f m23_139.args m23_139.preH) = true := by kernel_rfl
theorem q23_139 : HkOk Tryz.prog (hkMemo m23_139) := hkMemo_ok evT_ok evF_ok k23_139_ok rfl m23_139_ok
noncomputable def k23_145 : Hk := hkLib
theorem k23_145_ok : HkOk Tryz.prog k23_145 := hkLib_ok
noncomputable def m23_145 : Mm :=
  ⟨11, [.pointer (some ⟨2, 0, none⟩), .string ⟨#[106, 111, 117, 114, 110, 97, 108]⟩, .int .i64 (.ofNat 0), .slice (some ⟨14447, 0, none⟩) 64 64], 14448, [(1, .map [⟨.string ⟨#[111, 114, 105, 103, 105, 110, 97, 108]⟩, .pointer (some ⟨32, 0, none⟩), 0⟩, ⟨.string ⟨#[115, 116, 111, 114, 101]⟩, .pointer (some ⟨412, 0, none⟩), 1⟩, ⟨.string ⟨#[116, 97, 105, 108]⟩, .pointer (some ⟨3148, 0, none⟩), 2⟩, ⟨.string ⟨#[106, 111, 117, 114, 110, 97, 108]⟩, .pointer (some ⟨13576, 0, none⟩), 3⟩] 4),
  (2, .cells [.int .i64 (.ofNat 100000), .int .i64 (.ofNat 26), .int .i64 (.negSucc 25), .bool false, .bool false, .map (some 1), .slice none 0 0] 61 true),
  (32, .cells [.slice (some ⟨13245, 0, none⟩) 4 4, .slice (some ⟨13275, 0, none⟩) 4 4, .bool true] 130 true),
  (412, .cells [.slice (some ⟨13047, 0, none⟩) 1792 1792, .slice (some ⟨13171, 0, none⟩) 1792 1792, .bool true] 130 true),
  (3148, .cells [.slice (some ⟨3150, 0, none⟩) 1 1, .slice (some ⟨13185, 0, none⟩) 1 1, .bool true] 130 true),
  (3150, .cells (u8s [120]) 5 false),
  (13185, .cells (u8s [120]) 5 false),
  (13245, .cells (u8s [97, 98, 99, 0]) 5 false),
  (13275, .cells (u8s [97, 98, 99, 0]) 5 false),
  (13576, .cells [.slice (some ⟨14088, 0, none⟩) 256 256, .slice (some ⟨14398, 0, none⟩) 256 256, .bool true] 130 true),
  (14088, .cells (u8s [111, 99, 116, 97, 118, 111, 45, 106] ++ u8z 5 ++ u8s [98, 0, 0, 0, 223, 178, 47, 253] ++ u8z 39 ++ u8s [138, 247, 168, 249, 3, 0, 0, 0, 111, 99, 116, 97, 118, 111, 48, 49, 3] ++ u8z 5 ++ u8s [6, 0, 0, 0, 1, 1, 0, 0, 0, 4] ++ u8z 36 ++ u8s [14, 118, 28, 196, 4] ++ u8z 7 ++ u8s [1, 0, 0, 0, 1] ++ u8z 4 ++ u8s [2, 1] ++ u8z 4 ++ u8s [1] ++ u8z 5 ++ u8s [3] ++ u8z 30 ++ u8s [120, 97, 98, 99] ++ u8z 60) 5 false),
  (14447, .cells (u8s [111, 99, 116, 97, 118, 111, 45, 106] ++ u8z 4 ++ u8s [1, 98, 0, 0, 0, 223, 178, 47, 253] ++ u8z 39 ++ u8s [86, 27, 25, 196]) 5 false)], .int .i64 (.ofNat 0), 14492, [(2, some (.cells [.int .i64 (.ofNat 100000), .int .i64 (.ofNat 27), .int .i64 (.negSucc 26), .bool false, .bool false, .map (some 1), .slice (some ⟨14483, 0, none⟩) 1 1] 61 true)),
  (14088, some (.cells (u8s [111, 99, 116, 97, 118, 111, 45, 106] ++ u8z 4 ++ u8s [1, 98, 0, 0, 0, 223, 178, 47, 253] ++ u8z 39 ++ u8s [86, 27, 25, 196, 3, 0, 0, 0, 111, 99, 116, 97, 118, 111, 48, 49, 3] ++ u8z 5 ++ u8s [6, 0, 0, 0, 1, 1, 0, 0, 0, 4] ++ u8z 36 ++ u8s [14, 118, 28, 196, 4] ++ u8z 7 ++ u8s [1, 0, 0, 0, 1] ++ u8z 4 ++ u8s [2, 1] ++ u8z 4 ++ u8s [1] ++ u8z 5 ++ u8s [3] ++ u8z 30 ++ u8s [120, 97, 98, 99] ++ u8z 60) 5 false)),
  (14482, some (.cells (u8s [111, 99, 116, 97, 118, 111, 45, 106] ++ u8z 4 ++ u8s [1, 98, 0, 0, 0, 223, 178, 47, 253] ++ u8z 39 ++ u8s [86, 27, 25, 196]) 5 false)),
  (14483, some (.cells [.string ⟨#[106, 111, 117, 114, 110, 97, 108]⟩, .int .i64 (.ofNat 0), .slice (some ⟨14482, 0, none⟩) 64 64] 134 false))]⟩
theorem m23_145_ok : m23_145.ok (call evT evF k23_145 100000 m23_145.f m23_145.args m23_145.preH) = true := by kernel_rfl
theorem q23_145 : HkOk Tryz.prog (hkMemo m23_145) := hkMemo_ok evT_ok evF_ok k23_145_ok rfl m23_145_ok
noncomputable def k23_147 : Hk := hkLib
theorem k23_147_ok : HkOk Tryz.prog k23_147 := hkLib_ok
noncomputable def m23_147 : Mm :=
  ⟨11, [.pointer (some ⟨2, 0, none⟩), .string ⟨#[111, 114, 105, 103, 105, 110, 97, 108]⟩, .int .i64 (.ofNat 0), .slice (some ⟨14521, 0, none⟩) 4 4], 14532, [(1, .map [⟨.string ⟨#[111, 114, 105, 103, 105, 110, 97, 108]⟩, .pointer (some ⟨32, 0, none⟩), 0⟩, ⟨.string ⟨#[115, 116, 111, 114, 101]⟩, .pointer (some ⟨412, 0, none⟩), 1⟩, ⟨.string ⟨#[116, 97, 105, 108]⟩, .pointer (some ⟨3148, 0, none⟩), 2⟩, ⟨.string ⟨#[106, 111, 117, 114, 110, 97, 108]⟩, .pointer (some ⟨13576, 0, none⟩), 3⟩] 4),
  (2, .cells [.int .i64 (.ofNat 100000), .int .i64 (.ofNat 28), .int .i64 (.negSucc 27), .bool false, .bool false, .map (some 1), .slice none 0 0] 61 true),
  (32, .cells [.slice (some ⟨13245, 0, none⟩) 4 4, .slice (some ⟨13275, 0, none⟩) 4 4, .bool true] 130 true),
  (412, .cells [.slice (some ⟨13047, 0, none⟩) 1792 1792, .slice (some ⟨13171, 0, none⟩) 1792 1792, .bool true] 130 true),
  (3148, .cells [.slice (some ⟨3150, 0, none⟩) 1 1, .slice (some ⟨13185, 0, none⟩) 1 1, .bool true] 130 true),
  (3150, .cells (u8s [120]) 5 false),
  (13185, .cells (u8s [120]) 5 false),
  (13245, .cells (u8s [97, 98, 99, 0]) 5 false),
  (13275, .cells (u8s [97, 98, 99, 0]) 5 false),
  (13576, .cells [.slice (some ⟨14088, 0, none⟩) 256 256, .slice (some ⟨14493, 0, none⟩) 256 256, .bool true] 130 true),
  (14521, .cells (u8s [120, 97, 98, 99]) 5 false)], .int .i64 (.ofNat 0), 14576, [(2, some (.cells [.int .i64 (.ofNat 100000), .int .i64 (.ofNat 29), .int .i64 (.negSucc 28), .bool false, .bool false, .map (some 1), .slice (some ⟨14567, 0, none⟩) 1 1] 61 true)),
  (13245, some (.cells (u8s [120, 97, 98, 99]) 5 false)),
  (14566, some (.cells (u8s [120, 97, 98, 99]) 5 false)),
  (14567, some (.cells [.string ⟨#[111, 114, 105, 103, 105, 110, 97, 108]⟩, .int .i64 (.ofNat 0), .slice (some ⟨14566, 0, none⟩) 4 4] 134 false))]⟩
theorem m23_147_ok : m23_147.ok (call evT evF k23_147 100000 m23_147.f m23_147.args m23_147.preH) = true := by kernel_rfl
theorem q23_147 : HkOk Tryz.prog (hkMemo m23_147) := hkMemo_ok evT_ok evF_ok k23_147_ok rfl m23_147_ok
noncomputable def k23_155 : Hk := hkLib
theorem k23_155_ok : HkOk Tryz.prog k23_155 := hkLib_ok
noncomputable def m23_155 : Mm :=
  ⟨184, [.pointer (some ⟨14878, 0, none⟩), .int .i64 (.ofNat 230)], 15068, [(14877, .cells (u8s [1, 0, 14, 0, 2, 0, 0, 0, 54, 213, 233, 1, 1, 0, 1, 0, 0, 0, 3, 0, 0, 0, 255, 255, 255, 255] ++ u8z 230) 5 false),
  (14878, .cells [.slice (some ⟨14877, 0, none⟩) 256 256, .int .i64 (.ofNat 26)] 360 true)], .int .i64 (.ofNat 0), 15097, [(14878, some (.cells [.slice (some ⟨14877, 0, none⟩) 256 256, .int .i64 (.ofNat 256)] 360 true))]⟩
theorem m23_155_ok : m23_155.ok (call evT evF k23_155 100000 m23_155.f m23_155.args m23_155.preH) = true := by kernel_rfl
theorem q23_155 : HkOk Tryz.prog (hkMemo m23_155) := hkMemo_ok evT_ok evF_ok k23_155_ok rfl m23_155_ok
noncomputable def k23_171 : Hk := hkLib
theorem k23_171_ok : HkOk Tryz.prog k23_171 := hkLib_ok
noncomputable def m23_171 : Mm :=
  ⟨134, [.slice (some ⟨16571, 0, none⟩) 256 256, .slice (some ⟨15986, 512, none⟩) 256 1280], 16572, [(15986, .cells (u8s [111, 99, 116, 97, 118, 111, 48, 49, 2] ++ u8z 5 ++ u8s [4, 0, 0, 0, 1, 1, 0, 0, 0, 3] ++ u8z 36 ++ u8s [250, 212, 113, 102, 111, 99, 116, 97, 118, 111, 48, 49, 3] ++ u8z 5 ++ u8s [6, 0, 0, 0, 1, 1, 0, 0, 0, 4] ++ u8z 36 ++ u8s [14, 118, 28, 196] ++ u8z 128 ++ u8s [1, 0, 14, 0, 1, 0, 0, 0, 194, 105, 111, 233, 1] ++ u8z 5 ++ u8s [3, 0, 0, 0, 255, 255, 255, 255] ++ u8z 230 ++ u8s [1, 0, 14, 0, 2, 0, 0, 0, 54, 213, 233, 1, 1, 0, 1, 0, 0, 0, 3, 0, 0, 0, 255, 255, 255, 255] ++ u8z 230 ++ u8s [1, 0, 27, 0, 3, 0, 0, 0, 50, 165, 25, 235, 2, 1] ++ u8z 4 ++ u8s [1] ++ u8z 12 ++ u8s [3, 0, 0, 0, 255, 255, 255, 255] ++ u8z 217 ++ u8s [3, 0, 17, 0, 4, 0, 0, 0, 199, 184, 67, 119, 2, 1, 0, 0, 0, 3, 0, 0, 0, 3, 0, 0, 0, 4] ++ u8z 230 ++ u8s [1, 0, 14, 0, 5, 0, 0, 0, 64, 196, 222, 82, 1] ++ u8z 5 ++ u8s [4, 0, 0, 0, 255, 255, 255, 255] ++ u8z 230 ++ u8s [3, 0, 17, 0, 6, 0, 0, 0, 34, 46, 224, 217, 2, 2, 0, 0, 0, 3, 0, 0, 0, 5, 0, 0, 0, 4] ++ u8z 230) 5 false),
  (16571, .cells (u8s [1, 0, 14, 0, 2, 0, 0, 0, 54, 213, 233, 1, 1, 0, 1, 0, 0, 0, 3, 0, 0, 0, 255, 255, 255, 255] ++ u8z 230) 5 false)], .bool true, 18876, []⟩
theorem m23_171_ok : m23_171.ok (call evT evF k23_171 100000 m23_171.f m23_171.args m23_171.preH) = true := by kernel_rfl
theorem q23_171 : HkOk Tryz.prog (hkMemo m23_171) := hkMemo_ok evT_ok evF_ok k23_171_ok rfl m23_171_ok
noncomputable def k23_173 : Hk := hkLib
theorem k23_173_ok : HkOk Tryz.prog k23_173 := hkLib_ok
noncomputable def m23_173 : Mm :=
  ⟨316, [.int .i64 (.ofNat 1), .slice (some ⟨16041, 0, none⟩) 14 14], 18876, [(16041, .cells (u8s [1, 0, 1, 0, 0, 0, 3, 0, 0, 0, 255, 255, 255, 255]) 5 false)], .tuple #[.agg #[.bool true, .slice (some ⟨18899, 0, none⟩) 1 1, .slice none 0 0], .int .i64 (.ofNat 0)], 18916, [(18899, some (.cells [.int .i64 (.ofNat 0), .int .i64 (.ofNat 1), .int .i64 (.ofNat 3), .int .i64 (.negSucc 0)] 147 false))]⟩
theorem m23_173_ok : m23_173.ok (call evT evF k23_173 100000 m23_173.f m23_173.args m23_173.preH) = true := by kernel_rfl
theorem q23_173 : HkOk Tryz.prog (hkMemo m23_173) := hkMemo_ok evT_ok evF_ok k23_173_ok rfl m23_173_ok
noncomputable def k23_175 : Hk := hkLib
theorem k23_175_ok : HkOk Tryz.prog k23_175 := hkLib_ok
noncomputable def m23_175 : Mm :=
  ⟨133, [.pointer (some ⟨2, 0, none⟩), .slice (some ⟨18899, 0, none⟩) 1 1], 18971, [(1, .map [⟨.string ⟨#[111, 114, 105, 103, 105, 110, 97, 108]⟩, .pointer (some ⟨32, 0, none⟩), 0⟩, ⟨.string ⟨#[115, 116, 111, 114, 101]⟩, .pointer (some ⟨412, 0, none⟩), 1⟩, ⟨.string ⟨#[116, 97, 105, 108]⟩, .pointer (some ⟨3148, 0, none⟩), 2⟩, ⟨.string ⟨#[106, 111, 117, 114, 110, 97, 108]⟩, .pointer (some ⟨13576, 0, none⟩), 3⟩] 4),
  (2, .cells [.int .i64 (.ofNat 100000), .int .i64 (.ofNat 37), .int .i64 (.negSucc 36), .bool false, .bool false, .map (some 1), .slice none 0 0] 61 true),
  (32, .cells [.slice (some ⟨13245, 0, none⟩) 4 4, .slice (some ⟨14687, 0, none⟩) 4 4, .bool true] 130 true),
  (412, .cells [.slice (some ⟨13047, 0, none⟩) 1792 1792, .slice (some ⟨14771, 0, none⟩) 1792 1792, .bool true] 130 true),
  (3148, .cells [.slice (some ⟨3150, 0, none⟩) 1 1, .slice (some ⟨13185, 0, none⟩) 1 1, .bool true] 130 true),
  (3150, .cells (u8s [120]) 5 false),
  (13185, .cells (u8s [120]) 5 false),
  (13245, .cells (u8s [120, 97, 98, 99]) 5 false),
  (13576, .cells [.slice (some ⟨14088, 0, none⟩) 0 256, .slice (some ⟨14775, 0, none⟩) 0 0, .bool true] 130 true),
  (14687, .cells (u8s [120, 97, 98, 99]) 5 false),
  (14775, .cells [] 5 true),
  (18899, .cells [.int .i64 (.ofNat 0), .int .i64 (.ofNat 1), .int .i64 (.ofNat 3), .int .i64 (.negSucc 0)] 147 false)], .tuple #[.slice (some ⟨19014, 0, none⟩) 3 3, .bool true], 19015, [(19014, some (.cells (u8s [97, 98, 99]) 5 false))]⟩
theorem m23_175_ok : m23_175.ok (call evT evF k23_175 100000 m23_175.f m23_175.args m23_175.preH) = true := by kernel_rfl
theorem q23_175 : HkOk Tryz.prog (hkMemo m23_175) := hkMemo_ok evT_ok evF_ok k23_175_ok rfl m23_175_ok
end Go.Proofs.YtjclpdlijblpjaaGreat
