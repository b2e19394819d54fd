/-
  Calls that were reckoned out, one by one. Printed by a program.
-/
import Derived.Test.YteffkpgilmpbeaaGreatEvl
namespace Go.Proofs.YteffkpgilmpbeaaGreat
open Go.Ev
set_option maxRecDepth 1000000
noncomputable def k15_0 : Hk := hkLib
theorem k15_0_ok : HkOk Tryz.prog k15_0 := hkLib_ok
noncomputable def m15_0 : Mm :=
  ⟨138, [.agg #[.bool true, .slice (some ⟨258, 0, none⟩) 3 3, .slice none 0 0]], 266, [(258, .cells [.int .i64 (.ofNat 0), .int .i64 (.ofNat 0), .int .i64 (.ofNat 2), .int .i64 (.negSucc 0), .int .i64 (.ofNat 1), .int .i64 (.ofNat 0), .int .i64 (.ofNat 1), .int .i64 (.ofNat 1), .int .i64 (.ofNat 0), .int .i64 (.ofNat 2), .int .i64 (.ofNat 1), .int .i64 (.negSucc 0)] 90 false)], .tuple #[.int .i64 (.ofNat 1), .slice (some ⟨367, 0, none⟩) 40 40, .int .i64 (.ofNat 0)], 368, [(367, some (.cells (u8s [3] ++ u8z 5 ++ u8s [2, 0, 0, 0, 255, 255, 255, 255, 1] ++ u8z 4 ++ u8s [1, 0, 0, 0, 1] ++ u8z 4 ++ u8s [2, 0, 0, 0, 1, 0, 0, 0, 255, 255, 255, 255]) 5 false))]⟩
theorem m15_0_ok : m15_0.ok (call evT evF k15_0 100000 m15_0.f m15_0.args m15_0.preH) = true := by kernel_rfl
noncomputable def k15_1 : Hk := orHk (hkMemo m15_0) k15_0
theorem k15_1_ok : HkOk Tryz.prog k15_1 := orHk_ok (hkMemo_ok evT_ok evF_ok k15_0_ok rfl m15_0_ok) k15_0_ok
noncomputable def m15_1 : Mm :=
  ⟨32, [.pointer (some ⟨96, 0, none⟩), .slice (some ⟨99, 0, none⟩) 3 3], 100, [(2, .map [⟨.string ⟨#[111, 114, 105, 103, 105, 110, 97, 108]⟩, .pointer (some ⟨33, 0, none⟩), 0⟩, ⟨.string ⟨#[116, 97, 105, 108]⟩, .pointer (some ⟨66, 0, none⟩), 1⟩] 2),
  (3, .cells [.int .i64 (.ofNat 16777216), .int .i64 (.ofNat 0), .int .i64 (.ofNat 0), .bool false, .bool false, .map (some 2), .slice none 0 0] 113 true),
  (33, .cells [.slice (some ⟨35, 0, none⟩) 3 3, .slice (some ⟨36, 0, none⟩) 3 3, .bool true] 119 true),
  (35, .cells (u8s [97, 10, 98]) 5 false),
  (36, .cells (u8s [97, 10, 98]) 5 false),
  (66, .cells [.slice (some ⟨68, 0, none⟩) 1 1, .slice (some ⟨69, 0, none⟩) 1 1, .bool true] 119 true),
  (68, .cells (u8s [10]) 5 false),
  (69, .cells (u8s [10]) 5 false),
  (73, .map [] 0),
  (74, .cells [.int .i64 (.ofNat 4), .int .i64 (.ofNat 0), .int .i64 (.ofNat 0), .bool false, .pointer (some ⟨74, 1, none⟩), .pointer (some ⟨74, 1, none⟩), .map (some 73)] 174 true),
  (91, .map [] 0),
  (92, .cells [.pointer (some ⟨74, 0, none⟩), .pointer (some ⟨3, 0, none⟩), .string ⟨#[115, 116, 111, 114, 101]⟩, .int .i64 (.ofNat 4), .map (some 91), .int .i64 (.ofNat 0)] 128 true),
  (93, .map [] 0),
  (94, .map [] 0),
  (95, .cells [.int .i64 (.ofNat 1), .map (some 93), .map (some 94), .slice none 0 0] 130 true),
  (96, .cells [.pointer (some ⟨92, 0, none⟩), .pointer (some ⟨95, 0, none⟩)] 132 true),
  (99, .cells [.int .i64 (.ofNat 0), .int .i64 (.ofNat 0), .int .i64 (.ofNat 2), .int .i64 (.negSucc 0), .int .i64 (.ofNat 1), .int .i64 (.ofNat 0), .int .i64 (.ofNat 1), .int .i64 (.ofNat 1), .int .i64 (.ofNat 0), .int .i64 (.ofNat 2), .int .i64 (.ofNat 1), .int .i64 (.negSucc 0)] 90 true)], .tuple #[.int .i64 (.ofNat 1), .int .i64 (.ofNat 0)], 488, [(73, some (.map [⟨.int .i64 (.ofNat 1), .pointer (some ⟨401, 0, none⟩), 0⟩] 1)),
  (74, some (.cells [.int .i64 (.ofNat 4), .int .i64 (.ofNat 0), .int .i64 (.ofNat 0), .bool false, .pointer (some ⟨401, 0, none⟩), .pointer (some ⟨401, 0, none⟩), .map (some 73)] 174 true)),
  (91, some (.map [⟨.int .i64 (.ofNat 1), .slice (some ⟨427, 0, none⟩) 256 256, 0⟩] 1)),
  (93, some (.map [⟨.int .i64 (.ofNat 1), .bool true, 0⟩] 1)),
  (95, some (.cells [.int .i64 (.ofNat 1), .map (some 93), .map (some 94), .slice (some ⟨369, 0, none⟩) 1 1] 130 true)),
  (369, some (.cells [.int .i64 (.ofNat 1)] 3 false)),
  (401, some (.cells [.int .i64 (.ofNat 1), .int .i64 (.ofNat 0), .bool true, .pointer (some ⟨74, 1, none⟩), .pointer (some ⟨74, 1, none⟩)] 172 true)),
  (427, some (.cells (u8s [1, 0, 40, 0, 1, 0, 0, 0, 207, 184, 175, 249, 3] ++ u8z 5 ++ u8s [2, 0, 0, 0, 255, 255, 255, 255, 1] ++ u8z 4 ++ u8s [1, 0, 0, 0, 1] ++ u8z 4 ++ u8s [2, 0, 0, 0, 1, 0, 0, 0, 255, 255, 255, 255] ++ u8z 204) 5 false))]⟩
theorem m15_1_ok : m15_1.ok (call evT evF k15_1 100000 m15_1.f m15_1.args m15_1.preH) = true := by kernel_rfl
noncomputable def k15_2 : Hk := orHk (hkMemo m15_1) k15_1
theorem k15_2_ok : HkOk Tryz.prog k15_2 := orHk_ok (hkMemo_ok evT_ok evF_ok k15_1_ok rfl m15_1_ok) k15_1_ok
noncomputable def m15_2 : Mm :=
  ⟨69, [.int .i64 (.ofNat 1), .slice (some ⟨530, 0, none⟩) 256 256], 531, [(530, .cells (u8s [1, 0, 40, 0, 1, 0, 0, 0, 207, 184, 175, 249, 3] ++ u8z 5 ++ u8s [2, 0, 0, 0, 255, 255, 255, 255, 1] ++ u8z 4 ++ u8s [1, 0, 0, 0, 1] ++ u8z 4 ++ u8s [2, 0, 0, 0, 1, 0, 0, 0, 255, 255, 255, 255] ++ u8z 204) 5 false)], .tuple #[.int .i64 (.ofNat 1), .slice (some ⟨720, 0, none⟩) 40 40, .int .i64 (.ofNat 0)], 761, [(720, some (.cells (u8s [3] ++ u8z 5 ++ u8s [2, 0, 0, 0, 255, 255, 255, 255, 1] ++ u8z 4 ++ u8s [1, 0, 0, 0, 1] ++ u8z 4 ++ u8s [2, 0, 0, 0, 1, 0, 0, 0, 255, 255, 255, 255]) 5 false))]⟩
theorem m15_2_ok : m15_2.ok (call evT evF k15_2 100000 m15_2.f m15_2.args m15_2.preH) = true := by kernel_rfl
noncomputable def k15_3 : Hk := orHk (hkMemo m15_2) k15_2
theorem k15_3_ok : HkOk Tryz.prog k15_3 := orHk_ok (hkMemo_ok evT_ok evF_ok k15_2_ok rfl m15_2_ok) k15_2_ok
noncomputable def m15_3 : Mm :=
  ⟨70, [.int .i64 (.ofNat 1), .slice (some ⟨720, 0, none⟩) 40 40], 762, [(720, .cells (u8s [3] ++ u8z 5 ++ u8s [2, 0, 0, 0, 255, 255, 255, 255, 1] ++ u8z 4 ++ u8s [1, 0, 0, 0, 1] ++ u8z 4 ++ u8s [2, 0, 0, 0, 1, 0, 0, 0, 255, 255, 255, 255]) 5 false)], .tuple #[.agg #[.bool true, .slice (some ⟨1196, 0, none⟩) 3 3, .slice none 0 0], .int .i64 (.ofNat 0)], 1217, [(1196, some (.cells [.int .i64 (.ofNat 0), .int .i64 (.ofNat 0), .int .i64 (.ofNat 2), .int .i64 (.negSucc 0), .int .i64 (.ofNat 1), .int .i64 (.ofNat 0), .int .i64 (.ofNat 1), .int .i64 (.ofNat 1), .int .i64 (.ofNat 0), .int .i64 (.ofNat 2), .int .i64 (.ofNat 1), .int .i64 (.negSucc 0)] 90 false))]⟩
theorem m15_3_ok : m15_3.ok (call evT evF k15_3 100000 m15_3.f m15_3.args m15_3.preH) = true := by kernel_rfl
noncomputable def k15_4 : Hk := orHk (hkMemo m15_3) k15_3
theorem k15_4_ok : HkOk Tryz.prog k15_4 := orHk_ok (hkMemo_ok evT_ok evF_ok k15_3_ok rfl m15_3_ok) k15_3_ok
noncomputable def m15_4 : Mm :=
  ⟨69, [.int .i64 (.ofNat 1), .slice (some ⟨1354, 0, none⟩) 256 256], 1355, [(1354, .cells (u8s [1, 0, 40, 0, 1, 0, 0, 0, 207, 184, 175, 249, 3] ++ u8z 5 ++ u8s [2, 0, 0, 0, 255, 255, 255, 255, 1] ++ u8z 4 ++ u8s [1, 0, 0, 0, 1] ++ u8z 4 ++ u8s [2, 0, 0, 0, 1, 0, 0, 0, 255, 255, 255, 255] ++ u8z 204) 5 false)], .tuple #[.int .i64 (.ofNat 1), .slice (some ⟨1544, 0, none⟩) 40 40, .int .i64 (.ofNat 0)], 1585, [(1544, some (.cells (u8s [3] ++ u8z 5 ++ u8s [2, 0, 0, 0, 255, 255, 255, 255, 1] ++ u8z 4 ++ u8s [1, 0, 0, 0, 1] ++ u8z 4 ++ u8s [2, 0, 0, 0, 1, 0, 0, 0, 255, 255, 255, 255]) 5 false))]⟩
theorem m15_4_ok : m15_4.ok (call evT evF k15_4 100000 m15_4.f m15_4.args m15_4.preH) = true := by kernel_rfl
noncomputable def k15_5 : Hk := orHk (hkMemo m15_4) k15_4
theorem k15_5_ok : HkOk Tryz.prog k15_5 := orHk_ok (hkMemo_ok evT_ok evF_ok k15_4_ok rfl m15_4_ok) k15_4_ok
noncomputable def m15_5 : Mm :=
  ⟨70, [.int .i64 (.ofNat 1), .slice (some ⟨1544, 0, none⟩) 40 40], 1586, [(1544, .cells (u8s [3] ++ u8z 5 ++ u8s [2, 0, 0, 0, 255, 255, 255, 255, 1] ++ u8z 4 ++ u8s [1, 0, 0, 0, 1] ++ u8z 4 ++ u8s [2, 0, 0, 0, 1, 0, 0, 0, 255, 255, 255, 255]) 5 false)], .tuple #[.agg #[.bool true, .slice (some ⟨2020, 0, none⟩) 3 3, .slice none 0 0], .int .i64 (.ofNat 0)], 2041, [(2020, some (.cells [.int .i64 (.ofNat 0), .int .i64 (.ofNat 0), .int .i64 (.ofNat 2), .int .i64 (.negSucc 0), .int .i64 (.ofNat 1), .int .i64 (.ofNat 0), .int .i64 (.ofNat 1), .int .i64 (.ofNat 1), .int .i64 (.ofNat 0), .int .i64 (.ofNat 2), .int .i64 (.ofNat 1), .int .i64 (.negSucc 0)] 90 false))]⟩
theorem m15_5_ok : m15_5.ok (call evT evF k15_5 100000 m15_5.f m15_5.args m15_5.preH) = true := by kernel_rfl
noncomputable def k15_6 : Hk := orHk (hkMemo m15_5) k15_5
theorem k15_6_ok : HkOk Tryz.prog k15_6 := orHk_ok (hkMemo_ok evT_ok evF_ok k15_5_ok rfl m15_5_ok) k15_5_ok
noncomputable def m15_6 : Mm :=
  ⟨69, [.int .i64 (.ofNat 1), .slice (some ⟨2140, 0, none⟩) 256 256], 2141, [(2140, .cells (u8s [1, 0, 40, 0, 1, 0, 0, 0, 207, 184, 175, 249, 3] ++ u8z 5 ++ u8s [2, 0, 0, 0, 255, 255, 255, 255, 1] ++ u8z 4 ++ u8s [1, 0, 0, 0, 1] ++ u8z 4 ++ u8s [2, 0, 0, 0, 1, 0, 0, 0, 255, 255, 255, 255] ++ u8z 204) 5 false)], .tuple #[.int .i64 (.ofNat 1), .slice (some ⟨2330, 0, none⟩) 40 40, .int .i64 (.ofNat 0)], 2371, [(2330, some (.cells (u8s [3] ++ u8z 5 ++ u8s [2, 0, 0, 0, 255, 255, 255, 255, 1] ++ u8z 4 ++ u8s [1, 0, 0, 0, 1] ++ u8z 4 ++ u8s [2, 0, 0, 0, 1, 0, 0, 0, 255, 255, 255, 255]) 5 false))]⟩
theorem m15_6_ok : m15_6.ok (call evT evF k15_6 100000 m15_6.f m15_6.args m15_6.preH) = true := by kernel_rfl
noncomputable def k15_7 : Hk := orHk (hkMemo m15_6) k15_6
theorem k15_7_ok : HkOk Tryz.prog k15_7 := orHk_ok (hkMemo_ok evT_ok evF_ok k15_6_ok rfl m15_6_ok) k15_6_ok
noncomputable def m15_7 : Mm :=
  ⟨70, [.int .i64 (.ofNat 1), .slice (some ⟨2330, 0, none⟩) 40 40], 2372, [(2330, .cells (u8s [3] ++ u8z 5 ++ u8s [2, 0, 0, 0, 255, 255, 255, 255, 1] ++ u8z 4 ++ u8s [1, 0, 0, 0, 1] ++ u8z 4 ++ u8s [2, 0, 0, 0, 1, 0, 0, 0, 255, 255, 255, 255]) 5 false)], .tuple #[.agg #[.bool true, .slice (some ⟨2806, 0, none⟩) 3 3, .slice none 0 0], .int .i64 (.ofNat 0)], 2827, [(2806, some (.cells [.int .i64 (.ofNat 0), .int .i64 (.ofNat 0), .int .i64 (.ofNat 2), .int .i64 (.negSucc 0), .int .i64 (.ofNat 1), .int .i64 (.ofNat 0), .int .i64 (.ofNat 1), .int .i64 (.ofNat 1), .int .i64 (.ofNat 0), .int .i64 (.ofNat 2), .int .i64 (.ofNat 1), .int .i64 (.negSucc 0)] 90 false))]⟩
theorem m15_7_ok : m15_7.ok (call evT evF k15_7 100000 m15_7.f m15_7.args m15_7.preH) = true := by kernel_rfl
noncomputable def k15_8 : Hk := orHk (hkMemo m15_7) k15_7
theorem k15_8_ok : HkOk Tryz.prog k15_8 := orHk_ok (hkMemo_ok evT_ok evF_ok k15_7_ok rfl m15_7_ok) k15_7_ok
noncomputable def m15_8 : Mm :=
  ⟨6, [.pointer (some ⟨97, 0, none⟩), .int .i64 (.ofNat 1), .int .i64 (.ofNat 3)], 1312, [(2, .map [⟨.string ⟨#[111, 114, 105, 103, 105, 110, 97, 108]⟩, .pointer (some ⟨33, 0, none⟩), 0⟩, ⟨.string ⟨#[116, 97, 105, 108]⟩, .pointer (some ⟨66, 0, none⟩), 1⟩] 2),
  (3, .cells [.int .i64 (.ofNat 16777216), .int .i64 (.ofNat 0), .int .i64 (.ofNat 0), .bool false, .bool false, .map (some 2), .slice none 0 0] 113 true),
  (33, .cells [.slice (some ⟨35, 0, none⟩) 3 3, .slice (some ⟨36, 0, none⟩) 3 3, .bool true] 119 true),
  (35, .cells (u8s [97, 10, 98]) 5 false),
  (36, .cells (u8s [97, 10, 98]) 5 false),
  (66, .cells [.slice (some ⟨68, 0, none⟩) 1 1, .slice (some ⟨69, 0, none⟩) 1 1, .bool true] 119 true),
  (68, .cells (u8s [10]) 5 false),
  (69, .cells (u8s [10]) 5 false),
  (70, .cells [.pointer (some ⟨3, 0, none⟩), .int .i64 (.ofNat 1)] 87 true),
  (71, .map [] 0),
  (72, .cells [.pointer (some ⟨3, 0, none⟩), .string ⟨#[111, 114, 105, 103, 105, 110, 97, 108]⟩, .int .i64 (.ofNat 3), .int .i64 (.ofNat 3), .map (some 71)] 122 true),
  (73, .map [⟨.int .i64 (.ofNat 1), .pointer (some ⟨401, 0, none⟩), 0⟩] 1),
  (74, .cells [.int .i64 (.ofNat 4), .int .i64 (.ofNat 0), .int .i64 (.ofNat 0), .bool false, .pointer (some ⟨401, 0, none⟩), .pointer (some ⟨401, 0, none⟩), .map (some 73)] 174 true),
  (91, .map [⟨.int .i64 (.ofNat 1), .slice (some ⟨427, 0, none⟩) 256 256, 0⟩] 1),
  (92, .cells [.pointer (some ⟨74, 0, none⟩), .pointer (some ⟨3, 0, none⟩), .string ⟨#[115, 116, 111, 114, 101]⟩, .int .i64 (.ofNat 4), .map (some 91), .int .i64 (.ofNat 0)] 128 true),
  (93, .map [⟨.int .i64 (.ofNat 1), .bool true, 0⟩] 1),
  (94, .map [] 0),
  (95, .cells [.int .i64 (.ofNat 1), .map (some 93), .map (some 94), .slice (some ⟨369, 0, none⟩) 1 1] 130 true),
  (96, .cells [.pointer (some ⟨92, 0, none⟩), .pointer (some ⟨95, 0, none⟩)] 132 true),
  (97, .cells [.pointer (some ⟨96, 0, none⟩), .pointer (some ⟨72, 0, none⟩), .pointer (some ⟨70, 0, none⟩)] 55 true),
  (369, .cells [.int .i64 (.ofNat 1)] 3 false),
  (401, .cells [.int .i64 (.ofNat 1), .int .i64 (.ofNat 0), .bool true, .pointer (some ⟨74, 1, none⟩), .pointer (some ⟨74, 1, none⟩)] 172 true),
  (427, .cells (u8s [1, 0, 40, 0, 1, 0, 0, 0, 207, 184, 175, 249, 3] ++ u8z 5 ++ u8s [2, 0, 0, 0, 255, 255, 255, 255, 1] ++ u8z 4 ++ u8s [1, 0, 0, 0, 1] ++ u8z 4 ++ u8s [2, 0, 0, 0, 1, 0, 0, 0, 255, 255, 255, 255] ++ u8z 204) 5 false)], .tuple #[.int .i64 (.ofNat 2), .int .i64 (.ofNat 0)], 2899, [(72, some (.cells [.pointer (some ⟨3, 0, none⟩), .string ⟨#[111, 114, 105, 103, 105, 110, 97, 108]⟩, .int .i64 (.ofNat 3), .int .i64 (.ofNat 5), .map (some 71)] 122 true))]⟩
theorem m15_8_ok : m15_8.ok (call evT evF k15_8 100000 m15_8.f m15_8.args m15_8.preH) = true := by kernel_rfl
noncomputable def k15_9 : Hk := orHk (hkMemo m15_8) k15_8
theorem k15_9_ok : HkOk Tryz.prog k15_9 := orHk_ok (hkMemo_ok evT_ok evF_ok k15_8_ok rfl m15_8_ok) k15_8_ok
noncomputable def m15_9 : Mm :=
  ⟨69, [.int .i64 (.ofNat 1), .slice (some ⟨2941, 0, none⟩) 256 256], 2942, [(2941, .cells (u8s [1, 0, 40, 0, 1, 0, 0, 0, 207, 184, 175, 249, 3] ++ u8z 5 ++ u8s [2, 0, 0, 0, 255, 255, 255, 255, 1] ++ u8z 4 ++ u8s [1, 0, 0, 0, 1] ++ u8z 4 ++ u8s [2, 0, 0, 0, 1, 0, 0, 0, 255, 255, 255, 255] ++ u8z 204) 5 false)], .tuple #[.int .i64 (.ofNat 1), .slice (some ⟨3131, 0, none⟩) 40 40, .int .i64 (.ofNat 0)], 3172, [(3131, some (.cells (u8s [3] ++ u8z 5 ++ u8s [2, 0, 0, 0, 255, 255, 255, 255, 1] ++ u8z 4 ++ u8s [1, 0, 0, 0, 1] ++ u8z 4 ++ u8s [2, 0, 0, 0, 1, 0, 0, 0, 255, 255, 255, 255]) 5 false))]⟩
theorem m15_9_ok : m15_9.ok (call evT evF k15_9 100000 m15_9.f m15_9.args m15_9.preH) = true := by kernel_rfl
noncomputable def k15_10 : Hk := orHk (hkMemo m15_9) k15_9
theorem k15_10_ok : HkOk Tryz.prog k15_10 := orHk_ok (hkMemo_ok evT_ok evF_ok k15_9_ok rfl m15_9_ok) k15_9_ok
noncomputable def m15_10 : Mm :=
  ⟨70, [.int .i64 (.ofNat 1), .slice (some ⟨3131, 0, none⟩) 40 40], 3173, [(3131, .cells (u8s [3] ++ u8z 5 ++ u8s [2, 0, 0, 0, 255, 255, 255, 255, 1] ++ u8z 4 ++ u8s [1, 0, 0, 0, 1] ++ u8z 4 ++ u8s [2, 0, 0, 0, 1, 0, 0, 0, 255, 255, 255, 255]) 5 false)], .tuple #[.agg #[.bool true, .slice (some ⟨3607, 0, none⟩) 3 3, .slice none 0 0], .int .i64 (.ofNat 0)], 3628, [(3607, some (.cells [.int .i64 (.ofNat 0), .int .i64 (.ofNat 0), .int .i64 (.ofNat 2), .int .i64 (.negSucc 0), .int .i64 (.ofNat 1), .int .i64 (.ofNat 0), .int .i64 (.ofNat 1), .int .i64 (.ofNat 1), .int .i64 (.ofNat 0), .int .i64 (.ofNat 2), .int .i64 (.ofNat 1), .int .i64 (.negSucc 0)] 90 false))]⟩
theorem m15_10_ok : m15_10.ok (call evT evF k15_10 100000 m15_10.f m15_10.args m15_10.preH) = true := by kernel_rfl
noncomputable def k15_11 : Hk := orHk (hkMemo m15_10) k15_10
theorem k15_11_ok : HkOk Tryz.prog k15_11 := orHk_ok (hkMemo_ok evT_ok evF_ok k15_10_ok rfl m15_10_ok) k15_10_ok
noncomputable def m15_11 : Mm :=
  ⟨69, [.int .i64 (.ofNat 1), .slice (some ⟨3727, 0, none⟩) 256 256], 3728, [(3727, .cells (u8s [1, 0, 40, 0, 1, 0, 0, 0, 207, 184, 175, 249, 3] ++ u8z 5 ++ u8s [2, 0, 0, 0, 255, 255, 255, 255, 1] ++ u8z 4 ++ u8s [1, 0, 0, 0, 1] ++ u8z 4 ++ u8s [2, 0, 0, 0, 1, 0, 0, 0, 255, 255, 255, 255] ++ u8z 204) 5 false)], .tuple #[.int .i64 (.ofNat 1), .slice (some ⟨3917, 0, none⟩) 40 40, .int .i64 (.ofNat 0)], 3958, [(3917, some (.cells (u8s [3] ++ u8z 5 ++ u8s [2, 0, 0, 0, 255, 255, 255, 255, 1] ++ u8z 4 ++ u8s [1, 0, 0, 0, 1] ++ u8z 4 ++ u8s [2, 0, 0, 0, 1, 0, 0, 0, 255, 255, 255, 255]) 5 false))]⟩
theorem m15_11_ok : m15_11.ok (call evT evF k15_11 100000 m15_11.f m15_11.args m15_11.preH) = true := by kernel_rfl
noncomputable def k15_12 : Hk := orHk (hkMemo m15_11) k15_11
theorem k15_12_ok : HkOk Tryz.prog k15_12 := orHk_ok (hkMemo_ok evT_ok evF_ok k15_11_ok rfl m15_11_ok) k15_11_ok
noncomputable def m15_12 : Mm :=
  ⟨70, [.int .i64 (.ofNat 1), .slice (some ⟨3917, 0, none⟩) 40 40], 3959, [(3917, .cells (u8s [3] ++ u8z 5 ++ u8s [2, 0, 0, 0, 255, 255, 255, 255, 1] ++ u8z 4 ++ u8s [1, 0, 0, 0, 1] ++ u8z 4 ++ u8s [2, 0, 0, 0, 1, 0, 0, 0, 255, 255, 255, 255]) 5 false)], .tuple #[.agg #[.bool true, .slice (some ⟨4393, 0, none⟩) 3 3, .slice none 0 0], .int .i64 (.ofNat 0)], 4414, [(4393, some (.cells [.int .i64 (.ofNat 0), .int .i64 (.ofNat 0), .int .i64 (.ofNat 2), .int .i64 (.negSucc 0), .int .i64 (.ofNat 1), .int .i64 (.ofNat 0), .int .i64 (.ofNat 1), .int .i64 (.ofNat 1), .int .i64 (.ofNat 0), .int .i64 (.ofNat 2), .int .i64 (.ofNat 1), .int .i64 (.negSucc 0)] 90 false))]⟩
theorem m15_12_ok : m15_12.ok (call evT evF k15_12 100000 m15_12.f m15_12.args m15_12.preH) = true := by kernel_rfl
noncomputable def k15_13 : Hk := orHk (hkMemo m15_12) k15_12
theorem k15_13_ok : HkOk Tryz.prog k15_13 := orHk_ok (hkMemo_ok evT_ok evF_ok k15_12_ok rfl m15_12_ok) k15_12_ok
noncomputable def m15_13 : Mm :=
  ⟨7, [.pointer (some ⟨97, 0, none⟩), .int .i64 (.ofNat 1), .int .i64 (.ofNat 2)], 2899, [(2, .map [⟨.string ⟨#[111, 114, 105, 103, 105, 110, 97, 108]⟩, .pointer (some ⟨33, 0, none⟩), 0⟩, ⟨.string ⟨#[116, 97, 105, 108]⟩, .pointer (some ⟨66, 0, none⟩), 1⟩] 2),
  (3, .cells [.int .i64 (.ofNat 16777216), .int .i64 (.ofNat 0), .int .i64 (.ofNat 0), .bool false, .bool false, .map (some 2), .slice none 0 0] 113 true),
  (33, .cells [.slice (some ⟨35, 0, none⟩) 3 3, .slice (some ⟨36, 0, none⟩) 3 3, .bool true] 119 true),
  (35, .cells (u8s [97, 10, 98]) 5 false),
  (36, .cells (u8s [97, 10, 98]) 5 false),
  (66, .cells [.slice (some ⟨68, 0, none⟩) 1 1, .slice (some ⟨69, 0, none⟩) 1 1, .bool true] 119 true),
  (68, .cells (u8s [10]) 5 false),
  (69, .cells (u8s [10]) 5 false),
  (70, .cells [.pointer (some ⟨3, 0, none⟩), .int .i64 (.ofNat 1)] 87 true),
  (71, .map [] 0),
  (72, .cells [.pointer (some ⟨3, 0, none⟩), .string ⟨#[111, 114, 105, 103, 105, 110, 97, 108]⟩, .int .i64 (.ofNat 3), .int .i64 (.ofNat 5), .map (some 71)] 122 true),
  (73, .map [⟨.int .i64 (.ofNat 1), .pointer (some ⟨401, 0, none⟩), 0⟩] 1),
  (74, .cells [.int .i64 (.ofNat 4), .int .i64 (.ofNat 0), .int .i64 (.ofNat 0), .bool false, .pointer (some ⟨401, 0, none⟩), .pointer (some ⟨401, 0, none⟩), .map (some 73)] 174 true),
  (91, .map [⟨.int .i64 (.ofNat 1), .slice (some ⟨427, 0, none⟩) 256 256, 0⟩] 1),
  (92, .cells [.pointer (some ⟨74, 0, none⟩), .pointer (some ⟨3, 0, none⟩), .string ⟨#[115, 116, 111, 114, 101]⟩, .int .i64 (.ofNat 4), .map (some 91), .int .i64 (.ofNat 0)] 128 true),
  (93, .map [⟨.int .i64 (.ofNat 1), .bool true, 0⟩] 1),
  (94, .map [] 0),
  (95, .cells [.int .i64 (.ofNat 1), .map (some 93), .map (some 94), .slice (some ⟨369, 0, none⟩) 1 1] 130 true),
  (96, .cells [.pointer (some ⟨92, 0, none⟩), .pointer (some ⟨95, 0, none⟩)] 132 true),
  (97, .cells [.pointer (some ⟨96, 0, none⟩), .pointer (some ⟨72, 0, none⟩), .pointer (some ⟨70, 0, none⟩)] 55 true),
  (369, .cells [.int .i64 (.ofNat 1)] 3 false),
  (401, .cells [.int .i64 (.ofNat 1), .int .i64 (.ofNat 0), .bool true, .pointer (some ⟨74, 1, none⟩), .pointer (some ⟨74, 1, none⟩)] 172 true),
  (427, .cells (u8s [1, 0, 40, 0, 1, 0, 0, 0, 207, 184, 175, 249, 3] ++ u8z 5 ++ u8s [2, 0, 0, 0, 255, 255, 255, 255, 1] ++ u8z 4 ++ u8s [1, 0, 0, 0, 1] ++ u8z 4 ++ u8s [2, 0, 0, 0, 1, 0, 0, 0, 255, 255, 255, 255] ++ u8z 204) 5 false)], .tuple #[.int .i64 (.ofNat 3), .int .i64 (.ofNat 0)], 4482, [(72, some (.cells [.pointer (some ⟨3, 0, none⟩), .string ⟨#[111, 114, 105, 103, 105, 110, 97, 108]⟩, .int .i64 (.ofNat 3), .int .i64 (.ofNat 7), .map (some 71)] 122 true))]⟩
theorem m15_13_ok : m15_13.ok (call evT evF k15_13 100000 m15_13.f m15_13.args m15_13.preH) = true := by kernel_rfl
noncomputable def k15_14 : Hk := orHk (hkMemo m15_13) k15_13
theorem k15_14_ok : HkOk Tryz.prog k15_14 := orHk_ok (hkMemo_ok evT_ok evF_ok k15_13_ok rfl m15_13_ok) k15_13_ok
noncomputable def m15_14 : Mm :=
  ⟨69, [.int .i64 (.ofNat 1), .slice (some ⟨4524, 0, none⟩) 256 256], 4525, [(4524, .cells (u8s [1, 0, 40, 0, 1, 0, 0, 0, 207, 184, 175, 249, 3] ++ u8z 5 ++ u8s [2, 0, 0, 0, 255, 255, 255, 255, 1] ++ u8z 4 ++ u8s [1, 0, 0, 0, 1] ++ u8z 4 ++ u8s [2, 0, 0, 0, 1, 0, 0, 0, 255, 255, 255, 255] ++ u8z 204) 5 false)], .tuple #[.int .i64 (.ofNat 1), .slice (some ⟨4714, 0, none⟩) 40 40, .int .i64 (.ofNat 0)], 4755, [(4714, some (.cells (u8s [3] ++ u8z 5 ++ u8s [2, 0, 0, 0, 255, 255, 255, 255, 1] ++ u8z 4 ++ u8s [1, 0, 0, 0, 1] ++ u8z 4 ++ u8s [2, 0, 0, 0, 1, 0, 0, 0, 255, 255, 255, 255]) 5 false))]⟩
theorem m15_14_ok : m15_14.ok (call evT evF k15_14 100000 m15_14.f m15_14.args m15_14.preH) = true := by kernel_rfl
noncomputable def k15_15 : Hk := orHk (hkMemo m15_14) k15_14
theorem k15_15_ok : HkOk Tryz.prog k15_15 := orHk_ok (hkMemo_ok evT_ok evF_ok k15_14_ok rfl m15_14_ok) k15_14_ok
noncomputable def m15_15 : Mm :=
  ⟨70, [.int .i64 (.ofNat 1), .slice (some ⟨4714, 0, none⟩) 40 40], 4756, [(4714, .cells (u8s [3] ++ u8z 5 ++ u8s [2, 0, 0, 0, 255, 255, 255, 255, 1] ++ u8z 4 ++ u8s [1, 0, 0, 0, 1] ++ u8z 4 ++ u8s [2, 0, 0, 0, 1, 0, 0, 0, 255, 255, 255, 255]) 5 false)], .tuple #[.agg #[.bool true, .slice (some ⟨5190, 0, none⟩) 3 3, .slice none 0 0], .int .i64 (.ofNat 0)], 5211, [(5190, some (.cells [.int .i64 (.ofNat 0), .int .i64 (.ofNat 0), .int .i64 (.ofNat 2), .int .i64 (.negSucc 0), .int .i64 (.ofNat 1), .int .i64 (.ofNat 0), .int .i64 (.ofNat 1), .int .i64 (.ofNat 1), .int .i64 (.ofNat 0), .int .i64 (.ofNat 2), .int .i64 (.ofNat 1), .int .i64 (.negSucc 0)] 90 false))]⟩
theorem m15_15_ok : m15_15.ok (call evT evF k15_15 100000 m15_15.f m15_15.args m15_15.preH) = true := by kernel_rfl
noncomputable def k15_16 : Hk := orHk (hkMemo m15_15) k15_15
theorem k15_16_ok : HkOk Tryz.prog k15_16 := orHk_ok (hkMemo_ok evT_ok evF_ok k15_15_ok rfl m15_15_ok) k15_15_ok
noncomputable def m15_16 : Mm :=
  ⟨69, [.int .i64 (.ofNat 1), .slice (some ⟨5310, 0, none⟩) 256 256], 5311, [(5310, .cells (u8s [1, 0, 40, 0, 1, 0, 0, 0, 207, 184, 175, 249, 3] ++ u8z 5 ++ u8s [2, 0, 0, 0, 255, 255, 255, 255, 1] ++ u8z 4 ++ u8s [1, 0, 0, 0, 1] ++ u8z 4 ++ u8s [2, 0, 0, 0, 1, 0, 0, 0, 255, 255, 255, 255] ++ u8z 204) 5 false)], .tuple #[.int .i64 (.ofNat 1), .slice (some ⟨5500, 0, none⟩) 40 40, .int .i64 (.ofNat 0)], 5541, [(5500, some (.cells (u8s [3] ++ u8z 5 ++ u8s [2, 0, 0, 0, 255, 255, 255, 255, 1] ++ u8z 4 ++ u8s [1, 0, 0, 0, 1] ++ u8z 4 ++ u8s [2, 0, 0, 0, 1, 0, 0, 0, 255, 255, 255, 255]) 5 false))]⟩
theorem m15_16_ok : m15_16.ok (call evT evF k15_16 100000 m15_16.f m15_16.args m15_16.preH) = true := by kernel_rfl
noncomputable def k15_17 : Hk := orHk (hkMemo m15_16) k15_16
theorem k15_17_ok : HkOk Tryz.prog k15_17 := orHk_ok (hkMemo_ok evT_ok evF_ok k15_16_ok rfl m15_16_ok) k15_16_ok
noncomputable def m15_17 : Mm :=
  ⟨70, [.int .i64 (.ofNat 1), .slice (some ⟨5500, 0, none⟩) 40 40], 5542, [(5500, .cells (u8s [3] ++ u8z 5 ++ u8s [2, 0, 0, 0, 255, 255, 255, 255, 1] ++ u8z 4 ++ u8s [1, 0, 0, 0, 1] ++ u8z 4 ++ u8s [2, 0, 0, 0, 1, 0, 0, 0, 255, 255, 255, 255]) 5 false)], .tuple #[.agg #[.bool true, .slice (some ⟨5976, 0, none⟩) 3 3, .slice none 0 0], .int .i64 (.ofNat 0)], 5997, [(5976, some (.cells [.int .i64 (.ofNat 0), .int .i64 (.ofNat 0), .int .i64 (.ofNat 2), .int .i64 (.negSucc 0), .int .i64 (.ofNat 1), .int .i64 (.ofNat 0), .int .i64 (.ofNat 1), .int .i64 (.ofNat 1), .int .i64 (.ofNat 0), .int .i64 (.ofNat 2), .int .i64 (.ofNat 1), .int .i64 (.negSucc 0)] 90 false))]⟩
theorem m15_17_ok : m15_17.ok (call evT evF k15_17 100000 m15_17.f m15_17.args m15_17.preH) = true := by kernel_rfl
noncomputable def k15_18 : Hk := orHk (hkMemo m15_17) k15_17
theorem k15_18_ok : HkOk Tryz.prog k15_18 := orHk_ok (hkMemo_ok evT_ok evF_ok k15_17_ok rfl m15_17_ok) k15_17_ok
noncomputable def m15_18 : Mm :=
  ⟨7, [.pointer (some ⟨97, 0, none⟩), .int .i64 (.ofNat 1), .int .i64 (.ofNat 3)], 4482, [(2, .map [⟨.string ⟨#[111, 114, 105, 103, 105, 110, 97, 108]⟩, .pointer (some ⟨33, 0, none⟩), 0⟩, ⟨.string ⟨#[116, 97, 105, 108]⟩, .pointer (some ⟨66, 0, none⟩), 1⟩] 2),
  (3, .cells [.int .i64 (.ofNat 16777216), .int .i64 (.ofNat 0), .int .i64 (.ofNat 0), .bool false, .bool false, .map (some 2), .slice none 0 0] 113 true),
  (33, .cells [.slice (some ⟨35, 0, none⟩) 3 3, .slice (some ⟨36, 0, none⟩) 3 3, .bool true] 119 true),
  (35, .cells (u8s [97, 10, 98]) 5 false),
  (36, .cells (u8s [97, 10, 98]) 5 false),
  (66, .cells [.slice (some ⟨68, 0, none⟩) 1 1, .slice (some ⟨69, 0, none⟩) 1 1, .bool true] 119 true),
  (68, .cells (u8s [10]) 5 false),
  (69, .cells (u8s [10]) 5 false),
  (70, .cells [.pointer (some ⟨3, 0, none⟩), .int .i64 (.ofNat 1)] 87 true),
  (71, .map [] 0),
  (72, .cells [.pointer (some ⟨3, 0, none⟩), .string ⟨#[111, 114, 105, 103, 105, 110, 97, 108]⟩, .int .i64 (.ofNat 3), .int .i64 (.ofNat 7), .map (some 71)] 122 true),
  (73, .map [⟨.int .i64 (.ofNat 1), .pointer (some ⟨401, 0, none⟩), 0⟩] 1),
  (74, .cells [.int .i64 (.ofNat 4), .int .i64 (.ofNat 0), .int .i64 (.ofNat 0), .bool false, .pointer (some ⟨401, 0, none⟩), .pointer (some ⟨401, 0, none⟩), .map (some 73)] 174 true),
  (91, .map [⟨.int .i64 (.ofNat 1), .slice (some ⟨427, 0, none⟩) 256 256, 0⟩] 1),
  (92, .cells [.pointer (some ⟨74, 0, none⟩), .pointer (some ⟨3, 0, none⟩), .string ⟨#[115, 116, 111, 114, 101]⟩, .int .i64 (.ofNat 4), .map (some 91), .int .i64 (.ofNat 0)] 128 true),
  (93, .map [⟨.int .i64 (.ofNat 1), .bool true, 0⟩] 1),
  (94, .map [] 0),
  (95, .cells [.int .i64 (.ofNat 1), .map (some 93), .map (some 94), .slice (some ⟨369, 0, none⟩) 1 1] 130 true),
  (96, .cells [.pointer (some ⟨92, 0, none⟩), .pointer (some ⟨95, 0, none⟩)] 132 true),
  (97, .cells [.pointer (some ⟨96, 0, none⟩), .pointer (some ⟨72, 0, none⟩), .pointer (some ⟨70, 0, none⟩)] 55 true),
  (369, .cells [.int .i64 (.ofNat 1)] 3 false),
  (401, .cells [.int .i64 (.ofNat 1), .int .i64 (.ofNat 0), .bool true, .pointer (some ⟨74, 1, none⟩), .pointer (some ⟨74, 1, none⟩)] 172 true),
  (427, .cells (u8s [1, 0, 40, 0, 1, 0, 0, 0, 207, 184, 175, 249, 3] ++ u8z 5 ++ u8s [2, 0, 0, 0, 255, 255, 255, 255, 1] ++ u8z 4 ++ u8s [1, 0, 0, 0, 1] ++ u8z 4 ++ u8s [2, 0, 0, 0, 1, 0, 0, 0, 255, 255, 255, 255] ++ u8z 204) 5 false)], .tuple #[.int .i64 (.ofNat 0), .int .i64 (.ofNat 2)], 6119, [(72, some (.cells [.pointer (some ⟨3, 0, none⟩), .string ⟨#[111, 114, 105, 103, 105, 110, 97, 108]⟩, .int .i64 (.ofNat 3), .int .i64 (.ofNat 10), .map (some 71)] 122 true))]⟩
theorem m15_18_ok : m15_18.ok (call evT evF k15_18 100000 m15_18.f m15_18.args m15_18.preH) = true := by kernel_rfl
noncomputable def k15_19 : Hk := orHk (hkMemo m15_18) k15_18
theorem k15_19_ok : HkOk Tryz.prog k15_19 := orHk_ok (hkMemo_ok evT_ok evF_ok k15_18_ok rfl m15_18_ok) k15_18_ok
end Go.Proofs.YteffkpgilmpbeaaGreat
