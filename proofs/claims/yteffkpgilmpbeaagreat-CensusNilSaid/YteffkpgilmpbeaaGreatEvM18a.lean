/-
  Calls that were reckoned out, one by one. Printed by a program.
-/
import Derived.Test.YteffkpgilmpbeaaGreatEvl
namespace Go.Proofs.YteffkpgilmpbeaaGreat
open Go.Ev
set_option maxRecDepth 1000000
noncomputable def k18_0 : Hk := hkLib
theorem k18_0_ok : HkOk Tryz.prog k18_0 := hkLib_ok
noncomputable def m18_0 : Mm :=
  ⟨105, [.pointer (some ⟨93, 0, none⟩), .agg #[.bool true, .slice (some ⟨150, 0, none⟩) 1 1, .slice none 0 0]], 156, [(2, .map [⟨.string ⟨#[111, 114, 105, 103, 105, 110, 97, 108]⟩, .pointer (some ⟨33, 0, none⟩), 0⟩, ⟨.string ⟨#[116, 97, 105, 108]⟩, .pointer (some ⟨66, 0, none⟩), 1⟩] 2),
  (3, .cells [.int .i64 (.ofNat 16777216), .int .i64 (.ofNat 0), .int .i64 (.ofNat 0), .bool false, .bool false, .map (some 2), .slice none 0 0] 113 true),
  (33, .cells [.slice (some ⟨35, 0, none⟩) 5 5, .slice (some ⟨36, 0, none⟩) 5 5, .bool true] 119 true),
  (35, .cells (u8s [97, 98, 10, 99, 100]) 5 false),
  (36, .cells (u8s [97, 98, 10, 99, 100]) 5 false),
  (66, .cells [.slice (some ⟨68, 0, none⟩) 1 1, .slice (some ⟨69, 0, none⟩) 1 1, .bool true] 119 true),
  (68, .cells (u8s [120]) 5 false),
  (69, .cells (u8s [120]) 5 false),
  (70, .map [] 0),
  (71, .cells [.int .i64 (.ofNat 7), .int .i64 (.ofNat 0), .int .i64 (.ofNat 0), .bool false, .pointer (some ⟨71, 1, none⟩), .pointer (some ⟨71, 1, none⟩), .map (some 70)] 174 true),
  (88, .map [] 0),
  (89, .cells [.pointer (some ⟨71, 0, none⟩), .pointer (some ⟨3, 0, none⟩), .string ⟨#[115, 116, 111, 114, 101]⟩, .int .i64 (.ofNat 7), .map (some 88), .int .i64 (.ofNat 0)] 128 true),
  (90, .map [] 0),
  (91, .map [] 0),
  (92, .cells [.int .i64 (.ofNat 1), .map (some 90), .map (some 91), .slice none 0 0] 130 true),
  (93, .cells [.pointer (some ⟨89, 0, none⟩), .pointer (some ⟨92, 0, none⟩)] 132 true),
  (150, .cells [.int .i64 (.ofNat 0), .int .i64 (.ofNat 0), .int .i64 (.ofNat 5), .int .i64 (.negSucc 0)] 90 false)], .agg #[.int .i64 (.ofNat 1), .int .i64 (.ofNat 5), .int .i64 (.negSucc 0), .int .i64 (.ofNat 1)], 295, [(70, some (.map [⟨.int .i64 (.ofNat 1), .pointer (some ⟨235, 0, none⟩), 0⟩] 1)),
  (71, some (.cells [.int .i64 (.ofNat 7), .int .i64 (.ofNat 0), .int .i64 (.ofNat 0), .bool false, .pointer (some ⟨235, 0, none⟩), .pointer (some ⟨235, 0, none⟩), .map (some 70)] 174 true)),
  (88, some (.map [⟨.int .i64 (.ofNat 1), .slice (some ⟨261, 0, none⟩) 256 256, 0⟩] 1)),
  (90, some (.map [⟨.int .i64 (.ofNat 1), .bool true, 0⟩] 1)),
  (92, some (.cells [.int .i64 (.ofNat 1), .map (some 90), .map (some 91), .slice (some ⟨203, 0, none⟩) 1 1] 130 true)),
  (203, some (.cells [.int .i64 (.ofNat 1)] 3 false)),
  (235, some (.cells [.int .i64 (.ofNat 1), .int .i64 (.ofNat 0), .bool true, .pointer (some ⟨71, 1, none⟩), .pointer (some ⟨71, 1, none⟩)] 172 true)),
  (261, some (.cells (u8s [1, 0, 14, 0, 1, 0, 0, 0, 7, 23, 113, 182, 1] ++ u8z 5 ++ u8s [5, 0, 0, 0, 255, 255, 255, 255] ++ u8z 230) 5 false))]⟩
theorem m18_0_ok : m18_0.ok (call evT evF k18_0 100000 m18_0.f m18_0.args m18_0.preH) = true := by kernel_rfl
noncomputable def k18_1 : Hk := orHk (hkMemo m18_0) k18_0
theorem k18_1_ok : HkOk Tryz.prog k18_1 := orHk_ok (hkMemo_ok evT_ok evF_ok k18_0_ok rfl m18_0_ok) k18_0_ok
noncomputable def m18_1 : Mm :=
  ⟨95, [.pointer (some ⟨358, 0, none⟩), .int .i64 (.ofNat 230)], 548, [(357, .cells (u8s [1, 0, 14, 0, 1, 0, 0, 0, 7, 23, 113, 182, 1] ++ u8z 5 ++ u8s [5, 0, 0, 0, 255, 255, 255, 255] ++ u8z 230) 5 false),
  (358, .cells [.slice (some ⟨357, 0, none⟩) 256 256, .int .i64 (.ofNat 26)] 230 true)], .int .i64 (.ofNat 0), 577, [(358, some (.cells [.slice (some ⟨357, 0, none⟩) 256 256, .int .i64 (.ofNat 256)] 230 true))]⟩
theorem m18_1_ok : m18_1.ok (call evT evF k18_1 100000 m18_1.f m18_1.args m18_1.preH) = true := by kernel_rfl
noncomputable def k18_2 : Hk := orHk (hkMemo m18_1) k18_1
theorem k18_2_ok : HkOk Tryz.prog k18_2 := orHk_ok (hkMemo_ok evT_ok evF_ok k18_1_ok rfl m18_1_ok) k18_1_ok
noncomputable def m18_2 : Mm :=
  ⟨39, [.pointer (some ⟨93, 0, none⟩), .int .i64 (.ofNat 1)], 306, [(2, .map [⟨.string ⟨#[111, 114, 105, 103, 105, 110, 97, 108]⟩, .pointer (some ⟨33, 0, none⟩), 0⟩, ⟨.string ⟨#[116, 97, 105, 108]⟩, .pointer (some ⟨66, 0, none⟩), 1⟩] 2),
  (3, .cells [.int .i64 (.ofNat 16777216), .int .i64 (.ofNat 0), .int .i64 (.ofNat 0), .bool false, .bool false, .map (some 2), .slice none 0 0] 113 true),
  (33, .cells [.slice (some ⟨35, 0, none⟩) 5 5, .slice (some ⟨36, 0, none⟩) 5 5, .bool true] 119 true),
  (35, .cells (u8s [97, 98, 10, 99, 100]) 5 false),
  (36, .cells (u8s [97, 98, 10, 99, 100]) 5 false),
  (66, .cells [.slice (some ⟨68, 0, none⟩) 1 1, .slice (some ⟨69, 0, none⟩) 1 1, .bool true] 119 true),
  (68, .cells (u8s [120]) 5 false),
  (69, .cells (u8s [120]) 5 false),
  (70, .map [⟨.int .i64 (.ofNat 1), .pointer (some ⟨235, 0, none⟩), 0⟩] 1),
  (71, .cells [.int .i64 (.ofNat 7), .int .i64 (.ofNat 0), .int .i64 (.ofNat 0), .bool false, .pointer (some ⟨235, 0, none⟩), .pointer (some ⟨235, 0, none⟩), .map (some 70)] 174 true),
  (88, .map [⟨.int .i64 (.ofNat 1), .slice (some ⟨261, 0, none⟩) 256 256, 0⟩] 1),
  (89, .cells [.pointer (some ⟨71, 0, none⟩), .pointer (some ⟨3, 0, none⟩), .string ⟨#[115, 116, 111, 114, 101]⟩, .int .i64 (.ofNat 7), .map (some 88), .int .i64 (.ofNat 0)] 128 true),
  (90, .map [⟨.int .i64 (.ofNat 1), .bool true, 0⟩] 1),
  (91, .map [] 0),
  (92, .cells [.int .i64 (.ofNat 1), .map (some 90), .map (some 91), .slice (some ⟨203, 0, none⟩) 1 1] 130 true),
  (93, .cells [.pointer (some ⟨89, 0, none⟩), .pointer (some ⟨92, 0, none⟩)] 132 true),
  (203, .cells [.int .i64 (.ofNat 1)] 3 false),
  (235, .cells [.int .i64 (.ofNat 1), .int .i64 (.ofNat 0), .bool true, .pointer (some ⟨71, 1, none⟩), .pointer (some ⟨71, 1, none⟩)] 172 true),
  (261, .cells (u8s [1, 0, 14, 0, 1, 0, 0, 0, 7, 23, 113, 182, 1] ++ u8z 5 ++ u8s [5, 0, 0, 0, 255, 255, 255, 255] ++ u8z 230) 5 false)], .agg #[.bool true, .slice (some ⟨752, 0, none⟩) 1 1, .slice none 0 0], 767, [(752, some (.cells [.int .i64 (.ofNat 0), .int .i64 (.ofNat 0), .int .i64 (.ofNat 5), .int .i64 (.negSucc 0)] 90 false))]⟩
theorem m18_2_ok : m18_2.ok (call evT evF k18_2 100000 m18_2.f m18_2.args m18_2.preH) = true := by kernel_rfl
noncomputable def k18_3 : Hk := orHk (hkMemo m18_2) k18_2
theorem k18_3_ok : HkOk Tryz.prog k18_3 := orHk_ok (hkMemo_ok evT_ok evF_ok k18_2_ok rfl m18_2_ok) k18_2_ok
noncomputable def m18_3 : Mm :=
  ⟨95, [.pointer (some ⟨851, 0, none⟩), .int .i64 (.ofNat 230)], 1041, [(850, .cells (u8s [1, 0, 14, 0, 1, 0, 0, 0, 7, 23, 113, 182, 1] ++ u8z 5 ++ u8s [5, 0, 0, 0, 255, 255, 255, 255] ++ u8z 230) 5 false),
  (851, .cells [.slice (some ⟨850, 0, none⟩) 256 256, .int .i64 (.ofNat 26)] 230 true)], .int .i64 (.ofNat 0), 1070, [(851, some (.cells [.slice (some ⟨850, 0, none⟩) 256 256, .int .i64 (.ofNat 256)] 230 true))]⟩
theorem m18_3_ok : m18_3.ok (call evT evF k18_3 100000 m18_3.f m18_3.args m18_3.preH) = true := by kernel_rfl
noncomputable def k18_4 : Hk := orHk (hkMemo m18_3) k18_3
theorem k18_4_ok : HkOk Tryz.prog k18_4 := orHk_ok (hkMemo_ok evT_ok evF_ok k18_3_ok rfl m18_3_ok) k18_3_ok
noncomputable def m18_4 : Mm :=
  ⟨39, [.pointer (some ⟨93, 0, none⟩), .int .i64 (.ofNat 1)], 799, [(2, .map [⟨.string ⟨#[111, 114, 105, 103, 105, 110, 97, 108]⟩, .pointer (some ⟨33, 0, none⟩), 0⟩, ⟨.string ⟨#[116, 97, 105, 108]⟩, .pointer (some ⟨66, 0, none⟩), 1⟩] 2),
  (3, .cells [.int .i64 (.ofNat 16777216), .int .i64 (.ofNat 0), .int .i64 (.ofNat 0), .bool false, .bool false, .map (some 2), .slice none 0 0] 113 true),
  (33, .cells [.slice (some ⟨35, 0, none⟩) 5 5, .slice (some ⟨36, 0, none⟩) 5 5, .bool true] 119 true),
  (35, .cells (u8s [97, 98, 10, 99, 100]) 5 false),
  (36, .cells (u8s [97, 98, 10, 99, 100]) 5 false),
  (66, .cells [.slice (some ⟨68, 0, none⟩) 1 1, .slice (some ⟨69, 0, none⟩) 1 1, .bool true] 119 true),
  (68, .cells (u8s [120]) 5 false),
  (69, .cells (u8s [120]) 5 false),
  (70, .map [⟨.int .i64 (.ofNat 1), .pointer (some ⟨235, 0, none⟩), 0⟩] 1),
  (71, .cells [.int .i64 (.ofNat 7), .int .i64 (.ofNat 0), .int .i64 (.ofNat 0), .bool false, .pointer (some ⟨235, 0, none⟩), .pointer (some ⟨235, 0, none⟩), .map (some 70)] 174 true),
  (88, .map [⟨.int .i64 (.ofNat 1), .slice (some ⟨261, 0, none⟩) 256 256, 0⟩] 1),
  (89, .cells [.pointer (some ⟨71, 0, none⟩), .pointer (some ⟨3, 0, none⟩), .string ⟨#[115, 116, 111, 114, 101]⟩, .int .i64 (.ofNat 7), .map (some 88), .int .i64 (.ofNat 0)] 128 true),
  (90, .map [⟨.int .i64 (.ofNat 1), .bool true, 0⟩] 1),
  (91, .map [] 0),
  (92, .cells [.int .i64 (.ofNat 1), .map (some 90), .map (some 91), .slice (some ⟨203, 0, none⟩) 1 1] 130 true),
  (93, .cells [.pointer (some ⟨89, 0, none⟩), .pointer (some ⟨92, 0, none⟩)] 132 true),
  (203, .cells [.int .i64 (.ofNat 1)] 3 false),
  (235, .cells [.int .i64 (.ofNat 1), .int .i64 (.ofNat 0), .bool true, .pointer (some ⟨71, 1, none⟩), .pointer (some ⟨71, 1, none⟩)] 172 true),
  (261, .cells (u8s [1, 0, 14, 0, 1, 0, 0, 0, 7, 23, 113, 182, 1] ++ u8z 5 ++ u8s [5, 0, 0, 0, 255, 255, 255, 255] ++ u8z 230) 5 false)], .agg #[.bool true, .slice (some ⟨1245, 0, none⟩) 1 1, .slice none 0 0], 1260, [(1245, some (.cells [.int .i64 (.ofNat 0), .int .i64 (.ofNat 0), .int .i64 (.ofNat 5), .int .i64 (.negSucc 0)] 90 false))]⟩
theorem m18_4_ok : m18_4.ok (call evT evF k18_4 100000 m18_4.f m18_4.args m18_4.preH) = true := by kernel_rfl
noncomputable def k18_5 : Hk := orHk (hkMemo m18_4) k18_4
theorem k18_5_ok : HkOk Tryz.prog k18_5 := orHk_ok (hkMemo_ok evT_ok evF_ok k18_4_ok rfl m18_4_ok) k18_4_ok
noncomputable def m18_5 : Mm :=
  ⟨95, [.pointer (some ⟨1413, 0, none⟩), .int .i64 (.ofNat 230)], 1603, [(1412, .cells (u8s [1, 0, 14, 0, 1, 0, 0, 0, 7, 23, 113, 182, 1] ++ u8z 5 ++ u8s [5, 0, 0, 0, 255, 255, 255, 255] ++ u8z 230) 5 false),
  (1413, .cells [.slice (some ⟨1412, 0, none⟩) 256 256, .int .i64 (.ofNat 26)] 230 true)], .int .i64 (.ofNat 0), 1632, [(1413, some (.cells [.slice (some ⟨1412, 0, none⟩) 256 256, .int .i64 (.ofNat 256)] 230 true))]⟩
theorem m18_5_ok : m18_5.ok (call evT evF k18_5 100000 m18_5.f m18_5.args m18_5.preH) = true := by kernel_rfl
noncomputable def k18_6 : Hk := orHk (hkMemo m18_5) k18_5
theorem k18_6_ok : HkOk Tryz.prog k18_6 := orHk_ok (hkMemo_ok evT_ok evF_ok k18_5_ok rfl m18_5_ok) k18_5_ok
noncomputable def m18_6 : Mm :=
  ⟨39, [.pointer (some ⟨93, 0, none⟩), .int .i64 (.ofNat 1)], 1361, [(2, .map [⟨.string ⟨#[111, 114, 105, 103, 105, 110, 97, 108]⟩, .pointer (some ⟨33, 0, none⟩), 0⟩, ⟨.string ⟨#[116, 97, 105, 108]⟩, .pointer (some ⟨66, 0, none⟩), 1⟩] 2),
  (3, .cells [.int .i64 (.ofNat 16777216), .int .i64 (.ofNat 0), .int .i64 (.ofNat 0), .bool false, .bool false, .map (some 2), .slice none 0 0] 113 true),
  (33, .cells [.slice (some ⟨35, 0, none⟩) 5 5, .slice (some ⟨36, 0, none⟩) 5 5, .bool true] 119 true),
  (35, .cells (u8s [97, 98, 10, 99, 100]) 5 false),
  (36, .cells (u8s [97, 98, 10, 99, 100]) 5 false),
  (66, .cells [.slice (some ⟨68, 0, none⟩) 1 1, .slice (some ⟨69, 0, none⟩) 1 1, .bool true] 119 true),
  (68, .cells (u8s [120]) 5 false),
  (69, .cells (u8s [120]) 5 false),
  (70, .map [⟨.int .i64 (.ofNat 1), .pointer (some ⟨235, 0, none⟩), 0⟩] 1),
  (71, .cells [.int .i64 (.ofNat 7), .int .i64 (.ofNat 0), .int .i64 (.ofNat 0), .bool false, .pointer (some ⟨235, 0, none⟩), .pointer (some ⟨235, 0, none⟩), .map (some 70)] 174 true),
  (88, .map [⟨.int .i64 (.ofNat 1), .slice (some ⟨261, 0, none⟩) 256 256, 0⟩] 1),
  (89, .cells [.pointer (some ⟨71, 0, none⟩), .pointer (some ⟨3, 0, none⟩), .string ⟨#[115, 116, 111, 114, 101]⟩, .int .i64 (.ofNat 7), .map (some 88), .int .i64 (.ofNat 0)] 128 true),
  (90, .map [⟨.int .i64 (.ofNat 1), .bool true, 0⟩] 1),
  (91, .map [] 0),
  (92, .cells [.int .i64 (.ofNat 1), .map (some 90), .map (some 91), .slice (some ⟨203, 0, none⟩) 1 1] 130 true),
  (93, .cells [.pointer (some ⟨89, 0, none⟩), .pointer (some ⟨92, 0, none⟩)] 132 true),
  (203, .cells [.int .i64 (.ofNat 1)] 3 false),
  (235, .cells [.int .i64 (.ofNat 1), .int .i64 (.ofNat 0), .bool true, .pointer (some ⟨71, 1, none⟩), .pointer (some ⟨71, 1, none⟩)] 172 true),
  (261, .cells (u8s [1, 0, 14, 0, 1, 0, 0, 0, 7, 23, 113, 182, 1] ++ u8z 5 ++ u8s [5, 0, 0, 0, 255, 255, 255, 255] ++ u8z 230) 5 false)], .agg #[.bool true, .slice (some ⟨1807, 0, none⟩) 1 1, .slice none 0 0], 1822, [(1807, some (.cells [.int .i64 (.ofNat 0), .int .i64 (.ofNat 0), .int .i64 (.ofNat 5), .int .i64 (.negSucc 0)] 90 false))]⟩
theorem m18_6_ok : m18_6.ok (call evT evF k18_6 100000 m18_6.f m18_6.args m18_6.preH) = true := by kernel_rfl
noncomputable def k18_7 : Hk := orHk (hkMemo m18_6) k18_6
theorem k18_7_ok : HkOk Tryz.prog k18_7 := orHk_ok (hkMemo_ok evT_ok evF_ok k18_6_ok rfl m18_6_ok) k18_6_ok
noncomputable def m18_7 : Mm :=
  ⟨95, [.pointer (some ⟨1952, 0, none⟩), .int .i64 (.ofNat 230)], 2142, [(1951, .cells (u8s [1, 0, 14, 0, 1, 0, 0, 0, 7, 23, 113, 182, 1] ++ u8z 5 ++ u8s [5, 0, 0, 0, 255, 255, 255, 255] ++ u8z 230) 5 false),
  (1952, .cells [.slice (some ⟨1951, 0, none⟩) 256 256, .int .i64 (.ofNat 26)] 230 true)], .int .i64 (.ofNat 0), 2171, [(1952, some (.cells [.slice (some ⟨1951, 0, none⟩) 256 256, .int .i64 (.ofNat 256)] 230 true))]⟩
theorem m18_7_ok : m18_7.ok (call evT evF k18_7 100000 m18_7.f m18_7.args m18_7.preH) = true := by kernel_rfl
noncomputable def k18_8 : Hk := orHk (hkMemo m18_7) k18_7
theorem k18_8_ok : HkOk Tryz.prog k18_8 := orHk_ok (hkMemo_ok evT_ok evF_ok k18_7_ok rfl m18_7_ok) k18_7_ok
noncomputable def m18_8 : Mm :=
  ⟨39, [.pointer (some ⟨93, 0, none⟩), .int .i64 (.ofNat 1)], 1900, [(2, .map [⟨.string ⟨#[111, 114, 105, 103, 105, 110, 97, 108]⟩, .pointer (some ⟨33, 0, none⟩), 0⟩, ⟨.string ⟨#[116, 97, 105, 108]⟩, .pointer (some ⟨66, 0, none⟩), 1⟩] 2),
  (3, .cells [.int .i64 (.ofNat 16777216), .int .i64 (.ofNat 0), .int .i64 (.ofNat 0), .bool false, .bool false, .map (some 2), .slice none 0 0] 113 true),
  (33, .cells [.slice (some ⟨35, 0, none⟩) 5 5, .slice (some ⟨36, 0, none⟩) 5 5, .bool true] 119 true),
  (35, .cells (u8s [97, 98, 10, 99, 100]) 5 false),
  (36, .cells (u8s [97, 98, 10, 99, 100]) 5 false),
  (66, .cells [.slice (some ⟨68, 0, none⟩) 1 1, .slice (some ⟨69, 0, none⟩) 1 1, .bool true] 119 true),
  (68, .cells (u8s [120]) 5 false),
  (69, .cells (u8s [120]) 5 false),
  (70, .map [⟨.int .i64 (.ofNat 1), .pointer (some ⟨235, 0, none⟩), 0⟩] 1),
  (71, .cells [.int .i64 (.ofNat 7), .int .i64 (.ofNat 0), .int .i64 (.ofNat 0), .bool false, .pointer (some ⟨235, 0, none⟩), .pointer (some ⟨235, 0, none⟩), .map (some 70)] 174 true),
  (88, .map [⟨.int .i64 (.ofNat 1), .slice (some ⟨261, 0, none⟩) 256 256, 0⟩] 1),
  (89, .cells [.pointer (some ⟨71, 0, none⟩), .pointer (some ⟨3, 0, none⟩), .string ⟨#[115, 116, 111, 114, 101]⟩, .int .i64 (.ofNat 7), .map (some 88), .int .i64 (.ofNat 0)] 128 true),
  (90, .map [⟨.int .i64 (.ofNat 1), .bool true, 0⟩] 1),
  (91, .map [] 0),
  (92, .cells [.int .i64 (.ofNat 1), .map (some 90), .map (some 91), .slice (some ⟨203, 0, none⟩) 1 1] 130 true),
  (93, .cells [.pointer (some ⟨89, 0, none⟩), .pointer (some ⟨92, 0, none⟩)] 132 true),
  (203, .cells [.int .i64 (.ofNat 1)] 3 false),
  (235, .cells [.int .i64 (.ofNat 1), .int .i64 (.ofNat 0), .bool true, .pointer (some ⟨71, 1, none⟩), .pointer (some ⟨71, 1, none⟩)] 172 true),
  (261, .cells (u8s [1, 0, 14, 0, 1, 0, 0, 0, 7, 23, 113, 182, 1] ++ u8z 5 ++ u8s [5, 0, 0, 0, 255, 255, 255, 255] ++ u8z 230) 5 false)], .agg #[.bool true, .slice (some ⟨2346, 0, none⟩) 1 1, .slice none 0 0], 2361, [(2346, some (.cells [.int .i64 (.ofNat 0), .int .i64 (.ofNat 0), .int .i64 (.ofNat 5), .int .i64 (.negSucc 0)] 90 false))]⟩
theorem m18_8_ok : m18_8.ok (call evT evF k18_8 100000 m18_8.f m18_8.args m18_8.preH) = true := by kernel_rfl
noncomputable def k18_9 : Hk := orHk (hkMemo m18_8) k18_8
theorem k18_9_ok : HkOk Tryz.prog k18_9 := orHk_ok (hkMemo_ok evT_ok evF_ok k18_8_ok rfl m18_8_ok) k18_8_ok
noncomputable def m18_9 : Mm :=
  ⟨95, [.pointer (some ⟨2460, 0, none⟩), .int .i64 (.ofNat 230)], 2650, [(2459, .cells (u8s [1, 0, 14, 0, 1, 0, 0, 0, 7, 23, 113, 182, 1] ++ u8z 5 ++ u8s [5, 0, 0, 0, 255, 255, 255, 255] ++ u8z 230) 5 false),
  (2460, .cells [.slice (some ⟨2459, 0, none⟩) 256 256, .int .i64 (.ofNat 26)] 230 true)], .int .i64 (.ofNat 0), 2679, [(2460, some (.cells [.slice (some ⟨2459, 0, none⟩) 256 256, .int .i64 (.ofNat 256)] 230 true))]⟩
theorem m18_9_ok : m18_9.ok (call evT evF k18_9 100000 m18_9.f m18_9.args m18_9.preH) = true := by kernel_rfl
noncomputable def k18_10 : Hk := orHk (hkMemo m18_9) k18_9
theorem k18_10_ok : HkOk Tryz.prog k18_10 := orHk_ok (hkMemo_ok evT_ok evF_ok k18_9_ok rfl m18_9_ok) k18_9_ok
noncomputable def m18_10 : Mm :=
  ⟨39, [.pointer (some ⟨93, 0, none⟩), .int .i64 (.ofNat 1)], 2408, [(2, .map [⟨.string ⟨#[111, 114, 105, 103, 105, 110, 97, 108]⟩, .pointer (some ⟨33, 0, none⟩), 0⟩, ⟨.string ⟨#[116, 97, 105, 108]⟩, .pointer (some ⟨66, 0, none⟩), 1⟩] 2),
  (3, .cells [.int .i64 (.ofNat 16777216), .int .i64 (.ofNat 0), .int .i64 (.ofNat 0), .bool false, .bool false, .map (some 2), .slice none 0 0] 113 true),
  (33, .cells [.slice (some ⟨35, 0, none⟩) 5 5, .slice (some ⟨36, 0, none⟩) 5 5, .bool true] 119 true),
  (35, .cells (u8s [97, 98, 10, 99, 100]) 5 false),
  (36, .cells (u8s [97, 98, 10, 99, 100]) 5 false),
  (66, .cells [.slice (some ⟨68, 0, none⟩) 1 1, .slice (some ⟨69, 0, none⟩) 1 1, .bool true] 119 true),
  (68, .cells (u8s [120]) 5 false),
  (69, .cells (u8s [120]) 5 false),
  (70, .map [⟨.int .i64 (.ofNat 1), .pointer (some ⟨235, 0, none⟩), 0⟩] 1),
  (71, .cells [.int .i64 (.ofNat 7), .int .i64 (.ofNat 0), .int .i64 (.ofNat 0), .bool false, .pointer (some ⟨235, 0, none⟩), .pointer (some ⟨235, 0, none⟩), .map (some 70)] 174 true),
  (88, .map [⟨.int .i64 (.ofNat 1), .slice (some ⟨261, 0, none⟩) 256 256, 0⟩] 1),
  (89, .cells [.pointer (some ⟨71, 0, none⟩), .pointer (some ⟨3, 0, none⟩), .string ⟨#[115, 116, 111, 114, 101]⟩, .int .i64 (.ofNat 7), .map (some 88), .int .i64 (.ofNat 0)] 128 true),
  (90, .map [⟨.int .i64 (.ofNat 1), .bool true, 0⟩] 1),
  (91, .map [] 0),
  (92, .cells [.int .i64 (.ofNat 1), .map (some 90), .map (some 91), .slice (some ⟨203, 0, none⟩) 1 1] 130 true),
  (93, .cells [.pointer (some ⟨89, 0, none⟩), .pointer (some ⟨92, 0, none⟩)] 132 true),
  (203, .cells [.int .i64 (.ofNat 1)] 3 false),
  (235, .cells [.int .i64 (.ofNat 1), .int .i64 (.ofNat 0), .bool true, .pointer (some ⟨71, 1, none⟩), .pointer (some ⟨71, 1, none⟩)] 172 true),
  (261, .cells (u8s [1, 0, 14, 0, 1, 0, 0, 0, 7, 23, 113, 182, 1] ++ u8z 5 ++ u8s [5, 0, 0, 0, 255, 255, 255, 255] ++ u8z 230) 5 false)], .agg #[.bool true, .slice (some ⟨2854, 0, none⟩) 1 1, .slice none 0 0], 2869, [(2854, some (.cells [.int .i64 (.ofNat 0), .int .i64 (.ofNat 0), .int .i64 (.ofNat 5), .int .i64 (.negSucc 0)] 90 false))]⟩
theorem m18_10_ok : m18_10.ok (call evT evF k18_10 100000 m18_10.f m18_10.args m18_10.preH) = true := by kernel_rfl
noncomputable def k18_11 : Hk := orHk (hkMemo m18_10) k18_10
theorem k18_11_ok : HkOk Tryz.prog k18_11 := orHk_ok (hkMemo_ok evT_ok evF_ok k18_10_ok rfl m18_10_ok) k18_10_ok
noncomputable def m18_11 : Mm :=
  ⟨95, [.pointer (some ⟨2986, 0, none⟩), .int .i64 (.ofNat 230)], 3176, [(2985, .cells (u8s [1, 0, 14, 0, 1, 0, 0, 0, 7, 23, 113, 182, 1] ++ u8z 5 ++ u8s [5, 0, 0, 0, 255, 255, 255, 255] ++ u8z 230) 5 false),
  (2986, .cells [.slice (some ⟨2985, 0, none⟩) 256 256, .int .i64 (.ofNat 26)] 230 true)], .int .i64 (.ofNat 0), 3205, [(2986, some (.cells [.slice (some ⟨2985, 0, none⟩) 256 256, .int .i64 (.ofNat 256)] 230 true))]⟩
theorem m18_11_ok : m18_11.ok (call evT evF k18_11 100000 m18_11.f m18_11.args m18_11.preH) = true := by kernel_rfl
noncomputable def k18_12 : Hk := orHk (hkMemo m18_11) k18_11
theorem k18_12_ok : HkOk Tryz.prog k18_12 := orHk_ok (hkMemo_ok evT_ok evF_ok k18_11_ok rfl m18_11_ok) k18_11_ok
noncomputable def m18_12 : Mm :=
  ⟨39, [.pointer (some ⟨93, 0, none⟩), .int .i64 (.ofNat 1)], 2934, [(2, .map [⟨.string ⟨#[111, 114, 105, 103, 105, 110, 97, 108]⟩, .pointer (some ⟨33, 0, none⟩), 0⟩, ⟨.string ⟨#[116, 97, 105, 108]⟩, .pointer (some ⟨66, 0, none⟩), 1⟩] 2),
  (3, .cells [.int .i64 (.ofNat 16777216), .int .i64 (.ofNat 0), .int .i64 (.ofNat 0), .bool false, .bool false, .map (some 2), .slice none 0 0] 113 true),
  (33, .cells [.slice (some ⟨35, 0, none⟩) 5 5, .slice (some ⟨36, 0, none⟩) 5 5, .bool true] 119 true),
  (35, .cells (u8s [97, 98, 10, 99, 100]) 5 false),
  (36, .cells (u8s [97, 98, 10, 99, 100]) 5 false),
  (66, .cells [.slice (some ⟨68, 0, none⟩) 1 1, .slice (some ⟨69, 0, none⟩) 1 1, .bool true] 119 true),
  (68, .cells (u8s [120]) 5 false),
  (69, .cells (u8s [120]) 5 false),
  (70, .map [⟨.int .i64 (.ofNat 1), .pointer (some ⟨235, 0, none⟩), 0⟩] 1),
  (71, .cells [.int .i64 (.ofNat 7), .int .i64 (.ofNat 0), .int .i64 (.ofNat 0), .bool false, .pointer (some ⟨235, 0, none⟩), .pointer (some ⟨235, 0, none⟩), .map (some 70)] 174 true),
  (88, .map [⟨.int .i64 (.ofNat 1), .slice (some ⟨261, 0, none⟩) 256 256, 0⟩] 1),
  (89, .cells [.pointer (some ⟨71, 0, none⟩), .pointer (some ⟨3, 0, none⟩), .string ⟨#[115, 116, 111, 114, 101]⟩, .int .i64 (.ofNat 7), .map (some 88), .int .i64 (.ofNat 0)] 128 true),
  (90, .map [⟨.int .i64 (.ofNat 1), .bool true, 0⟩] 1),
  (91, .map [] 0),
  (92, .cells [.int .i64 (.ofNat 1), .map (some 90), .map (some 91), .slice (some ⟨203, 0, none⟩) 1 1] 130 true),
  (93, .cells [.pointer (some ⟨89, 0, none⟩), .pointer (some ⟨92, 0, none⟩)] 132 true),
  (203, .cells [.int .i64 (.ofNat 1)] 3 false),
  (235, .cells [.int .i64 (.ofNat 1), .int .i64 (.ofNat 0), .bool true, .pointer (some ⟨71, 1, none⟩), .pointer (some ⟨71, 1, none⟩)] 172 true),
  (261, .cells (u8s [1, 0, 14, 0, 1, 0, 0, 0, 7, 23, 113, 182, 1] ++ u8z 5 ++ u8s [5, 0, 0, 0, 255, 255, 255, 255] ++ u8z 230) 5 false)], .agg #[.bool true, .slice (some ⟨3380, 0, none⟩) 1 1, .slice none 0 0], 3395, [(3380, some (.cells [.int .i64 (.ofNat 0), .int .i64 (.ofNat 0), .int .i64 (.ofNat 5), .int .i64 (.negSucc 0)] 90 false))]⟩
theorem m18_12_ok : m18_12.ok (call evT evF k18_12 100000 m18_12.f m18_12.args m18_12.preH) = true := by kernel_rfl
noncomputable def k18_13 : Hk := orHk (hkMemo m18_12) k18_12
theorem k18_13_ok : HkOk Tryz.prog k18_13 := orHk_ok (hkMemo_ok evT_ok evF_ok k18_12_ok rfl m18_12_ok) k18_12_ok
noncomputable def m18_13 : Mm :=
  ⟨95, [.pointer (some ⟨3525, 0, none⟩), .int .i64 (.ofNat 230)], 3715, [(3524, .cells (u8s [1, 0, 14, 0, 1, 0, 0, 0, 7, 23, 113, 182, 1] ++ u8z 5 ++ u8s [5, 0, 0, 0, 255, 255, 255, 255] ++ u8z 230) 5 false),
  (3525, .cells [.slice (some ⟨3524, 0, none⟩) 256 256, .int .i64 (.ofNat 26)] 230 true)], .int .i64 (.ofNat 0), 3744, [(3525, some (.cells [.slice (some ⟨3524, 0, none⟩) 256 256, .int .i64 (.ofNat 256)] 230 true))]⟩
theorem m18_13_ok : m18_13.ok (call evT evF k18_13 100000 m18_13.f m18_13.args m18_13.preH) = true := by kernel_rfl
noncomputable def k18_14 : Hk := orHk (hkMemo m18_13) k18_13
theorem k18_14_ok : HkOk Tryz.prog k18_14 := orHk_ok (hkMemo_ok evT_ok evF_ok k18_13_ok rfl m18_13_ok) k18_13_ok
noncomputable def m18_14 : Mm :=
  ⟨39, [.pointer (some ⟨93, 0, none⟩), .int .i64 (.ofNat 1)], 3473, [(2, .map [⟨.string ⟨#[111, 114, 105, 103, 105, 110, 97, 108]⟩, .pointer (some ⟨33, 0, none⟩), 0⟩, ⟨.string ⟨#[116, 97, 105, 108]⟩, .pointer (some ⟨66, 0, none⟩), 1⟩] 2),
  (3, .cells [.int .i64 (.ofNat 16777216), .int .i64 (.ofNat 0), .int .i64 (.ofNat 0), .bool false, .bool false, .map (some 2), .slice none 0 0] 113 true),
  (33, .cells [.slice (some ⟨35, 0, none⟩) 5 5, .slice (some ⟨36, 0, none⟩) 5 5, .bool true] 119 true),
  (35, .cells (u8s [97, 98, 10, 99, 100]) 5 false),
  (36, .cells (u8s [97, 98, 10, 99, 100]) 5 false),
  (66, .cells [.slice (some ⟨68, 0, none⟩) 1 1, .slice (some ⟨69, 0, none⟩) 1 1, .bool true] 119 true),
  (68, .cells (u8s [120]) 5 false),
  (69, .cells (u8s [120]) 5 false),
  (70, .map [⟨.int .i64 (.ofNat 1), .pointer (some ⟨235, 0, none⟩), 0⟩] 1),
  (71, .cells [.int .i64 (.ofNat 7), .int .i64 (.ofNat 0), .int .i64 (.ofNat 0), .bool false, .pointer (some ⟨235, 0, none⟩), .pointer (some ⟨235, 0, none⟩), .map (some 70)] 174 true),
  (88, .map [⟨.int .i64 (.ofNat 1), .slice (some ⟨261, 0, none⟩) 256 256, 0⟩] 1),
  (89, .cells [.pointer (some ⟨71, 0, none⟩), .pointer (some ⟨3, 0, none⟩), .string ⟨#[115, 116, 111, 114, 101]⟩, .int .i64 (.ofNat 7), .map (some 88), .int .i64 (.ofNat 0)] 128 true),
  (90, .map [⟨.int .i64 (.ofNat 1), .bool true, 0⟩] 1),
  (91, .map [] 0),
  (92, .cells [.int .i64 (.ofNat 1), .map (some 90), .map (some 91), .slice (some ⟨203, 0, none⟩) 1 1] 130 true),
  (93, .cells [.pointer (some ⟨89, 0, none⟩), .pointer (some ⟨92, 0, none⟩)] 132 true),
  (203, .cells [.int .i64 (.ofNat 1)] 3 false),
  (235, .cells [.int .i64 (.ofNat 1), .int .i64 (.ofNat 0), .bool true, .pointer (some ⟨71, 1, none⟩), .pointer (some ⟨71, 1, none⟩)] 172 true),
  (261, .cells (u8s [1, 0, 14, 0, 1, 0, 0, 0, 7, 23, 113, 182, 1] ++ u8z 5 ++ u8s [5, 0, 0, 0, 255, 255, 255, 255] ++ u8z 230) 5 false)], .agg #[.bool true, .slice (some ⟨3919, 0, none⟩) 1 1, .slice none 0 0], 3934, [(3919, some (.cells [.int .i64 (.ofNat 0), .int .i64 (.ofNat 0), .int .i64 (.ofNat 5), .int .i64 (.negSucc 0)] 90 false))]⟩
theorem m18_14_ok : m18_14.ok (call evT evF k18_14 100000 m18_14.f m18_14.args m18_14.preH) = true := by kernel_rfl
noncomputable def k18_15 : Hk := orHk (hkMemo m18_14) k18_14
theorem k18_15_ok : HkOk Tryz.prog k18_15 := orHk_ok (hkMemo_ok evT_ok evF_ok k18_14_ok rfl m18_14_ok) k18_14_ok
end Go.Proofs.YteffkpgilmpbeaaGreat
