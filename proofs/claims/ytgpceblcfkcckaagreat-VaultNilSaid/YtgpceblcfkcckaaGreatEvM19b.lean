/-
  Calls that were reckoned out, one by one. Printed by a program.
-/
import Derived.Test.YtgpceblcfkcckaaGreatEvl
namespace Go.Proofs.YtgpceblcfkcckaaGreat
open Go.Ev
set_option maxRecDepth 1000000
noncomputable def k19_1 : Hk := hkLib
theorem k19_1_ok : HkOk Tryz.prog k19_1 := hkLib_ok
noncomputable def m19_1 : Mm :=
  ⟨38, [.slice none 0 0, .int .i64 (.ofNat 0), .slice (some ⟨496, 0, none⟩) 256 256], 517, [(496, .cells (u8z 256) 5 true)], .slice (some ⟨1028, 0, none⟩) 256 256, 1029, [(1028, some (.cells (u8z 256) 5 false))]⟩
theorem m19_1_ok : m19_1.ok (call evT evF k19_1 100000 m19_1.f m19_1.args m19_1.preH) = true := by kernel_rfl
theorem q19_1 : HkOk Tryz.prog (hkMemo m19_1) := hkMemo_ok evT_ok evF_ok k19_1_ok rfl m19_1_ok
noncomputable def k19_2 : Hk := hkLib
theorem k19_2_ok : HkOk Tryz.prog k19_2 := hkLib_ok
noncomputable def m19_2 : Mm :=
  ⟨38, [.slice (some ⟨1028, 0, none⟩) 256 256, .int .i64 (.ofNat 256), .slice (some ⟨240, 0, none⟩) 256 256], 1176, [(240, .cells (u8s [1, 0, 14, 0, 1, 0, 0, 0, 194, 105, 111, 233, 1] ++ u8z 5 ++ u8s [3, 0, 0, 0, 255, 255, 255, 255] ++ u8z 230) 5 false),
  (1028, .cells (u8z 256) 5 false)], .slice (some ⟨1687, 0, none⟩) 512 512, 1688, [(1028, none),
  (1687, some (.cells (u8z 256 ++ u8s [1, 0, 14, 0, 1, 0, 0, 0, 194, 105, 111, 233, 1] ++ u8z 5 ++ u8s [3, 0, 0, 0, 255, 255, 255, 255] ++ u8z 230) 5 false))]⟩
theorem m19_2_ok : m19_2.ok (call evT evF k19_2 100000 m19_2.f m19_2.args m19_2.preH) = true := by kernel_rfl
theorem q19_2 : HkOk Tryz.prog (hkMemo m19_2) := hkMemo_ok evT_ok evF_ok k19_2_ok rfl m19_2_ok
noncomputable def k19_10 : Hk := hkLib
theorem k19_10_ok : HkOk Tryz.prog k19_10 := hkLib_ok
noncomputable def m19_10 : Mm :=
  ⟨98, [.pointer (some ⟨62, 0, none⟩), .agg #[.int .i64 (.ofNat 1), .int .i64 (.ofNat 2), .int .i64 (.ofNat 0), .int .i64 (.ofNat 0), .int .i64 (.ofNat 3)], .slice (some ⟨277, 0, none⟩) 1 1, .slice (some ⟨3033, 0, none⟩) 1 1], 3034, [(1, .map [⟨.string ⟨#[111, 114, 105, 103, 105, 110, 97, 108]⟩, .pointer (some ⟨32, 0, none⟩), 0⟩, ⟨.string ⟨#[115, 116, 111, 114, 101]⟩, .pointer (some ⟨516, 0, none⟩), 1⟩] 2),
  (2, .cells [.int .i64 (.ofNat 100000), .int .i64 (.ofNat 4), .int .i64 (.negSucc 3), .bool false, .bool false, .map (some 1), .slice none 0 0] 67 true),
  (32, .cells [.slice (some ⟨34, 0, none⟩) 3 3, .slice (some ⟨35, 0, none⟩) 3 3, .bool true] 88 true),
  (34, .cells (u8s [97, 98, 99]) 5 false),
  (35, .cells (u8s [97, 98, 99]) 5 false),
  (37, .map [⟨.int .i64 (.ofNat 1), .pointer (some ⟨214, 0, none⟩), 0⟩, ⟨.int .i64 (.ofNat 2), .pointer (some ⟨339, 0, none⟩), 1⟩] 2),
  (38, .cells [.int .i64 (.ofNat 5), .int .i64 (.ofNat 0), .int .i64 (.ofNat 0), .bool false, .pointer (some ⟨214, 0, none⟩), .pointer (some ⟨339, 0, none⟩), .map (some 37)] 263 true),
  (55, .map [⟨.int .i64 (.ofNat 1), .slice (some ⟨240, 0, none⟩) 256 256, 0⟩, ⟨.int .i64 (.ofNat 2), .slice (some ⟨365, 0, none⟩) 256 256, 1⟩] 2),
  (56, .cells [.pointer (some ⟨38, 0, none⟩), .pointer (some ⟨2, 0, none⟩), .string ⟨#[115, 116, 111, 114, 101]⟩, .int .i64 (.ofNat 5), .map (some 55), .int .i64 (.ofNat 0)] 193 true),
  (57, .map [⟨.int .i64 (.ofNat 1), .bool true, 0⟩, ⟨.int .i64 (.ofNat 2), .bool true, 1⟩] 2),
  (58, .map [] 0),
  (59, .cells [.int .i64 (.ofNat 1), .map (some 57), .map (some 58), .slice (some ⟨307, 0, none⟩) 2 2] 189 true),
  (60, .cells [.pointer (some ⟨56, 0, none⟩), .pointer (some ⟨59, 0, none⟩)] 144 true),
  (62, .cells [.pointer (some ⟨56, 0, none⟩), .pointer (some ⟨59, 0, none⟩), .pointer (some ⟨60, 0, none⟩), .pointer (some ⟨2, 0, none⟩), .pointer (some ⟨72, 0, none⟩), .pointer none, .slice none 0 0, .int .i64 (.ofNat 0), .int .i64 (.ofNat 0), .int .i64 (.ofNat 0), .int .i64 (.ofNat 0), .int .i64 (.ofNat 0), .int .i64 (.ofNat 3), .int .i64 (.ofNat 0), .int .i64 (.ofNat 0), .int .i64 (.ofNat 0), .int .i64 (.ofNat 0), .int .i64 (.ofNat 0), .slice none 0 0] 61 true),
  (72, .cells [.pointer (some ⟨2, 0, none⟩), .int .i64 (.ofNat 0)] 174 true),
  (214, .cells [.int .i64 (.ofNat 1), .int .i64 (.ofNat 0), .bool false, .pointer (some ⟨339, 0, none⟩), .pointer (some ⟨38, 1, none⟩)] 255 true),
  (277, .cells [.int .i64 (.ofNat 1), .int .i64 (.ofNat 3)] 99 true),
  (307, .cells [.int .i64 (.ofNat 1), .int .i64 (.ofNat 2)] 3 false),
  (339, .cells [.int .i64 (.ofNat 2), .int .i64 (.ofNat 0), .bool false, .pointer (some ⟨38, 1, none⟩), .pointer (some ⟨214, 0, none⟩)] 255 true),
  (516, .cells [.slice (some ⟨2360, 0, none⟩) 768 768, .slice (some ⟨2484, 0, none⟩) 768 768, .bool true] 88 true),
  (2360, .cells (u8z 256 ++ u8s [1, 0, 14, 0, 1, 0, 0, 0, 194, 105, 111, 233, 1] ++ u8z 5 ++ u8s [3, 0, 0, 0, 255, 255, 255, 255] ++ u8z 230 ++ u8s [3, 0, 9, 0, 2, 0, 0, 0, 68, 252, 163, 153, 1, 1, 0, 0, 0, 3] ++ u8z 238) 5 false),
  (3033, .cells [.int .i64 (.ofNat 1)] 3 false)], .int .i64 (.ofNat 0), 3230, [(2, some (.cells [.int .i64 (.ofNat 100000), .int .i64 (.ofNat 6), .int .i64 (.negSucc 5), .bool false, .bool false, .map (some 1), .slice none 0 0] 67 true)),
  (57, some (.map [⟨.int .i64 (.ofNat 2), .bool true, 2⟩, ⟨.int .i64 (.ofNat 1), .bool true, 3⟩] 4)),
  (59, some (.cells [.int .i64 (.ofNat 1), .map (some 57), .map (some 58), .slice none 0 0] 189 true)),
  (62, some (.cells [.pointer (some ⟨56, 0, none⟩), .pointer (some ⟨59, 0, none⟩), .pointer (some ⟨60, 0, none⟩), .pointer (some ⟨2, 0, none⟩), .pointer (some ⟨72, 0, none⟩), .pointer (some ⟨3150, 0, none⟩), .slice (some ⟨3161, 0, none⟩) 1 1, .int .i64 (.ofNat 0), .int .i64 (.ofNat 1), .int .i64 (.ofNat 2), .int .i64 (.ofNat 0), .int .i64 (.ofNat 0), .int .i64 (.ofNat 3), .int .i64 (.ofNat 0), .int .i64 (.ofNat 0), .int .i64 (.ofNat 0), .int .i64 (.ofNat 0), .int .i64 (.ofNat 0), .slice (some ⟨3033, 0, none⟩) 1 1] 61 true)),
  (516, some (.cells [.slice (some ⟨2360, 0, none⟩) 768 768, .slice (some ⟨3114, 0, none⟩) 768 768, .bool true] 88 true)),
  (2360, some (.cells (u8z 64 ++ u8s [111, 99, 116, 97, 118, 111, 48, 49, 1] ++ u8z 5 ++ u8s [2] ++ u8z 8 ++ u8s [3] ++ u8z 36 ++ u8s [137, 155, 206, 78] ++ u8z 128 ++ u8s [1, 0, 14, 0, 1, 0, 0, 0, 194, 105, 111, 233, 1] ++ u8z 5 ++ u8s [3, 0, 0, 0, 255, 255, 255, 255] ++ u8z 230 ++ u8s [3, 0, 9, 0, 2, 0, 0, 0, 68, 252, 163, 153, 1, 1, 0, 0, 0, 3] ++ u8z 238) 5 false)),
  (3114, some (.cells (u8z 64 ++ u8s [111, 99, 116, 97, 118, 111, 48, 49, 1] ++ u8z 5 ++ u8s [2] ++ u8z 8 ++ u8s [3] ++ u8z 36 ++ u8s [137, 155, 206, 78] ++ u8z 128 ++ u8s [1, 0, 14, 0, 1, 0, 0, 0, 194, 105, 111, 233, 1] ++ u8z 5 ++ u8s [3, 0, 0, 0, 255, 255, 255, 255] ++ u8z 230 ++ u8s [3, 0, 9, 0, 2, 0, 0, 0, 68, 252, 163, 153, 1, 1, 0, 0, 0, 3] ++ u8z 238) 5 false)),
  (3129, some (.map [] 0)),
  (3130, some (.cells [.pointer (some ⟨2, 0, none⟩), .string ⟨#[111, 114, 105, 103, 105, 110, 97, 108]⟩, .int .i64 (.ofNat 3), .int .i64 (.ofNat 0), .map (some 3129)] 248 true)),
  (3150, some (.cells [.pointer (some ⟨60, 0, none⟩), .pointer (some ⟨3130, 0, none⟩), .pointer (some ⟨72, 0, none⟩)] 250 true)),
  (3161, some (.cells [.int .i64 (.ofNat 1), .int .i64 (.ofNat 3)] 99 false))]⟩
theorem m19_10_ok : m19_10.ok (call evT evF k19_10 100000 m19_10.f m19_10.args m19_10.preH) = true := by kernel_rfl
theorem q19_10 : HkOk Tryz.prog (hkMemo m19_10) := hkMemo_ok evT_ok evF_ok k19_10_ok rfl m19_10_ok
noncomputable def k19_17 : Hk := hkLib
theorem k19_17_ok : HkOk Tryz.prog k19_17 := hkLib_ok
noncomputable def m19_17 : Mm :=
  ⟨123, [.pointer (some ⟨6452, 0, none⟩), .int .i64 (.ofNat 230)], 6642, [(6451, .cells (u8s [1, 0, 14, 0, 1, 0, 0, 0, 194, 105, 111, 233, 1] ++ u8z 5 ++ u8s [3, 0, 0, 0, 255, 255, 255, 255] ++ u8z 230) 5 false),
  (6452, .cells [.slice (some ⟨6451, 0, none⟩) 256 256, .int .i64 (.ofNat 26)] 265 true)], .int .i64 (.ofNat 0), 6671, [(6452, some (.cells [.slice (some ⟨6451, 0, none⟩) 256 256, .int .i64 (.ofNat 256)] 265 true))]⟩
theorem m19_17_ok : m19_17.ok (call evT evF k19_17 100000 m19_17.f m19_17.args m19_17.preH) = true := by kernel_rfl
theorem q19_17 : HkOk Tryz.prog (hkMemo m19_17) := hkMemo_ok evT_ok evF_ok k19_17_ok rfl m19_17_ok
noncomputable def k19_19 : Hk := hkLib
theorem k19_19_ok : HkOk Tryz.prog k19_19 := hkLib_ok
noncomputable def m19_19 : Mm :=
  ⟨143, [.int .i64 (.ofNat 1), .slice (some ⟨6630, 0, none⟩) 14 14], 6672, [(6630, .cells (u8s [1] ++ u8z 5 ++ u8s [3, 0, 0, 0, 255, 255, 255, 255]) 5 false)], .tuple #[.agg #[.bool true, .slice (some ⟨6846, 0, none⟩) 1 1, .slice none 0 0], .int .i64 (.ofNat 0)], 6861, [(6846, some (.cells [.int .i64 (.ofNat 0), .int .i64 (.ofNat 0), .int .i64 (.ofNat 3), .int .i64 (.negSucc 0)] 130 false))]⟩
theorem m19_19_ok : m19_19.ok (call evT evF k19_19 100000 m19_19.f m19_19.args m19_19.preH) = true := by kernel_rfl
theorem q19_19 : HkOk Tryz.prog (hkMemo m19_19) := hkMemo_ok evT_ok evF_ok k19_19_ok rfl m19_19_ok
noncomputable def k19_23 : Hk := hkLib
theorem k19_23_ok : HkOk Tryz.prog k19_23 := hkLib_ok
noncomputable def m19_23 : Mm :=
  ⟨123, [.pointer (some ⟨7414, 0, none⟩), .int .i64 (.ofNat 230)], 7604, [(7413, .cells (u8s [1, 0, 14, 0, 1, 0, 0, 0, 194, 105, 111, 233, 1] ++ u8z 5 ++ u8s [3, 0, 0, 0, 255, 255, 255, 255] ++ u8z 230) 5 false),
  (7414, .cells [.slice (some ⟨7413, 0, none⟩) 256 256, .int .i64 (.ofNat 26)] 265 true)], .int .i64 (.ofNat 0), 7633, [(7414, some (.cells [.slice (some ⟨7413, 0, none⟩) 256 256, .int .i64 (.ofNat 256)] 265 true))]⟩
theorem m19_23_ok : m19_23.ok (call evT evF k19_23 100000 m19_23.f m19_23.args m19_23.preH) = true := by kernel_rfl
theorem q19_23 : HkOk Tryz.prog (hkMemo m19_23) := hkMemo_ok evT_ok evF_ok k19_23_ok rfl m19_23_ok
noncomputable def k19_25 : Hk := hkLib
theorem k19_25_ok : HkOk Tryz.prog k19_25 := hkLib_ok
noncomputable def m19_25 : Mm :=
  ⟨143, [.int .i64 (.ofNat 1), .slice (some ⟨7592, 0, none⟩) 14 14], 7634, [(7592, .cells (u8s [1] ++ u8z 5 ++ u8s [3, 0, 0, 0, 255, 255, 255, 255]) 5 false)], .tuple #[.agg #[.bool true, .slice (some ⟨7808, 0, none⟩) 1 1, .slice none 0 0], .int .i64 (.ofNat 0)], 7823, [(7808, some (.cells [.int .i64 (.ofNat 0), .int .i64 (.ofNat 0), .int .i64 (.ofNat 3), .int .i64 (.negSucc 0)] 130 false))]⟩
theorem m19_25_ok : m19_25.ok (call evT evF k19_25 100000 m19_25.f m19_25.args m19_25.preH) = true := by kernel_rfl
theorem q19_25 : HkOk Tryz.prog (hkMemo m19_25) := hkMemo_ok evT_ok evF_ok k19_25_ok rfl m19_25_ok
noncomputable def k19_29 : Hk := hkLib
theorem k19_29_ok : HkOk Tryz.prog k19_29 := hkLib_ok
noncomputable def m19_29 : Mm :=
  ⟨168, [.pointer (some ⟨60, 0, none⟩), .agg #[.bool true, .slice (some ⟨7917, 0, none⟩) 2 2, .slice none 0 0]], 8471, [(1, .map [⟨.string ⟨#[111, 114, 105, 103, 105, 110, 97, 108]⟩, .pointer (some ⟨32, 0, none⟩), 0⟩, ⟨.string ⟨#[115, 116, 111, 114, 101]⟩, .pointer (some ⟨516, 0, none⟩), 1⟩] 2),
  (2, .cells [.int .i64 (.ofNat 100000), .int .i64 (.ofNat 6), .int .i64 (.negSucc 5), .bool false, .bool false, .map (some 1), .slice none 0 0] 67 true),
  (32, .cells [.slice (some ⟨34, 0, none⟩) 3 3, .slice (some ⟨35, 0, none⟩) 3 3, .bool true] 88 true),
  (34, .cells (u8s [97, 98, 99]) 5 false),
  (35, .cells (u8s [97, 98, 99]) 5 false),
  (37, .map [⟨.int .i64 (.ofNat 1), .pointer (some ⟨214, 0, none⟩), 0⟩, ⟨.int .i64 (.ofNat 2), .pointer (some ⟨339, 0, none⟩), 1⟩] 2),
  (38, .cells [.int .i64 (.ofNat 5), .int .i64 (.ofNat 0), .int .i64 (.ofNat 0), .bool false, .pointer (some ⟨214, 0, none⟩), .pointer (some ⟨339, 0, none⟩), .map (some 37)] 263 true),
  (55, .map [⟨.int .i64 (.ofNat 1), .slice (some ⟨240, 0, none⟩) 256 256, 0⟩, ⟨.int .i64 (.ofNat 2), .slice (some ⟨365, 0, none⟩) 256 256, 1⟩] 2),
  (56, .cells [.pointer (some ⟨38, 0, none⟩), .pointer (some ⟨2, 0, none⟩), .string ⟨#[115, 116, 111, 114, 101]⟩, .int .i64 (.ofNat 5), .map (some 55), .int .i64 (.ofNat 0)] 193 true),
  (57, .map [⟨.int .i64 (.ofNat 2), .bool true, 2⟩, ⟨.int .i64 (.ofNat 1), .bool true, 3⟩] 4),
  (58, .map [] 0),
  (59, .cells [.int .i64 (.ofNat 1), .map (some 57), .map (some 58), .slice none 0 0] 189 true),
  (60, .cells [.pointer (some ⟨56, 0, none⟩), .pointer (some ⟨59, 0, none⟩)] 144 true),
  (214, .cells [.int .i64 (.ofNat 1), .int .i64 (.ofNat 0), .bool false, .pointer (some ⟨339, 0, none⟩), .pointer (some ⟨38, 1, none⟩)] 255 true),
  (339, .cells [.int .i64 (.ofNat 2), .int .i64 (.ofNat 0), .bool false, .pointer (some ⟨38, 1, none⟩), .pointer (some ⟨214, 0, none⟩)] 255 true),
  (516, .cells [.slice (some ⟨2360, 0, none⟩) 768 768, .slice (some ⟨3114, 0, none⟩) 768 768, .bool true] 88 true),
  (7917, .cells [.int .i64 (.ofNat 0), .int .i64 (.ofNat 0), .int .i64 (.ofNat 1), .int .i64 (.negSucc 0), .int .i64 (.ofNat 0), .int .i64 (.ofNat 2), .int .i64 (.ofNat 1), .int .i64 (.negSucc 0)] 130 false)], .agg #[.int .i64 (.ofNat 3), .int .i64 (.ofNat 2), .int .i64 (.negSucc 0), .int .i64 (.ofNat 2)], 8651, [(37, some (.map [⟨.int .i64 (.ofNat 1), .pointer (some ⟨214, 0, none⟩), 0⟩, ⟨.int .i64 (.ofNat 2), .pointer (some ⟨339, 0, none⟩), 1⟩, ⟨.int .i64 (.ofNat 3), .pointer (some ⟨8579, 0, none⟩), 2⟩] 3)),
  (38, some (.cells [.int .i64 (.ofNat 5), .int .i64 (.ofNat 0), .int .i64 (.ofNat 0), .bool false, .pointer (some ⟨8579, 0, none⟩), .pointer (some ⟨339, 0, none⟩), .map (some 37)] 263 true)),
  (55, some (.map [⟨.int .i64 (.ofNat 1), .slice (some ⟨240, 0, none⟩) 256 256, 0⟩, ⟨.int .i64 (.ofNat 2), .slice (some ⟨365, 0, none⟩) 256 256, 1⟩, ⟨.int .i64 (.ofNat 3), .slice (some ⟨8605, 0, none⟩) 256 256, 2⟩] 3)),
  (57, some (.map [⟨.int .i64 (.ofNat 2), .bool true, 2⟩, ⟨.int .i64 (.ofNat 1), .bool true, 3⟩, ⟨.int .i64 (.ofNat 3), .bool true, 4⟩] 5)),
  (59, some (.cells [.int .i64 (.ofNat 1), .map (some 57), .map (some 58), .slice (some ⟨8547, 0, none⟩) 1 1] 189 true)),
  (214, some (.cells [.int .i64 (.ofNat 1), .int .i64 (.ofNat 0), .bool false, .pointer (some ⟨339, 0, none⟩), .pointer (some ⟨8579, 0, none⟩)] 255 true)),
  (8547, some (.cells [.int .i64 (.ofNat 3)] 3 false)),
  (8579, some (.cells [.int .i64 (.ofNat 3), .int .i64 (.ofNat 0), .bool true, .pointer (some ⟨214, 0, none⟩), .pointer (some ⟨38, 1, none⟩)] 255 true)),
  (8605, some (.cells (u8s [1, 0, 27, 0, 3, 0, 0, 0, 116, 27, 238, 85, 2] ++ u8z 5 ++ u8s [1, 0, 0, 0, 255, 255, 255, 255, 0, 2, 0, 0, 0, 1, 0, 0, 0, 255, 255, 255, 255] ++ u8z 217) 5 false))]⟩
theorem m19_29_ok : m19_29.ok (call evT evF k19_29 100000 m19_29.f m19_29.args m19_29.preH) = true := by kernel_rfl
theorem q19_29 : HkOk Tryz.prog (hkMemo m19_29) := hkMemo_ok evT_ok evF_ok k19_29_ok rfl m19_29_ok
noncomputable def k19_33 : Hk := hkLib
theorem k19_33_ok : HkOk Tryz.prog k19_33 := hkLib_ok
noncomputable def m19_33 : Mm :=
  ⟨143, [.int .i64 (.ofNat 1), .slice (some ⟨8892, 0, none⟩) 27 27], 8934, [(8892, .cells (u8s [2] ++ u8z 5 ++ u8s [1, 0, 0, 0, 255, 255, 255, 255, 0, 2, 0, 0, 0, 1, 0, 0, 0, 255, 255, 255, 255]) 5 false)], .tuple #[.agg #[.bool true, .slice (some ⟨9238, 0, none⟩) 2 2, .slice none 0 0], .int .i64 (.ofNat 0)], 9256, [(9238, some (.cells [.int .i64 (.ofNat 0), .int .i64 (.ofNat 0), .int .i64 (.ofNat 1), .int .i64 (.negSucc 0), .int .i64 (.ofNat 0), .int .i64 (.ofNat 2), .int .i64 (.ofNat 1), .int .i64 (.negSucc 0)] 130 false))]⟩
theorem m19_33_ok : m19_33.ok (call evT evF k19_33 100000 m19_33.f m19_33.args m19_33.preH) = true := by kernel_rfl
theorem q19_33 : HkOk Tryz.prog (hkMemo m19_33) := hkMemo_ok evT_ok evF_ok k19_33_ok rfl m19_33_ok
noncomputable def k19_34 : Hk := hkLib
theorem k19_34_ok : HkOk Tryz.prog k19_34 := hkLib_ok
noncomputable def m19_34 : Mm :=
  ⟨38, [.slice (some ⟨2360, 0, none⟩) 768 768, .int .i64 (.ofNat 768), .slice (some ⟨8605, 0, none⟩) 256 256], 9570, [(2360, .cells (u8z 64 ++ u8s [111, 99, 116, 97, 118, 111, 48, 49, 1] ++ u8z 5 ++ u8s [2] ++ u8z 8 ++ u8s [3] ++ u8z 36 ++ u8s [137, 155, 206, 78] ++ u8z 128 ++ u8s [1, 0, 14, 0, 1, 0, 0, 0, 194, 105, 111, 233, 1] ++ u8z 5 ++ u8s [3, 0, 0, 0, 255, 255, 255, 255] ++ u8z 230 ++ u8s [3, 0, 9, 0, 2, 0, 0, 0, 68, 252, 163, 153, 1, 1, 0, 0, 0, 3] ++ u8z 238) 5 false),
  (8605, .cells (u8s [1, 0, 27, 0, 3, 0, 0, 0, 116, 27, 238, 85, 2] ++ u8z 5 ++ u8s [1, 0, 0, 0, 255, 255, 255, 255, 0, 2, 0, 0, 0, 1, 0, 0, 0, 255, 255, 255, 255] ++ u8z 217) 5 false)], .slice (some ⟨10081, 0, none⟩) 1024 1024, 10082, [(2360, none),
  (10081, some (.cells (u8z 64 ++ u8s [111, 99, 116, 97, 118, 111, 48, 49, 1] ++ u8z 5 ++ u8s [2] ++ u8z 8 ++ u8s [3] ++ u8z 36 ++ u8s [137, 155, 206, 78] ++ u8z 128 ++ u8s [1, 0, 14, 0, 1, 0, 0, 0, 194, 105, 111, 233, 1] ++ u8z 5 ++ u8s [3, 0, 0, 0, 255, 255, 255, 255] ++ u8z 230 ++ u8s [3, 0, 9, 0, 2, 0, 0, 0, 68, 252, 163, 153, 1, 1, 0, 0, 0, 3] ++ u8z 238 ++ u8s [1, 0, 27, 0, 3, 0, 0, 0, 116, 27, 238, 85, 2] ++ u8z 5 ++ u8s [1, 0, 0, 0, 255, 255, 255, 255, 0, 2, 0, 0, 0, 1, 0, 0, 0, 255, 255, 255, 255] ++ u8z 217) 5 false))]⟩
theorem m19_34_ok : m19_34.ok (call evT evF k19_34 100000 m19_34.f m19_34.args m19_34.preH) = true := by kernel_rfl
theorem q19_34 : HkOk Tryz.prog (hkMemo m19_34) := hkMemo_ok evT_ok evF_ok k19_34_ok rfl m19_34_ok
noncomputable def k19_39 : Hk := hkLib
theorem k19_39_ok : HkOk Tryz.prog k19_39 := hkLib_ok
noncomputable def m19_39 : Mm :=
  ⟨123, [.pointer (some ⟨10986, 0, none⟩), .int .i64 (.ofNat 230)], 11176, [(10985, .cells (u8s [1, 0, 14, 0, 1, 0, 0, 0, 194, 105, 111, 233, 1] ++ u8z 5 ++ u8s [3, 0, 0, 0, 255, 255, 255, 255] ++ u8z 230) 5 false),
  (10986, .cells [.slice (some ⟨10985, 0, none⟩) 256 256, .int .i64 (.ofNat 26)] 265 true)], .int .i64 (.ofNat 0), 11205, [(10986, some (.cells [.slice (some ⟨10985, 0, none⟩) 256 256, .int .i64 (.ofNat 256)] 265 true))]⟩
theorem m19_39_ok : m19_39.ok (call evT evF k19_39 100000 m19_39.f m19_39.args m19_39.preH) = true := by kernel_rfl
theorem q19_39 : HkOk Tryz.prog (hkMemo m19_39) := hkMemo_ok evT_ok evF_ok k19_39_ok rfl m19_39_ok
noncomputable def k19_41 : Hk := hkLib
theorem k19_41_ok : HkOk Tryz.prog k19_41 := hkLib_ok
noncomputable def m19_41 : Mm :=
  ⟨143, [.int .i64 (.ofNat 1), .slice (some ⟨11164, 0, none⟩) 14 14], 11206, [(11164, .cells (u8s [1] ++ u8z 5 ++ u8s [3, 0, 0, 0, 255, 255, 255, 255]) 5 false)], .tuple #[.agg #[.bool true, .slice (some ⟨11380, 0, none⟩) 1 1, .slice none 0 0], .int .i64 (.ofNat 0)], 11395, [(11380, some (.cells [.int .i64 (.ofNat 0), .int .i64 (.ofNat 0), .int .i64 (.ofNat 3), .int .i64 (.negSucc 0)] 130 false))]⟩
theorem m19_41_ok : m19_41.ok (call evT evF k19_41 100000 m19_41.f m19_41.args m19_41.preH) = true := by kernel_rfl
theorem q19_41 : HkOk Tryz.prog (hkMemo m19_41) := hkMemo_ok evT_ok evF_ok k19_41_ok rfl m19_41_ok
noncomputable def k19_42 : Hk := hkLib
theorem k19_42_ok : HkOk Tryz.prog k19_42 := hkLib_ok
noncomputable def m19_42 : Mm :=
  ⟨123, [.pointer (some ⟨11479, 0, none⟩), .int .i64 (.ofNat 217)], 11669, [(11478, .cells (u8s [1, 0, 27, 0, 3, 0, 0, 0, 116, 27, 238, 85, 2] ++ u8z 5 ++ u8s [1, 0, 0, 0, 255, 255, 255, 255, 0, 2, 0, 0, 0, 1, 0, 0, 0, 255, 255, 255, 255] ++ u8z 217) 5 false),
  (11479, .cells [.slice (some ⟨11478, 0, none⟩) 256 256, .int .i64 (.ofNat 39)] 265 true)], .int .i64 (.ofNat 0), 11698, [(11479, some (.cells [.slice (some ⟨11478, 0, none⟩) 256 256, .int .i64 (.ofNat 256)] 265 true))]⟩
theorem m19_42_ok : m19_42.ok (call evT evF k19_42 100000 m19_42.f m19_42.args m19_42.preH) = true := by kernel_rfl
theorem q19_42 : HkOk Tryz.prog (hkMemo m19_42) := hkMemo_ok evT_ok evF_ok k19_42_ok rfl m19_42_ok
noncomputable def k19_46 : Hk := hkLib
theorem k19_46_ok : HkOk Tryz.prog k19_46 := hkLib_ok
noncomputable def m19_46 : Mm :=
  ⟨98, [.pointer (some ⟨62, 0, none⟩), .agg #[.int .i64 (.ofNat 2), .int .i64 (.ofNat 4), .int .i64 (.ofNat 1), .int .i64 (.ofNat 0), .int .i64 (.ofNat 3)], .slice (some ⟨9321, 0, none⟩) 2 2, .slice (some ⟨12051, 0, none⟩) 2 2], 12100, [(1, .map [⟨.string ⟨#[111, 114, 105, 103, 105, 110, 97, 108]⟩, .pointer (some ⟨32, 0, none⟩), 0⟩, ⟨.string ⟨#[115, 116, 111, 114, 101]⟩, .pointer (some ⟨516, 0, none⟩), 1⟩] 2),
  (2, .cells [.int .i64 (.ofNat 100000), .int .i64 (.ofNat 9), .int .i64 (.negSucc 8), .bool false, .bool false, .map (some 1), .slice none 0 0] 67 true),
  (32, .cells [.slice (some ⟨34, 0, none⟩) 3 3, .slice (some ⟨35, 0, none⟩) 3 3, .bool true] 88 true),
  (34, .cells (u8s [97, 98, 99]) 5 false),
  (35, .cells (u8s [97, 98, 99]) 5 false),
  (37, .map [⟨.int .i64 (.ofNat 1), .pointer (some ⟨214, 0, none⟩), 0⟩, ⟨.int .i64 (.ofNat 2), .pointer (some ⟨339, 0, none⟩), 1⟩, ⟨.int .i64 (.ofNat 3), .pointer (some ⟨8579, 0, none⟩), 2⟩, ⟨.int .i64 (.ofNat 4), .pointer (some ⟨9391, 0, none⟩), 3⟩] 4),
  (38, .cells [.int .i64 (.ofNat 5), .int .i64 (.ofNat 0), .int .i64 (.ofNat 0), .bool false, .pointer (some ⟨8579, 0, none⟩), .pointer (some ⟨339, 0, none⟩), .map (some 37)] 263 true),
  (55, .map [⟨.int .i64 (.ofNat 1), .slice (some ⟨240, 0, none⟩) 256 256, 0⟩, ⟨.int .i64 (.ofNat 2), .slice (some ⟨365, 0, none⟩) 256 256, 1⟩, ⟨.int .i64 (.ofNat 3), .slice (some ⟨8605, 0, none⟩) 256 256, 2⟩, ⟨.int .i64 (.ofNat 4), .slice (some ⟨9417, 0, none⟩) 256 256, 3⟩] 4),
  (56, .cells [.pointer (some ⟨38, 0, none⟩), .pointer (some ⟨2, 0, none⟩), .string ⟨#[115, 116, 111, 114, 101]⟩, .int .i64 (.ofNat 5), .map (some 55), .int .i64 (.ofNat 0)] 193 true),
  (57, .map [⟨.int .i64 (.ofNat 2), .bool true, 2⟩, ⟨.int .i64 (.ofNat 1), .bool true, 3⟩, ⟨.int .i64 (.ofNat 3), .bool true, 4⟩, ⟨.int .i64 (.ofNat 4), .bool true, 5⟩] 6),
  (58, .map [] 0),
  (59, .cells [.int .i64 (.ofNat 1), .map (some 57), .map (some 58), .slice (some ⟨9359, 0, none⟩) 2 2] 189 true),
  (60, .cells [.pointer (some ⟨56, 0, none⟩), .pointer (some ⟨59, 0, none⟩)] 144 true),
  (62, .cells [.pointer (some ⟨56, 0, none⟩), .pointer (some ⟨59, 0, none⟩), .pointer (some ⟨60, 0, none⟩), .pointer (some ⟨2, 0, none⟩), .pointer (some ⟨72, 0, none⟩), .pointer (some ⟨3150, 0, none⟩), .slice (some ⟨3161, 0, none⟩) 1 1, .int .i64 (.ofNat 0), .int .i64 (.ofNat 1), .int .i64 (.ofNat 2), .int .i64 (.ofNat 0), .int .i64 (.ofNat 0), .int .i64 (.ofNat 3), .int .i64 (.ofNat 0), .int .i64 (.ofNat 0), .int .i64 (.ofNat 0), .int .i64 (.ofNat 0), .int .i64 (.ofNat 0), .slice (some ⟨3033, 0, none⟩) 1 1] 61 true),
  (72, .cells [.pointer (some ⟨2, 0, none⟩), .int .i64 (.ofNat 0)] 174 true),
  (214, .cells [.int .i64 (.ofNat 1), .int .i64 (.ofNat 0), .bool false, .pointer (some ⟨9391, 0, none⟩), .pointer (some ⟨8579, 0, none⟩)] 255 true),
  (339, .cells [.int .i64 (.ofNat 2), .int .i64 (.ofNat 0), .bool false, .pointer (some ⟨38, 1, none⟩), .pointer (some ⟨9391, 0, none⟩)] 255 true),
  (516, .cells [.slice (some ⟨10754, 0, none⟩) 1280 1280, .slice (some ⟨10878, 0, none⟩) 1280 1280, .bool true] 88 true),
  (3033, .cells [.int .i64 (.ofNat 1)] 3 false),
  (3129, .map [] 0),
  (3130, .cells [.pointer (some ⟨2, 0, none⟩), .string ⟨#[111, 114, 105, 103, 105, 110, 97, 108]⟩, .int .i64 (.ofNat 3), .int .i64 (.ofNat 0), .map (some 3129)] 248 true),
  (3150, .cells [.pointer (some ⟨60, 0, none⟩), .pointer (some ⟨3130, 0, none⟩), .pointer (some ⟨72, 0, none⟩)] 250 true),
  (3161, .cells [.int .i64 (.ofNat 1), .int .i64 (.ofNat 3)] 99 false),
  (8579, .cells [.int .i64 (.ofNat 3), .int .i64 (.ofNat 0), .bool false, .pointer (some ⟨214, 0, none⟩), .pointer (some ⟨38, 1, none⟩)] 255 true),
  (9321, .cells [.int .i64 (.ofNat 1), .int .i64 (.ofNat 3), .int .i64 (.ofNat 3), .int .i64 (.ofNat 2)] 99 false),
  (9359, .cells [.int .i64 (.ofNat 3), .int .i64 (.ofNat 4)] 3 false),
  (9391, .cells [.int .i64 (.ofNat 4), .int .i64 (.ofNat 0), .bool false, .pointer (some ⟨339, 0, none⟩), .pointer (some ⟨214, 0, none⟩)] 255 true),
  (10754, .cells (u8z 64 ++ u8s [111, 99, 116, 97, 118, 111, 48, 49, 1] ++ u8z 5 ++ u8s [2] ++ u8z 8 ++ u8s [3] ++ u8z 36 ++ u8s [137, 155, 206, 78] ++ u8z 128 ++ u8s [1, 0, 14, 0, 1, 0, 0, 0, 194, 105, 111, 233, 1] ++ u8z 5 ++ u8s [3, 0, 0, 0, 255, 255, 255, 255] ++ u8z 230 ++ u8s [3, 0, 9, 0, 2, 0, 0, 0, 68, 252, 163, 153, 1, 1, 0, 0, 0, 3] ++ u8z 238 ++ u8s [1, 0, 27, 0, 3, 0, 0, 0, 116, 27, 238, 85, 2] ++ u8z 5 ++ u8s [1, 0, 0, 0, 255, 255, 255, 255, 0, 2, 0, 0, 0, 1, 0, 0, 0, 255, 255, 255, 255] ++ u8z 217 ++ u8s [3, 0, 17, 0, 4, 0, 0, 0, 238, 26, 49, 237, 2, 1, 0, 0, 0, 3, 0, 0, 0, 3, 0, 0, 0, 2] ++ u8z 230) 5 false),
  (12051, .cells [.int .i64 (.ofNat 1), .int .i64 (.ofNat 3)] 3 false)], .int .i64 (.ofNat 0), 12346, [(2, some (.cells [.int .i64 (.ofNat 100000), .int .i64 (.ofNat 11), .int .i64 (.negSucc 10), .bool false, .bool false, .map (some 1), .slice none 0 0] 67 true)),
  (37, some (.map [⟨.int .i64 (.ofNat 1), .pointer (some ⟨214, 0, none⟩), 0⟩, ⟨.int .i64 (.ofNat 3), .pointer (some ⟨8579, 0, none⟩), 2⟩, ⟨.int .i64 (.ofNat 4), .pointer (some ⟨9391, 0, none⟩), 3⟩] 4)),
  (38, some (.cells [.int .i64 (.ofNat 5), .int .i64 (.ofNat 0), .int .i64 (.ofNat 0), .bool false, .pointer (some ⟨8579, 0, none⟩), .pointer (some ⟨9391, 0, none⟩), .map (some 37)] 263 true)),
  (55, some (.map [⟨.int .i64 (.ofNat 1), .slice (some ⟨240, 0, none⟩) 256 256, 0⟩, ⟨.int .i64 (.ofNat 3), .slice (some ⟨8605, 0, none⟩) 256 256, 2⟩, ⟨.int .i64 (.ofNat 4), .slice (some ⟨9417, 0, none⟩) 256 256, 3⟩] 4)),
  (57, some (.map [⟨.int .i64 (.ofNat 4), .bool true, 6⟩, ⟨.int .i64 (.ofNat 1), .bool true, 7⟩, ⟨.int .i64 (.ofNat 3), .bool true, 8⟩] 9)),
  (59, some (.cells [.int .i64 (.ofNat 1), .map (some 57), .map (some 58), .slice none 0 0] 189 true)),
  (62, some (.cells [.pointer (some ⟨56, 0, none⟩), .pointer (some ⟨59, 0, none⟩), .pointer (some ⟨60, 0, none⟩), .pointer (some ⟨2, 0, none⟩), .pointer (some ⟨72, 0, none⟩), .pointer (some ⟨3150, 0, none⟩), .slice (some ⟨12193, 0, none⟩) 2 2, .int .i64 (.ofNat 1), .int .i64 (.ofNat 2), .int .i64 (.ofNat 4), .int .i64 (.ofNat 1), .int .i64 (.ofNat 0), .int .i64 (.ofNat 3), .int .i64 (.ofNat 0), .int .i64 (.ofNat 0), .int .i64 (.ofNat 0), .int .i64 (.ofNat 0), .int .i64 (.ofNat 0), .slice (some ⟨12051, 0, none⟩) 2 2] 61 true)),
  (516, some (.cells [.slice (some ⟨10754, 0, none⟩) 1280 1280, .slice (some ⟨12180, 0, none⟩) 1280 1280, .bool true] 88 true)),
  (9391, some (.cells [.int .i64 (.ofNat 4), .int .i64 (.ofNat 0), .bool false, .pointer (some ⟨38, 1, none⟩), .pointer (some ⟨214, 0, none⟩)] 255 true)),
  (10754, some (.cells (u8s [111, 99, 116, 97, 118, 111, 48, 49, 2] ++ u8z 5 ++ u8s [4, 0, 0, 0, 1] ++ u8z 4 ++ u8s [3] ++ u8z 36 ++ u8s [91, 68, 102, 142, 111, 99, 116, 97, 118, 111, 48, 49, 1] ++ u8z 5 ++ u8s [2] ++ u8z 8 ++ u8s [3] ++ u8z 36 ++ u8s [137, 155, 206, 78] ++ u8z 128 ++ u8s [1, 0, 14, 0, 1, 0, 0, 0, 194, 105, 111, 233, 1] ++ u8z 5 ++ u8s [3, 0, 0, 0, 255, 255, 255, 255] ++ u8z 230 ++ u8s [3, 0, 9, 0, 2, 0, 0, 0, 68, 252, 163, 153, 1, 1, 0, 0, 0, 3] ++ u8z 238 ++ u8s [1, 0, 27, 0, 3, 0, 0, 0, 116, 27, 238, 85, 2] ++ u8z 5 ++ u8s [1, 0, 0, 0, 255, 255, 255, 255, 0, 2, 0, 0, 0, 1, 0, 0, 0, 255, 255, 255, 255] ++ u8z 217 ++ u8s [3, 0, 17, 0, 4, 0, 0, 0, 238, 26, 49, 237, 2, 1, 0, 0, 0, 3, 0, 0, 0, 3, 0, 0, 0, 2] ++ u8z 230) 5 false)),
  (12180, some (.cells (u8s [111, 99, 116, 97, 118, 111, 48, 49, 2] ++ u8z 5 ++ u8s [4, 0, 0, 0, 1] ++ u8z 4 ++ u8s [3] ++ u8z 36 ++ u8s [91, 68, 102, 142, 111, 99, 116, 97, 118, 111, 48, 49, 1] ++ u8z 5 ++ u8s [2] ++ u8z 8 ++ u8s [3] ++ u8z 36 ++ u8s [137, 155, 206, 78] ++ u8z 128 ++ u8s [1, 0, 14, 0, 1, 0, 0, 0, 194, 105, 111, 233, 1] ++ u8z 5 ++ u8s [3, 0, 0, 0, 255, 255, 255, 255] ++ u8z 230 ++ u8s [3, 0, 9, 0, 2, 0, 0, 0, 68, 252, 163, 153, 1, 1, 0, 0, 0, 3] ++ u8z 238 ++ u8s [1, 0, 27, 0, 3, 0, 0, 0, 116, 27, 238, 85, 2] ++ u8z 5 ++ u8s [1, 0, 0, 0, 255, 255, 255, 255, 0, 2, 0, 0, 0, 1, 0, 0, 0, 255, 255, 255, 255] ++ u8z 217 ++ u8s [3, 0, 17, 0, 4, 0, 0, 0, 238, 26, 49, 237, 2, 1, 0, 0, 0, 3, 0, 0, 0, 3, 0, 0, 0, 2] ++ u8z 230) 5 false)),
  (12193, some (.cells [.int .i64 (.ofNat 1), .int .i64 (.ofNat 3), .int .i64 (.ofNat 3), .int .i64 (.ofNat 2)] 99 false))]⟩
theorem m19_46_ok : m19_46.ok (call evT evF k19_46 100000 m19_46.f m19_46.args m19_46.preH) = true := by kernel_rfl
theorem q19_46 : HkOk Tryz.prog (hkMemo m19_46) := hkMemo_ok evT_ok evF_ok k19_46_ok rfl m19_46_ok
noncomputable def k19_48 : Hk := hkLib
theorem k19_48_ok : HkOk Tryz.prog k19_48 := hkLib_ok
noncomputable def m19_48 : Mm :=
  ⟨206, [.int .i64 (.ofNat 1), .int .i64 (.ofNat 1), .slice (some ⟨12434, 0, none⟩) 14 14], 12435, [(12434, .cells (u8s [1] ++ u8z 5 ++ u8s [3, 0, 0, 0, 255, 255, 255, 255]) 5 false)], .tuple #[.slice (some ⟨12964, 0, none⟩) 256 256, .int .i64 (.ofNat 0)], 12965, [(12964, some (.cells (u8s [1, 0, 14, 0, 1, 0, 0, 0, 194, 105, 111, 233, 1] ++ u8z 5 ++ u8s [3, 0, 0, 0, 255, 255, 255, 255] ++ u8z 230) 5 false))]⟩
theorem m19_48_ok : m19_48.ok (call evT evF k19_48 100000 m19_48.f m19_48.args m19_48.preH) = true := by kernel_rfl
theorem q19_48 : HkOk Tryz.prog (hkMemo m19_48) := hkMemo_ok evT_ok evF_ok k19_48_ok rfl m19_48_ok
noncomputable def k19_49 : Hk := hkLib
theorem k19_49_ok : HkOk Tryz.prog k19_49 := hkLib_ok
noncomputable def m19_49 : Mm :=
  ⟨75, [.slice (some ⟨12964, 0, none⟩) 256 256, .slice (some ⟨12379, 256, none⟩) 256 1024], 12965, [(12379, .cells (u8s [111, 99, 116, 97, 118, 111, 48, 49, 2] ++ u8z 5 ++ u8s [4, 0, 0, 0, 1] ++ u8z 4 ++ u8s [3] ++ u8z 36 ++ u8s [91, 68, 102, 142, 111, 99, 116, 97, 118, 111, 48, 49, 1] ++ u8z 5 ++ u8s [2] ++ u8z 8 ++ u8s [3] ++ u8z 36 ++ u8s [137, 155, 206, 78] ++ u8z 128 ++ u8s [1, 0, 14, 0, 1, 0, 0, 0, 194, 105, 111, 233, 1] ++ u8z 5 ++ u8s [3, 0, 0, 0, 255, 255, 255, 255] ++ u8z 230 ++ u8s [3, 0, 9, 0, 2, 0, 0, 0, 68, 252, 163, 153, 1, 1, 0, 0, 0, 3] ++ u8z 238 ++ u8s [1, 0, 27, 0, 3, 0, 0, 0, 116, 27, 238, 85, 2] ++ u8z 5 ++ u8s [1, 0, 0, 0, 255, 255, 255, 255, 0, 2, 0, 0, 0, 1, 0, 0, 0, 255, 255, 255, 255] ++ u8z 217 ++ u8s [3, 0, 17, 0, 4, 0, 0, 0, 238, 26, 49, 237, 2, 1, 0, 0, 0, 3, 0, 0, 0, 3, 0, 0, 0, 2] ++ u8z 230) 5 false),
  (12964, .cells (u8s [1, 0, 14, 0, 1, 0, 0, 0, 194, 105, 111, 233, 1] ++ u8z 5 ++ u8s [3, 0, 0, 0, 255, 255, 255, 255] ++ u8z 230) 5 false)], .bool true, 15269, []⟩
theorem m19_49_ok : m19_49.ok (call evT evF k19_49 100000 m19_49.f m19_49.args m19_49.preH) = true := by kernel_rfl
theorem q19_49 : HkOk Tryz.prog (hkMemo m19_49) := hkMemo_ok evT_ok evF_ok k19_49_ok rfl m19_49_ok
noncomputable def k19_51 : Hk := hkLib
theorem k19_51_ok : HkOk Tryz.prog k19_51 := hkLib_ok
noncomputable def m19_51 : Mm :=
  ⟨206, [.int .i64 (.ofNat 3), .int .i64 (.ofNat 1), .slice (some ⟨15515, 0, none⟩) 27 27], 15516, [(15515, .cells (u8s [2] ++ u8z 5 ++ u8s [1, 0, 0, 0, 255, 255, 255, 255, 0, 2, 0, 0, 0, 1, 0, 0, 0, 255, 255, 255, 255]) 5 false)], .tuple #[.slice (some ⟨16045, 0, none⟩) 256 256, .int .i64 (.ofNat 0)], 16046, [(16045, some (.cells (u8s [1, 0, 27, 0, 3, 0, 0, 0, 116, 27, 238, 85, 2] ++ u8z 5 ++ u8s [1, 0, 0, 0, 255, 255, 255, 255, 0, 2, 0, 0, 0, 1, 0, 0, 0, 255, 255, 255, 255] ++ u8z 217) 5 false))]⟩
theorem m19_51_ok : m19_51.ok (call evT evF k19_51 100000 m19_51.f m19_51.args m19_51.preH) = true := by kernel_rfl
theorem q19_51 : HkOk Tryz.prog (hkMemo m19_51) := hkMemo_ok evT_ok evF_ok k19_51_ok rfl m19_51_ok
noncomputable def k19_55 : Hk := hkLib
theorem k19_55_ok : HkOk Tryz.prog k19_55 := hkLib_ok
noncomputable def m19_55 : Mm :=
  ⟨98, [.pointer (some ⟨62, 0, none⟩), .agg #[.int .i64 (.ofNat 3), .int .i64 (.ofNat 4), .int .i64 (.ofNat 0), .int .i64 (.ofNat 0), .int .i64 (.ofNat 3)], .slice (some ⟨18634, 0, none⟩) 2 2, .slice (some ⟨12051, 0, none⟩) 2 2], 18656, [(1, .map [⟨.string ⟨#[111, 114, 105, 103, 105, 110, 97, 108]⟩, .pointer (some ⟨32, 0, none⟩), 0⟩, ⟨.string ⟨#[115, 116, 111, 114, 101]⟩, .pointer (some ⟨516, 0, none⟩), 1⟩] 2),
  (2, .cells [.int .i64 (.ofNat 100000), .int .i64 (.ofNat 11), .int .i64 (.negSucc 10), .bool false, .bool false, .map (some 1), .slice none 0 0] 67 true),
  (32, .cells [.slice (some ⟨34, 0, none⟩) 3 3, .slice (some ⟨35, 0, none⟩) 3 3, .bool true] 88 true),
  (34, .cells (u8s [97, 98, 99]) 5 false),
  (35, .cells (u8s [97, 98, 99]) 5 false),
  (37, .map [⟨.int .i64 (.ofNat 1), .pointer (some ⟨214, 0, none⟩), 0⟩, ⟨.int .i64 (.ofNat 3), .pointer (some ⟨8579, 0, none⟩), 2⟩, ⟨.int .i64 (.ofNat 4), .pointer (some ⟨9391, 0, none⟩), 3⟩] 4),
  (38, .cells [.int .i64 (.ofNat 5), .int .i64 (.ofNat 0), .int .i64 (.ofNat 0), .bool false, .pointer (some ⟨8579, 0, none⟩), .pointer (some ⟨9391, 0, none⟩), .map (some 37)] 263 true),
  (55, .map [⟨.int .i64 (.ofNat 1), .slice (some ⟨240, 0, none⟩) 256 256, 0⟩, ⟨.int .i64 (.ofNat 3), .slice (some ⟨8605, 0, none⟩) 256 256, 2⟩, ⟨.int .i64 (.ofNat 4), .slice (some ⟨9417, 0, none⟩) 256 256, 3⟩] 4),
  (56, .cells [.pointer (some ⟨38, 0, none⟩), .pointer (some ⟨2, 0, none⟩), .string ⟨#[115, 116, 111, 114, 101]⟩, .int .i64 (.ofNat 5), .map (some 55), .int .i64 (.ofNat 0)] 193 true),
  (57, .map [⟨.int .i64 (.ofNat 4), .bool true, 6⟩, ⟨.int .i64 (.ofNat 1), .bool true, 7⟩, ⟨.int .i64 (.ofNat 3), .bool true, 8⟩] 9),
  (58, .map [] 0),
  (59, .cells [.int .i64 (.ofNat 1), .map (some 57), .map (some 58), .slice none 0 0] 189 true),
  (60, .cells [.pointer (some ⟨56, 0, none⟩), .pointer (some ⟨59, 0, none⟩)] 144 true),
  (62, .cells [.pointer (some ⟨56, 0, none⟩), .pointer (some ⟨59, 0, none⟩), .pointer (some ⟨60, 0, none⟩), .pointer (some ⟨2, 0, none⟩), .pointer (some ⟨72, 0, none⟩), .pointer (some ⟨3150, 0, none⟩), .slice (some ⟨12193, 0, none⟩) 2 2, .int .i64 (.ofNat 1), .int .i64 (.ofNat 2), .int .i64 (.ofNat 4), .int .i64 (.ofNat 1), .int .i64 (.ofNat 0), .int .i64 (.ofNat 3), .int .i64 (.ofNat 0), .int .i64 (.ofNat 0), .int .i64 (.ofNat 0), .int .i64 (.ofNat 0), .int .i64 (.ofNat 0), .slice (some ⟨12051, 0, none⟩) 2 2] 61 true),
  (72, .cells [.pointer (some ⟨2, 0, none⟩), .int .i64 (.ofNat 0)] 174 true),
  (214, .cells [.int .i64 (.ofNat 1), .int .i64 (.ofNat 0), .bool false, .pointer (some ⟨9391, 0, none⟩), .pointer (some ⟨8579, 0, none⟩)] 255 true),
  (516, .cells [.slice (some ⟨10754, 0, none⟩) 1280 1280, .slice (some ⟨12180, 0, none⟩) 1280 1280, .bool true] 88 true),
  (3129, .map [] 0),
  (3130, .cells [.pointer (some ⟨2, 0, none⟩), .string ⟨#[111, 114, 105, 103, 105, 110, 97, 108]⟩, .int .i64 (.ofNat 3), .int .i64 (.ofNat 0), .map (some 3129)] 248 true),
  (3150, .cells [.pointer (some ⟨60, 0, none⟩), .pointer (some ⟨3130, 0, none⟩), .pointer (some ⟨72, 0, none⟩)] 250 true),
  (8579, .cells [.int .i64 (.ofNat 3), .int .i64 (.ofNat 0), .bool false, .pointer (some ⟨214, 0, none⟩), .pointer (some ⟨38, 1, none⟩)] 255 true),
  (9391, .cells [.int .i64 (.ofNat 4), .int .i64 (.ofNat 0), .bool false, .pointer (some ⟨38, 1, none⟩), .pointer (some ⟨214, 0, none⟩)] 255 true),
  (10754, .cells (u8s [111, 99, 116, 97, 118, 111, 48, 49, 2] ++ u8z 5 ++ u8s [4, 0, 0, 0, 1] ++ u8z 4 ++ u8s [3] ++ u8z 36 ++ u8s [91, 68, 102, 142, 111, 99, 116, 97, 118, 111, 48, 49, 1] ++ u8z 5 ++ u8s [2] ++ u8z 8 ++ u8s [3] ++ u8z 36 ++ u8s [137, 155, 206, 78] ++ u8z 128 ++ u8s [1, 0, 14, 0, 1, 0, 0, 0, 194, 105, 111, 233, 1] ++ u8z 5 ++ u8s [3, 0, 0, 0, 255, 255, 255, 255] ++ u8z 230 ++ u8s [3, 0, 9, 0, 2, 0, 0, 0, 68, 252, 163, 153, 1, 1, 0, 0, 0, 3] ++ u8z 238 ++ u8s [1, 0, 27, 0, 3, 0, 0, 0, 116, 27, 238, 85, 2] ++ u8z 5 ++ u8s [1, 0, 0, 0, 255, 255, 255, 255, 0, 2, 0, 0, 0, 1, 0, 0, 0, 255, 255, 255, 255] ++ u8z 217 ++ u8s [3, 0, 17, 0, 4, 0, 0, 0, 238, 26, 49, 237, 2, 1, 0, 0, 0, 3, 0, 0, 0, 3, 0, 0, 0, 2] ++ u8z 230) 5 false),
  (12051, .cells [.int .i64 (.ofNat 1), .int .i64 (.ofNat 3)] 3 false),
  (12193, .cells [.int .i64 (.ofNat 1), .int .i64 (.ofNat 3), .int .i64 (.ofNat 3), .int .i64 (.ofNat 2)] 99 false),
  (18634, .cells [.int .i64 (.ofNat 1), .int .i64 (.ofNat 3), .int .i64 (.ofNat 3), .int .i64 (.ofNat 2)] 99 false)], .int .i64 (.ofNat 0), 18839, [(2, some (.cells [.int .i64 (.ofNat 100000), .int .i64 (.ofNat 13), .int .i64 (.negSucc 12), .bool false, .bool false, .map (some 1), .slice none 0 0] 67 true)),
  (57, some (.map [⟨.int .i64 (.ofNat 4), .bool true, 9⟩, ⟨.int .i64 (.ofNat 1), .bool true, 10⟩, ⟨.int .i64 (.ofNat 3), .bool true, 11⟩] 12)),
  (62, some (.cells [.pointer (some ⟨56, 0, none⟩), .pointer (some ⟨59, 0, none⟩), .pointer (some ⟨60, 0, none⟩), .pointer (some ⟨2, 0, none⟩), .pointer (some ⟨72, 0, none⟩), .pointer (some ⟨3150, 0, none⟩), .slice (some ⟨18749, 0, none⟩) 2 2, .int .i64 (.ofNat 0), .int .i64 (.ofNat 3), .int .i64 (.ofNat 4), .int .i64 (.ofNat 0), .int .i64 (.ofNat 0), .int .i64 (.ofNat 3), .int .i64 (.ofNat 0), .int .i64 (.ofNat 0), .int .i64 (.ofNat 0), .int .i64 (.ofNat 0), .int .i64 (.ofNat 0), .slice (some ⟨12051, 0, none⟩) 2 2] 61 true)),
  (516, some (.cells [.slice (some ⟨10754, 0, none⟩) 1280 1280, .slice (some ⟨18736, 0, none⟩) 1280 1280, .bool true] 88 true)),
  (10754, some (.cells (u8s [111, 99, 116, 97, 118, 111, 48, 49, 2] ++ u8z 5 ++ u8s [4, 0, 0, 0, 1] ++ u8z 4 ++ u8s [3] ++ u8z 36 ++ u8s [91, 68, 102, 142, 111, 99, 116, 97, 118, 111, 48, 49, 3] ++ u8z 5 ++ u8s [4] ++ u8z 8 ++ u8s [3] ++ u8z 36 ++ u8s [184, 60, 147, 70] ++ u8z 128 ++ u8s [1, 0, 14, 0, 1, 0, 0, 0, 194, 105, 111, 233, 1] ++ u8z 5 ++ u8s [3, 0, 0, 0, 255, 255, 255, 255] ++ u8z 230 ++ u8s [3, 0, 9, 0, 2, 0, 0, 0, 68, 252, 163, 153, 1, 1, 0, 0, 0, 3] ++ u8z 238 ++ u8s [1, 0, 27, 0, 3, 0, 0, 0, 116, 27, 238, 85, 2] ++ u8z 5 ++ u8s [1, 0, 0, 0, 255, 255, 255, 255, 0, 2, 0, 0, 0, 1, 0, 0, 0, 255, 255, 255, 255] ++ u8z 217 ++ u8s [3, 0, 17, 0, 4, 0, 0, 0, 238, 26, 49, 237, 2, 1, 0, 0, 0, 3, 0, 0, 0, 3, 0, 0, 0, 2] ++ u8z 230) 5 false)),
  (18736, some (.cells (u8s [111, 99, 116, 97, 118, 111, 48, 49, 2] ++ u8z 5 ++ u8s [4, 0, 0, 0, 1] ++ u8z 4 ++ u8s [3] ++ u8z 36 ++ u8s [91, 68, 102, 142, 111, 99, 116, 97, 118, 111, 48, 49, 3] ++ u8z 5 ++ u8s [4] ++ u8z 8 ++ u8s [3] ++ u8z 36 ++ u8s [184, 60, 147, 70] ++ u8z 128 ++ u8s [1, 0, 14, 0, 1, 0, 0, 0, 194, 105, 111, 233, 1] ++ u8z 5 ++ u8s [3, 0, 0, 0, 255, 255, 255, 255] ++ u8z 230 ++ u8s [3, 0, 9, 0, 2, 0, 0, 0, 68, 252, 163, 153, 1, 1, 0, 0, 0, 3] ++ u8z 238 ++ u8s [1, 0, 27, 0, 3, 0, 0, 0, 116, 27, 238, 85, 2] ++ u8z 5 ++ u8s [1, 0, 0, 0, 255, 255, 255, 255, 0, 2, 0, 0, 0, 1, 0, 0, 0, 255, 255, 255, 255] ++ u8z 217 ++ u8s [3, 0, 17, 0, 4, 0, 0, 0, 238, 26, 49, 237, 2, 1, 0, 0, 0, 3, 0, 0, 0, 3, 0, 0, 0, 2] ++ u8z 230) 5 false)),
  (18749, some (.cells [.int .i64 (.ofNat 1), .int .i64 (.ofNat 3), .int .i64 (.ofNat 3), .int .i64 (.ofNat 2)] 99 false))]⟩
theorem m19_55_ok : m19_55.ok (call evT evF k19_55 100000 m19_55.f m19_55.args m19_55.preH) = true := by kernel_rfl
theorem q19_55 : HkOk Tryz.prog (hkMemo m19_55) := hkMemo_ok evT_ok evF_ok k19_55_ok rfl m19_55_ok
end Go.Proofs.YtgpceblcfkcckaaGreat
