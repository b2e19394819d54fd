/-
  Calls that were reckoned out, one by one. Printed by a program.
-/
import Derived.Test.YtgpceblcfkcckaaGreatEvl
namespace Go.Proofs.YtgpceblcfkcckaaGreat
open Go.Ev
set_option maxRecDepth 1000000
noncomputable def k19_0 : Hk := hkLib
theorem k19_0_ok : HkOk Tryz.prog k19_0 := hkLib_ok
noncomputable def m19_0 : Mm :=
  ⟨168, [.pointer (some ⟨60, 0, none⟩), .agg #[.bool true, .slice (some ⟨129, 0, none⟩) 1 1, .slice none 0 0]], 135, [(1, .map [⟨.string ⟨#[111, 114, 105, 103, 105, 110, 97, 108]⟩, .pointer (some ⟨32, 0, none⟩), 0⟩] 1),
  (2, .cells [.int .i64 (.ofNat 100000), .int .i64 (.ofNat 0), .int .i64 (.ofNat 0), .bool false, .bool false, .map (some 1), .slice none 0 0] 67 true),
  (32, .cells [.slice (some ⟨34, 0, none⟩) 3 3, .slice (some ⟨35, 0, none⟩) 3 3, .bool true] 88 true),
  (34, .cells (u8s [97, 98, 99]) 5 false),
  (35, .cells (u8s [97, 98, 99]) 5 false),
  (37, .map [] 0),
  (38, .cells [.int .i64 (.ofNat 5), .int .i64 (.ofNat 0), .int .i64 (.ofNat 0), .bool false, .pointer (some ⟨38, 1, none⟩), .pointer (some ⟨38, 1, none⟩), .map (some 37)] 263 true),
  (55, .map [] 0),
  (56, .cells [.pointer (some ⟨38, 0, none⟩), .pointer (some ⟨2, 0, none⟩), .string ⟨#[115, 116, 111, 114, 101]⟩, .int .i64 (.ofNat 5), .map (some 55), .int .i64 (.ofNat 0)] 193 true),
  (57, .map [] 0),
  (58, .map [] 0),
  (59, .cells [.int .i64 (.ofNat 1), .map (some 57), .map (some 58), .slice none 0 0] 189 true),
  (60, .cells [.pointer (some ⟨56, 0, none⟩), .pointer (some ⟨59, 0, none⟩)] 144 true),
  (129, .cells [.int .i64 (.ofNat 0), .int .i64 (.ofNat 0), .int .i64 (.ofNat 3), .int .i64 (.negSucc 0)] 130 false)], .agg #[.int .i64 (.ofNat 1), .int .i64 (.ofNat 3), .int .i64 (.negSucc 0), .int .i64 (.ofNat 1)], 274, [(37, some (.map [⟨.int .i64 (.ofNat 1), .pointer (some ⟨214, 0, none⟩), 0⟩] 1)),
  (38, some (.cells [.int .i64 (.ofNat 5), .int .i64 (.ofNat 0), .int .i64 (.ofNat 0), .bool false, .pointer (some ⟨214, 0, none⟩), .pointer (some ⟨214, 0, none⟩), .map (some 37)] 263 true)),
  (55, some (.map [⟨.int .i64 (.ofNat 1), .slice (some ⟨240, 0, none⟩) 256 256, 0⟩] 1)),
  (57, some (.map [⟨.int .i64 (.ofNat 1), .bool true, 0⟩] 1)),
  (59, some (.cells [.int .i64 (.ofNat 1), .map (some 57), .map (some 58), .slice (some ⟨182, 0, none⟩) 1 1] 189 true)),
  (182, some (.cells [.int .i64 (.ofNat 1)] 3 false)),
  (214, some (.cells [.int .i64 (.ofNat 1), .int .i64 (.ofNat 0), .bool true, .pointer (some ⟨38, 1, none⟩), .pointer (some ⟨38, 1, none⟩)] 255 true)),
  (240, some (.cells (u8s [1, 0, 14, 0, 1, 0, 0, 0, 194, 105, 111, 233, 1] ++ u8z 5 ++ u8s [3, 0, 0, 0, 255, 255, 255, 255] ++ u8z 230) 5 false))]⟩
theorem m19_0_ok : m19_0.ok (call evT evF k19_0 100000 m19_0.f m19_0.args m19_0.preH) = true := by kernel_rfl
theorem q19_0 : HkOk Tryz.prog (hkMemo m19_0) := hkMemo_ok evT_ok evF_ok k19_0_ok rfl m19_0_ok
noncomputable def k19_4 : Hk := hkLib
theorem k19_4_ok : HkOk Tryz.prog k19_4 := hkLib_ok
noncomputable def m19_4 : Mm :=
  ⟨38, [.slice (some ⟨1687, 0, none⟩) 512 512, .int .i64 (.ofNat 512), .slice (some ⟨365, 0, none⟩) 256 256], 1849, [(365, .cells (u8s [3, 0, 9, 0, 2, 0, 0, 0, 68, 252, 163, 153, 1, 1, 0, 0, 0, 3] ++ u8z 238) 5 false),
  (1687, .cells (u8z 256 ++ u8s [1, 0, 14, 0, 1, 0, 0, 0, 194, 105, 111, 233, 1] ++ u8z 5 ++ u8s [3, 0, 0, 0, 255, 255, 255, 255] ++ u8z 230) 5 false)], .slice (some ⟨2360, 0, none⟩) 768 768, 2361, [(1687, none),
  (2360, some (.cells (u8z 256 ++ u8s [1, 0, 14, 0, 1, 0, 0, 0, 194, 105, 111, 233, 1] ++ u8z 5 ++ u8s [3, 0, 0, 0, 255, 255, 255, 255] ++ u8z 230 ++ u8s [3, 0, 9, 0, 2, 0, 0, 0, 68, 252, 163, 153, 1, 1, 0, 0, 0, 3] ++ u8z 238) 5 false))]⟩
theorem m19_4_ok : m19_4.ok (call evT evF k19_4 100000 m19_4.f m19_4.args m19_4.preH) = true := by kernel_rfl
theorem q19_4 : HkOk Tryz.prog (hkMemo m19_4) := hkMemo_ok evT_ok evF_ok k19_4_ok rfl m19_4_ok
noncomputable def k19_7 : Hk := hkLib
theorem k19_7_ok : HkOk Tryz.prog k19_7 := hkLib_ok
noncomputable def m19_7 : Mm :=
  ⟨123, [.pointer (some ⟨2596, 0, none⟩), .int .i64 (.ofNat 230)], 2786, [(2595, .cells (u8s [1, 0, 14, 0, 1, 0, 0, 0, 194, 105, 111, 233, 1] ++ u8z 5 ++ u8s [3, 0, 0, 0, 255, 255, 255, 255] ++ u8z 230) 5 false),
  (2596, .cells [.slice (some ⟨2595, 0, none⟩) 256 256, .int .i64 (.ofNat 26)] 265 true)], .int .i64 (.ofNat 0), 2815, [(2596, some (.cells [.slice (some ⟨2595, 0, none⟩) 256 256, .int .i64 (.ofNat 256)] 265 true))]⟩
theorem m19_7_ok : m19_7.ok (call evT evF k19_7 100000 m19_7.f m19_7.args m19_7.preH) = true := by kernel_rfl
theorem q19_7 : HkOk Tryz.prog (hkMemo m19_7) := hkMemo_ok evT_ok evF_ok k19_7_ok rfl m19_7_ok
noncomputable def k19_9 : Hk := hkLib
theorem k19_9_ok : HkOk Tryz.prog k19_9 := hkLib_ok
noncomputable def m19_9 : Mm :=
  ⟨143, [.int .i64 (.ofNat 1), .slice (some ⟨2774, 0, none⟩) 14 14], 2816, [(2774, .cells (u8s [1] ++ u8z 5 ++ u8s [3, 0, 0, 0, 255, 255, 255, 255]) 5 false)], .tuple #[.agg #[.bool true, .slice (some ⟨2990, 0, none⟩) 1 1, .slice none 0 0], .int .i64 (.ofNat 0)], 3005, [(2990, some (.cells [.int .i64 (.ofNat 0), .int .i64 (.ofNat 0), .int .i64 (.ofNat 3), .int .i64 (.negSucc 0)] 130 false))]⟩
theorem m19_9_ok : m19_9.ok (call evT evF k19_9 100000 m19_9.f m19_9.args m19_9.preH) = true := by kernel_rfl
theorem q19_9 : HkOk Tryz.prog (hkMemo m19_9) := hkMemo_ok evT_ok evF_ok k19_9_ok rfl m19_9_ok
noncomputable def k19_13 : Hk := hkLib
theorem k19_13_ok : HkOk Tryz.prog k19_13 := hkLib_ok
noncomputable def m19_13 : Mm :=
  ⟨206, [.int .i64 (.ofNat 1), .int .i64 (.ofNat 1), .slice (some ⟨3378, 0, none⟩) 14 14], 3379, [(3378, .cells (u8s [1] ++ u8z 5 ++ u8s [3, 0, 0, 0, 255, 255, 255, 255]) 5 false)], .tuple #[.slice (some ⟨3908, 0, none⟩) 256 256, .int .i64 (.ofNat 0)], 3909, [(3908, some (.cells (u8s [1, 0, 14, 0, 1, 0, 0, 0, 194, 105, 111, 233, 1] ++ u8z 5 ++ u8s [3, 0, 0, 0, 255, 255, 255, 255] ++ u8z 230) 5 false))]⟩
theorem m19_13_ok : m19_13.ok (call evT evF k19_13 100000 m19_13.f m19_13.args m19_13.preH) = true := by kernel_rfl
theorem q19_13 : HkOk Tryz.prog (hkMemo m19_13) := hkMemo_ok evT_ok evF_ok k19_13_ok rfl m19_13_ok
noncomputable def k19_14 : Hk := hkLib
theorem k19_14_ok : HkOk Tryz.prog k19_14 := hkLib_ok
noncomputable def m19_14 : Mm :=
  ⟨75, [.slice (some ⟨3908, 0, none⟩) 256 256, .slice (some ⟨3323, 256, none⟩) 256 512], 3909, [(3323, .cells (u8z 64 ++ u8s [111, 99, 116, 97, 118, 111, 48, 49, 1] ++ u8z 5 ++ u8s [2] ++ u8z 8 ++ u8s [3] ++ u8z 36 ++ u8s [137, 155, 206, 78] ++ u8z 128 ++ u8s [1, 0, 14, 0, 1, 0, 0, 0, 194, 105, 111, 233, 1] ++ u8z 5 ++ u8s [3, 0, 0, 0, 255, 255, 255, 255] ++ u8z 230 ++ u8s [3, 0, 9, 0, 2, 0, 0, 0, 68, 252, 163, 153, 1, 1, 0, 0, 0, 3] ++ u8z 238) 5 false),
  (3908, .cells (u8s [1, 0, 14, 0, 1, 0, 0, 0, 194, 105, 111, 233, 1] ++ u8z 5 ++ u8s [3, 0, 0, 0, 255, 255, 255, 255] ++ u8z 230) 5 false)], .bool true, 6213, []⟩
theorem m19_14_ok : m19_14.ok (call evT evF k19_14 100000 m19_14.f m19_14.args m19_14.preH) = true := by kernel_rfl
theorem q19_14 : HkOk Tryz.prog (hkMemo m19_14) := hkMemo_ok evT_ok evF_ok k19_14_ok rfl m19_14_ok
noncomputable def k19_20 : Hk := hkLib
theorem k19_20_ok : HkOk Tryz.prog k19_20 := hkLib_ok
noncomputable def m19_20 : Mm :=
  ⟨123, [.pointer (some ⟨6947, 0, none⟩), .int .i64 (.ofNat 230)], 7137, [(6946, .cells (u8s [1, 0, 14, 0, 1, 0, 0, 0, 194, 105, 111, 233, 1] ++ u8z 5 ++ u8s [3, 0, 0, 0, 255, 255, 255, 255] ++ u8z 230) 5 false),
  (6947, .cells [.slice (some ⟨6946, 0, none⟩) 256 256, .int .i64 (.ofNat 26)] 265 true)], .int .i64 (.ofNat 0), 7166, [(6947, some (.cells [.slice (some ⟨6946, 0, none⟩) 256 256, .int .i64 (.ofNat 256)] 265 true))]⟩
theorem m19_20_ok : m19_20.ok (call evT evF k19_20 100000 m19_20.f m19_20.args m19_20.preH) = true := by kernel_rfl
theorem q19_20 : HkOk Tryz.prog (hkMemo m19_20) := hkMemo_ok evT_ok evF_ok k19_20_ok rfl m19_20_ok
noncomputable def k19_22 : Hk := hkLib
theorem k19_22_ok : HkOk Tryz.prog k19_22 := hkLib_ok
noncomputable def m19_22 : Mm :=
  ⟨143, [.int .i64 (.ofNat 1), .slice (some ⟨7125, 0, none⟩) 14 14], 7167, [(7125, .cells (u8s [1] ++ u8z 5 ++ u8s [3, 0, 0, 0, 255, 255, 255, 255]) 5 false)], .tuple #[.agg #[.bool true, .slice (some ⟨7341, 0, none⟩) 1 1, .slice none 0 0], .int .i64 (.ofNat 0)], 7356, [(7341, some (.cells [.int .i64 (.ofNat 0), .int .i64 (.ofNat 0), .int .i64 (.ofNat 3), .int .i64 (.negSucc 0)] 130 false))]⟩
theorem m19_22_ok : m19_22.ok (call evT evF k19_22 100000 m19_22.f m19_22.args m19_22.preH) = true := by kernel_rfl
theorem q19_22 : HkOk Tryz.prog (hkMemo m19_22) := hkMemo_ok evT_ok evF_ok k19_22_ok rfl m19_22_ok
noncomputable def k19_26 : Hk := hkLib
theorem k19_26_ok : HkOk Tryz.prog k19_26 := hkLib_ok
noncomputable def m19_26 : Mm :=
  ⟨123, [.pointer (some ⟨7971, 0, none⟩), .int .i64 (.ofNat 230)], 8161, [(7970, .cells (u8s [1, 0, 14, 0, 1, 0, 0, 0, 194, 105, 111, 233, 1] ++ u8z 5 ++ u8s [3, 0, 0, 0, 255, 255, 255, 255] ++ u8z 230) 5 false),
  (7971, .cells [.slice (some ⟨7970, 0, none⟩) 256 256, .int .i64 (.ofNat 26)] 265 true)], .int .i64 (.ofNat 0), 8190, [(7971, some (.cells [.slice (some ⟨7970, 0, none⟩) 256 256, .int .i64 (.ofNat 256)] 265 true))]⟩
theorem m19_26_ok : m19_26.ok (call evT evF k19_26 100000 m19_26.f m19_26.args m19_26.preH) = true := by kernel_rfl
theorem q19_26 : HkOk Tryz.prog (hkMemo m19_26) := hkMemo_ok evT_ok evF_ok k19_26_ok rfl m19_26_ok
noncomputable def k19_28 : Hk := hkLib
theorem k19_28_ok : HkOk Tryz.prog k19_28 := hkLib_ok
noncomputable def m19_28 : Mm :=
  ⟨143, [.int .i64 (.ofNat 1), .slice (some ⟨8149, 0, none⟩) 14 14], 8191, [(8149, .cells (u8s [1] ++ u8z 5 ++ u8s [3, 0, 0, 0, 255, 255, 255, 255]) 5 false)], .tuple #[.agg #[.bool true, .slice (some ⟨8365, 0, none⟩) 1 1, .slice none 0 0], .int .i64 (.ofNat 0)], 8380, [(8365, some (.cells [.int .i64 (.ofNat 0), .int .i64 (.ofNat 0), .int .i64 (.ofNat 3), .int .i64 (.negSucc 0)] 130 false))]⟩
theorem m19_28_ok : m19_28.ok (call evT evF k19_28 100000 m19_28.f m19_28.args m19_28.preH) = true := by kernel_rfl
theorem q19_28 : HkOk Tryz.prog (hkMemo m19_28) := hkMemo_ok evT_ok evF_ok k19_28_ok rfl m19_28_ok
noncomputable def k19_31 : Hk := hkLib
theorem k19_31_ok : HkOk Tryz.prog k19_31 := hkLib_ok
noncomputable def m19_31 : Mm :=
  ⟨123, [.pointer (some ⟨8714, 0, none⟩), .int .i64 (.ofNat 217)], 8904, [(8713, .cells (u8s [1, 0, 27, 0, 3, 0, 0, 0, 116, 27, 238, 85, 2] ++ u8z 5 ++ u8s [1, 0, 0, 0, 255, 255, 255, 255, 0, 2, 0, 0, 0, 1, 0, 0, 0, 255, 255, 255, 255] ++ u8z 217) 5 false),
  (8714, .cells [.slice (some ⟨8713, 0, none⟩) 256 256, .int .i64 (.ofNat 39)] 265 true)], .int .i64 (.ofNat 0), 8933, [(8714, some (.cells [.slice (some ⟨8713, 0, none⟩) 256 256, .int .i64 (.ofNat 256)] 265 true))]⟩
theorem m19_31_ok : m19_31.ok (call evT evF k19_31 100000 m19_31.f m19_31.args m19_31.preH) = true := by kernel_rfl
theorem q19_31 : HkOk Tryz.prog (hkMemo m19_31) := hkMemo_ok evT_ok evF_ok k19_31_ok rfl m19_31_ok
noncomputable def k19_36 : Hk := hkLib
theorem k19_36_ok : HkOk Tryz.prog k19_36 := hkLib_ok
noncomputable def m19_36 : Mm :=
  ⟨38, [.slice (some ⟨10081, 0, none⟩) 1024 1024, .int .i64 (.ofNat 1024), .slice (some ⟨9417, 0, none⟩) 256 256], 10243, [(9417, .cells (u8s [3, 0, 17, 0, 4, 0, 0, 0, 238, 26, 49, 237, 2, 1, 0, 0, 0, 3, 0, 0, 0, 3, 0, 0, 0, 2] ++ u8z 230) 5 false),
  (10081, .cells (u8z 64 ++ u8s [111, 99, 116, 97, 118, 111, 48, 49, 1] ++ u8z 5 ++ u8s [2] ++ u8z 8 ++ u8s [3] ++ u8z 36 ++ u8s [137, 155, 206, 78] ++ u8z 128 ++ u8s [1, 0, 14, 0, 1, 0, 0, 0, 194, 105, 111, 233, 1] ++ u8z 5 ++ u8s [3, 0, 0, 0, 255, 255, 255, 255] ++ u8z 230 ++ u8s [3, 0, 9, 0, 2, 0, 0, 0, 68, 252, 163, 153, 1, 1, 0, 0, 0, 3] ++ u8z 238 ++ u8s [1, 0, 27, 0, 3, 0, 0, 0, 116, 27, 238, 85, 2] ++ u8z 5 ++ u8s [1, 0, 0, 0, 255, 255, 255, 255, 0, 2, 0, 0, 0, 1, 0, 0, 0, 255, 255, 255, 255] ++ u8z 217) 5 false)], .slice (some ⟨10754, 0, none⟩) 1280 1280, 10755, [(10081, none),
  (10754, some (.cells (u8z 64 ++ u8s [111, 99, 116, 97, 118, 111, 48, 49, 1] ++ u8z 5 ++ u8s [2] ++ u8z 8 ++ u8s [3] ++ u8z 36 ++ u8s [137, 155, 206, 78] ++ u8z 128 ++ u8s [1, 0, 14, 0, 1, 0, 0, 0, 194, 105, 111, 233, 1] ++ u8z 5 ++ u8s [3, 0, 0, 0, 255, 255, 255, 255] ++ u8z 230 ++ u8s [3, 0, 9, 0, 2, 0, 0, 0, 68, 252, 163, 153, 1, 1, 0, 0, 0, 3] ++ u8z 238 ++ u8s [1, 0, 27, 0, 3, 0, 0, 0, 116, 27, 238, 85, 2] ++ u8z 5 ++ u8s [1, 0, 0, 0, 255, 255, 255, 255, 0, 2, 0, 0, 0, 1, 0, 0, 0, 255, 255, 255, 255] ++ u8z 217 ++ u8s [3, 0, 17, 0, 4, 0, 0, 0, 238, 26, 49, 237, 2, 1, 0, 0, 0, 3, 0, 0, 0, 3, 0, 0, 0, 2] ++ u8z 230) 5 false))]⟩
theorem m19_36_ok : m19_36.ok (call evT evF k19_36 100000 m19_36.f m19_36.args m19_36.preH) = true := by kernel_rfl
theorem q19_36 : HkOk Tryz.prog (hkMemo m19_36) := hkMemo_ok evT_ok evF_ok k19_36_ok rfl m19_36_ok
noncomputable def k19_44 : Hk := hkLib
theorem k19_44_ok : HkOk Tryz.prog k19_44 := hkLib_ok
noncomputable def m19_44 : Mm :=
  ⟨143, [.int .i64 (.ofNat 1), .slice (some ⟨11657, 0, none⟩) 27 27], 11699, [(11657, .cells (u8s [2] ++ u8z 5 ++ u8s [1, 0, 0, 0, 255, 255, 255, 255, 0, 2, 0, 0, 0, 1, 0, 0, 0, 255, 255, 255, 255]) 5 false)], .tuple #[.agg #[.bool true, .slice (some ⟨12003, 0, none⟩) 2 2, .slice none 0 0], .int .i64 (.ofNat 0)], 12021, [(12003, some (.cells [.int .i64 (.ofNat 0), .int .i64 (.ofNat 0), .int .i64 (.ofNat 1), .int .i64 (.negSucc 0), .int .i64 (.ofNat 0), .int .i64 (.ofNat 2), .int .i64 (.ofNat 1), .int .i64 (.negSucc 0)] 130 false))]⟩
theorem m19_44_ok : m19_44.ok (call evT evF k19_44 100000 m19_44.f m19_44.args m19_44.preH) = true := by kernel_rfl
theorem q19_44 : HkOk Tryz.prog (hkMemo m19_44) := hkMemo_ok evT_ok evF_ok k19_44_ok rfl m19_44_ok
noncomputable def k19_52 : Hk := hkLib
theorem k19_52_ok : HkOk Tryz.prog k19_52 := hkLib_ok
noncomputable def m19_52 : Mm :=
  ⟨75, [.slice (some ⟨16045, 0, none⟩) 256 256, .slice (some ⟨12379, 768, none⟩) 256 512], 16046, [(12379, .cells (u8s [111, 99, 116, 97, 118, 111, 48, 49, 2] ++ u8z 5 ++ u8s [4, 0, 0, 0, 1] ++ u8z 4 ++ u8s [3] ++ u8z 36 ++ u8s [91, 68, 102, 142, 111, 99, 116, 97, 118, 111, 48, 49, 1] ++ u8z 5 ++ u8s [2] ++ u8z 8 ++ u8s [3] ++ u8z 36 ++ u8s [137, 155, 206, 78] ++ u8z 128 ++ u8s [1, 0, 14, 0, 1, 0, 0, 0, 194, 105, 111, 233, 1] ++ u8z 5 ++ u8s [3, 0, 0, 0, 255, 255, 255, 255] ++ u8z 230 ++ u8s [3, 0, 9, 0, 2, 0, 0, 0, 68, 252, 163, 153, 1, 1, 0, 0, 0, 3] ++ u8z 238 ++ u8s [1, 0, 27, 0, 3, 0, 0, 0, 116, 27, 238, 85, 2] ++ u8z 5 ++ u8s [1, 0, 0, 0, 255, 255, 255, 255, 0, 2, 0, 0, 0, 1, 0, 0, 0, 255, 255, 255, 255] ++ u8z 217 ++ u8s [3, 0, 17, 0, 4, 0, 0, 0, 238, 26, 49, 237, 2, 1, 0, 0, 0, 3, 0, 0, 0, 3, 0, 0, 0, 2] ++ u8z 230) 5 false),
  (16045, .cells (u8s [1, 0, 27, 0, 3, 0, 0, 0, 116, 27, 238, 85, 2] ++ u8z 5 ++ u8s [1, 0, 0, 0, 255, 255, 255, 255, 0, 2, 0, 0, 0, 1, 0, 0, 0, 255, 255, 255, 255] ++ u8z 217) 5 false)], .bool true, 18350, []⟩
theorem m19_52_ok : m19_52.ok (call evT evF k19_52 100000 m19_52.f m19_52.args m19_52.preH) = true := by kernel_rfl
theorem q19_52 : HkOk Tryz.prog (hkMemo m19_52) := hkMemo_ok evT_ok evF_ok k19_52_ok rfl m19_52_ok
end Go.Proofs.YtgpceblcfkcckaaGreat
