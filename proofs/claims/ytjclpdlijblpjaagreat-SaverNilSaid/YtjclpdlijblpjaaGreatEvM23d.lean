/-
  Calls that were reckoned out, one by one. Printed by a program.
-/
import Derived.Test.YtjclpdlijblpjaaGreatEvl
import Derived.Test.YtjclpdlijblpjaaGreatEvM23a
import Derived.Test.YtjclpdlijblpjaaGreatEvM23b
import Derived.Test.YtjclpdlijblpjaaGreatEvM23c
namespace Go.Proofs.YtjclpdlijblpjaaGreat
open Go.Ev
set_option maxRecDepth 1000000
noncomputable def k23_3 : Hk := orHk (hkMemo m23_0) (orHk (hkMemo m23_1) (orHk (hkMemo m23_2) (hkLib)))
theorem k23_3_ok : HkOk Tryz.prog k23_3 := orHk_ok q23_0 (orHk_ok q23_1 (orHk_ok q23_2 (hkLib_ok)))
noncomputable def m23_3 : Mm :=
  ⟨301, [.pointer (some ⟨60, 0, none⟩), .agg #[.bool true, .slice (some ⟨129, 0, none⟩) 1 1, .slice none 0 0]], 135, [(1, .map [⟨.string ⟨#[111, 114, 105, 103, 105, 110, 97, 108]⟩, .pointer (some ⟨32, 0, none⟩), 0⟩] 1),
  (2, .cells [.int .i64 (.ofNat 100000), .int .i64 (.ofNat 0), .int .i64 (.ofNat 0), .bool false, .bool false, .map (some 1), .slice none 0 0] 61 true),
  (32, .cells [.slice (some ⟨34, 0, none⟩) 3 3, .slice (some ⟨35, 0, none⟩) 3 3, .bool true] 130 true),
  (34, .cells (u8s [97, 98, 99]) 5 false),
  (35, .cells (u8s [97, 98, 99]) 5 false),
  (37, .map [] 0),
  (38, .cells [.int .i64 (.ofNat 5), .int .i64 (.ofNat 0), .int .i64 (.ofNat 0), .bool false, .pointer (some ⟨38, 1, none⟩), .pointer (some ⟨38, 1, none⟩), .map (some 37)] 357 true),
  (55, .map [] 0),
  (56, .cells [.pointer (some ⟨38, 0, none⟩), .pointer (some ⟨2, 0, none⟩), .string ⟨#[115, 116, 111, 114, 101]⟩, .int .i64 (.ofNat 5), .map (some 55), .int .i64 (.ofNat 0)] 249 true),
  (57, .map [] 0),
  (58, .map [] 0),
  (59, .cells [.int .i64 (.ofNat 1), .map (some 57), .map (some 58), .slice none 0 0] 214 true),
  (60, .cells [.pointer (some ⟨56, 0, none⟩), .pointer (some ⟨59, 0, none⟩)] 257 true),
  (129, .cells [.int .i64 (.ofNat 0), .int .i64 (.ofNat 0), .int .i64 (.ofNat 3), .int .i64 (.negSucc 0)] 147 false)], .agg #[.int .i64 (.ofNat 1), .int .i64 (.ofNat 3), .int .i64 (.negSucc 0), .int .i64 (.ofNat 1)], 274, [(37, some (.map [⟨.int .i64 (.ofNat 1), .pointer (some ⟨214, 0, none⟩), 0⟩] 1)),
  (38, some (.cells [.int .i64 (.ofNat 5), .int .i64 (.ofNat 0), .int .i64 (.ofNat 0), .bool false, .pointer (some ⟨214, 0, none⟩), .pointer (some ⟨214, 0, none⟩), .map (some 37)] 357 true)),
  (55, some (.map [⟨.int .i64 (.ofNat 1), .slice (some ⟨240, 0, none⟩) 256 256, 0⟩] 1)),
  (57, some (.map [⟨.int .i64 (.ofNat 1), .bool true, 0⟩] 1)),
  (59, some (.cells [.int .i64 (.ofNat 1), .map (some 57), .map (some 58), .slice (some ⟨182, 0, none⟩) 1 1] 214 true)),
  (182, some (.cells [.int .i64 (.ofNat 1)] 3 false)),
  (214, some (.cells [.int .i64 (.ofNat 1), .int .i64 (.ofNat 0), .bool true, .pointer (some ⟨38, 1, none⟩), .pointer (some ⟨38, 1, none⟩)] 351 true)),
  (240, some (.cells (u8s [1, 0, 14, 0, 1, 0, 0, 0, 194, 105, 111, 233, 1] ++ u8z 5 ++ u8s [3, 0, 0, 0, 255, 255, 255, 255] ++ u8z 230) 5 false))]⟩
theorem m23_3_ok : m23_3.ok (call evT evF k23_3 100000 m23_3.f m23_3.args m23_3.preH) = true := by kernel_rfl
theorem q23_3 : HkOk Tryz.prog (hkMemo m23_3) := hkMemo_ok evT_ok evF_ok k23_3_ok rfl m23_3_ok
noncomputable def k23_8 : Hk := orHk (hkMemo m23_7) (hkLib)
theorem k23_8_ok : HkOk Tryz.prog k23_8 := orHk_ok q23_7 (hkLib_ok)
noncomputable def m23_8 : Mm :=
  ⟨11, [.pointer (some ⟨2, 0, none⟩), .string ⟨#[115, 116, 111, 114, 101]⟩, .int .i64 (.ofNat 0), .slice (some ⟨392, 0, none⟩) 256 256], 395, [(1, .map [⟨.string ⟨#[111, 114, 105, 103, 105, 110, 97, 108]⟩, .pointer (some ⟨32, 0, none⟩), 0⟩] 1),
  (2, .cells [.int .i64 (.ofNat 100000), .int .i64 (.ofNat 0), .int .i64 (.ofNat 0), .bool false, .bool false, .map (some 1), .slice none 0 0] 61 true),
  (32, .cells [.slice (some ⟨34, 0, none⟩) 3 3, .slice (some ⟨35, 0, none⟩) 3 3, .bool true] 130 true),
  (34, .cells (u8s [97, 98, 99]) 5 false),
  (35, .cells (u8s [97, 98, 99]) 5 false),
  (392, .cells (u8z 256) 5 true)], .int .i64 (.ofNat 0), 1037, [(1, some (.map [⟨.string ⟨#[111, 114, 105, 103, 105, 110, 97, 108]⟩, .pointer (some ⟨32, 0, none⟩), 0⟩, ⟨.string ⟨#[115, 116, 111, 114, 101]⟩, .pointer (some ⟨412, 0, none⟩), 1⟩] 2)),
  (2, some (.cells [.int .i64 (.ofNat 100000), .int .i64 (.ofNat 1), .int .i64 (.negSucc 0), .bool false, .bool false, .map (some 1), .slice (some ⟨1028, 0, none⟩) 4 4] 61 true)),
  (412, some (.cells [.slice (some ⟨924, 0, none⟩) 256 256, .slice none 0 0, .bool false] 130 true)),
  (924, some (.cells (u8z 256) 5 false)),
  (943, some (.cells (u8z 64) 5 false)),
  (971, some (.cells (u8z 64) 5 false)),
  (999, some (.cells (u8z 64) 5 false)),
  (1027, some (.cells (u8z 64) 5 false)),
  (1028, some (.cells [.string ⟨#[115, 116, 111, 114, 101]⟩, .int .i64 (.ofNat 0), .slice (some ⟨943, 0, none⟩) 64 64, .string ⟨#[115, 116, 111, 114, 101]⟩, .int .i64 (.ofNat 64), .slice (some ⟨971, 0, none⟩) 64 64, .string ⟨#[115, 116, 111, 114, 101]⟩, .int .i64 (.ofNat 128), .slice (some ⟨999, 0, none⟩) 64 64, .string ⟨#[115, 116, 111, 114, 101]⟩, .int .i64 (.ofNat 192), .slice (some ⟨1027, 0, none⟩) 64 64] 134 false))]⟩
theorem m23_8_ok : m23_8.ok (call evT evF k23_8 100000 m23_8.f m23_8.args m23_8.preH) = true := by kernel_rfl
theorem q23_8 : HkOk Tryz.prog (hkMemo m23_8) := hkMemo_ok evT_ok evF_ok k23_8_ok rfl m23_8_ok
noncomputable def k23_10 : Hk := orHk (hkMemo m23_9) (hkLib)
theorem k23_10_ok : HkOk Tryz.prog k23_10 := orHk_ok q23_9 (hkLib_ok)
noncomputable def m23_10 : Mm :=
  ⟨11, [.pointer (some ⟨2, 0, none⟩), .string ⟨#[115, 116, 111, 114, 101]⟩, .int .i64 (.ofNat 256), .slice (some ⟨240, 0, none⟩) 256 256], 1055, [(1, .map [⟨.string ⟨#[111, 114, 105, 103, 105, 110, 97, 108]⟩, .pointer (some ⟨32, 0, none⟩), 0⟩, ⟨.string ⟨#[115, 116, 111, 114, 101]⟩, .pointer (some ⟨412, 0, none⟩), 1⟩] 2),
  (2, .cells [.int .i64 (.ofNat 100000), .int .i64 (.ofNat 1), .int .i64 (.negSucc 0), .bool false, .bool false, .map (some 1), .slice (some ⟨1028, 0, none⟩) 4 4] 61 true),
  (32, .cells [.slice (some ⟨34, 0, none⟩) 3 3, .slice (some ⟨35, 0, none⟩) 3 3, .bool true] 130 true),
  (34, .cells (u8s [97, 98, 99]) 5 false),
  (35, .cells (u8s [97, 98, 99]) 5 false),
  (240, .cells (u8s [1, 0, 14, 0, 1, 0, 0, 0, 194, 105, 111, 233, 1] ++ u8z 5 ++ u8s [3, 0, 0, 0, 255, 255, 255, 255] ++ u8z 230) 5 false),
  (412, .cells [.slice (some ⟨924, 0, none⟩) 256 256, .slice none 0 0, .bool false] 130 true),
  (924, .cells (u8z 256) 5 false),
  (1028, .cells [.string ⟨#[115, 116, 111, 114, 101]⟩, .int .i64 (.ofNat 0), .slice (some ⟨943, 0, none⟩) 64 64, .string ⟨#[115, 116, 111, 114, 101]⟩, .int .i64 (.ofNat 64), .slice (some ⟨971, 0, none⟩) 64 64, .string ⟨#[115, 116, 111, 114, 101]⟩, .int .i64 (.ofNat 128), .slice (some ⟨999, 0, none⟩) 64 64, .string ⟨#[115, 116, 111, 114, 101]⟩, .int .i64 (.ofNat 192), .slice (some ⟨1027, 0, none⟩) 64 64] 134 false)], .int .i64 (.ofNat 0), 1696, [(2, some (.cells [.int .i64 (.ofNat 100000), .int .i64 (.ofNat 2), .int .i64 (.negSucc 1), .bool false, .bool false, .map (some 1), .slice (some ⟨1687, 0, none⟩) 8 8] 61 true)),
  (412, some (.cells [.slice (some ⟨1583, 0, none⟩) 512 512, .slice none 0 0, .bool false] 130 true)),
  (924, none),
  (1028, none),
  (1583, some (.cells (u8z 256 ++ u8s [1, 0, 14, 0, 1, 0, 0, 0, 194, 105, 111, 233, 1] ++ u8z 5 ++ u8s [3, 0, 0, 0, 255, 255, 255, 255] ++ u8z 230) 5 false)),
  (1602, some (.cells (u8s [1, 0, 14, 0, 1, 0, 0, 0, 194, 105, 111, 233, 1] ++ u8z 5 ++ u8s [3, 0, 0, 0, 255, 255, 255, 255] ++ u8z 38) 5 false)),
  (1630, some (.cells (u8z 64) 5 false)),
  (1658, some (.cells (u8z 64) 5 false)),
  (1686, some (.cells (u8z 64) 5 false)),
  (1687, some (.cells [.string ⟨#[115, 116, 111, 114, 101]⟩, .int .i64 (.ofNat 0), .slice (some ⟨943, 0, none⟩) 64 64, .string ⟨#[115, 116, 111, 114, 101]⟩, .int .i64 (.ofNat 64), .slice (some ⟨971, 0, none⟩) 64 64, .string ⟨#[115, 116, 111, 114, 101]⟩, .int .i64 (.ofNat 128), .slice (some ⟨999, 0, none⟩) 64 64, .string ⟨#[115, 116, 111, 114, 101]⟩, .int .i64 (.ofNat 192), .slice (some ⟨1027, 0, none⟩) 64 64, .string ⟨#[115, 116, 111, 114, 101]⟩, .int .i64 (.ofNat 256), .slice (some ⟨1602, 0, none⟩) 64 64, .string ⟨#[115, 116, 111, 114, 101]⟩, .int .i64 (.ofNat 320), .slice (some ⟨1630, 0, none⟩) 64 64, .string ⟨#[115, 116, 111, 114, 101]⟩, .int .i64 (.ofNat 384), .slice (some ⟨1658, 0, none⟩) 64 64, .string ⟨#[115, 116, 111, 114, 101]⟩, .int .i64 (.ofNat 448), .slice (some ⟨1686, 0, none⟩) 64 64] 134 false))]⟩
theorem m23_10_ok : m23_10.ok (call evT evF k23_10 100000 m23_10.f m23_10.args m23_10.preH) = true := by kernel_rfl
theorem q23_10 : HkOk Tryz.prog (hkMemo m23_10) := hkMemo_ok evT_ok evF_ok k23_10_ok rfl m23_10_ok
noncomputable def k23_13 : Hk := orHk (hkMemo m23_12) (hkLib)
theorem k23_13_ok : HkOk Tryz.prog k23_13 := orHk_ok q23_12 (hkLib_ok)
noncomputable def m23_13 : Mm :=
  ⟨11, [.pointer (some ⟨2, 0, none⟩), .string ⟨#[115, 116, 111, 114, 101]⟩, .int .i64 (.ofNat 512), .slice (some ⟨365, 0, none⟩) 256 256], 1726, [(1, .map [⟨.string ⟨#[111, 114, 105, 103, 105, 110, 97, 108]⟩, .pointer (some ⟨32, 0, none⟩), 0⟩, ⟨.string ⟨#[115, 116, 111, 114, 101]⟩, .pointer (some ⟨412, 0, none⟩), 1⟩] 2),
  (2, .cells [.int .i64 (.ofNat 100000), .int .i64 (.ofNat 2), .int .i64 (.negSucc 1), .bool false, .bool false, .map (some 1), .slice (some ⟨1687, 0, none⟩) 8 8] 61 true),
  (32, .cells [.slice (some ⟨34, 0, none⟩) 3 3, .slice (some ⟨35, 0, none⟩) 3 3, .bool true] 130 true),
  (34, .cells (u8s [97, 98, 99]) 5 false),
  (35, .cells (u8s [97, 98, 99]) 5 false),
  (365, .cells (u8s [3, 0, 9, 0, 2, 0, 0, 0, 68, 252, 163, 153, 1, 1, 0, 0, 0, 3] ++ u8z 238) 5 false),
  (412, .cells [.slice (some ⟨1583, 0, none⟩) 512 512, .slice none 0 0, .bool false] 130 true),
  (1583, .cells (u8z 256 ++ u8s [1, 0, 14, 0, 1, 0, 0, 0, 194, 105, 111, 233, 1] ++ u8z 5 ++ u8s [3, 0, 0, 0, 255, 255, 255, 255] ++ u8z 230) 5 false),
  (1687, .cells [.string ⟨#[115, 116, 111, 114, 101]⟩, .int .i64 (.ofNat 0), .slice (some ⟨943, 0, none⟩) 64 64, .string ⟨#[115, 116, 111, 114, 101]⟩, .int .i64 (.ofNat 64), .slice (some ⟨971, 0, none⟩) 64 64, .string ⟨#[115, 116, 111, 114, 101]⟩, .int .i64 (.ofNat 128), .slice (some ⟨999, 0, none⟩) 64 64, .string ⟨#[115, 116, 111, 114, 101]⟩, .int .i64 (.ofNat 192), .slice (some ⟨1027, 0, none⟩) 64 64, .string ⟨#[115, 116, 111, 114, 101]⟩, .int .i64 (.ofNat 256), .slice (some ⟨1602, 0, none⟩) 64 64, .string ⟨#[115, 116, 111, 114, 101]⟩, .int .i64 (.ofNat 320), .slice (some ⟨1630, 0, none⟩) 64 64, .string ⟨#[115, 116, 111, 114, 101]⟩, .int .i64 (.ofNat 384), .slice (some ⟨1658, 0, none⟩) 64 64, .string ⟨#[115, 116, 111, 114, 101]⟩, .int .i64 (.ofNat 448), .slice (some ⟨1686, 0, none⟩) 64 64] 134 false)], .int .i64 (.ofNat 0), 2367, [(2, some (.cells [.int .i64 (.ofNat 100000), .int .i64 (.ofNat 3), .int .i64 (.negSucc 2), .bool false, .bool false, .map (some 1), .slice (some ⟨2358, 0, none⟩) 12 12] 61 true)),
  (412, some (.cells [.slice (some ⟨2254, 0, none⟩) 768 768, .slice none 0 0, .bool false] 130 true)),
  (1583, none),
  (1687, none),
  (2254, some (.cells (u8z 256 ++ u8s [1, 0, 14, 0, 1, 0, 0, 0, 194, 105, 111, 233, 1] ++ u8z 5 ++ u8s [3, 0, 0, 0, 255, 255, 255, 255] ++ u8z 230 ++ u8s [3, 0, 9, 0, 2, 0, 0, 0, 68, 252, 163, 153, 1, 1, 0, 0, 0, 3] ++ u8z 238) 5 false)),
  (2273, some (.cells (u8s [3, 0, 9, 0, 2, 0, 0, 0, 68, 252, 163, 153, 1, 1, 0, 0, 0, 3] ++ u8z 46) 5 false)),
  (2301, some (.cells (u8z 64) 5 false)),
  (2329, some (.cells (u8z 64) 5 false)),
  (2357, some (.cells (u8z 64) 5 false)),
  (2358, some (.cells [.string ⟨#[115, 116, 111, 114, 101]⟩, .int .i64 (.ofNat 0), .slice (some ⟨943, 0, none⟩) 64 64, .string ⟨#[115, 116, 111, 114, 101]⟩, .int .i64 (.ofNat 64), .slice (some ⟨971, 0, none⟩) 64 64, .string ⟨#[115, 116, 111, 114, 101]⟩, .int .i64 (.ofNat 128), .slice (some ⟨999, 0, none⟩) 64 64, .string ⟨#[115, 116, 111, 114, 101]⟩, .int .i64 (.ofNat 192), .slice (some ⟨1027, 0, none⟩) 64 64, .string ⟨#[115, 116, 111, 114, 101]⟩, .int .i64 (.ofNat 256), .slice (some ⟨1602, 0, none⟩) 64 64, .string ⟨#[115, 116, 111, 114, 101]⟩, .int .i64 (.ofNat 320), .slice (some ⟨1630, 0, none⟩) 64 64, .string ⟨#[115, 116, 111, 114, 101]⟩, .int .i64 (.ofNat 384), .slice (some ⟨1658, 0, none⟩) 64 64, .string ⟨#[115, 116, 111, 114, 101]⟩, .int .i64 (.ofNat 448), .slice (some ⟨1686, 0, none⟩) 64 64, .string ⟨#[115, 116, 111, 114, 101]⟩, .int .i64 (.ofNat 512), .slice (some ⟨2273, 0, none⟩) 64 64, .string ⟨#[115, 116, 111, 114, 101]⟩, .int .i64 (.ofNat 576), .slice (some ⟨2301, 0, none⟩) 64 64, .string ⟨#[115, 116, 111, 114, 101]⟩, .int .i64 (.ofNat 640), .slice (some ⟨2329, 0, none⟩) 64 64, .string ⟨#[115, 116, 111, 114, 101]⟩, .int .i64 (.ofNat 704), .slice (some ⟨2357, 0, none⟩) 64 64] 134 false))]⟩
theorem m23_13_ok : m23_13.ok (call evT evF k23_13 100000 m23_13.f m23_13.args m23_13.preH) = true := by kernel_rfl
theorem q23_13 : HkOk Tryz.prog (hkMemo m23_13) := hkMemo_ok evT_ok evF_ok k23_13_ok rfl m23_13_ok
noncomputable def k23_18 : Hk := orHk (hkMemo m23_17) (hkLib)
theorem k23_18_ok : HkOk Tryz.prog k23_18 := orHk_ok q23_17 (hkLib_ok)
noncomputable def m23_18 : Mm :=
  ⟨254, [.int .i64 (.ofNat 1), .slice (some ⟨2478, 0, none⟩) 256 256], 2479, [(2478, .cells (u8s [1, 0, 14, 0, 1, 0, 0, 0, 194, 105, 111, 233, 1] ++ u8z 5 ++ u8s [3, 0, 0, 0, 255, 255, 255, 255] ++ u8z 230) 5 false)], .tuple #[.int .i64 (.ofNat 1), .slice (some ⟨2668, 0, none⟩) 14 14, .int .i64 (.ofNat 0)], 2709, [(2668, some (.cells (u8s [1] ++ u8z 5 ++ u8s [3, 0, 0, 0, 255, 255, 255, 255]) 5 false))]⟩
theorem m23_18_ok : m23_18.ok (call evT evF k23_18 100000 m23_18.f m23_18.args m23_18.preH) = true := by kernel_rfl
theorem q23_18 : HkOk Tryz.prog (hkMemo m23_18) := hkMemo_ok evT_ok evF_ok k23_18_ok rfl m23_18_ok
noncomputable def k23_24 : Hk := orHk (hkMemo m23_21) (orHk (hkMemo m23_22) (orHk (hkMemo m23_23) (hkLib)))
theorem k23_24_ok : HkOk Tryz.prog k23_24 := orHk_ok q23_21 (orHk_ok q23_22 (orHk_ok q23_23 (hkLib_ok)))
noncomputable def m23_24 : Mm :=
  ⟨205, [.pointer (some ⟨62, 0, none⟩), .agg #[.int .i64 (.ofNat 1), .int .i64 (.ofNat 2), .int .i64 (.ofNat 0), .int .i64 (.ofNat 0), .int .i64 (.ofNat 3)], .slice (some ⟨277, 0, none⟩) 1 1, .slice (some ⟨2909, 0, none⟩) 1 1], 2910, [(1, .map [⟨.string ⟨#[111, 114, 105, 103, 105, 110, 97, 108]⟩, .pointer (some ⟨32, 0, none⟩), 0⟩, ⟨.string ⟨#[115, 116, 111, 114, 101]⟩, .pointer (some ⟨412, 0, none⟩), 1⟩] 2),
  (2, .cells [.int .i64 (.ofNat 100000), .int .i64 (.ofNat 4), .int .i64 (.negSucc 3), .bool false, .bool false, .map (some 1), .slice none 0 0] 61 true),
  (32, .cells [.slice (some ⟨34, 0, none⟩) 3 3, .slice (some ⟨35, 0, none⟩) 3 3, .bool true] 130 true),
  (34, .cells (u8s [97, 98, 99]) 5 false),
  (35, .cells (u8s [97, 98, 99]) 5 false),
  (37, .map [⟨.int .i64 (.ofNat 1), .pointer (some ⟨214, 0, none⟩), 0⟩, ⟨.int .i64 (.ofNat 2), .pointer (some ⟨339, 0, none⟩), 1⟩] 2),
  (38, .cells [.int .i64 (.ofNat 5), .int .i64 (.ofNat 0), .int .i64 (.ofNat 0), .bool false, .pointer (some ⟨214, 0, none⟩), .pointer (some ⟨339, 0, none⟩), .map (some 37)] 357 true),
  (55, .map [⟨.int .i64 (.ofNat 1), .slice (some ⟨240, 0, none⟩) 256 256, 0⟩, ⟨.int .i64 (.ofNat 2), .slice (some ⟨365, 0, none⟩) 256 256, 1⟩] 2),
  (56, .cells [.pointer (some ⟨38, 0, none⟩), .pointer (some ⟨2, 0, none⟩), .string ⟨#[115, 116, 111, 114, 101]⟩, .int .i64 (.ofNat 5), .map (some 55), .int .i64 (.ofNat 0)] 249 true),
  (57, .map [⟨.int .i64 (.ofNat 1), .bool true, 0⟩, ⟨.int .i64 (.ofNat 2), .bool true, 1⟩] 2),
  (58, .map [] 0),
  (59, .cells [.int .i64 (.ofNat 1), .map (some 57), .map (some 58), .slice (some ⟨307, 0, none⟩) 2 2] 214 true),
  (60, .cells [.pointer (some ⟨56, 0, none⟩), .pointer (some ⟨59, 0, none⟩)] 257 true),
  (62, .cells [.pointer (some ⟨56, 0, none⟩), .pointer (some ⟨59, 0, none⟩), .pointer (some ⟨60, 0, none⟩), .pointer (some ⟨2, 0, none⟩), .pointer (some ⟨72, 0, none⟩), .pointer none, .slice none 0 0, .int .i64 (.ofNat 0), .int .i64 (.ofNat 0), .int .i64 (.ofNat 0), .int .i64 (.ofNat 0), .int .i64 (.ofNat 0), .int .i64 (.ofNat 3), .int .i64 (.ofNat 0), .int .i64 (.ofNat 0), .int .i64 (.ofNat 0), .int .i64 (.ofNat 0), .int .i64 (.ofNat 0), .slice none 0 0] 85 true),
  (72, .cells [.pointer (some ⟨2, 0, none⟩), .int .i64 (.ofNat 0)] 216 true),
  (214, .cells [.int .i64 (.ofNat 1), .int .i64 (.ofNat 0), .bool false, .pointer (some ⟨339, 0, none⟩), .pointer (some ⟨38, 1, none⟩)] 351 true),
  (277, .cells [.int .i64 (.ofNat 1), .int .i64 (.ofNat 3)] 119 true),
  (307, .cells [.int .i64 (.ofNat 1), .int .i64 (.ofNat 2)] 3 false),
  (339, .cells [.int .i64 (.ofNat 2), .int .i64 (.ofNat 0), .bool false, .pointer (some ⟨38, 1, none⟩), .pointer (some ⟨214, 0, none⟩)] 351 true),
  (412, .cells [.slice (some ⟨2254, 0, none⟩) 768 768, .slice (some ⟨2378, 0, none⟩) 768 768, .bool true] 130 true),
  (2254, .cells (u8z 256 ++ u8s [1, 0, 14, 0, 1, 0, 0, 0, 194, 105, 111, 233, 1] ++ u8z 5 ++ u8s [3, 0, 0, 0, 255, 255, 255, 255] ++ u8z 230 ++ u8s [3, 0, 9, 0, 2, 0, 0, 0, 68, 252, 163, 153, 1, 1, 0, 0, 0, 3] ++ u8z 238) 5 false),
  (2909, .cells [.int .i64 (.ofNat 1)] 3 false)], .int .i64 (.ofNat 0), 3054, [(2, some (.cells [.int .i64 (.ofNat 100000), .int .i64 (.ofNat 6), .int .i64 (.negSucc 5), .bool false, .bool false, .map (some 1), .slice none 0 0] 61 true)),
  (57, some (.map [⟨.int .i64 (.ofNat 2), .bool true, 2⟩, ⟨.int .i64 (.ofNat 1), .bool true, 3⟩] 4)),
  (59, some (.cells [.int .i64 (.ofNat 1), .map (some 57), .map (some 58), .slice none 0 0] 214 true)),
  (62, some (.cells [.pointer (some ⟨56, 0, none⟩), .pointer (some ⟨59, 0, none⟩), .pointer (some ⟨60, 0, none⟩), .pointer (some ⟨2, 0, none⟩), .pointer (some ⟨72, 0, none⟩), .pointer (some ⟨3026, 0, none⟩), .slice (some ⟨3037, 0, none⟩) 1 1, .int .i64 (.ofNat 0), .int .i64 (.ofNat 1), .int .i64 (.ofNat 2), .int .i64 (.ofNat 0), .int .i64 (.ofNat 0), .int .i64 (.ofNat 3), .int .i64 (.ofNat 0), .int .i64 (.ofNat 0), .int .i64 (.ofNat 0), .int .i64 (.ofNat 0), .int .i64 (.ofNat 0), .slice (some ⟨2909, 0, none⟩) 1 1] 85 true)),
  (412, some (.cells [.slice (some ⟨2254, 0, none⟩) 768 768, .slice (some ⟨2990, 0, none⟩) 768 768, .bool true] 130 true)),
  (2254, some (.cells (u8z 64 ++ u8s [111, 99, 116, 97, 118, 111, 48, 49, 1] ++ u8z 5 ++ u8s [2] ++ u8z 8 ++ u8s [3] ++ u8z 36 ++ u8s [137, 155, 206, 78] ++ u8z 128 ++ u8s [1, 0, 14, 0, 1, 0, 0, 0, 194, 105, 111, 233, 1] ++ u8z 5 ++ u8s [3, 0, 0, 0, 255, 255, 255, 255] ++ u8z 230 ++ u8s [3, 0, 9, 0, 2, 0, 0, 0, 68, 252, 163, 153, 1, 1, 0, 0, 0, 3] ++ u8z 238) 5 false)),
  (2990, some (.cells (u8z 64 ++ u8s [111, 99, 116, 97, 118, 111, 48, 49, 1] ++ u8z 5 ++ u8s [2] ++ u8z 8 ++ u8s [3] ++ u8z 36 ++ u8s [137, 155, 206, 78] ++ u8z 128 ++ u8s [1, 0, 14, 0, 1, 0, 0, 0, 194, 105, 111, 233, 1] ++ u8z 5 ++ u8s [3, 0, 0, 0, 255, 255, 255, 255] ++ u8z 230 ++ u8s [3, 0, 9, 0, 2, 0, 0, 0, 68, 252, 163, 153, 1, 1, 0, 0, 0, 3] ++ u8z 238) 5 false)),
  (3005, some (.map [] 0)),
  (3006, some (.cells [.pointer (some ⟨2, 0, none⟩), .string ⟨#[111, 114, 105, 103, 105, 110, 97, 108]⟩, .int .i64 (.ofNat 3), .int .i64 (.ofNat 0), .map (some 3005)] 372 true)),
  (3026, some (.cells [.pointer (some ⟨60, 0, none⟩), .pointer (some ⟨3006, 0, none⟩), .pointer (some ⟨72, 0, none⟩)] 233 true)),
  (3037, some (.cells [.int .i64 (.ofNat 1), .int .i64 (.ofNat 3)] 119 false))]⟩
theorem m23_24_ok : m23_24.ok (call evT evF k23_24 100000 m23_24.f m23_24.args m23_24.preH) = true := by kernel_rfl
theorem q23_24 : HkOk Tryz.prog (hkMemo m23_24) := hkMemo_ok evT_ok evF_ok k23_24_ok rfl m23_24_ok
noncomputable def k23_31 : Hk := orHk (hkMemo m23_30) (hkLib)
theorem k23_31_ok : HkOk Tryz.prog k23_31 := orHk_ok q23_30 (hkLib_ok)
noncomputable def m23_31 : Mm :=
  ⟨254, [.int .i64 (.ofNat 1), .slice (some ⟨3272, 0, none⟩) 256 256], 3273, [(3272, .cells (u8s [1, 0, 14, 0, 1, 0, 0, 0, 194, 105, 111, 233, 1] ++ u8z 5 ++ u8s [3, 0, 0, 0, 255, 255, 255, 255] ++ u8z 230) 5 false)], .tuple #[.int .i64 (.ofNat 1), .slice (some ⟨3462, 0, none⟩) 14 14, .int .i64 (.ofNat 0)], 3503, [(3462, some (.cells (u8s [1] ++ u8z 5 ++ u8s [3, 0, 0, 0, 255, 255, 255, 255]) 5 false))]⟩
theorem m23_31_ok : m23_31.ok (call evT evF k23_31 100000 m23_31.f m23_31.args m23_31.preH) = true := by kernel_rfl
theorem q23_31 : HkOk Tryz.prog (hkMemo m23_31) := hkMemo_ok evT_ok evF_ok k23_31_ok rfl m23_31_ok
noncomputable def k23_36 : Hk := orHk (hkMemo m23_35) (hkLib)
theorem k23_36_ok : HkOk Tryz.prog k23_36 := orHk_ok q23_35 (hkLib_ok)
noncomputable def m23_36 : Mm :=
  ⟨254, [.int .i64 (.ofNat 1), .slice (some ⟨3768, 0, none⟩) 256 256], 3769, [(3768, .cells (u8s [1, 0, 14, 0, 1, 0, 0, 0, 194, 105, 111, 233, 1] ++ u8z 5 ++ u8s [3, 0, 0, 0, 255, 255, 255, 255] ++ u8z 230) 5 false)], .tuple #[.int .i64 (.ofNat 1), .slice (some ⟨3958, 0, none⟩) 14 14, .int .i64 (.ofNat 0)], 3999, [(3958, some (.cells (u8s [1] ++ u8z 5 ++ u8s [3, 0, 0, 0, 255, 255, 255, 255]) 5 false))]⟩
theorem m23_36_ok : m23_36.ok (call evT evF k23_36 100000 m23_36.f m23_36.args m23_36.preH) = true := by kernel_rfl
theorem q23_36 : HkOk Tryz.prog (hkMemo m23_36) := hkMemo_ok evT_ok evF_ok k23_36_ok rfl m23_36_ok
noncomputable def k23_41 : Hk := orHk (hkMemo m23_40) (hkLib)
theorem k23_41_ok : HkOk Tryz.prog k23_41 := orHk_ok q23_40 (hkLib_ok)
noncomputable def m23_41 : Mm :=
  ⟨254, [.int .i64 (.ofNat 1), .slice (some ⟨4325, 0, none⟩) 256 256], 4326, [(4325, .cells (u8s [1, 0, 14, 0, 1, 0, 0, 0, 194, 105, 111, 233, 1] ++ u8z 5 ++ u8s [3, 0, 0, 0, 255, 255, 255, 255] ++ u8z 230) 5 false)], .tuple #[.int .i64 (.ofNat 1), .slice (some ⟨4515, 0, none⟩) 14 14, .int .i64 (.ofNat 0)], 4556, [(4515, some (.cells (u8s [1] ++ u8z 5 ++ u8s [3, 0, 0, 0, 255, 255, 255, 255]) 5 false))]⟩
theorem m23_41_ok : m23_41.ok (call evT evF k23_41 100000 m23_41.f m23_41.args m23_41.preH) = true := by kernel_rfl
theorem q23_41 : HkOk Tryz.prog (hkMemo m23_41) := hkMemo_ok evT_ok evF_ok k23_41_ok rfl m23_41_ok
noncomputable def k23_49 : Hk := orHk (hkMemo m23_45) (orHk (hkMemo m23_46) (orHk (hkMemo m23_47) (orHk (hkMemo m23_48) (hkLib))))
theorem k23_49_ok : HkOk Tryz.prog k23_49 := orHk_ok q23_45 (orHk_ok q23_46 (orHk_ok q23_47 (orHk_ok q23_48 (hkLib_ok))))
noncomputable def m23_49 : Mm :=
  ⟨242, [.pointer (some ⟨60, 0, none⟩), .agg #[.bool true, .slice (some ⟨4283, 0, none⟩) 2 2, .slice none 0 0]], 4833, [(1, .map [⟨.string ⟨#[111, 114, 105, 103, 105, 110, 97, 108]⟩, .pointer (some ⟨32, 0, none⟩), 0⟩, ⟨.string ⟨#[115, 116, 111, 114, 101]⟩, .pointer (some ⟨412, 0, none⟩), 1⟩, ⟨.string ⟨#[116, 97, 105, 108]⟩, .pointer (some ⟨3148, 0, none⟩), 2⟩] 3),
  (2, .cells [.int .i64 (.ofNat 100000), .int .i64 (.ofNat 7), .int .i64 (.negSucc 6), .bool false, .bool false, .map (some 1), .slice (some ⟨3170, 0, none⟩) 1 1] 61 true),
  (32, .cells [.slice (some ⟨34, 0, none⟩) 3 3, .slice (some ⟨35, 0, none⟩) 3 3, .bool true] 130 true),
  (34, .cells (u8s [97, 98, 99]) 5 false),
  (35, .cells (u8s [97, 98, 99]) 5 false),
  (37, .map [⟨.int .i64 (.ofNat 1), .pointer (some ⟨214, 0, none⟩), 0⟩, ⟨.int .i64 (.ofNat 2), .pointer (some ⟨339, 0, none⟩), 1⟩] 2),
  (38, .cells [.int .i64 (.ofNat 5), .int .i64 (.ofNat 0), .int .i64 (.ofNat 0), .bool false, .pointer (some ⟨214, 0, none⟩), .pointer (some ⟨339, 0, none⟩), .map (some 37)] 357 true),
  (55, .map [⟨.int .i64 (.ofNat 1), .slice (some ⟨240, 0, none⟩) 256 256, 0⟩, ⟨.int .i64 (.ofNat 2), .slice (some ⟨365, 0, none⟩) 256 256, 1⟩] 2),
  (56, .cells [.pointer (some ⟨38, 0, none⟩), .pointer (some ⟨2, 0, none⟩), .string ⟨#[115, 116, 111, 114, 101]⟩, .int .i64 (.ofNat 5), .map (some 55), .int .i64 (.ofNat 0)] 249 true),
  (57, .map [⟨.int .i64 (.ofNat 2), .bool true, 2⟩, ⟨.int .i64 (.ofNat 1), .bool true, 3⟩] 4),
  (58, .map [] 0),
  (59, .cells [.int .i64 (.ofNat 1), .map (some 57), .map (some 58), .slice none 0 0] 214 true),
  (60, .cells [.pointer (some ⟨56, 0, none⟩), .pointer (some ⟨59, 0, none⟩)] 257 true),
  (214, .cells [.int .i64 (.ofNat 1), .int .i64 (.ofNat 0), .bool false, .pointer (some ⟨339, 0, none⟩), .pointer (some ⟨38, 1, none⟩)] 351 true),
  (339, .cells [.int .i64 (.ofNat 2), .int .i64 (.ofNat 0), .bool false, .pointer (some ⟨38, 1, none⟩), .pointer (some ⟨214, 0, none⟩)] 351 true),
  (412, .cells [.slice (some ⟨2254, 0, none⟩) 768 768, .slice (some ⟨2990, 0, none⟩) 768 768, .bool true] 130 true),
  (3148, .cells [.slice (some ⟨3150, 0, none⟩) 1 1, .slice none 0 0, .bool false] 130 true),
  (3150, .cells (u8s [120]) 5 false),
  (3169, .cells (u8s [120]) 5 false),
  (3170, .cells [.string ⟨#[116, 97, 105, 108]⟩, .int .i64 (.ofNat 0), .slice (some ⟨3169, 0, none⟩) 1 1] 134 false),
  (4283, .cells [.int .i64 (.ofNat 1), .int .i64 (.ofNat 0), .int .i64 (.ofNat 1), .int .i64 (.ofNat 0), .int .i64 (.ofNat 0), .int .i64 (.ofNat 0), .int .i64 (.ofNat 3), .int .i64 (.negSucc 0)] 147 false)], .slice (some ⟨5018, 0, none⟩) 1 1, 5019, [(37, some (.map [⟨.int .i64 (.ofNat 1), .pointer (some ⟨214, 0, none⟩), 0⟩, ⟨.int .i64 (.ofNat 2), .pointer (some ⟨339, 0, none⟩), 1⟩, ⟨.int .i64 (.ofNat 3), .pointer (some ⟨4945, 0, none⟩), 2⟩] 3)),
  (38, some (.cells [.int .i64 (.ofNat 5), .int .i64 (.ofNat 0), .int .i64 (.ofNat 0), .bool false, .pointer (some ⟨4945, 0, none⟩), .pointer (some ⟨339, 0, none⟩), .map (some 37)] 357 true)),
  (55, some (.map [⟨.int .i64 (.ofNat 1), .slice (some ⟨240, 0, none⟩) 256 256, 0⟩, ⟨.int .i64 (.ofNat 2), .slice (some ⟨365, 0, none⟩) 256 256, 1⟩, ⟨.int .i64 (.ofNat 3), .slice (some ⟨4971, 0, none⟩) 256 256, 2⟩] 3)),
  (57, some (.map [⟨.int .i64 (.ofNat 2), .bool true, 2⟩, ⟨.int .i64 (.ofNat 1), .bool true, 3⟩, ⟨.int .i64 (.ofNat 3), .bool true, 4⟩] 5)),
  (59, some (.cells [.int .i64 (.ofNat 1), .map (some 57), .map (some 58), .slice (some ⟨4913, 0, none⟩) 1 1] 214 true)),
  (214, some (.cells [.int .i64 (.ofNat 1), .int .i64 (.ofNat 0), .bool false, .pointer (some ⟨339, 0, none⟩), .pointer (some ⟨4945, 0, none⟩)] 351 true)),
  (4913, some (.cells [.int .i64 (.ofNat 3)] 3 false)),
  (4945, some (.cells [.int .i64 (.ofNat 3), .int .i64 (.ofNat 0), .bool true, .pointer (some ⟨214, 0, none⟩), .pointer (some ⟨38, 1, none⟩)] 351 true)),
  (4971, some (.cells (u8s [1, 0, 27, 0, 3, 0, 0, 0, 50, 165, 25, 235, 2, 1] ++ u8z 4 ++ u8s [1] ++ u8z 12 ++ u8s [3, 0, 0, 0, 255, 255, 255, 255] ++ u8z 217) 5 false)),
  (5018, some (.cells [.int .i64 (.ofNat 3), .int .i64 (.ofNat 4), .int .i64 (.negSucc 0), .int .i64 (.ofNat 2)] 262 false))]⟩
theorem m23_49_ok : m23_49.ok (call evT evF k23_49 100000 m23_49.f m23_49.args m23_49.preH) = true := by kernel_rfl
theorem q23_49 : HkOk Tryz.prog (hkMemo m23_49) := hkMemo_ok evT_ok evF_ok k23_49_ok rfl m23_49_ok
noncomputable def k23_53 : Hk := orHk (hkMemo m23_52) (hkLib)
theorem k23_53_ok : HkOk Tryz.prog k23_53 := orHk_ok q23_52 (hkLib_ok)
noncomputable def m23_53 : Mm :=
  ⟨254, [.int .i64 (.ofNat 3), .slice (some ⟨5082, 0, none⟩) 256 256], 5083, [(5082, .cells (u8s [1, 0, 27, 0, 3, 0, 0, 0, 50, 165, 25, 235, 2, 1] ++ u8z 4 ++ u8s [1] ++ u8z 12 ++ u8s [3, 0, 0, 0, 255, 255, 255, 255] ++ u8z 217) 5 false)], .tuple #[.int .i64 (.ofNat 1), .slice (some ⟨5272, 0, none⟩) 27 27, .int .i64 (.ofNat 0)], 5313, [(5272, some (.cells (u8s [2, 1] ++ u8z 4 ++ u8s [1] ++ u8z 12 ++ u8s [3, 0, 0, 0, 255, 255, 255, 255]) 5 false))]⟩
theorem m23_53_ok : m23_53.ok (call evT evF k23_53 100000 m23_53.f m23_53.args m23_53.preH) = true := by kernel_rfl
theorem q23_53 : HkOk Tryz.prog (hkMemo m23_53) := hkMemo_ok evT_ok evF_ok k23_53_ok rfl m23_53_ok
noncomputable def k23_61 : Hk := orHk (hkMemo m23_60) (hkLib)
theorem k23_61_ok : HkOk Tryz.prog k23_61 := orHk_ok q23_60 (hkLib_ok)
noncomputable def m23_61 : Mm :=
  ⟨11, [.pointer (some ⟨2, 0, none⟩), .string ⟨#[115, 116, 111, 114, 101]⟩, .int .i64 (.ofNat 768), .slice (some ⟨4971, 0, none⟩) 256 256], 5829, [(1, .map [⟨.string ⟨#[111, 114, 105, 103, 105, 110, 97, 108]⟩, .pointer (some ⟨32, 0, none⟩), 0⟩, ⟨.string ⟨#[115, 116, 111, 114, 101]⟩, .pointer (some ⟨412, 0, none⟩), 1⟩, ⟨.string ⟨#[116, 97, 105, 108]⟩, .pointer (some ⟨3148, 0, none⟩), 2⟩] 3),
  (2, .cells [.int .i64 (.ofNat 100000), .int .i64 (.ofNat 7), .int .i64 (.negSucc 6), .bool false, .bool false, .map (some 1), .slice (some ⟨3170, 0, none⟩) 1 1] 61 true),
  (32, .cells [.slice (some ⟨34, 0, none⟩) 3 3, .slice (some ⟨35, 0, none⟩) 3 3, .bool true] 130 true),
  (34, .cells (u8s [97, 98, 99]) 5 false),
  (35, .cells (u8s [97, 98, 99]) 5 false),
  (412, .cells [.slice (some ⟨2254, 0, none⟩) 768 768, .slice (some ⟨2990, 0, none⟩) 768 768, .bool true] 130 true),
  (2254, .cells (u8z 64 ++ u8s [111, 99, 116, 97, 118, 111, 48, 49, 1] ++ u8z 5 ++ u8s [2] ++ u8z 8 ++ u8s [3] ++ u8z 36 ++ u8s [137, 155, 206, 78] ++ u8z 128 ++ u8s [1, 0, 14, 0, 1, 0, 0, 0, 194, 105, 111, 233, 1] ++ u8z 5 ++ u8s [3, 0, 0, 0, 255, 255, 255, 255] ++ u8z 230 ++ u8s [3, 0, 9, 0, 2, 0, 0, 0, 68, 252, 163, 153, 1, 1, 0, 0, 0, 3] ++ u8z 238) 5 false),
  (3148, .cells [.slice (some ⟨3150, 0, none⟩) 1 1, .slice none 0 0, .bool false] 130 true),
  (3150, .cells (u8s [120]) 5 false),
  (3169, .cells (u8s [120]) 5 false),
  (3170, .cells [.string ⟨#[116, 97, 105, 108]⟩, .int .i64 (.ofNat 0), .slice (some ⟨3169, 0, none⟩) 1 1] 134 false),
  (4971, .cells (u8s [1, 0, 27, 0, 3, 0, 0, 0, 50, 165, 25, 235, 2, 1] ++ u8z 4 ++ u8s [1] ++ u8z 12 ++ u8s [3, 0, 0, 0, 255, 255, 255, 255] ++ u8z 217) 5 false)], .int .i64 (.ofNat 0), 6470, [(2, some (.cells [.int .i64 (.ofNat 100000), .int .i64 (.ofNat 8), .int .i64 (.negSucc 7), .bool false, .bool false, .map (some 1), .slice (some ⟨6461, 0, none⟩) 5 5] 61 true)),
  (412, some (.cells [.slice (some ⟨6357, 0, none⟩) 1024 1024, .slice (some ⟨2990, 0, none⟩) 768 768, .bool true] 130 true)),
  (2254, none),
  (3170, none),
  (6357, some (.cells (u8z 64 ++ u8s [111, 99, 116, 97, 118, 111, 48, 49, 1] ++ u8z 5 ++ u8s [2] ++ u8z 8 ++ u8s [3] ++ u8z 36 ++ u8s [137, 155, 206, 78] ++ u8z 128 ++ u8s [1, 0, 14, 0, 1, 0, 0, 0, 194, 105, 111, 233, 1] ++ u8z 5 ++ u8s [3, 0, 0, 0, 255, 255, 255, 255] ++ u8z 230 ++ u8s [3, 0, 9, 0, 2, 0, 0, 0, 68, 252, 163, 153, 1, 1, 0, 0, 0, 3] ++ u8z 238 ++ u8s [1, 0, 27, 0, 3, 0, 0, 0, 50, 165, 25, 235, 2, 1] ++ u8z 4 ++ u8s [1] ++ u8z 12 ++ u8s [3, 0, 0, 0, 255, 255, 255, 255] ++ u8z 217) 5 false)),
  (6376, some (.cells (u8s [1, 0, 27, 0, 3, 0, 0, 0, 50, 165, 25, 235, 2, 1] ++ u8z 4 ++ u8s [1] ++ u8z 12 ++ u8s [3, 0, 0, 0, 255, 255, 255, 255] ++ u8z 25) 5 false)),
  (6404, some (.cells (u8z 64) 5 false)),
  (6432, some (.cells (u8z 64) 5 false)),
  (6460, some (.cells (u8z 64) 5 false)),
  (6461, some (.cells [.string ⟨#[116, 97, 105, 108]⟩, .int .i64 (.ofNat 0), .slice (some ⟨3169, 0, none⟩) 1 1, .string ⟨#[115, 116, 111, 114, 101]⟩, .int .i64 (.ofNat 768), .slice (some ⟨6376, 0, none⟩) 64 64, .string ⟨#[115, 116, 111, 114, 101]⟩, .int .i64 (.ofNat 832), .slice (some ⟨6404, 0, none⟩) 64 64, .string ⟨#[115, 116, 111, 114, 101]⟩, .int .i64 (.ofNat 896), .slice (some ⟨6432, 0, none⟩) 64 64, .string ⟨#[115, 116, 111, 114, 101]⟩, .int .i64 (.ofNat 960), .slice (some ⟨6460, 0, none⟩) 64 64] 134 false))]⟩
theorem m23_61_ok : m23_61.ok (call evT evF k23_61 100000 m23_61.f m23_61.args m23_61.preH) = true := by kernel_rfl
theorem q23_61 : HkOk Tryz.prog (hkMemo m23_61) := hkMemo_ok evT_ok evF_ok k23_61_ok rfl m23_61_ok
noncomputable def k23_64 : Hk := orHk (hkMemo m23_63) (hkLib)
theorem k23_64_ok : HkOk Tryz.prog k23_64 := orHk_ok q23_63 (hkLib_ok)
noncomputable def m23_64 : Mm :=
  ⟨11, [.pointer (some ⟨2, 0, none⟩), .string ⟨#[115, 116, 111, 114, 101]⟩, .int .i64 (.ofNat 1024), .slice (some ⟨5797, 0, none⟩) 256 256], 6500, [(1, .map [⟨.string ⟨#[111, 114, 105, 103, 105, 110, 97, 108]⟩, .pointer (some ⟨32, 0, none⟩), 0⟩, ⟨.string ⟨#[115, 116, 111, 114, 101]⟩, .pointer (some ⟨412, 0, none⟩), 1⟩, ⟨.string ⟨#[116, 97, 105, 108]⟩, .pointer (some ⟨3148, 0, none⟩), 2⟩] 3),
  (2, .cells [.int .i64 (.ofNat 100000), .int .i64 (.ofNat 8), .int .i64 (.negSucc 7), .bool false, .bool false, .map (some 1), .slice (some ⟨6461, 0, none⟩) 5 5] 61 true),
  (32, .cells [.slice (some ⟨34, 0, none⟩) 3 3, .slice (some ⟨35, 0, none⟩) 3 3, .bool true] 130 true),
  (34, .cells (u8s [97, 98, 99]) 5 false),
  (35, .cells (u8s [97, 98, 99]) 5 false),
  (412, .cells [.slice (some ⟨6357, 0, none⟩) 1024 1024, .slice (some ⟨2990, 0, none⟩) 768 768, .bool true] 130 true),
  (3148, .cells [.slice (some ⟨3150, 0, none⟩) 1 1, .slice none 0 0, .bool false] 130 true),
  (3150, .cells (u8s [120]) 5 false),
  (3169, .cells (u8s [120]) 5 false),
  (5797, .cells (u8s [3, 0, 17, 0, 4, 0, 0, 0, 199, 184, 67, 119, 2, 1, 0, 0, 0, 3, 0, 0, 0, 3, 0, 0, 0, 4] ++ u8z 230) 5 false),
  (6357, .cells (u8z 64 ++ u8s [111, 99, 116, 97, 118, 111, 48, 49, 1] ++ u8z 5 ++ u8s [2] ++ u8z 8 ++ u8s [3] ++ u8z 36 ++ u8s [137, 155, 206, 78] ++ u8z 128 ++ u8s [1, 0, 14, 0, 1, 0, 0, 0, 194, 105, 111, 233, 1] ++ u8z 5 ++ u8s [3, 0, 0, 0, 255, 255, 255, 255] ++ u8z 230 ++ u8s [3, 0, 9, 0, 2, 0, 0, 0, 68, 252, 163, 153, 1, 1, 0, 0, 0, 3] ++ u8z 238 ++ u8s [1, 0, 27, 0, 3, 0, 0, 0, 50, 165, 25, 235, 2, 1] ++ u8z 4 ++ u8s [1] ++ u8z 12 ++ u8s [3, 0, 0, 0, 255, 255, 255, 255] ++ u8z 217) 5 false),
  (6461, .cells [.string ⟨#[116, 97, 105, 108]⟩, .int .i64 (.ofNat 0), .slice (some ⟨3169, 0, none⟩) 1 1, .string ⟨#[115, 116, 111, 114, 101]⟩, .int .i64 (.ofNat 768), .slice (some ⟨6376, 0, none⟩) 64 64, .string ⟨#[115, 116, 111, 114, 101]⟩, .int .i64 (.ofNat 832), .slice (some ⟨6404, 0, none⟩) 64 64, .string ⟨#[115, 116, 111, 114, 101]⟩, .int .i64 (.ofNat 896), .slice (some ⟨6432, 0, none⟩) 64 64, .string ⟨#[115, 116, 111, 114, 101]⟩, .int .i64 (.ofNat 960), .slice (some ⟨6460, 0, none⟩) 64 64] 134 false)], .int .i64 (.ofNat 0), 7141, [(2, some (.cells [.int .i64 (.ofNat 100000), .int .i64 (.ofNat 9), .int .i64 (.negSucc 8), .bool false, .bool false, .map (some 1), .slice (some ⟨7132, 0, none⟩) 9 9] 61 true)),
  (412, some (.cells [.slice (some ⟨7028, 0, none⟩) 1280 1280, .slice (some ⟨2990, 0, none⟩) 768 768, .bool true] 130 true)),
  (6357, none),
  (6461, none),
  (7028, some (.cells (u8z 64 ++ u8s [111, 99, 116, 97, 118, 111, 48, 49, 1] ++ u8z 5 ++ u8s [2] ++ u8z 8 ++ u8s [3] ++ u8z 36 ++ u8s [137, 155, 206, 78] ++ u8z 128 ++ u8s [1, 0, 14, 0, 1, 0, 0, 0, 194, 105, 111, 233, 1] ++ u8z 5 ++ u8s [3, 0, 0, 0, 255, 255, 255, 255] ++ u8z 230 ++ u8s [3, 0, 9, 0, 2, 0, 0, 0, 68, 252, 163, 153, 1, 1, 0, 0, 0, 3] ++ u8z 238 ++ u8s [1, 0, 27, 0, 3, 0, 0, 0, 50, 165, 25, 235, 2, 1] ++ u8z 4 ++ u8s [1] ++ u8z 12 ++ u8s [3, 0, 0, 0, 255, 255, 255, 255] ++ u8z 217 ++ u8s [3, 0, 17, 0, 4, 0, 0, 0, 199, 184, 67, 119, 2, 1, 0, 0, 0, 3, 0, 0, 0, 3, 0, 0, 0, 4] ++ u8z 230) 5 false)),
  (7047, some (.cells (u8s [3, 0, 17, 0, 4, 0, 0, 0, 199, 184, 67, 119, 2, 1, 0, 0, 0, 3, 0, 0, 0, 3, 0, 0, 0, 4] ++ u8z 38) 5 false)),
  (7075, some (.cells (u8z 64) 5 false)),
  (7103, some (.cells (u8z 64) 5 false)),
  (7131, some (.cells (u8z 64) 5 false)),
  (7132, some (.cells [.string ⟨#[116, 97, 105, 108]⟩, .int .i64 (.ofNat 0), .slice (some ⟨3169, 0, none⟩) 1 1, .string ⟨#[115, 116, 111, 114, 101]⟩, .int .i64 (.ofNat 768), .slice (some ⟨6376, 0, none⟩) 64 64, .string ⟨#[115, 116, 111, 114, 101]⟩, .int .i64 (.ofNat 832), .slice (some ⟨6404, 0, none⟩) 64 64, .string ⟨#[115, 116, 111, 114, 101]⟩, .int .i64 (.ofNat 896), .slice (some ⟨6432, 0, none⟩) 64 64, .string ⟨#[115, 116, 111, 114, 101]⟩, .int .i64 (.ofNat 960), .slice (some ⟨6460, 0, none⟩) 64 64, .string ⟨#[115, 116, 111, 114, 101]⟩, .int .i64 (.ofNat 1024), .slice (some ⟨7047, 0, none⟩) 64 64, .string ⟨#[115, 116, 111, 114, 101]⟩, .int .i64 (.ofNat 1088), .slice (some ⟨7075, 0, none⟩) 64 64, .string ⟨#[115, 116, 111, 114, 101]⟩, .int .i64 (.ofNat 1152), .slice (some ⟨7103, 0, none⟩) 64 64, .string ⟨#[115, 116, 111, 114, 101]⟩, .int .i64 (.ofNat 1216), .slice (some ⟨7131, 0, none⟩) 64 64] 134 false))]⟩
theorem m23_64_ok : m23_64.ok (call evT evF k23_64 100000 m23_64.f m23_64.args m23_64.preH) = true := by kernel_rfl
theorem q23_64 : HkOk Tryz.prog (hkMemo m23_64) := hkMemo_ok evT_ok evF_ok k23_64_ok rfl m23_64_ok
noncomputable def k23_69 : Hk := orHk (hkMemo m23_68) (hkLib)
theorem k23_69_ok : HkOk Tryz.prog k23_69 := orHk_ok q23_68 (hkLib_ok)
noncomputable def m23_69 : Mm :=
  ⟨254, [.int .i64 (.ofNat 1), .slice (some ⟨7254, 0, none⟩) 256 256], 7255, [(7254, .cells (u8s [1, 0, 14, 0, 1, 0, 0, 0, 194, 105, 111, 233, 1] ++ u8z 5 ++ u8s [3, 0, 0, 0, 255, 255, 255, 255] ++ u8z 230) 5 false)], .tuple #[.int .i64 (.ofNat 1), .slice (some ⟨7444, 0, none⟩) 14 14, .int .i64 (.ofNat 0)], 7485, [(7444, some (.cells (u8s [1] ++ u8z 5 ++ u8s [3, 0, 0, 0, 255, 255, 255, 255]) 5 false))]⟩
theorem m23_69_ok : m23_69.ok (call evT evF k23_69 100000 m23_69.f m23_69.args m23_69.preH) = true := by kernel_rfl
theorem q23_69 : HkOk Tryz.prog (hkMemo m23_69) := hkMemo_ok evT_ok evF_ok k23_69_ok rfl m23_69_ok
noncomputable def k23_73 : Hk := orHk (hkMemo m23_72) (hkLib)
theorem k23_73_ok : HkOk Tryz.prog k23_73 := orHk_ok q23_72 (hkLib_ok)
noncomputable def m23_73 : Mm :=
  ⟨254, [.int .i64 (.ofNat 3), .slice (some ⟨7729, 0, none⟩) 256 256], 7730, [(7729, .cells (u8s [1, 0, 27, 0, 3, 0, 0, 0, 50, 165, 25, 235, 2, 1] ++ u8z 4 ++ u8s [1] ++ u8z 12 ++ u8s [3, 0, 0, 0, 255, 255, 255, 255] ++ u8z 217) 5 false)], .tuple #[.int .i64 (.ofNat 1), .slice (some ⟨7919, 0, none⟩) 27 27, .int .i64 (.ofNat 0)], 7960, [(7919, some (.cells (u8s [2, 1] ++ u8z 4 ++ u8s [1] ++ u8z 12 ++ u8s [3, 0, 0, 0, 255, 255, 255, 255]) 5 false))]⟩
theorem m23_73_ok : m23_73.ok (call evT evF k23_73 100000 m23_73.f m23_73.args m23_73.preH) = true := by kernel_rfl
theorem q23_73 : HkOk Tryz.prog (hkMemo m23_73) := hkMemo_ok evT_ok evF_ok k23_73_ok rfl m23_73_ok
noncomputable def k23_80 : Hk := orHk (hkMemo m23_77) (orHk (hkMemo m23_78) (orHk (hkMemo m23_79) (hkLib)))
theorem k23_80_ok : HkOk Tryz.prog k23_80 := orHk_ok q23_77 (orHk_ok q23_78 (orHk_ok q23_79 (hkLib_ok)))
noncomputable def m23_80 : Mm :=
  ⟨205, [.pointer (some ⟨62, 0, none⟩), .agg #[.int .i64 (.ofNat 2), .int .i64 (.ofNat 4), .int .i64 (.ofNat 1), .int .i64 (.ofNat 1), .int .i64 (.ofNat 3)], .slice (some ⟨5701, 0, none⟩) 2 2, .slice (some ⟨8295, 0, none⟩) 2 2], 8344, [(1, .map [⟨.string ⟨#[111, 114, 105, 103, 105, 110, 97, 108]⟩, .pointer (some ⟨32, 0, none⟩), 0⟩, ⟨.string ⟨#[115, 116, 111, 114, 101]⟩, .pointer (some ⟨412, 0, none⟩), 1⟩, ⟨.string ⟨#[116, 97, 105, 108]⟩, .pointer (some ⟨3148, 0, none⟩), 2⟩] 3),
  (2, .cells [.int .i64 (.ofNat 100000), .int .i64 (.ofNat 11), .int .i64 (.negSucc 10), .bool false, .bool false, .map (some 1), .slice none 0 0] 61 true),
  (32, .cells [.slice (some ⟨34, 0, none⟩) 3 3, .slice (some ⟨35, 0, none⟩) 3 3, .bool true] 130 true),
  (34, .cells (u8s [97, 98, 99]) 5 false),
  (35, .cells (u8s [97, 98, 99]) 5 false),
  (37, .map [⟨.int .i64 (.ofNat 1), .pointer (some ⟨214, 0, none⟩), 0⟩, ⟨.int .i64 (.ofNat 2), .pointer (some ⟨339, 0, none⟩), 1⟩, ⟨.int .i64 (.ofNat 3), .pointer (some ⟨4945, 0, none⟩), 2⟩, ⟨.int .i64 (.ofNat 4), .pointer (some ⟨5771, 0, none⟩), 3⟩] 4),
  (38, .cells [.int .i64 (.ofNat 5), .int .i64 (.ofNat 0), .int .i64 (.ofNat 0), .bool false, .pointer (some ⟨4945, 0, none⟩), .pointer (some ⟨339, 0, none⟩), .map (some 37)] 357 true),
  (55, .map [⟨.int .i64 (.ofNat 1), .slice (some ⟨240, 0, none⟩) 256 256, 0⟩, ⟨.int .i64 (.ofNat 2), .slice (some ⟨365, 0, none⟩) 256 256, 1⟩, ⟨.int .i64 (.ofNat 3), .slice (some ⟨4971, 0, none⟩) 256 256, 2⟩, ⟨.int .i64 (.ofNat 4), .slice (some ⟨5797, 0, none⟩) 256 256, 3⟩] 4),
  (56, .cells [.pointer (some ⟨38, 0, none⟩), .pointer (some ⟨2, 0, none⟩), .string ⟨#[115, 116, 111, 114, 101]⟩, .int .i64 (.ofNat 5), .map (some 55), .int .i64 (.ofNat 0)] 249 true),
  (57, .map [⟨.int .i64 (.ofNat 2), .bool true, 2⟩, ⟨.int .i64 (.ofNat 1), .bool true, 3⟩, ⟨.int .i64 (.ofNat 3), .bool true, 4⟩, ⟨.int .i64 (.ofNat 4), .bool true, 5⟩] 6),
  (58, .map [] 0),
  (59, .cells [.int .i64 (.ofNat 1), .map (some 57), .map (some 58), .slice (some ⟨5739, 0, none⟩) 2 2] 214 true),
  (60, .cells [.pointer (some ⟨56, 0, none⟩), .pointer (some ⟨59, 0, none⟩)] 257 true),
  (62, .cells [.pointer (some ⟨56, 0, none⟩), .pointer (some ⟨59, 0, none⟩), .pointer (some ⟨60, 0, none⟩), .pointer (some ⟨2, 0, none⟩), .pointer (some ⟨72, 0, none⟩), .pointer (some ⟨3026, 0, none⟩), .slice (some ⟨3037, 0, none⟩) 1 1, .int .i64 (.ofNat 0), .int .i64 (.ofNat 1), .int .i64 (.ofNat 2), .int .i64 (.ofNat 0), .int .i64 (.ofNat 0), .int .i64 (.ofNat 3), .int .i64 (.ofNat 0), .int .i64 (.ofNat 0), .int .i64 (.ofNat 0), .int .i64 (.ofNat 0), .int .i64 (.ofNat 0), .slice (some ⟨2909, 0, none⟩) 1 1] 85 true),
  (72, .cells [.pointer (some ⟨2, 0, none⟩), .int .i64 (.ofNat 1)] 216 true),
  (214, .cells [.int .i64 (.ofNat 1), .int .i64 (.ofNat 0), .bool false, .pointer (some ⟨5771, 0, none⟩), .pointer (some ⟨4945, 0, none⟩)] 351 true),
  (339, .cells [.int .i64 (.ofNat 2), .int .i64 (.ofNat 0), .bool false, .pointer (some ⟨38, 1, none⟩), .pointer (some ⟨5771, 0, none⟩)] 351 true),
  (412, .cells [.slice (some ⟨7028, 0, none⟩) 1280 1280, .slice (some ⟨7152, 0, none⟩) 1280 1280, .bool true] 130 true),
  (2909, .cells [.int .i64 (.ofNat 1)] 3 false),
  (3005, .map [] 0),
  (3006, .cells [.pointer (some ⟨2, 0, none⟩), .string ⟨#[111, 114, 105, 103, 105, 110, 97, 108]⟩, .int .i64 (.ofNat 3), .int .i64 (.ofNat 0), .map (some 3005)] 372 true),
  (3026, .cells [.pointer (some ⟨60, 0, none⟩), .pointer (some ⟨3006, 0, none⟩), .pointer (some ⟨72, 0, none⟩)] 233 true),
  (3037, .cells [.int .i64 (.ofNat 1), .int .i64 (.ofNat 3)] 119 false),
  (3148, .cells [.slice (some ⟨3150, 0, none⟩) 1 1, .slice (some ⟨7165, 0, none⟩) 1 1, .bool true] 130 true),
  (3150, .cells (u8s [120]) 5 false),
  (4945, .cells [.int .i64 (.ofNat 3), .int .i64 (.ofNat 0), .bool false, .pointer (some ⟨214, 0, none⟩), .pointer (some ⟨38, 1, none⟩)] 351 true),
  (5701, .cells [.int .i64 (.ofNat 1), .int .i64 (.ofNat 3), .int .i64 (.ofNat 3), .int .i64 (.ofNat 4)] 119 false),
  (5739, .cells [.int .i64 (.ofNat 3), .int .i64 (.ofNat 4)] 3 false),
  (5771, .cells [.int .i64 (.ofNat 4), .int .i64 (.ofNat 0), .bool false, .pointer (some ⟨339, 0, none⟩), .pointer (some ⟨214, 0, none⟩)] 351 true),
  (7028, .cells (u8z 64 ++ u8s [111, 99, 116, 97, 118, 111, 48, 49, 1] ++ u8z 5 ++ u8s [2] ++ u8z 8 ++ u8s [3] ++ u8z 36 ++ u8s [137, 155, 206, 78] ++ u8z 128 ++ u8s [1, 0, 14, 0, 1, 0, 0, 0, 194, 105, 111, 233, 1] ++ u8z 5 ++ u8s [3, 0, 0, 0, 255, 255, 255, 255] ++ u8z 230 ++ u8s [3, 0, 9, 0, 2, 0, 0, 0, 68, 252, 163, 153, 1, 1, 0, 0, 0, 3] ++ u8z 238 ++ u8s [1, 0, 27, 0, 3, 0, 0, 0, 50, 165, 25, 235, 2, 1] ++ u8z 4 ++ u8s [1] ++ u8z 12 ++ u8s [3, 0, 0, 0, 255, 255, 255, 255] ++ u8z 217 ++ u8s [3, 0, 17, 0, 4, 0, 0, 0, 199, 184, 67, 119, 2, 1, 0, 0, 0, 3, 0, 0, 0, 3, 0, 0, 0, 4] ++ u8z 230) 5 false),
  (7165, .cells (u8s [120]) 5 false),
  (8295, .cells [.int .i64 (.ofNat 1), .int .i64 (.ofNat 3)] 3 false)], .int .i64 (.ofNat 0), 8476, [(2, some (.cells [.int .i64 (.ofNat 100000), .int .i64 (.ofNat 13), .int .i64 (.negSucc 12), .bool false, .bool false, .map (some 1), .slice none 0 0] 61 true)),
  (37, some (.map [⟨.int .i64 (.ofNat 1), .pointer (some ⟨214, 0, none⟩), 0⟩, ⟨.int .i64 (.ofNat 3), .pointer (some ⟨4945, 0, none⟩), 2⟩, ⟨.int .i64 (.ofNat 4), .pointer (some ⟨5771, 0, none⟩), 3⟩] 4)),
  (38, some (.cells [.int .i64 (.ofNat 5), .int .i64 (.ofNat 0), .int .i64 (.ofNat 0), .bool false, .pointer (some ⟨4945, 0, none⟩), .pointer (some ⟨5771, 0, none⟩), .map (some 37)] 357 true)),
  (55, some (.map [⟨.int .i64 (.ofNat 1), .slice (some ⟨240, 0, none⟩) 256 256, 0⟩, ⟨.int .i64 (.ofNat 3), .slice (some ⟨4971, 0, none⟩) 256 256, 2⟩, ⟨.int .i64 (.ofNat 4), .slice (some ⟨5797, 0, none⟩) 256 256, 3⟩] 4)),
  (57, some (.map [⟨.int .i64 (.ofNat 4), .bool true, 6⟩, ⟨.int .i64 (.ofNat 1), .bool true, 7⟩, ⟨.int .i64 (.ofNat 3), .bool true, 8⟩] 9)),
  (59, some (.cells [.int .i64 (.ofNat 1), .map (some 57), .map (some 58), .slice none 0 0] 214 true)),
  (62, some (.cells [.pointer (some ⟨56, 0, none⟩), .pointer (some ⟨59, 0, none⟩), .pointer (some ⟨60, 0, none⟩), .pointer (some ⟨2, 0, none⟩), .pointer (some ⟨72, 0, none⟩), .pointer (some ⟨3026, 0, none⟩), .slice (some ⟨8437, 0, none⟩) 2 2, .int .i64 (.ofNat 1), .int .i64 (.ofNat 2), .int .i64 (.ofNat 4), .int .i64 (.ofNat 1), .int .i64 (.ofNat 1), .int .i64 (.ofNat 3), .int .i64 (.ofNat 0), .int .i64 (.ofNat 0), .int .i64 (.ofNat 0), .int .i64 (.ofNat 0), .int .i64 (.ofNat 0), .slice (some ⟨8295, 0, none⟩) 2 2] 85 true)),
  (412, some (.cells [.slice (some ⟨7028, 0, none⟩) 1280 1280, .slice (some ⟨8424, 0, none⟩) 1280 1280, .bool true] 130 true)),
  (5771, some (.cells [.int .i64 (.ofNat 4), .int .i64 (.ofNat 0), .bool false, .pointer (some ⟨38, 1, none⟩), .pointer (some ⟨214, 0, none⟩)] 351 true)),
  (7028, some (.cells (u8s [111, 99, 116, 97, 118, 111, 48, 49, 2] ++ u8z 5 ++ u8s [4, 0, 0, 0, 1, 1, 0, 0, 0, 3] ++ u8z 36 ++ u8s [250, 212, 113, 102, 111, 99, 116, 97, 118, 111, 48, 49, 1] ++ u8z 5 ++ u8s [2] ++ u8z 8 ++ u8s [3] ++ u8z 36 ++ u8s [137, 155, 206, 78] ++ u8z 128 ++ u8s [1, 0, 14, 0, 1, 0, 0, 0, 194, 105, 111, 233, 1] ++ u8z 5 ++ u8s [3, 0, 0, 0, 255, 255, 255, 255] ++ u8z 230 ++ u8s [3, 0, 9, 0, 2, 0, 0, 0, 68, 252, 163, 153, 1, 1, 0, 0, 0, 3] ++ u8z 238 ++ u8s [1, 0, 27, 0, 3, 0, 0, 0, 50, 165, 25, 235, 2, 1] ++ u8z 4 ++ u8s [1] ++ u8z 12 ++ u8s [3, 0, 0, 0, 255, 255, 255, 255] ++ u8z 217 ++ u8s [3, 0, 17, 0, 4, 0, 0, 0, 199, 184, 67, 119, 2, 1, 0, 0, 0, 3, 0, 0, 0, 3, 0, 0, 0, 4] ++ u8z 230) 5 false)),
  (8424, some (.cells (u8s [111, 99, 116, 97, 118, 111, 48, 49, 2] ++ u8z 5 ++ u8s [4, 0, 0, 0, 1, 1, 0, 0, 0, 3] ++ u8z 36 ++ u8s [250, 212, 113, 102, 111, 99, 116, 97, 118, 111, 48, 49, 1] ++ u8z 5 ++ u8s [2] ++ u8z 8 ++ u8s [3] ++ u8z 36 ++ u8s [137, 155, 206, 78] ++ u8z 128 ++ u8s [1, 0, 14, 0, 1, 0, 0, 0, 194, 105, 111, 233, 1] ++ u8z 5 ++ u8s [3, 0, 0, 0, 255, 255, 255, 255] ++ u8z 230 ++ u8s [3, 0, 9, 0, 2, 0, 0, 0, 68, 252, 163, 153, 1, 1, 0, 0, 0, 3] ++ u8z 238 ++ u8s [1, 0, 27, 0, 3, 0, 0, 0, 50, 165, 25, 235, 2, 1] ++ u8z 4 ++ u8s [1] ++ u8z 12 ++ u8s [3, 0, 0, 0, 255, 255, 255, 255] ++ u8z 217 ++ u8s [3, 0, 17, 0, 4, 0, 0, 0, 199, 184, 67, 119, 2, 1, 0, 0, 0, 3, 0, 0, 0, 3, 0, 0, 0, 4] ++ u8z 230) 5 false)),
  (8437, some (.cells [.int .i64 (.ofNat 1), .int .i64 (.ofNat 3), .int .i64 (.ofNat 3), .int .i64 (.ofNat 4)] 119 false))]⟩
theorem m23_80_ok : m23_80.ok (call evT evF k23_80 100000 m23_80.f m23_80.args m23_80.preH) = true := by kernel_rfl
theorem q23_80 : HkOk Tryz.prog (hkMemo m23_80) := hkMemo_ok evT_ok evF_ok k23_80_ok rfl m23_80_ok
noncomputable def k23_85 : Hk := orHk (hkMemo m23_84) (hkLib)
theorem k23_85_ok : HkOk Tryz.prog k23_85 := orHk_ok q23_84 (hkLib_ok)
noncomputable def m23_85 : Mm :=
  ⟨254, [.int .i64 (.ofNat 1), .slice (some ⟨8600, 0, none⟩) 256 256], 8601, [(8600, .cells (u8s [1, 0, 14, 0, 1, 0, 0, 0, 194, 105, 111, 233, 1] ++ u8z 5 ++ u8s [3, 0, 0, 0, 255, 255, 255, 255] ++ u8z 230) 5 false)], .tuple #[.int .i64 (.ofNat 1), .slice (some ⟨8790, 0, none⟩) 14 14, .int .i64 (.ofNat 0)], 8831, [(8790, some (.cells (u8s [1] ++ u8z 5 ++ u8s [3, 0, 0, 0, 255, 255, 255, 255]) 5 false))]⟩
theorem m23_85_ok : m23_85.ok (call evT evF k23_85 100000 m23_85.f m23_85.args m23_85.preH) = true := by kernel_rfl
theorem q23_85 : HkOk Tryz.prog (hkMemo m23_85) := hkMemo_ok evT_ok evF_ok k23_85_ok rfl m23_85_ok
noncomputable def k23_89 : Hk := orHk (hkMemo m23_88) (hkLib)
theorem k23_89_ok : HkOk Tryz.prog k23_89 := orHk_ok q23_88 (hkLib_ok)
noncomputable def m23_89 : Mm :=
  ⟨254, [.int .i64 (.ofNat 3), .slice (some ⟨9085, 0, none⟩) 256 256], 9086, [(9085, .cells (u8s [1, 0, 27, 0, 3, 0, 0, 0, 50, 165, 25, 235, 2, 1] ++ u8z 4 ++ u8s [1] ++ u8z 12 ++ u8s [3, 0, 0, 0, 255, 255, 255, 255] ++ u8z 217) 5 false)], .tuple #[.int .i64 (.ofNat 1), .slice (some ⟨9275, 0, none⟩) 27 27, .int .i64 (.ofNat 0)], 9316, [(9275, some (.cells (u8s [2, 1] ++ u8z 4 ++ u8s [1] ++ u8z 12 ++ u8s [3, 0, 0, 0, 255, 255, 255, 255]) 5 false))]⟩
theorem m23_89_ok : m23_89.ok (call evT evF k23_89 100000 m23_89.f m23_89.args m23_89.preH) = true := by kernel_rfl
theorem q23_89 : HkOk Tryz.prog (hkMemo m23_89) := hkMemo_ok evT_ok evF_ok k23_89_ok rfl m23_89_ok
noncomputable def k23_93 : Hk := orHk (hkMemo m23_92) (hkLib)
theorem k23_93_ok : HkOk Tryz.prog k23_93 := orHk_ok q23_92 (hkLib_ok)
noncomputable def m23_93 : Mm :=
  ⟨254, [.int .i64 (.ofNat 3), .slice (some ⟨9707, 0, none⟩) 256 256], 9708, [(9707, .cells (u8s [1, 0, 27, 0, 3, 0, 0, 0, 50, 165, 25, 235, 2, 1] ++ u8z 4 ++ u8s [1] ++ u8z 12 ++ u8s [3, 0, 0, 0, 255, 255, 255, 255] ++ u8z 217) 5 false)], .tuple #[.int .i64 (.ofNat 1), .slice (some ⟨9897, 0, none⟩) 27 27, .int .i64 (.ofNat 0)], 9938, [(9897, some (.cells (u8s [2, 1] ++ u8z 4 ++ u8s [1] ++ u8z 12 ++ u8s [3, 0, 0, 0, 255, 255, 255, 255]) 5 false))]⟩
theorem m23_93_ok : m23_93.ok (call evT evF k23_93 100000 m23_93.f m23_93.args m23_93.preH) = true := by kernel_rfl
theorem q23_93 : HkOk Tryz.prog (hkMemo m23_93) := hkMemo_ok evT_ok evF_ok k23_93_ok rfl m23_93_ok
noncomputable def k23_98 : Hk := orHk (hkMemo m23_97) (hkLib)
theorem k23_98_ok : HkOk Tryz.prog k23_98 := orHk_ok q23_97 (hkLib_ok)
noncomputable def m23_98 : Mm :=
  ⟨215, [.slice (some ⟨10269, 0, none⟩) 2 2, .slice none 0 0, .int .i64 (.ofNat 1), .slice (some ⟨9026, 0, none⟩) 1 1], 10373, [(9026, .cells [.int .i64 (.ofNat 0), .int .i64 (.ofNat 0), .int .i64 (.ofNat 3)] 145 false),
  (10269, .cells [.int .i64 (.ofNat 1), .int .i64 (.ofNat 0), .int .i64 (.ofNat 1), .int .i64 (.ofNat 0), .int .i64 (.ofNat 0), .int .i64 (.ofNat 3)] 145 false)], .tuple #[.slice (some ⟨10539, 0, none⟩) 1 1, .int .i64 (.ofNat 0)], 10540, [(10539, some (.cells [.int .i64 (.ofNat 0), .int .i64 (.ofNat 1), .int .i64 (.ofNat 3)] 145 false))]⟩
theorem m23_98_ok : m23_98.ok (call evT evF k23_98 100000 m23_98.f m23_98.args m23_98.preH) = true := by kernel_rfl
theorem q23_98 : HkOk Tryz.prog (hkMemo m23_98) := hkMemo_ok evT_ok evF_ok k23_98_ok rfl m23_98_ok
noncomputable def k23_102 : Hk := orHk (hkMemo m23_99) (orHk (hkMemo m23_100) (orHk (hkMemo m23_101) (hkLib)))
theorem k23_102_ok : HkOk Tryz.prog k23_102 := orHk_ok q23_99 (orHk_ok q23_100 (orHk_ok q23_101 (hkLib_ok)))
noncomputable def m23_102 : Mm :=
  ⟨301, [.pointer (some ⟨60, 0, none⟩), .agg #[.bool true, .slice (some ⟨10597, 0, none⟩) 1 1, .slice none 0 0]], 10603, [(1, .map [⟨.string ⟨#[111, 114, 105, 103, 105, 110, 97, 108]⟩, .pointer (some ⟨32, 0, none⟩), 0⟩, ⟨.string ⟨#[115, 116, 111, 114, 101]⟩, .pointer (some ⟨412, 0, none⟩), 1⟩, ⟨.string ⟨#[116, 97, 105, 108]⟩, .pointer (some ⟨3148, 0, none⟩), 2⟩] 3),
  (2, .cells [.int .i64 (.ofNat 100000), .int .i64 (.ofNat 13), .int .i64 (.negSucc 12), .bool false, .bool false, .map (some 1), .slice none 0 0] 61 true),
  (32, .cells [.slice (some ⟨34, 0, none⟩) 3 3, .slice (some ⟨35, 0, none⟩) 3 3, .bool true] 130 true),
  (34, .cells (u8s [97, 98, 99]) 5 false),
  (35, .cells (u8s [97, 98, 99]) 5 false),
  (37, .map [⟨.int .i64 (.ofNat 1), .pointer (some ⟨214, 0, none⟩), 0⟩, ⟨.int .i64 (.ofNat 3), .pointer (some ⟨4945, 0, none⟩), 2⟩, ⟨.int .i64 (.ofNat 4), .pointer (some ⟨5771, 0, none⟩), 3⟩] 4),
  (38, .cells [.int .i64 (.ofNat 5), .int .i64 (.ofNat 0), .int .i64 (.ofNat 0), .bool false, .pointer (some ⟨4945, 0, none⟩), .pointer (some ⟨5771, 0, none⟩), .map (some 37)] 357 true),
  (55, .map [⟨.int .i64 (.ofNat 1), .slice (some ⟨240, 0, none⟩) 256 256, 0⟩, ⟨.int .i64 (.ofNat 3), .slice (some ⟨4971, 0, none⟩) 256 256, 2⟩, ⟨.int .i64 (.ofNat 4), .slice (some ⟨5797, 0, none⟩) 256 256, 3⟩] 4),
  (56, .cells [.pointer (some ⟨38, 0, none⟩), .pointer (some ⟨2, 0, none⟩), .string ⟨#[115, 116, 111, 114, 101]⟩, .int .i64 (.ofNat 5), .map (some 55), .int .i64 (.ofNat 0)] 249 true),
  (57, .map [⟨.int .i64 (.ofNat 4), .bool true, 6⟩, ⟨.int .i64 (.ofNat 1), .bool true, 7⟩, ⟨.int .i64 (.ofNat 3), .bool true, 8⟩] 9),
  (58, .map [] 0),
  (59, .cells [.int .i64 (.ofNat 1), .map (some 57), .map (some 58), .slice none 0 0] 214 true),
  (60, .cells [.pointer (some ⟨56, 0, none⟩), .pointer (some ⟨59, 0, none⟩)] 257 true),
  (214, .cells [.int .i64 (.ofNat 1), .int .i64 (.ofNat 0), .bool false, .pointer (some ⟨5771, 0, none⟩), .pointer (some ⟨4945, 0, none⟩)] 351 true),
  (412, .cells [.slice (some ⟨7028, 0, none⟩) 1280 1280, .slice (some ⟨8424, 0, none⟩) 1280 1280, .bool true] 130 true),
  (3148, .cells [.slice (some ⟨3150, 0, none⟩) 1 1, .slice (some ⟨7165, 0, none⟩) 1 1, .bool true] 130 true),
  (3150, .cells (u8s [120]) 5 false),
  (4945, .cells [.int .i64 (.ofNat 3), .int .i64 (.ofNat 0), .bool false, .pointer (some ⟨214, 0, none⟩), .pointer (some ⟨38, 1, none⟩)] 351 true),
  (5771, .cells [.int .i64 (.ofNat 4), .int .i64 (.ofNat 0), .bool false, .pointer (some ⟨38, 1, none⟩), .pointer (some ⟨214, 0, none⟩)] 351 true),
  (7165, .cells (u8s [120]) 5 false),
  (10597, .cells [.int .i64 (.ofNat 0), .int .i64 (.ofNat 1), .int .i64 (.ofNat 3), .int .i64 (.negSucc 0)] 147 false)], .agg #[.int .i64 (.ofNat 2), .int .i64 (.ofNat 3), .int .i64 (.negSucc 0), .int .i64 (.ofNat 1)], 10742, [(37, some (.map [⟨.int .i64 (.ofNat 1), .pointer (some ⟨214, 0, none⟩), 0⟩, ⟨.int .i64 (.ofNat 3), .pointer (some ⟨4945, 0, none⟩), 2⟩, ⟨.int .i64 (.ofNat 4), .pointer (some ⟨5771, 0, none⟩), 3⟩, ⟨.int .i64 (.ofNat 2), .pointer (some ⟨10682, 0, none⟩), 4⟩] 5)),
  (38, some (.cells [.int .i64 (.ofNat 5), .int .i64 (.ofNat 0), .int .i64 (.ofNat 0), .bool false, .pointer (some ⟨10682, 0, none⟩), .pointer (some ⟨5771, 0, none⟩), .map (some 37)] 357 true)),
  (55, some (.map [⟨.int .i64 (.ofNat 1), .slice (some ⟨240, 0, none⟩) 256 256, 0⟩, ⟨.int .i64 (.ofNat 3), .slice (some ⟨4971, 0, none⟩) 256 256, 2⟩, ⟨.int .i64 (.ofNat 4), .slice (some ⟨5797, 0, none⟩) 256 256, 3⟩, ⟨.int .i64 (.ofNat 2), .slice (some ⟨10708, 0, none⟩) 256 256, 4⟩] 5)),
  (57, some (.map [⟨.int .i64 (.ofNat 4), .bool true, 6⟩, ⟨.int .i64 (.ofNat 1), .bool true, 7⟩, ⟨.int .i64 (.ofNat 3), .bool true, 8⟩, ⟨.int .i64 (.ofNat 2), .bool true, 9⟩] 10)),
  (59, some (.cells [.int .i64 (.ofNat 1), .map (some 57), .map (some 58), .slice (some ⟨10650, 0, none⟩) 1 1] 214 true)),
  (4945, some (.cells [.int .i64 (.ofNat 3), .int .i64 (.ofNat 0), .bool false, .pointer (some ⟨214, 0, none⟩), .pointer (some ⟨10682, 0, none⟩)] 351 true)),
  (10650, some (.cells [.int .i64 (.ofNat 2)] 3 false)),
  (10682, some (.cells [.int .i64 (.ofNat 2), .int .i64 (.ofNat 0), .bool true, .pointer (some ⟨4945, 0, none⟩), .pointer (some ⟨38, 1, none⟩)] 351 true)),
  (10708, some (.cells (u8s [1, 0, 14, 0, 2, 0, 0, 0, 54, 213, 233, 1, 1, 0, 1, 0, 0, 0, 3, 0, 0, 0, 255, 255, 255, 255] ++ u8z 230) 5 false))]⟩
theorem m23_102_ok : m23_102.ok (call evT evF k23_102 100000 m23_102.f m23_102.args m23_102.preH) = true := by kernel_rfl
theorem q23_102 : HkOk Tryz.prog (hkMemo m23_102) := hkMemo_ok evT_ok evF_ok k23_102_ok rfl m23_102_ok
noncomputable def k23_106 : Hk := orHk (hkMemo m23_104) (orHk (hkMemo m23_105) (hkLib))
theorem k23_106_ok : HkOk Tryz.prog k23_106 := orHk_ok q23_104 (orHk_ok q23_105 (hkLib_ok))
noncomputable def m23_106 : Mm :=
  ⟨215, [.slice (some ⟨10269, 0, none⟩) 2 2, .slice none 0 0, .int .i64 (.ofNat 1), .slice (some ⟨9647, 0, none⟩) 2 2], 10747, [(9647, .cells [.int .i64 (.ofNat 1), .int .i64 (.ofNat 0), .int .i64 (.ofNat 1), .int .i64 (.ofNat 0), .int .i64 (.ofNat 0), .int .i64 (.ofNat 3)] 145 false),
  (10269, .cells [.int .i64 (.ofNat 1), .int .i64 (.ofNat 0), .int .i64 (.ofNat 1), .int .i64 (.ofNat 0), .int .i64 (.ofNat 0), .int .i64 (.ofNat 3)] 145 false)], .tuple #[.slice (some ⟨10938, 0, none⟩) 1 1, .int .i64 (.ofNat 0)], 10979, [(10938, some (.cells [.int .i64 (.ofNat 0), .int .i64 (.ofNat 0), .int .i64 (.ofNat 4)] 145 false))]⟩
theorem m23_106_ok : m23_106.ok (call evT evF k23_106 100000 m23_106.f m23_106.args m23_106.preH) = true := by kernel_rfl
theorem q23_106 : HkOk Tryz.prog (hkMemo m23_106) := hkMemo_ok evT_ok evF_ok k23_106_ok rfl m23_106_ok
noncomputable def k23_110 : Hk := orHk (hkMemo m23_107) (orHk (hkMemo m23_108) (orHk (hkMemo m23_109) (hkLib)))
theorem k23_110_ok : HkOk Tryz.prog k23_110 := orHk_ok q23_107 (orHk_ok q23_108 (orHk_ok q23_109 (hkLib_ok)))
noncomputable def m23_110 : Mm :=
  ⟨301, [.pointer (some ⟨60, 0, none⟩), .agg #[.bool true, .slice (some ⟨11036, 0, none⟩) 1 1, .slice none 0 0]], 11042, [(1, .map [⟨.string ⟨#[111, 114, 105, 103, 105, 110, 97, 108]⟩, .pointer (some ⟨32, 0, none⟩), 0⟩, ⟨.string ⟨#[115, 116, 111, 114, 101]⟩, .pointer (some ⟨412, 0, none⟩), 1⟩, ⟨.string ⟨#[116, 97, 105, 108]⟩, .pointer (some ⟨3148, 0, none⟩), 2⟩] 3),
  (2, .cells [.int .i64 (.ofNat 100000), .int .i64 (.ofNat 13), .int .i64 (.negSucc 12), .bool false, .bool false, .map (some 1), .slice none 0 0] 61 true),
  (32, .cells [.slice (some ⟨34, 0, none⟩) 3 3, .slice (some ⟨35, 0, none⟩) 3 3, .bool true] 130 true),
  (34, .cells (u8s [97, 98, 99]) 5 false),
  (35, .cells (u8s [97, 98, 99]) 5 false),
  (37, .map [⟨.int .i64 (.ofNat 1), .pointer (some ⟨214, 0, none⟩), 0⟩, ⟨.int .i64 (.ofNat 3), .pointer (some ⟨4945, 0, none⟩), 2⟩, ⟨.int .i64 (.ofNat 4), .pointer (some ⟨5771, 0, none⟩), 3⟩, ⟨.int .i64 (.ofNat 2), .pointer (some ⟨10682, 0, none⟩), 4⟩] 5),
  (38, .cells [.int .i64 (.ofNat 5), .int .i64 (.ofNat 0), .int .i64 (.ofNat 0), .bool false, .pointer (some ⟨10682, 0, none⟩), .pointer (some ⟨5771, 0, none⟩), .map (some 37)] 357 true),
  (55, .map [⟨.int .i64 (.ofNat 1), .slice (some ⟨240, 0, none⟩) 256 256, 0⟩, ⟨.int .i64 (.ofNat 3), .slice (some ⟨4971, 0, none⟩) 256 256, 2⟩, ⟨.int .i64 (.ofNat 4), .slice (some ⟨5797, 0, none⟩) 256 256, 3⟩, ⟨.int .i64 (.ofNat 2), .slice (some ⟨10708, 0, none⟩) 256 256, 4⟩] 5),
  (56, .cells [.pointer (some ⟨38, 0, none⟩), .pointer (some ⟨2, 0, none⟩), .string ⟨#[115, 116, 111, 114, 101]⟩, .int .i64 (.ofNat 5), .map (some 55), .int .i64 (.ofNat 0)] 249 true),
  (57, .map [⟨.int .i64 (.ofNat 4), .bool true, 6⟩, ⟨.int .i64 (.ofNat 1), .bool true, 7⟩, ⟨.int .i64 (.ofNat 3), .bool true, 8⟩, ⟨.int .i64 (.ofNat 2), .bool true, 9⟩] 10),
  (58, .map [] 0),
  (59, .cells [.int .i64 (.ofNat 1), .map (some 57), .map (some 58), .slice (some ⟨10650, 0, none⟩) 1 1] 214 true),
  (60, .cells [.pointer (some ⟨56, 0, none⟩), .pointer (some ⟨59, 0, none⟩)] 257 true),
  (214, .cells [.int .i64 (.ofNat 1), .int .i64 (.ofNat 0), .bool false, .pointer (some ⟨5771, 0, none⟩), .pointer (some ⟨4945, 0, none⟩)] 351 true),
  (412, .cells [.slice (some ⟨7028, 0, none⟩) 1280 1280, .slice (some ⟨8424, 0, none⟩) 1280 1280, .bool true] 130 true),
  (3148, .cells [.slice (some ⟨3150, 0, none⟩) 1 1, .slice (some ⟨7165, 0, none⟩) 1 1, .bool true] 130 true),
  (3150, .cells (u8s [120]) 5 false),
  (4945, .cells [.int .i64 (.ofNat 3), .int .i64 (.ofNat 0), .bool false, .pointer (some ⟨214, 0, none⟩), .pointer (some ⟨10682, 0, none⟩)] 351 true),
  (5771, .cells [.int .i64 (.ofNat 4), .int .i64 (.ofNat 0), .bool false, .pointer (some ⟨38, 1, none⟩), .pointer (some ⟨214, 0, none⟩)] 351 true),
  (7165, .cells (u8s [120]) 5 false),
  (10650, .cells [.int .i64 (.ofNat 2)] 3 false),
  (10682, .cells [.int .i64 (.ofNat 2), .int .i64 (.ofNat 0), .bool true, .pointer (some ⟨4945, 0, none⟩), .pointer (some ⟨38, 1, none⟩)] 351 true),
  (11036, .cells [.int .i64 (.ofNat 0), .int .i64 (.ofNat 0), .int .i64 (.ofNat 4), .int .i64 (.negSucc 0)] 147 false)], .agg #[.int .i64 (.ofNat 5), .int .i64 (.ofNat 4), .int .i64 (.negSucc 0), .int .i64 (.ofNat 1)], 11181, [(37, some (.map [⟨.int .i64 (.ofNat 1), .pointer (some ⟨214, 0, none⟩), 0⟩, ⟨.int .i64 (.ofNat 3), .pointer (some ⟨4945, 0, none⟩), 2⟩, ⟨.int .i64 (.ofNat 4), .pointer (some ⟨5771, 0, none⟩), 3⟩, ⟨.int .i64 (.ofNat 2), .pointer (some ⟨10682, 0, none⟩), 4⟩, ⟨.int .i64 (.ofNat 5), .pointer (some ⟨11121, 0, none⟩), 5⟩] 6)),
  (38, some (.cells [.int .i64 (.ofNat 5), .int .i64 (.ofNat 0), .int .i64 (.ofNat 0), .bool false, .pointer (some ⟨11121, 0, none⟩), .pointer (some ⟨5771, 0, none⟩), .map (some 37)] 357 true)),
  (55, some (.map [⟨.int .i64 (.ofNat 1), .slice (some ⟨240, 0, none⟩) 256 256, 0⟩, ⟨.int .i64 (.ofNat 3), .slice (some ⟨4971, 0, none⟩) 256 256, 2⟩, ⟨.int .i64 (.ofNat 4), .slice (some ⟨5797, 0, none⟩) 256 256, 3⟩, ⟨.int .i64 (.ofNat 2), .slice (some ⟨10708, 0, none⟩) 256 256, 4⟩, ⟨.int .i64 (.ofNat 5), .slice (some ⟨11147, 0, none⟩) 256 256, 5⟩] 6)),
  (57, some (.map [⟨.int .i64 (.ofNat 4), .bool true, 6⟩, ⟨.int .i64 (.ofNat 1), .bool true, 7⟩, ⟨.int .i64 (.ofNat 3), .bool true, 8⟩, ⟨.int .i64 (.ofNat 2), .bool true, 9⟩, ⟨.int .i64 (.ofNat 5), .bool true, 10⟩] 11)),
  (59, some (.cells [.int .i64 (.ofNat 1), .map (some 57), .map (some 58), .slice (some ⟨11089, 0, none⟩) 2 2] 214 true)),
  (10650, none),
  (10682, some (.cells [.int .i64 (.ofNat 2), .int .i64 (.ofNat 0), .bool true, .pointer (some ⟨4945, 0, none⟩), .pointer (some ⟨11121, 0, none⟩)] 351 true)),
  (11089, some (.cells [.int .i64 (.ofNat 2), .int .i64 (.ofNat 5)] 3 false)),
  (11121, some (.cells [.int .i64 (.ofNat 5), .int .i64 (.ofNat 0), .bool true, .pointer (some ⟨10682, 0, none⟩), .pointer (some ⟨38, 1, none⟩)] 351 true)),
  (11147, some (.cells (u8s [1, 0, 14, 0, 5, 0, 0, 0, 64, 196, 222, 82, 1] ++ u8z 5 ++ u8s [4, 0, 0, 0, 255, 255, 255, 255] ++ u8z 230) 5 false))]⟩
theorem m23_110_ok : m23_110.ok (call evT evF k23_110 100000 m23_110.f m23_110.args m23_110.preH) = true := by kernel_rfl
theorem q23_110 : HkOk Tryz.prog (hkMemo m23_110) := hkMemo_ok evT_ok evF_ok k23_110_ok rfl m23_110_ok
noncomputable def k23_116 : Hk := orHk (hkMemo m23_113) (orHk (hkMemo m23_114) (orHk (hkMemo m23_115) (hkLib)))
theorem k23_116_ok : HkOk Tryz.prog k23_116 := orHk_ok q23_113 (orHk_ok q23_114 (orHk_ok q23_115 (hkLib_ok)))
noncomputable def m23_116 : Mm :=
  ⟨138, [.slice (some ⟨10269, 0, none⟩) 2 2, .int .i64 (.ofNat 3), .int .i64 (.ofNat 64)], 11186, [(10269, .cells [.int .i64 (.ofNat 1), .int .i64 (.ofNat 0), .int .i64 (.ofNat 1), .int .i64 (.ofNat 0), .int .i64 (.ofNat 0), .int .i64 (.ofNat 3)] 145 false)], .tuple #[.agg #[.int .i64 (.ofNat 4), .slice none 0 0, .slice (some ⟨11530, 0, none⟩) 1 1], .int .i64 (.ofNat 0)], 11531, [(11385, some (.cells [.int .i64 (.ofNat 0), .slice (some ⟨11519, 0, none⟩) 2 2] 175 false)),
  (11519, some (.cells [.int .i64 (.ofNat 1), .int .i64 (.ofNat 0), .int .i64 (.ofNat 1), .int .i64 (.ofNat 0), .int .i64 (.ofNat 0), .int .i64 (.ofNat 3)] 145 false)),
  (11530, some (.cells [.complex .f32 11386 1] 173 false))]⟩
theorem m23_116_ok : m23_116.ok (call evT evF k23_116 100000 m23_116.f m23_116.args m23_116.preH) = true := by kernel_rfl
theorem q23_116 : HkOk Tryz.prog (hkMemo m23_116) := hkMemo_ok evT_ok evF_ok k23_116_ok rfl m23_116_ok
noncomputable def k23_121 : Hk := orHk (hkMemo m23_120) (hkLib)
theorem k23_121_ok : HkOk Tryz.prog k23_121 := orHk_ok q23_120 (hkLib_ok)
noncomputable def m23_121 : Mm :=
  ⟨249, [.pointer (some ⟨56, 0, none⟩), .int .i64 (.ofNat 2)], 11660, [(1, .map [⟨.string ⟨#[111, 114, 105, 103, 105, 110, 97, 108]⟩, .pointer (some ⟨32, 0, none⟩), 0⟩, ⟨.string ⟨#[115, 116, 111, 114, 101]⟩, .pointer (some ⟨412, 0, none⟩), 1⟩, ⟨.string ⟨#[116, 97, 105, 108]⟩, .pointer (some ⟨3148, 0, none⟩), 2⟩] 3),
  (2, .cells [.int .i64 (.ofNat 100000), .int .i64 (.ofNat 13), .int .i64 (.negSucc 12), .bool false, .bool false, .map (some 1), .slice none 0 0] 61 true),
  (32, .cells [.slice (some ⟨34, 0, none⟩) 3 3, .slice (some ⟨35, 0, none⟩) 3 3, .bool true] 130 true),
  (34, .cells (u8s [97, 98, 99]) 5 false),
  (35, .cells (u8s [97, 98, 99]) 5 false),
  (37, .map [⟨.int .i64 (.ofNat 1), .pointer (some ⟨214, 0, none⟩), 0⟩, ⟨.int .i64 (.ofNat 3), .pointer (some ⟨4945, 0, none⟩), 2⟩, ⟨.int .i64 (.ofNat 2), .pointer (some ⟨10682, 0, none⟩), 4⟩, ⟨.int .i64 (.ofNat 5), .pointer (some ⟨11121, 0, none⟩), 5⟩, ⟨.int .i64 (.ofNat 6), .pointer (some ⟨11632, 0, none⟩), 6⟩] 7),
  (38, .cells [.int .i64 (.ofNat 5), .int .i64 (.ofNat 0), .int .i64 (.ofNat 0), .bool false, .pointer (some ⟨11632, 0, none⟩), .pointer (some ⟨214, 0, none⟩), .map (some 37)] 357 true),
  (55, .map [⟨.int .i64 (.ofNat 1), .slice (some ⟨240, 0, none⟩) 256 256, 0⟩, ⟨.int .i64 (.ofNat 3), .slice (some ⟨4971, 0, none⟩) 256 256, 2⟩, ⟨.int .i64 (.ofNat 2), .slice (some ⟨10708, 0, none⟩) 256 256, 4⟩, ⟨.int .i64 (.ofNat 5), .slice (some ⟨11147, 0, none⟩) 256 256, 5⟩, ⟨.int .i64 (.ofNat 6), .slice (some ⟨11658, 0, none⟩) 256 256, 6⟩] 7),
  (56, .cells [.pointer (some ⟨38, 0, none⟩), .pointer (some ⟨2, 0, none⟩), .string ⟨#[115, 116, 111, 114, 101]⟩, .int .i64 (.ofNat 5), .map (some 55), .int .i64 (.ofNat 0)] 249 true),
  (214, .cells [.int .i64 (.ofNat 1), .int .i64 (.ofNat 0), .bool false, .pointer (some ⟨38, 1, none⟩), .pointer (some ⟨4945, 0, none⟩)] 351 true),
  (412, .cells [.slice (some ⟨7028, 0, none⟩) 1280 1280, .slice (some ⟨8424, 0, none⟩) 1280 1280, .bool true] 130 true),
  (3148, .cells [.slice (some ⟨3150, 0, none⟩) 1 1, .slice (some ⟨7165, 0, none⟩) 1 1, .bool true] 130 true),
  (3150, .cells (u8s [120]) 5 false),
  (4945, .cells [.int .i64 (.ofNat 3), .int .i64 (.ofNat 0), .bool false, .pointer (some ⟨214, 0, none⟩), .pointer (some ⟨10682, 0, none⟩)] 351 true),
  (7028, .cells (u8s [111, 99, 116, 97, 118, 111, 48, 49, 2] ++ u8z 5 ++ u8s [4, 0, 0, 0, 1, 1, 0, 0, 0, 3] ++ u8z 36 ++ u8s [250, 212, 113, 102, 111, 99, 116, 97, 118, 111, 48, 49, 1] ++ u8z 5 ++ u8s [2] ++ u8z 8 ++ u8s [3] ++ u8z 36 ++ u8s [137, 155, 206, 78] ++ u8z 128 ++ u8s [1, 0, 14, 0, 1, 0, 0, 0, 194, 105, 111, 233, 1] ++ u8z 5 ++ u8s [3, 0, 0, 0, 255, 255, 255, 255] ++ u8z 230 ++ u8s [3, 0, 9, 0, 2, 0, 0, 0, 68, 252, 163, 153, 1, 1, 0, 0, 0, 3] ++ u8z 238 ++ u8s [1, 0, 27, 0, 3, 0, 0, 0, 50, 165, 25, 235, 2, 1] ++ u8z 4 ++ u8s [1] ++ u8z 12 ++ u8s [3, 0, 0, 0, 255, 255, 255, 255] ++ u8z 217 ++ u8s [3, 0, 17, 0, 4, 0, 0, 0, 199, 184, 67, 119, 2, 1, 0, 0, 0, 3, 0, 0, 0, 3, 0, 0, 0, 4] ++ u8z 230) 5 false),
  (7165, .cells (u8s [120]) 5 false),
  (10682, .cells [.int .i64 (.ofNat 2), .int .i64 (.ofNat 0), .bool true, .pointer (some ⟨4945, 0, none⟩), .pointer (some ⟨11121, 0, none⟩)] 351 true),
  (10708, .cells (u8s [1, 0, 14, 0, 2, 0, 0, 0, 54, 213, 233, 1, 1, 0, 1, 0, 0, 0, 3, 0, 0, 0, 255, 255, 255, 255] ++ u8z 230) 5 false),
  (11121, .cells [.int .i64 (.ofNat 5), .int .i64 (.ofNat 0), .bool true, .pointer (some ⟨10682, 0, none⟩), .pointer (some ⟨11632, 0, none⟩)] 351 true),
  (11632, .cells [.int .i64 (.ofNat 6), .int .i64 (.ofNat 0), .bool true, .pointer (some ⟨11121, 0, none⟩), .pointer (some ⟨38, 1, none⟩)] 351 true)], .int .i64 (.ofNat 0), 11818, [(2, some (.cells [.int .i64 (.ofNat 100000), .int .i64 (.ofNat 14), .int .i64 (.negSucc 13), .bool false, .bool false, .map (some 1), .slice (some ⟨11809, 0, none⟩) 4 4] 61 true)),
  (7028, some (.cells (u8s [111, 99, 116, 97, 118, 111, 48, 49, 2] ++ u8z 5 ++ u8s [4, 0, 0, 0, 1, 1, 0, 0, 0, 3] ++ u8z 36 ++ u8s [250, 212, 113, 102, 111, 99, 116, 97, 118, 111, 48, 49, 1] ++ u8z 5 ++ u8s [2] ++ u8z 8 ++ u8s [3] ++ u8z 36 ++ u8s [137, 155, 206, 78] ++ u8z 128 ++ u8s [1, 0, 14, 0, 1, 0, 0, 0, 194, 105, 111, 233, 1] ++ u8z 5 ++ u8s [3, 0, 0, 0, 255, 255, 255, 255] ++ u8z 230 ++ u8s [1, 0, 14, 0, 2, 0, 0, 0, 54, 213, 233, 1, 1, 0, 1, 0, 0, 0, 3, 0, 0, 0, 255, 255, 255, 255] ++ u8z 230 ++ u8s [1, 0, 27, 0, 3, 0, 0, 0, 50, 165, 25, 235, 2, 1] ++ u8z 4 ++ u8s [1] ++ u8z 12 ++ u8s [3, 0, 0, 0, 255, 255, 255, 255] ++ u8z 217 ++ u8s [3, 0, 17, 0, 4, 0, 0, 0, 199, 184, 67, 119, 2, 1, 0, 0, 0, 3, 0, 0, 0, 3, 0, 0, 0, 4] ++ u8z 230) 5 false)),
  (10682, some (.cells [.int .i64 (.ofNat 2), .int .i64 (.ofNat 0), .bool false, .pointer (some ⟨4945, 0, none⟩), .pointer (some ⟨11121, 0, none⟩)] 351 true)),
  (11724, some (.cells (u8s [1, 0, 14, 0, 2, 0, 0, 0, 54, 213, 233, 1, 1, 0, 1, 0, 0, 0, 3, 0, 0, 0, 255, 255, 255, 255] ++ u8z 38) 5 false)),
  (11752, some (.cells (u8z 64) 5 false)),
  (11780, some (.cells (u8z 64) 5 false)),
  (11808, some (.cells (u8z 64) 5 false)),
  (11809, some (.cells [.string ⟨#[115, 116, 111, 114, 101]⟩, .int .i64 (.ofNat 512), .slice (some ⟨11724, 0, none⟩) 64 64, .string ⟨#[115, 116, 111, 114, 101]⟩, .int .i64 (.ofNat 576), .slice (some ⟨11752, 0, none⟩) 64 64, .string ⟨#[115, 116, 111, 114, 101]⟩, .int .i64 (.ofNat 640), .slice (some ⟨11780, 0, none⟩) 64 64, .string ⟨#[115, 116, 111, 114, 101]⟩, .int .i64 (.ofNat 704), .slice (some ⟨11808, 0, none⟩) 64 64] 134 false))]⟩
theorem m23_121_ok : m23_121.ok (call evT evF k23_121 100000 m23_121.f m23_121.args m23_121.preH) = true := by kernel_rfl
theorem q23_121 : HkOk Tryz.prog (hkMemo m23_121) := hkMemo_ok evT_ok evF_ok k23_121_ok rfl m23_121_ok
noncomputable def k23_123 : Hk := orHk (hkMemo m23_122) (hkLib)
theorem k23_123_ok : HkOk Tryz.prog k23_123 := orHk_ok q23_122 (hkLib_ok)
noncomputable def m23_123 : Mm :=
  ⟨11, [.pointer (some ⟨2, 0, none⟩), .string ⟨#[115, 116, 111, 114, 101]⟩, .int .i64 (.ofNat 1280), .slice (some ⟨11147, 0, none⟩) 256 256], 11848, [(1, .map [⟨.string ⟨#[111, 114, 105, 103, 105, 110, 97, 108]⟩, .pointer (some ⟨32, 0, none⟩), 0⟩, ⟨.string ⟨#[115, 116, 111, 114, 101]⟩, .pointer (some ⟨412, 0, none⟩), 1⟩, ⟨.string ⟨#[116, 97, 105, 108]⟩, .pointer (some ⟨3148, 0, none⟩), 2⟩] 3),
  (2, .cells [.int .i64 (.ofNat 100000), .int .i64 (.ofNat 14), .int .i64 (.negSucc 13), .bool false, .bool false, .map (some 1), .slice (some ⟨11809, 0, none⟩) 4 4] 61 true),
  (32, .cells [.slice (some ⟨34, 0, none⟩) 3 3, .slice (some ⟨35, 0, none⟩) 3 3, .bool true] 130 true),
  (34, .cells (u8s [97, 98, 99]) 5 false),
  (35, .cells (u8s [97, 98, 99]) 5 false),
  (412, .cells [.slice (some ⟨7028, 0, none⟩) 1280 1280, .slice (some ⟨8424, 0, none⟩) 1280 1280, .bool true] 130 true),
  (3148, .cells [.slice (some ⟨3150, 0, none⟩) 1 1, .slice (some ⟨7165, 0, none⟩) 1 1, .bool true] 130 true),
  (3150, .cells (u8s [120]) 5 false),
  (7028, .cells (u8s [111, 99, 116, 97, 118, 111, 48, 49, 2] ++ u8z 5 ++ u8s [4, 0, 0, 0, 1, 1, 0, 0, 0, 3] ++ u8z 36 ++ u8s [250, 212, 113, 102, 111, 99, 116, 97, 118, 111, 48, 49, 1] ++ u8z 5 ++ u8s [2] ++ u8z 8 ++ u8s [3] ++ u8z 36 ++ u8s [137, 155, 206, 78] ++ u8z 128 ++ u8s [1, 0, 14, 0, 1, 0, 0, 0, 194, 105, 111, 233, 1] ++ u8z 5 ++ u8s [3, 0, 0, 0, 255, 255, 255, 255] ++ u8z 230 ++ u8s [1, 0, 14, 0, 2, 0, 0, 0, 54, 213, 233, 1, 1, 0, 1, 0, 0, 0, 3, 0, 0, 0, 255, 255, 255, 255] ++ u8z 230 ++ u8s [1, 0, 27, 0, 3, 0, 0, 0, 50, 165, 25, 235, 2, 1] ++ u8z 4 ++ u8s [1] ++ u8z 12 ++ u8s [3, 0, 0, 0, 255, 255, 255, 255] ++ u8z 217 ++ u8s [3, 0, 17, 0, 4, 0, 0, 0, 199, 184, 67, 119, 2, 1, 0, 0, 0, 3, 0, 0, 0, 3, 0, 0, 0, 4] ++ u8z 230) 5 false),
  (7165, .cells (u8s [120]) 5 false),
  (11147, .cells (u8s [1, 0, 14, 0, 5, 0, 0, 0, 64, 196, 222, 82, 1] ++ u8z 5 ++ u8s [4, 0, 0, 0, 255, 255, 255, 255] ++ u8z 230) 5 false),
  (11809, .cells [.string ⟨#[115, 116, 111, 114, 101]⟩, .int .i64 (.ofNat 512), .slice (some ⟨11724, 0, none⟩) 64 64, .string ⟨#[115, 116, 111, 114, 101]⟩, .int .i64 (.ofNat 576), .slice (some ⟨11752, 0, none⟩) 64 64, .string ⟨#[115, 116, 111, 114, 101]⟩, .int .i64 (.ofNat 640), .slice (some ⟨11780, 0, none⟩) 64 64, .string ⟨#[115, 116, 111, 114, 101]⟩, .int .i64 (.ofNat 704), .slice (some ⟨11808, 0, none⟩) 64 64] 134 false)], .int .i64 (.ofNat 0), 12489, [(2, some (.cells [.int .i64 (.ofNat 100000), .int .i64 (.ofNat 15), .int .i64 (.negSucc 14), .bool false, .bool false, .map (some 1), .slice (some ⟨12480, 0, none⟩) 8 8] 61 true)),
  (412, some (.cells [.slice (some ⟨12376, 0, none⟩) 1536 1536, .slice (some ⟨8424, 0, none⟩) 1280 1280, .bool true] 130 true)),
  (7028, none),
  (11809, none),
  (12376, some (.cells (u8s [111, 99, 116, 97, 118, 111, 48, 49, 2] ++ u8z 5 ++ u8s [4, 0, 0, 0, 1, 1, 0, 0, 0, 3] ++ u8z 36 ++ u8s [250, 212, 113, 102, 111, 99, 116, 97, 118, 111, 48, 49, 1] ++ u8z 5 ++ u8s [2] ++ u8z 8 ++ u8s [3] ++ u8z 36 ++ u8s [137, 155, 206, 78] ++ u8z 128 ++ u8s [1, 0, 14, 0, 1, 0, 0, 0, 194, 105, 111, 233, 1] ++ u8z 5 ++ u8s [3, 0, 0, 0, 255, 255, 255, 255] ++ u8z 230 ++ u8s [1, 0, 14, 0, 2, 0, 0, 0, 54, 213, 233, 1, 1, 0, 1, 0, 0, 0, 3, 0, 0, 0, 255, 255, 255, 255] ++ u8z 230 ++ u8s [1, 0, 27, 0, 3, 0, 0, 0, 50, 165, 25, 235, 2, 1] ++ u8z 4 ++ u8s [1] ++ u8z 12 ++ u8s [3, 0, 0, 0, 255, 255, 255, 255] ++ u8z 217 ++ u8s [3, 0, 17, 0, 4, 0, 0, 0, 199, 184, 67, 119, 2, 1, 0, 0, 0, 3, 0, 0, 0, 3, 0, 0, 0, 4] ++ u8z 230 ++ u8s [1, 0, 14, 0, 5, 0, 0, 0, 64, 196, 222, 82, 1] ++ u8z 5 ++ u8s [4, 0, 0, 0, 255, 255, 255, 255] ++ u8z 230) 5 false)),
  (12395, some (.cells (u8s [1, 0, 14, 0, 5, 0, 0, 0, 64, 196, 222, 82, 1] ++ u8z 5 ++ u8s [4, 0, 0, 0, 255, 255, 255, 255] ++ u8z 38) 5 false)),
  (12423, some (.cells (u8z 64) 5 false)),
  (12451, some (.cells (u8z 64) 5 false)),
  (12479, some (.cells (u8z 64) 5 false)),
  (12480, some (.cells [.string ⟨#[115, 116, 111, 114, 101]⟩, .int .i64 (.ofNat 512), .slice (some ⟨11724, 0, none⟩) 64 64, .string ⟨#[115, 116, 111, 114, 101]⟩, .int .i64 (.ofNat 576), .slice (some ⟨11752, 0, none⟩) 64 64, .string ⟨#[115, 116, 111, 114, 101]⟩, .int .i64 (.ofNat 640), .slice (some ⟨11780, 0, none⟩) 64 64, .string ⟨#[115, 116, 111, 114, 101]⟩, .int .i64 (.ofNat 704), .slice (some ⟨11808, 0, none⟩) 64 64, .string ⟨#[115, 116, 111, 114, 101]⟩, .int .i64 (.ofNat 1280), .slice (some ⟨12395, 0, none⟩) 64 64, .string ⟨#[115, 116, 111, 114, 101]⟩, .int .i64 (.ofNat 1344), .slice (some ⟨12423, 0, none⟩) 64 64, .string ⟨#[115, 116, 111, 114, 101]⟩, .int .i64 (.ofNat 1408), .slice (some ⟨12451, 0, none⟩) 64 64, .string ⟨#[115, 116, 111, 114, 101]⟩, .int .i64 (.ofNat 1472), .slice (some ⟨12479, 0, none⟩) 64 64] 134 false))]⟩
theorem m23_123_ok : m23_123.ok (call evT evF k23_123 100000 m23_123.f m23_123.args m23_123.preH) = true := by kernel_rfl
theorem q23_123 : HkOk Tryz.prog (hkMemo m23_123) := hkMemo_ok evT_ok evF_ok k23_123_ok rfl m23_123_ok
noncomputable def k23_126 : Hk := orHk (hkMemo m23_125) (hkLib)
theorem k23_126_ok : HkOk Tryz.prog k23_126 := orHk_ok q23_125 (hkLib_ok)
noncomputable def m23_126 : Mm :=
  ⟨11, [.pointer (some ⟨2, 0, none⟩), .string ⟨#[115, 116, 111, 114, 101]⟩, .int .i64 (.ofNat 1536), .slice (some ⟨11658, 0, none⟩) 256 256], 12519, [(1, .map [⟨.string ⟨#[111, 114, 105, 103, 105, 110, 97, 108]⟩, .pointer (some ⟨32, 0, none⟩), 0⟩, ⟨.string ⟨#[115, 116, 111, 114, 101]⟩, .pointer (some ⟨412, 0, none⟩), 1⟩, ⟨.string ⟨#[116, 97, 105, 108]⟩, .pointer (some ⟨3148, 0, none⟩), 2⟩] 3),
  (2, .cells [.int .i64 (.ofNat 100000), .int .i64 (.ofNat 15), .int .i64 (.negSucc 14), .bool false, .bool false, .map (some 1), .slice (some ⟨12480, 0, none⟩) 8 8] 61 true),
  (32, .cells [.slice (some ⟨34, 0, none⟩) 3 3, .slice (some ⟨35, 0, none⟩) 3 3, .bool true] 130 true),
  (34, .cells (u8s [97, 98, 99]) 5 false),
  (35, .cells (u8s [97, 98, 99]) 5 false),
  (412, .cells [.slice (some ⟨12376, 0, none⟩) 1536 1536, .slice (some ⟨8424, 0, none⟩) 1280 1280, .bool true] 130 true),
  (3148, .cells [.slice (some ⟨3150, 0, none⟩) 1 1, .slice (some ⟨7165, 0, none⟩) 1 1, .bool true] 130 true),
  (3150, .cells (u8s [120]) 5 false),
  (7165, .cells (u8s [120]) 5 false),
  (11658, .cells (u8s [3, 0, 17, 0, 6, 0, 0, 0, 34, 46, 224, 217, 2, 2, 0, 0, 0, 3, 0, 0, 0, 5, 0, 0, 0, 4] ++ u8z 230) 5 false),
  (12376, .cells (u8s [111, 99, 116, 97, 118, 111, 48, 49, 2] ++ u8z 5 ++ u8s [4, 0, 0, 0, 1, 1, 0, 0, 0, 3] ++ u8z 36 ++ u8s [250, 212, 113, 102, 111, 99, 116, 97, 118, 111, 48, 49, 1] ++ u8z 5 ++ u8s [2] ++ u8z 8 ++ u8s [3] ++ u8z 36 ++ u8s [137, 155, 206, 78] ++ u8z 128 ++ u8s [1, 0, 14, 0, 1, 0, 0, 0, 194, 105, 111, 233, 1] ++ u8z 5 ++ u8s [3, 0, 0, 0, 255, 255, 255, 255] ++ u8z 230 ++ u8s [1, 0, 14, 0, 2, 0, 0, 0, 54, 213, 233, 1, 1, 0, 1, 0, 0, 0, 3, 0, 0, 0, 255, 255, 255, 255] ++ u8z 230 ++ u8s [1, 0, 27, 0, 3, 0, 0, 0, 50, 165, 25, 235, 2, 1] ++ u8z 4 ++ u8s [1] ++ u8z 12 ++ u8s [3, 0, 0, 0, 255, 255, 255, 255] ++ u8z 217 ++ u8s [3, 0, 17, 0, 4, 0, 0, 0, 199, 184, 67, 119, 2, 1, 0, 0, 0, 3, 0, 0, 0, 3, 0, 0, 0, 4] ++ u8z 230 ++ u8s [1, 0, 14, 0, 5, 0, 0, 0, 64, 196, 222, 82, 1] ++ u8z 5 ++ u8s [4, 0, 0, 0, 255, 255, 255, 255] ++ u8z 230) 5 false),
  (12480, .cells [.string ⟨#[115, 116, 111, 114, 101]⟩, .int .i64 (.ofNat 512), .slice (some ⟨11724, 0, none⟩) 64 64, .string ⟨#[115, 116, 111, 114, 101]⟩, .int .i64 (.ofNat 576), .slice (some ⟨11752, 0, none⟩) 64 64, .string ⟨#[115, 116, 111, 114, 101]⟩, .int .i64 (.ofNat 640), .slice (some ⟨11780, 0, none⟩) 64 64, .string ⟨#[115, 116, 111, 114, 101]⟩, .int .i64 (.ofNat 704), .slice (some ⟨11808, 0, none⟩) 64 64, .string ⟨#[115, 116, 111, 114, 101]⟩, .int .i64 (.ofNat 1280), .slice (some ⟨12395, 0, none⟩) 64 64, .string ⟨#[115, 116, 111, 114, 101]⟩, .int .i64 (.ofNat 1344), .slice (some ⟨12423, 0, none⟩) 64 64, .string ⟨#[115, 116, 111, 114, 101]⟩, .int .i64 (.ofNat 1408), .slice (some ⟨12451, 0, none⟩) 64 64, .string ⟨#[115, 116, 111, 114, 101]⟩, .int .i64 (.ofNat 1472), .slice (some ⟨12479, 0, none⟩) 64 64] 134 false)], .int .i64 (.ofNat 0), 13160, [(2, some (.cells [.int .i64 (.ofNat 100000), .int .i64 (.ofNat 16), .int .i64 (.negSucc 15), .bool false, .bool false, .map (some 1), .slice (some ⟨13151, 0, none⟩) 12 12] 61 true)),
  (412, some (.cells [.slice (some ⟨13047, 0, none⟩) 1792 1792, .slice (some ⟨8424, 0, none⟩) 1280 1280, .bool true] 130 true)),
  (12376, none),
  (12480, none),
  (13047, some (.cells (u8s [111, 99, 116, 97, 118, 111, 48, 49, 2] ++ u8z 5 ++ u8s [4, 0, 0, 0, 1, 1, 0, 0, 0, 3] ++ u8z 36 ++ u8s [250, 212, 113, 102, 111, 99, 116, 97, 118, 111, 48, 49, 1] ++ u8z 5 ++ u8s [2] ++ u8z 8 ++ u8s [3] ++ u8z 36 ++ u8s [137, 155, 206, 78] ++ u8z 128 ++ u8s [1, 0, 14, 0, 1, 0, 0, 0, 194, 105, 111, 233, 1] ++ u8z 5 ++ u8s [3, 0, 0, 0, 255, 255, 255, 255] ++ u8z 230 ++ u8s [1, 0, 14, 0, 2, 0, 0, 0, 54, 213, 233, 1, 1, 0, 1, 0, 0, 0, 3, 0, 0, 0, 255, 255, 255, 255] ++ u8z 230 ++ u8s [1, 0, 27, 0, 3, 0, 0, 0, 50, 165, 25, 235, 2, 1] ++ u8z 4 ++ u8s [1] ++ u8z 12 ++ u8s [3, 0, 0, 0, 255, 255, 255, 255] ++ u8z 217 ++ u8s [3, 0, 17, 0, 4, 0, 0, 0, 199, 184, 67, 119, 2, 1, 0, 0, 0, 3, 0, 0, 0, 3, 0, 0, 0, 4] ++ u8z 230 ++ u8s [1, 0, 14, 0, 5, 0, 0, 0, 64, 196, 222, 82, 1] ++ u8z 5 ++ u8s [4, 0, 0, 0, 255, 255, 255, 255] ++ u8z 230 ++ u8s [3, 0, 17, 0, 6, 0, 0, 0, 34, 46, 224, 217, 2, 2, 0, 0, 0, 3, 0, 0, 0, 5, 0, 0, 0, 4] ++ u8z 230) 5 false)),
  (13066, some (.cells (u8s [3, 0, 17, 0, 6, 0, 0, 0, 34, 46, 224, 217, 2, 2, 0, 0, 0, 3, 0, 0, 0, 5, 0, 0, 0, 4] ++ u8z 38) 5 false)),
  (13094, some (.cells (u8z 64) 5 false)),
  (13122, some (.cells (u8z 64) 5 false)),
  (13150, some (.cells (u8z 64) 5 false)),
  (13151, some (.cells [.string ⟨#[115, 116, 111, 114, 101]⟩, .int .i64 (.ofNat 512), .slice (some ⟨11724, 0, none⟩) 64 64, .string ⟨#[115, 116, 111, 114, 101]⟩, .int .i64 (.ofNat 576), .slice (some ⟨11752, 0, none⟩) 64 64, .string ⟨#[115, 116, 111, 114, 101]⟩, .int .i64 (.ofNat 640), .slice (some ⟨11780, 0, none⟩) 64 64, .string ⟨#[115, 116, 111, 114, 101]⟩, .int .i64 (.ofNat 704), .slice (some ⟨11808, 0, none⟩) 64 64, .string ⟨#[115, 116, 111, 114, 101]⟩, .int .i64 (.ofNat 1280), .slice (some ⟨12395, 0, none⟩) 64 64, .string ⟨#[115, 116, 111, 114, 101]⟩, .int .i64 (.ofNat 1344), .slice (some ⟨12423, 0, none⟩) 64 64, .string ⟨#[115, 116, 111, 114, 101]⟩, .int .i64 (.ofNat 1408), .slice (some ⟨12451, 0, none⟩) 64 64, .string ⟨#[115, 116, 111, 114, 101]⟩, .int .i64 (.ofNat 1472), .slice (some ⟨12479, 0, none⟩) 64 64, .string ⟨#[115, 116, 111, 114, 101]⟩, .int .i64 (.ofNat 1536), .slice (some ⟨13066, 0, none⟩) 64 64, .string ⟨#[115, 116, 111, 114, 101]⟩, .int .i64 (.ofNat 1600), .slice (some ⟨13094, 0, none⟩) 64 64, .string ⟨#[115, 116, 111, 114, 101]⟩, .int .i64 (.ofNat 1664), .slice (some ⟨13122, 0, none⟩) 64 64, .string ⟨#[115, 116, 111, 114, 101]⟩, .int .i64 (.ofNat 1728), .slice (some ⟨13150, 0, none⟩) 64 64] 134 false))]⟩
theorem m23_126_ok : m23_126.ok (call evT evF k23_126 100000 m23_126.f m23_126.args m23_126.preH) = true := by kernel_rfl
theorem q23_126 : HkOk Tryz.prog (hkMemo m23_126) := hkMemo_ok evT_ok evF_ok k23_126_ok rfl m23_126_ok
noncomputable def k23_132 : Hk := orHk (hkMemo m23_131) (hkLib)
theorem k23_132_ok : HkOk Tryz.prog k23_132 := orHk_ok q23_131 (hkLib_ok)
noncomputable def m23_132 : Mm :=
  ⟨252, [.agg #[.int .i64 (.ofNat 4), .slice none 0 0, .slice (some ⟨11530, 0, none⟩) 1 1], .int .i64 (.ofNat 3), .int .i64 (.ofNat 1)], 13324, [(11385, .cells [.int .i64 (.ofNat 0), .slice (some ⟨11519, 0, none⟩) 2 2] 175 false),
  (11519, .cells [.int .i64 (.ofNat 1), .int .i64 (.ofNat 0), .int .i64 (.ofNat 1), .int .i64 (.ofNat 0), .int .i64 (.ofNat 0), .int .i64 (.ofNat 3)] 145 false),
  (11530, .cells [.complex .f32 11386 1] 173 false)], .int .i64 (.ofNat 0), 13457, []⟩
theorem m23_132_ok : m23_132.ok (call evT evF k23_132 100000 m23_132.f m23_132.args m23_132.preH) = true := by kernel_rfl
theorem q23_132 : HkOk Tryz.prog (hkMemo m23_132) := hkMemo_ok evT_ok evF_ok k23_132_ok rfl m23_132_ok
noncomputable def k23_136 : Hk := orHk (hkMemo m23_135) (hkLib)
theorem k23_136_ok : HkOk Tryz.prog k23_136 := orHk_ok q23_135 (hkLib_ok)
noncomputable def m23_136 : Mm :=
  ⟨11, [.pointer (some ⟨2, 0, none⟩), .string ⟨#[106, 111, 117, 114, 110, 97, 108]⟩, .int .i64 (.ofNat 0), .slice (some ⟨13558, 0, none⟩) 256 256], 13559, [(1, .map [⟨.string ⟨#[111, 114, 105, 103, 105, 110, 97, 108]⟩, .pointer (some ⟨32, 0, none⟩), 0⟩, ⟨.string ⟨#[115, 116, 111, 114, 101]⟩, .pointer (some ⟨412, 0, none⟩), 1⟩, ⟨.string ⟨#[116, 97, 105, 108]⟩, .pointer (some ⟨3148, 0, none⟩), 2⟩] 3),
  (2, .cells [.int .i64 (.ofNat 100000), .int .i64 (.ofNat 20), .int .i64 (.negSucc 19), .bool false, .bool false, .map (some 1), .slice none 0 0] 61 true),
  (32, .cells [.slice (some ⟨13245, 0, none⟩) 4 4, .slice (some ⟨13275, 0, none⟩) 4 4, .bool true] 130 true),
  (412, .cells [.slice (some ⟨13047, 0, none⟩) 1792 1792, .slice (some ⟨13171, 0, none⟩) 1792 1792, .bool true] 130 true),
  (3148, .cells [.slice (some ⟨3150, 0, none⟩) 1 1, .slice (some ⟨13185, 0, none⟩) 1 1, .bool true] 130 true),
  (3150, .cells (u8s [120]) 5 false),
  (13185, .cells (u8s [120]) 5 false),
  (13245, .cells (u8s [97, 98, 99, 0]) 5 false),
  (13275, .cells (u8s [97, 98, 99, 0]) 5 false),
  (13558, .cells (u8z 64 ++ u8s [3, 0, 0, 0, 111, 99, 116, 97, 118, 111, 48, 49, 3] ++ u8z 5 ++ u8s [6, 0, 0, 0, 1, 1, 0, 0, 0, 4] ++ u8z 36 ++ u8s [14, 118, 28, 196, 4] ++ u8z 7 ++ u8s [1, 0, 0, 0, 1] ++ u8z 4 ++ u8s [2, 1] ++ u8z 4 ++ u8s [1] ++ u8z 5 ++ u8s [3] ++ u8z 94) 5 false)], .int .i64 (.ofNat 0), 14201, [(1, some (.map [⟨.string ⟨#[111, 114, 105, 103, 105, 110, 97, 108]⟩, .pointer (some ⟨32, 0, none⟩), 0⟩, ⟨.string ⟨#[115, 116, 111, 114, 101]⟩, .pointer (some ⟨412, 0, none⟩), 1⟩, ⟨.string ⟨#[116, 97, 105, 108]⟩, .pointer (some ⟨3148, 0, none⟩), 2⟩, ⟨.string ⟨#[106, 111, 117, 114, 110, 97, 108]⟩, .pointer (some ⟨13576, 0, none⟩), 3⟩] 4)),
  (2, some (.cells [.int .i64 (.ofNat 100000), .int .i64 (.ofNat 21), .int .i64 (.negSucc 20), .bool false, .bool false, .map (some 1), .slice (some ⟨14192, 0, none⟩) 4 4] 61 true)),
  (13576, some (.cells [.slice (some ⟨14088, 0, none⟩) 256 256, .slice none 0 0, .bool false] 130 true)),
  (14088, some (.cells (u8z 64 ++ u8s [3, 0, 0, 0, 111, 99, 116, 97, 118, 111, 48, 49, 3] ++ u8z 5 ++ u8s [6, 0, 0, 0, 1, 1, 0, 0, 0, 4] ++ u8z 36 ++ u8s [14, 118, 28, 196, 4] ++ u8z 7 ++ u8s [1, 0, 0, 0, 1] ++ u8z 4 ++ u8s [2, 1] ++ u8z 4 ++ u8s [1] ++ u8z 5 ++ u8s [3] ++ u8z 94) 5 false)),
  (14107, some (.cells (u8z 64) 5 false)),
  (14135, some (.cells (u8s [3, 0, 0, 0, 111, 99, 116, 97, 118, 111, 48, 49, 3] ++ u8z 5 ++ u8s [6, 0, 0, 0, 1, 1, 0, 0, 0, 4] ++ u8z 36) 5 false)),
  (14163, some (.cells (u8s [14, 118, 28, 196, 4] ++ u8z 7 ++ u8s [1, 0, 0, 0, 1] ++ u8z 4 ++ u8s [2, 1] ++ u8z 4 ++ u8s [1] ++ u8z 5 ++ u8s [3] ++ u8z 30) 5 false)),
  (14191, some (.cells (u8z 64) 5 false)),
  (14192, some (.cells [.string ⟨#[106, 111, 117, 114, 110, 97, 108]⟩, .int .i64 (.ofNat 0), .slice (some ⟨14107, 0, none⟩) 64 64, .string ⟨#[106, 111, 117, 114, 110, 97, 108]⟩, .int .i64 (.ofNat 64), .slice (some ⟨14135, 0, none⟩) 64 64, .string ⟨#[106, 111, 117, 114, 110, 97, 108]⟩, .int .i64 (.ofNat 128), .slice (some ⟨14163, 0, none⟩) 64 64, .string ⟨#[106, 111, 117, 114, 110, 97, 108]⟩, .int .i64 (.ofNat 192), .slice (some ⟨14191, 0, none⟩) 64 64] 134 false))]⟩
theorem m23_136_ok : m23_136.ok (call evT evF k23_136 100000 m23_136.f m23_136.args m23_136.preH) = true := by kernel_rfl
theorem q23_136 : HkOk Tryz.prog (hkMemo m23_136) := hkMemo_ok evT_ok evF_ok k23_136_ok rfl m23_136_ok
noncomputable def k23_141 : Hk := orHk (hkMemo m23_139) (orHk (hkMemo m23_140) (hkLib))
theorem k23_141_ok : HkOk Tryz.prog k23_141 := orHk_ok q23_139 (orHk_ok q23_140 (hkLib_ok))
noncomputable def m23_141 : Mm :=
  ⟨61, [.pointer (some ⟨8521, 0, none⟩), .int .i64 (.ofNat 0), .bool false], 14208, [(1, .map [⟨.string ⟨#[111, 114, 105, 103, 105, 110, 97, 108]⟩, .pointer (some ⟨32, 0, none⟩), 0⟩, ⟨.string ⟨#[115, 116, 111, 114, 101]⟩, .pointer (some ⟨412, 0, none⟩), 1⟩, ⟨.string ⟨#[116, 97, 105, 108]⟩, .pointer (some ⟨3148, 0, none⟩), 2⟩, ⟨.string ⟨#[106, 111, 117, 114, 110, 97, 108]⟩, .pointer (some ⟨13576, 0, none⟩), 3⟩] 4),
  (2, .cells [.int .i64 (.ofNat 100000), .int .i64 (.ofNat 22), .int .i64 (.negSucc 21), .bool false, .bool false, .map (some 1), .slice none 0 0] 61 true),
  (32, .cells [.slice (some ⟨13245, 0, none⟩) 4 4, .slice (some ⟨13275, 0, none⟩) 4 4, .bool true] 130 true),
  (37, .map [⟨.int .i64 (.ofNat 1), .pointer (some ⟨214, 0, none⟩), 0⟩, ⟨.int .i64 (.ofNat 3), .pointer (some ⟨4945, 0, none⟩), 2⟩, ⟨.int .i64 (.ofNat 2), .pointer (some ⟨10682, 0, none⟩), 4⟩, ⟨.int .i64 (.ofNat 5), .pointer (some ⟨11121, 0, none⟩), 5⟩, ⟨.int .i64 (.ofNat 6), .pointer (some ⟨11632, 0, none⟩), 6⟩] 7),
  (38, .cells [.int .i64 (.ofNat 5), .int .i64 (.ofNat 0), .int .i64 (.ofNat 0), .bool false, .pointer (some ⟨11632, 0, none⟩), .pointer (some ⟨214, 0, none⟩), .map (some 37)] 357 true),
  (55, .map [⟨.int .i64 (.ofNat 1), .slice (some ⟨240, 0, none⟩) 256 256, 0⟩, ⟨.int .i64 (.ofNat 3), .slice (some ⟨4971, 0, none⟩) 256 256, 2⟩, ⟨.int .i64 (.ofNat 2), .slice (some ⟨10708, 0, none⟩) 256 256, 4⟩, ⟨.int .i64 (.ofNat 5), .slice (some ⟨11147, 0, none⟩) 256 256, 5⟩, ⟨.int .i64 (.ofNat 6), .slice (some ⟨11658, 0, none⟩) 256 256, 6⟩] 7),
  (56, .cells [.pointer (some ⟨38, 0, none⟩), .pointer (some ⟨2, 0, none⟩), .string ⟨#[115, 116, 111, 114, 101]⟩, .int .i64 (.ofNat 5), .map (some 55), .int .i64 (.ofNat 0)] 249 true),
  (57, .map [⟨.int .i64 (.ofNat 4), .bool true, 6⟩, ⟨.int .i64 (.ofNat 1), .bool true, 7⟩, ⟨.int .i64 (.ofNat 3), .bool true, 8⟩, ⟨.int .i64 (.ofNat 2), .bool true, 9⟩, ⟨.int .i64 (.ofNat 5), .bool true, 10⟩, ⟨.int .i64 (.ofNat 6), .bool true, 11⟩] 12),
  (58, .map [] 0),
  (59, .cells [.int .i64 (.ofNat 1), .map (some 57), .map (some 58), .slice (some ⟨11577, 0, none⟩) 3 3] 214 true),
  (60, .cells [.pointer (some ⟨56, 0, none⟩), .pointer (some ⟨59, 0, none⟩)] 257 true),
  (72, .cells [.pointer (some ⟨2, 0, none⟩), .int .i64 (.ofNat 1)] 216 true),
  (214, .cells [.int .i64 (.ofNat 1), .int .i64 (.ofNat 0), .bool false, .pointer (some ⟨38, 1, none⟩), .pointer (some ⟨4945, 0, none⟩)] 351 true),
  (412, .cells [.slice (some ⟨13047, 0, none⟩) 1792 1792, .slice (some ⟨13171, 0, none⟩) 1792 1792, .bool true] 130 true),
  (3005, .map [] 0),
  (3006, .cells [.pointer (some ⟨2, 0, none⟩), .string ⟨#[111, 114, 105, 103, 105, 110, 97, 108]⟩, .int .i64 (.ofNat 3), .int .i64 (.ofNat 0), .map (some 3005)] 372 true),
  (3026, .cells [.pointer (some ⟨60, 0, none⟩), .pointer (some ⟨3006, 0, none⟩), .pointer (some ⟨72, 0, none⟩)] 233 true),
  (3148, .cells [.slice (some ⟨3150, 0, none⟩) 1 1, .slice (some ⟨13185, 0, none⟩) 1 1, .bool true] 130 true),
  (3150, .cells (u8s [120]) 5 false),
  (4945, .cells [.int .i64 (.ofNat 3), .int .i64 (.ofNat 0), .bool false, .pointer (some ⟨214, 0, none⟩), .pointer (some ⟨10682, 0, none⟩)] 351 true),
  (8295, .cells [.int .i64 (.ofNat 1), .int .i64 (.ofNat 3)] 3 false),
  (8437, .cells [.int .i64 (.ofNat 1), .int .i64 (.ofNat 3), .int .i64 (.ofNat 3), .int .i64 (.ofNat 4)] 119 false),
  (8521, .cells [.pointer (some ⟨2, 0, none⟩), .int .i64 (.ofNat 3), .int .i64 (.ofNat 3), .int .i64 (.ofNat 6), .int .i64 (.ofNat 1), .int .i64 (.ofNat 1), .int .i64 (.ofNat 4), .int .i64 (.ofNat 4), .slice none 0 0, .slice (some ⟨11530, 0, none⟩) 1 1, .slice none 0 0, .int .i64 (.ofNat 98), .int .u32 (.ofNat 4247761631), .pointer (some ⟨62, 0, none⟩), .slice (some ⟨10269, 0, none⟩) 2 2, .slice (some ⟨9648, 0, none⟩) 2 2, .slice (some ⟨11185, 0, none⟩) 2 2, .int .i64 (.ofNat 0), .int .i64 (.ofNat 1)] 116 true),
  (9026, .cells [.int .i64 (.ofNat 0), .int .i64 (.ofNat 0), .int .i64 (.ofNat 3)] 145 false),
  (9647, .cells [.int .i64 (.ofNat 1), .int .i64 (.ofNat 0), .int .i64 (.ofNat 1), .int .i64 (.ofNat 0), .int .i64 (.ofNat 0), .int .i64 (.ofNat 3)] 145 false),
  (9648, .cells [.slice (some ⟨9026, 0, none⟩) 1 1, .slice (some ⟨9647, 0, none⟩) 2 2] 113 false),
  (10269, .cells [.int .i64 (.ofNat 1), .int .i64 (.ofNat 0), .int .i64 (.ofNat 1), .int .i64 (.ofNat 0), .int .i64 (.ofNat 0), .int .i64 (.ofNat 3)] 145 false),
  (10682, .cells [.int .i64 (.ofNat 2), .int .i64 (.ofNat 0), .bool false, .pointer (some ⟨4945, 0, none⟩), .pointer (some ⟨11121, 0, none⟩)] 351 true),
  (11121, .cells [.int .i64 (.ofNat 5), .int .i64 (.ofNat 0), .bool false, .pointer (some ⟨10682, 0, none⟩), .pointer (some ⟨11632, 0, none⟩)] 351 true),
  (11185, .cells [.int .i64 (.ofNat 2), .int .i64 (.ofNat 3), .int .i64 (.ofNat 5), .int .i64 (.ofNat 4)] 119 false),
  (11385, .cells [.int .i64 (.ofNat 0), .slice (some ⟨11519, 0, none⟩) 2 2] 175 false),
  (11519, .cells [.int .i64 (.ofNat 1), .int .i64 (.ofNat 0), .int .i64 (.ofNat 1), .int .i64 (.ofNat 0), .int .i64 (.ofNat 0), .int .i64 (.ofNat 3)] 145 false),
  (11530, .cells [.complex .f32 11386 1] 173 false),
  (11577, .cells [.int .i64 (.ofNat 2), .int .i64 (.ofNat 5), .int .i64 (.ofNat 6)] 3 false),
  (11632, .cells [.int .i64 (.ofNat 6), .int .i64 (.ofNat 0), .bool false, .pointer (some ⟨11121, 0, none⟩), .pointer (some ⟨38, 1, none⟩)] 351 true),
  (13185, .cells (u8s [120]) 5 false),
  (13245, .cells (u8s [97, 98, 99, 0]) 5 false),
  (13275, .cells (u8s [97, 98, 99, 0]) 5 false),
  (13576, .cells [.slice (some ⟨14088, 0, none⟩) 256 256, .slice (some ⟨14202, 0, none⟩) 256 256, .bool true] 130 true),
  (14088, .cells (u8z 64 ++ u8s [3, 0, 0, 0, 111, 99, 116, 97, 118, 111, 48, 49, 3] ++ u8z 5 ++ u8s [6, 0, 0, 0, 1, 1, 0, 0, 0, 4] ++ u8z 36 ++ u8s [14, 118, 28, 196, 4] ++ u8z 7 ++ u8s [1, 0, 0, 0, 1] ++ u8z 4 ++ u8s [2, 1] ++ u8z 4 ++ u8s [1] ++ u8z 5 ++ u8s [3] ++ u8z 94) 5 false)], .tuple #[], 14303, [(2, some (.cells [.int .i64 (.ofNat 100000), .int .i64 (.ofNat 24), .int .i64 (.negSucc 23), .bool false, .bool false, .map (some 1), .slice none 0 0] 61 true)),
  (13576, some (.cells [.slice (some ⟨14088, 0, none⟩) 256 256, .slice (some ⟨14301, 0, none⟩) 256 256, .bool true] 130 true)),
  (14088, some (.cells (u8s [111, 99, 116, 97, 118, 111, 45, 106] ++ u8z 5 ++ u8s [98, 0, 0, 0, 223, 178, 47, 253] ++ u8z 39 ++ u8s [138, 247, 168, 249, 3, 0, 0, 0, 111, 99, 116, 97, 118, 111, 48, 49, 3] ++ u8z 5 ++ u8s [6, 0, 0, 0, 1, 1, 0, 0, 0, 4] ++ u8z 36 ++ u8s [14, 118, 28, 196, 4] ++ u8z 7 ++ u8s [1, 0, 0, 0, 1] ++ u8z 4 ++ u8s [2, 1] ++ u8z 4 ++ u8s [1] ++ u8z 5 ++ u8s [3] ++ u8z 94) 5 false)),
  (14301, some (.cells (u8s [111, 99, 116, 97, 118, 111, 45, 106] ++ u8z 5 ++ u8s [98, 0, 0, 0, 223, 178, 47, 253] ++ u8z 39 ++ u8s [138, 247, 168, 249, 3, 0, 0, 0, 111, 99, 116, 97, 118, 111, 48, 49, 3] ++ u8z 5 ++ u8s [6, 0, 0, 0, 1, 1, 0, 0, 0, 4] ++ u8z 36 ++ u8s [14, 118, 28, 196, 4] ++ u8z 7 ++ u8s [1, 0, 0, 0, 1] ++ u8z 4 ++ u8s [2, 1] ++ u8z 4 ++ u8s [1] ++ u8z 5 ++ u8s [3] ++ u8z 94) 5 false))]⟩
theorem m23_141_ok : m23_141.ok (call evT evF k23_141 100000 m23_141.f m23_141.args m23_141.preH) = true := by kernel_rfl
theorem q23_141 : HkOk Tryz.prog (hkMemo m23_141) := hkMemo_ok evT_ok evF_ok k23_141_ok rfl m23_141_ok
noncomputable def k23_146 : Hk := orHk (hkMemo m23_144) (orHk (hkMemo m23_145) (hkLib))
theorem k23_146_ok : HkOk Tryz.prog k23_146 := orHk_ok q23_144 (orHk_ok q23_145 (hkLib_ok))
noncomputable def m23_146 : Mm :=
  ⟨61, [.pointer (some ⟨8521, 0, none⟩), .int .i64 (.ofNat 0), .bool true], 14400, [(1, .map [⟨.string ⟨#[111, 114, 105, 103, 105, 110, 97, 108]⟩, .pointer (some ⟨32, 0, none⟩), 0⟩, ⟨.string ⟨#[115, 116, 111, 114, 101]⟩, .pointer (some ⟨412, 0, none⟩), 1⟩, ⟨.string ⟨#[116, 97, 105, 108]⟩, .pointer (some ⟨3148, 0, none⟩), 2⟩, ⟨.string ⟨#[106, 111, 117, 114, 110, 97, 108]⟩, .pointer (some ⟨13576, 0, none⟩), 3⟩] 4),
  (2, .cells [.int .i64 (.ofNat 100000), .int .i64 (.ofNat 26), .int .i64 (.negSucc 25), .bool false, .bool false, .map (some 1), .slice none 0 0] 61 true),
  (32, .cells [.slice (some ⟨13245, 0, none⟩) 4 4, .slice (some ⟨13275, 0, none⟩) 4 4, .bool true] 130 true),
  (37, .map [⟨.int .i64 (.ofNat 1), .pointer (some ⟨214, 0, none⟩), 0⟩, ⟨.int .i64 (.ofNat 3), .pointer (some ⟨4945, 0, none⟩), 2⟩, ⟨.int .i64 (.ofNat 2), .pointer (some ⟨10682, 0, none⟩), 4⟩, ⟨.int .i64 (.ofNat 5), .pointer (some ⟨11121, 0, none⟩), 5⟩, ⟨.int .i64 (.ofNat 6), .pointer (some ⟨11632, 0, none⟩), 6⟩] 7),
  (38, .cells [.int .i64 (.ofNat 5), .int .i64 (.ofNat 0), .int .i64 (.ofNat 0), .bool false, .pointer (some ⟨11632, 0, none⟩), .pointer (some ⟨214, 0, none⟩), .map (some 37)] 357 true),
  (55, .map [⟨.int .i64 (.ofNat 1), .slice (some ⟨240, 0, none⟩) 256 256, 0⟩, ⟨.int .i64 (.ofNat 3), .slice (some ⟨4971, 0, none⟩) 256 256, 2⟩, ⟨.int .i64 (.ofNat 2), .slice (some ⟨10708, 0, none⟩) 256 256, 4⟩, ⟨.int .i64 (.ofNat 5), .slice (some ⟨11147, 0, none⟩) 256 256, 5⟩, ⟨.int .i64 (.ofNat 6), .slice (some ⟨11658, 0, none⟩) 256 256, 6⟩] 7),
  (56, .cells [.pointer (some ⟨38, 0, none⟩), .pointer (some ⟨2, 0, none⟩), .string ⟨#[115, 116, 111, 114, 101]⟩, .int .i64 (.ofNat 5), .map (some 55), .int .i64 (.ofNat 0)] 249 true),
  (57, .map [⟨.int .i64 (.ofNat 4), .bool true, 6⟩, ⟨.int .i64 (.ofNat 1), .bool true, 7⟩, ⟨.int .i64 (.ofNat 3), .bool true, 8⟩, ⟨.int .i64 (.ofNat 2), .bool true, 9⟩, ⟨.int .i64 (.ofNat 5), .bool true, 10⟩, ⟨.int .i64 (.ofNat 6), .bool true, 11⟩] 12),
  (58, .map [] 0),
  (59, .cells [.int .i64 (.ofNat 1), .map (some 57), .map (some 58), .slice (some ⟨11577, 0, none⟩) 3 3] 214 true),
  (60, .cells [.pointer (some ⟨56, 0, none⟩), .pointer (some ⟨59, 0, none⟩)] 257 true),
  (72, .cells [.pointer (some ⟨2, 0, none⟩), .int .i64 (.ofNat 1)] 216 true),
  (214, .cells [.int .i64 (.ofNat 1), .int .i64 (.ofNat 0), .bool false, .pointer (some ⟨38, 1, none⟩), .pointer (some ⟨4945, 0, none⟩)] 351 true),
  (412, .cells [.slice (some ⟨13047, 0, none⟩) 1792 1792, .slice (some ⟨13171, 0, none⟩) 1792 1792, .bool true] 130 true),
  (3005, .map [] 0),
  (3006, .cells [.pointer (some ⟨2, 0, none⟩), .string ⟨#[111, 114, 105, 103, 105, 110, 97, 108]⟩, .int .i64 (.ofNat 3), .int .i64 (.ofNat 0), .map (some 3005)] 372 true),
  (3026, .cells [.pointer (some ⟨60, 0, none⟩), .pointer (some ⟨3006, 0, none⟩), .pointer (some ⟨72, 0, none⟩)] 233 true),
  (3148, .cells [.slice (some ⟨3150, 0, none⟩) 1 1, .slice (some ⟨13185, 0, none⟩) 1 1, .bool true] 130 true),
  (3150, .cells (u8s [120]) 5 false),
  (4945, .cells [.int .i64 (.ofNat 3), .int .i64 (.ofNat 0), .bool false, .pointer (some ⟨214, 0, none⟩), .pointer (some ⟨10682, 0, none⟩)] 351 true),
  (8295, .cells [.int .i64 (.ofNat 1), .int .i64 (.ofNat 3)] 3 false),
  (8437, .cells [.int .i64 (.ofNat 1), .int .i64 (.ofNat 3), .int .i64 (.ofNat 3), .int .i64 (.ofNat 4)] 119 false),
  (8521, .cells [.pointer (some ⟨2, 0, none⟩), .int .i64 (.ofNat 3), .int .i64 (.ofNat 3), .int .i64 (.ofNat 6), .int .i64 (.ofNat 1), .int .i64 (.ofNat 1), .int .i64 (.ofNat 4), .int .i64 (.ofNat 4), .slice none 0 0, .slice (some ⟨11530, 0, none⟩) 1 1, .slice none 0 0, .int .i64 (.ofNat 98), .int .u32 (.ofNat 4247761631), .pointer (some ⟨62, 0, none⟩), .slice (some ⟨10269, 0, none⟩) 2 2, .slice (some ⟨9648, 0, none⟩) 2 2, .slice (some ⟨11185, 0, none⟩) 2 2, .int .i64 (.ofNat 0), .int .i64 (.ofNat 1)] 116 true),
  (9026, .cells [.int .i64 (.ofNat 0), .int .i64 (.ofNat 0), .int .i64 (.ofNat 3)] 145 false),
  (9647, .cells [.int .i64 (.ofNat 1), .int .i64 (.ofNat 0), .int .i64 (.ofNat 1), .int .i64 (.ofNat 0), .int .i64 (.ofNat 0), .int .i64 (.ofNat 3)] 145 false),
  (9648, .cells [.slice (some ⟨9026, 0, none⟩) 1 1, .slice (some ⟨9647, 0, none⟩) 2 2] 113 false),
  (10269, .cells [.int .i64 (.ofNat 1), .int .i64 (.ofNat 0), .int .i64 (.ofNat 1), .int .i64 (.ofNat 0), .int .i64 (.ofNat 0), .int .i64 (.ofNat 3)] 145 false),
  (10682, .cells [.int .i64 (.ofNat 2), .int .i64 (.ofNat 0), .bool false, .pointer (some ⟨4945, 0, none⟩), .pointer (some ⟨11121, 0, none⟩)] 351 true),
  (11121, .cells [.int .i64 (.ofNat 5), .int .i64 (.ofNat 0), .bool false, .pointer (some ⟨10682, 0, none⟩), .pointer (some ⟨11632, 0, none⟩)] 351 true),
  (11185, .cells [.int .i64 (.ofNat 2), .int .i64 (.ofNat 3), .int .i64 (.ofNat 5), .int .i64 (.ofNat 4)] 119 false),
  (11385, .cells [.int .i64 (.ofNat 0), .slice (some ⟨11519, 0, none⟩) 2 2] 175 false),
  (11519, .cells [.int .i64 (.ofNat 1), .int .i64 (.ofNat 0), .int .i64 (.ofNat 1), .int .i64 (.ofNat 0), .int .i64 (.ofNat 0), .int .i64 (.ofNat 3)] 145 false),
  (11530, .cells [.complex .f32 11386 1] 173 false),
  (11577, .cells [.int .i64 (.ofNat 2), .int .i64 (.ofNat 5), .int .i64 (.ofNat 6)] 3 false),
  (11632, .cells [.int .i64 (.ofNat 6), .int .i64 (.ofNat 0), .bool false, .pointer (some ⟨11121, 0, none⟩), .pointer (some ⟨38, 1, none⟩)] 351 true),
  (13185, .cells (u8s [120]) 5 false),
  (13245, .cells (u8s [97, 98, 99, 0]) 5 false),
  (13275, .cells (u8s [97, 98, 99, 0]) 5 false),
  (13576, .cells [.slice (some ⟨14088, 0, none⟩) 256 256, .slice (some ⟨14398, 0, none⟩) 256 256, .bool true] 130 true),
  (14088, .cells (u8s [111, 99, 116, 97, 118, 111, 45, 106] ++ u8z 5 ++ u8s [98, 0, 0, 0, 223, 178, 47, 253] ++ u8z 39 ++ u8s [138, 247, 168, 249, 3, 0, 0, 0, 111, 99, 116, 97, 118, 111, 48, 49, 3] ++ u8z 5 ++ u8s [6, 0, 0, 0, 1, 1, 0, 0, 0, 4] ++ u8z 36 ++ u8s [14, 118, 28, 196, 4] ++ u8z 7 ++ u8s [1, 0, 0, 0, 1] ++ u8z 4 ++ u8s [2, 1] ++ u8z 4 ++ u8s [1] ++ u8z 5 ++ u8s [3] ++ u8z 30 ++ u8s [120, 97, 98, 99] ++ u8z 60) 5 false)], .tuple #[], 14495, [(2, some (.cells [.int .i64 (.ofNat 100000), .int .i64 (.ofNat 28), .int .i64 (.negSucc 27), .bool false, .bool false, .map (some 1), .slice none 0 0] 61 true)),
  (13576, some (.cells [.slice (some ⟨14088, 0, none⟩) 256 256, .slice (some ⟨14493, 0, none⟩) 256 256, .bool true] 130 true)),
  (14088, some (.cells (u8s [111, 99, 116, 97, 118, 111, 45, 106] ++ u8z 4 ++ u8s [1, 98, 0, 0, 0, 223, 178, 47, 253] ++ u8z 39 ++ u8s [86, 27, 25, 196, 3, 0, 0, 0, 111, 99, 116, 97, 118, 111, 48, 49, 3] ++ u8z 5 ++ u8s [6, 0, 0, 0, 1, 1, 0, 0, 0, 4] ++ u8z 36 ++ u8s [14, 118, 28, 196, 4] ++ u8z 7 ++ u8s [1, 0, 0, 0, 1] ++ u8z 4 ++ u8s [2, 1] ++ u8z 4 ++ u8s [1] ++ u8z 5 ++ u8s [3] ++ u8z 30 ++ u8s [120, 97, 98, 99] ++ u8z 60) 5 false)),
  (14493, some (.cells (u8s [111, 99, 116, 97, 118, 111, 45, 106] ++ u8z 4 ++ u8s [1, 98, 0, 0, 0, 223, 178, 47, 253] ++ u8z 39 ++ u8s [86, 27, 25, 196, 3, 0, 0, 0, 111, 99, 116, 97, 118, 111, 48, 49, 3] ++ u8z 5 ++ u8s [6, 0, 0, 0, 1, 1, 0, 0, 0, 4] ++ u8z 36 ++ u8s [14, 118, 28, 196, 4] ++ u8z 7 ++ u8s [1, 0, 0, 0, 1] ++ u8z 4 ++ u8s [2, 1] ++ u8z 4 ++ u8s [1] ++ u8z 5 ++ u8s [3] ++ u8z 30 ++ u8s [120, 97, 98, 99] ++ u8z 60) 5 false))]⟩
theorem m23_146_ok : m23_146.ok (call evT evF k23_146 100000 m23_146.f m23_146.args m23_146.preH) = true := by kernel_rfl
theorem q23_146 : HkOk Tryz.prog (hkMemo m23_146) := hkMemo_ok evT_ok evF_ok k23_146_ok rfl m23_146_ok
noncomputable def k23_148 : Hk := orHk (hkMemo m23_147) (hkLib)
theorem k23_148_ok : HkOk Tryz.prog k23_148 := orHk_ok q23_147 (hkLib_ok)
noncomputable def m23_148 : Mm :=
  ⟨111, [.pointer (some ⟨8521, 0, none⟩), .complex .f32 11386 1], 14495, [(1, .map [⟨.string ⟨#[111, 114, 105, 103, 105, 110, 97, 108]⟩, .pointer (some ⟨32, 0, none⟩), 0⟩, ⟨.string ⟨#[115, 116, 111, 114, 101]⟩, .pointer (some ⟨412, 0, none⟩), 1⟩, ⟨.string ⟨#[116, 97, 105, 108]⟩, .pointer (some ⟨3148, 0, none⟩), 2⟩, ⟨.string ⟨#[106, 111, 117, 114, 110, 97, 108]⟩, .pointer (some ⟨13576, 0, none⟩), 3⟩] 4),
  (2, .cells [.int .i64 (.ofNat 100000), .int .i64 (.ofNat 28), .int .i64 (.negSucc 27), .bool false, .bool false, .map (some 1), .slice none 0 0] 61 true),
  (32, .cells [.slice (some ⟨13245, 0, none⟩) 4 4, .slice (some ⟨13275, 0, none⟩) 4 4, .bool true] 130 true),
  (37, .map [⟨.int .i64 (.ofNat 1), .pointer (some ⟨214, 0, none⟩), 0⟩, ⟨.int .i64 (.ofNat 3), .pointer (some ⟨4945, 0, none⟩), 2⟩, ⟨.int .i64 (.ofNat 2), .pointer (some ⟨10682, 0, none⟩), 4⟩, ⟨.int .i64 (.ofNat 5), .pointer (some ⟨11121, 0, none⟩), 5⟩, ⟨.int .i64 (.ofNat 6), .pointer (some ⟨11632, 0, none⟩), 6⟩] 7),
  (38, .cells [.int .i64 (.ofNat 5), .int .i64 (.ofNat 0), .int .i64 (.ofNat 0), .bool false, .pointer (some ⟨11632, 0, none⟩), .pointer (some ⟨214, 0, none⟩), .map (some 37)] 357 true),
  (55, .map [⟨.int .i64 (.ofNat 1), .slice (some ⟨240, 0, none⟩) 256 256, 0⟩, ⟨.int .i64 (.ofNat 3), .slice (some ⟨4971, 0, none⟩) 256 256, 2⟩, ⟨.int .i64 (.ofNat 2), .slice (some ⟨10708, 0, none⟩) 256 256, 4⟩, ⟨.int .i64 (.ofNat 5), .slice (some ⟨11147, 0, none⟩) 256 256, 5⟩, ⟨.int .i64 (.ofNat 6), .slice (some ⟨11658, 0, none⟩) 256 256, 6⟩] 7),
  (56, .cells [.pointer (some ⟨38, 0, none⟩), .pointer (some ⟨2, 0, none⟩), .string ⟨#[115, 116, 111, 114, 101]⟩, .int .i64 (.ofNat 5), .map (some 55), .int .i64 (.ofNat 0)] 249 true),
  (57, .map [⟨.int .i64 (.ofNat 4), .bool true, 6⟩, ⟨.int .i64 (.ofNat 1), .bool true, 7⟩, ⟨.int .i64 (.ofNat 3), .bool true, 8⟩, ⟨.int .i64 (.ofNat 2), .bool true, 9⟩, ⟨.int .i64 (.ofNat 5), .bool true, 10⟩, ⟨.int .i64 (.ofNat 6), .bool true, 11⟩] 12),
  (58, .map [] 0),
  (59, .cells [.int .i64 (.ofNat 1), .map (some 57), .map (some 58), .slice (some ⟨11577, 0, none⟩) 3 3] 214 true),
  (60, .cells [.pointer (some ⟨56, 0, none⟩), .pointer (some ⟨59, 0, none⟩)] 257 true),
  (72, .cells [.pointer (some ⟨2, 0, none⟩), .int .i64 (.ofNat 1)] 216 true),
  (214, .cells [.int .i64 (.ofNat 1), .int .i64 (.ofNat 0), .bool false, .pointer (some ⟨38, 1, none⟩), .pointer (some ⟨4945, 0, none⟩)] 351 true),
  (412, .cells [.slice (some ⟨13047, 0, none⟩) 1792 1792, .slice (some ⟨13171, 0, none⟩) 1792 1792, .bool true] 130 true),
  (3005, .map [] 0),
  (3006, .cells [.pointer (some ⟨2, 0, none⟩), .string ⟨#[111, 114, 105, 103, 105, 110, 97, 108]⟩, .int .i64 (.ofNat 3), .int .i64 (.ofNat 0), .map (some 3005)] 372 true),
  (3026, .cells [.pointer (some ⟨60, 0, none⟩), .pointer (some ⟨3006, 0, none⟩), .pointer (some ⟨72, 0, none⟩)] 233 true),
  (3148, .cells [.slice (some ⟨3150, 0, none⟩) 1 1, .slice (some ⟨13185, 0, none⟩) 1 1, .bool true] 130 true),
  (3150, .cells (u8s [120]) 5 false),
  (4945, .cells [.int .i64 (.ofNat 3), .int .i64 (.ofNat 0), .bool false, .pointer (some ⟨214, 0, none⟩), .pointer (some ⟨10682, 0, none⟩)] 351 true),
  (8295, .cells [.int .i64 (.ofNat 1), .int .i64 (.ofNat 3)] 3 false),
  (8437, .cells [.int .i64 (.ofNat 1), .int .i64 (.ofNat 3), .int .i64 (.ofNat 3), .int .i64 (.ofNat 4)] 119 false),
  (8521, .cells [.pointer (some ⟨2, 0, none⟩), .int .i64 (.ofNat 3), .int .i64 (.ofNat 3), .int .i64 (.ofNat 6), .int .i64 (.ofNat 1), .int .i64 (.ofNat 1), .int .i64 (.ofNat 4), .int .i64 (.ofNat 4), .slice none 0 0, .slice (some ⟨11530, 0, none⟩) 1 1, .slice none 0 0, .int .i64 (.ofNat 98), .int .u32 (.ofNat 4247761631), .pointer (some ⟨62, 0, none⟩), .slice (some ⟨10269, 0, none⟩) 2 2, .slice (some ⟨9648, 0, none⟩) 2 2, .slice (some ⟨11185, 0, none⟩) 2 2, .int .i64 (.ofNat 0), .int .i64 (.ofNat 1)] 116 true),
  (9026, .cells [.int .i64 (.ofNat 0), .int .i64 (.ofNat 0), .int .i64 (.ofNat 3)] 145 false),
  (9647, .cells [.int .i64 (.ofNat 1), .int .i64 (.ofNat 0), .int .i64 (.ofNat 1), .int .i64 (.ofNat 0), .int .i64 (.ofNat 0), .int .i64 (.ofNat 3)] 145 false),
  (9648, .cells [.slice (some ⟨9026, 0, none⟩) 1 1, .slice (some ⟨9647, 0, none⟩) 2 2] 113 false),
  (10269, .cells [.int .i64 (.ofNat 1), .int .i64 (.ofNat 0), .int .i64 (.ofNat 1), .int .i64 (.ofNat 0), .int .i64 (.ofNat 0), .int .i64 (.ofNat 3)] 145 false),
  (10682, .cells [.int .i64 (.ofNat 2), .int .i64 (.ofNat 0), .bool false, .pointer (some ⟨4945, 0, none⟩), .pointer (some ⟨11121, 0, none⟩)] 351 true),
  (11121, .cells [.int .i64 (.ofNat 5), .int .i64 (.ofNat 0), .bool false, .pointer (some ⟨10682, 0, none⟩), .pointer (some ⟨11632, 0, none⟩)] 351 true),
  (11185, .cells [.int .i64 (.ofNat 2), .int .i64 (.ofNat 3), .int .i64 (.ofNat 5), .int .i64 (.ofNat 4)] 119 false),
  (11385, .cells [.int .i64 (.ofNat 0), .slice (some ⟨11519, 0, none⟩) 2 2] 175 false),
  (11519, .cells [.int .i64 (.ofNat 1), .int .i64 (.ofNat 0), .int .i64 (.ofNat 1), .int .i64 (.ofNat 0), .int .i64 (.ofNat 0), .int .i64 (.ofNat 3)] 145 false),
  (11530, .cells [.complex .f32 11386 1] 173 false),
  (11577, .cells [.int .i64 (.ofNat 2), .int .i64 (.ofNat 5), .int .i64 (.ofNat 6)] 3 false),
  (11632, .cells [.int .i64 (.ofNat 6), .int .i64 (.ofNat 0), .bool false, .pointer (some ⟨11121, 0, none⟩), .pointer (some ⟨38, 1, none⟩)] 351 true),
  (13185, .cells (u8s [120]) 5 false),
  (13245, .cells (u8s [97, 98, 99, 0]) 5 false),
  (13275, .cells (u8s [97, 98, 99, 0]) 5 false),
  (13576, .cells [.slice (some ⟨14088, 0, none⟩) 256 256, .slice (some ⟨14493, 0, none⟩) 256 256, .bool true] 130 true),
  (14088, .cells (u8s [111, 99, 116, 97, 118, 111, 45, 106] ++ u8z 4 ++ u8s [1, 98, 0, 0, 0, 223, 178, 47, 253] ++ u8z 39 ++ u8s [86, 27, 25, 196, 3, 0, 0, 0, 111, 99, 116, 97, 118, 111, 48, 49, 3] ++ u8z 5 ++ u8s [6, 0, 0, 0, 1, 1, 0, 0, 0, 4] ++ u8z 36 ++ u8s [14, 118, 28, 196, 4] ++ u8z 7 ++ u8s [1, 0, 0, 0, 1] ++ u8z 4 ++ u8s [2, 1] ++ u8z 4 ++ u8s [1] ++ u8z 5 ++ u8s [3] ++ u8z 30 ++ u8s [120, 97, 98, 99] ++ u8z 60) 5 false)], .tuple #[], 14579, [(2, some (.cells [.int .i64 (.ofNat 100000), .int .i64 (.ofNat 30), .int .i64 (.negSucc 29), .bool false, .bool false, .map (some 1), .slice none 0 0] 61 true)),
  (32, some (.cells [.slice (some ⟨13245, 0, none⟩) 4 4, .slice (some ⟨14577, 0, none⟩) 4 4, .bool true] 130 true)),
  (13245, some (.cells (u8s [120, 97, 98, 99]) 5 false)),
  (14577, some (.cells (u8s [120, 97, 98, 99]) 5 false))]⟩
theorem m23_148_ok : m23_148.ok (call evT evF k23_148 100000 m23_148.f m23_148.args m23_148.preH) = true := by kernel_rfl
theorem q23_148 : HkOk Tryz.prog (hkMemo m23_148) := hkMemo_ok evT_ok evF_ok k23_148_ok rfl m23_148_ok
noncomputable def k23_151 : Hk := orHk (hkMemo m23_149) (orHk (hkMemo m23_150) (hkLib))
theorem k23_151_ok : HkOk Tryz.prog k23_151 := orHk_ok q23_149 (orHk_ok q23_150 (hkLib_ok))
noncomputable def m23_151 : Mm :=
  ⟨61, [.pointer (some ⟨8521, 0, none⟩), .int .i64 (.ofNat 1), .bool false], 14579, [(1, .map [⟨.string ⟨#[111, 114, 105, 103, 105, 110, 97, 108]⟩, .pointer (some ⟨32, 0, none⟩), 0⟩, ⟨.string ⟨#[115, 116, 111, 114, 101]⟩, .pointer (some ⟨412, 0, none⟩), 1⟩, ⟨.string ⟨#[116, 97, 105, 108]⟩, .pointer (some ⟨3148, 0, none⟩), 2⟩, ⟨.string ⟨#[106, 111, 117, 114, 110, 97, 108]⟩, .pointer (some ⟨13576, 0, none⟩), 3⟩] 4),
  (2, .cells [.int .i64 (.ofNat 100000), .int .i64 (.ofNat 30), .int .i64 (.negSucc 29), .bool false, .bool false, .map (some 1), .slice none 0 0] 61 true),
  (32, .cells [.slice (some ⟨13245, 0, none⟩) 4 4, .slice (some ⟨14577, 0, none⟩) 4 4, .bool true] 130 true),
  (37, .map [⟨.int .i64 (.ofNat 1), .pointer (some ⟨214, 0, none⟩), 0⟩, ⟨.int .i64 (.ofNat 3), .pointer (some ⟨4945, 0, none⟩), 2⟩, ⟨.int .i64 (.ofNat 2), .pointer (some ⟨10682, 0, none⟩), 4⟩, ⟨.int .i64 (.ofNat 5), .pointer (some ⟨11121, 0, none⟩), 5⟩, ⟨.int .i64 (.ofNat 6), .pointer (some ⟨11632, 0, none⟩), 6⟩] 7),
  (38, .cells [.int .i64 (.ofNat 5), .int .i64 (.ofNat 0), .int .i64 (.ofNat 0), .bool false, .pointer (some ⟨11632, 0, none⟩), .pointer (some ⟨214, 0, none⟩), .map (some 37)] 357 true),
  (55, .map [⟨.int .i64 (.ofNat 1), .slice (some ⟨240, 0, none⟩) 256 256, 0⟩, ⟨.int .i64 (.ofNat 3), .slice (some ⟨4971, 0, none⟩) 256 256, 2⟩, ⟨.int .i64 (.ofNat 2), .slice (some ⟨10708, 0, none⟩) 256 256, 4⟩, ⟨.int .i64 (.ofNat 5), .slice (some ⟨11147, 0, none⟩) 256 256, 5⟩, ⟨.int .i64 (.ofNat 6), .slice (some ⟨11658, 0, none⟩) 256 256, 6⟩] 7),
  (56, .cells [.pointer (some ⟨38, 0, none⟩), .pointer (some ⟨2, 0, none⟩), .string ⟨#[115, 116, 111, 114, 101]⟩, .int .i64 (.ofNat 5), .map (some 55), .int .i64 (.ofNat 0)] 249 true),
  (57, .map [⟨.int .i64 (.ofNat 4), .bool true, 6⟩, ⟨.int .i64 (.ofNat 1), .bool true, 7⟩, ⟨.int .i64 (.ofNat 3), .bool true, 8⟩, ⟨.int .i64 (.ofNat 2), .bool true, 9⟩, ⟨.int .i64 (.ofNat 5), .bool true, 10⟩, ⟨.int .i64 (.ofNat 6), .bool true, 11⟩] 12),
  (58, .map [] 0),
  (59, .cells [.int .i64 (.ofNat 1), .map (some 57), .map (some 58), .slice (some ⟨11577, 0, none⟩) 3 3] 214 true),
  (60, .cells [.pointer (some ⟨56, 0, none⟩), .pointer (some ⟨59, 0, none⟩)] 257 true),
  (72, .cells [.pointer (some ⟨2, 0, none⟩), .int .i64 (.ofNat 1)] 216 true),
  (214, .cells [.int .i64 (.ofNat 1), .int .i64 (.ofNat 0), .bool false, .pointer (some ⟨38, 1, none⟩), .pointer (some ⟨4945, 0, none⟩)] 351 true),
  (412, .cells [.slice (some ⟨13047, 0, none⟩) 1792 1792, .slice (some ⟨13171, 0, none⟩) 1792 1792, .bool true] 130 true),
  (3005, .map [] 0),
  (3006, .cells [.pointer (some ⟨2, 0, none⟩), .string ⟨#[111, 114, 105, 103, 105, 110, 97, 108]⟩, .int .i64 (.ofNat 3), .int .i64 (.ofNat 0), .map (some 3005)] 372 true),
  (3026, .cells [.pointer (some ⟨60, 0, none⟩), .pointer (some ⟨3006, 0, none⟩), .pointer (some ⟨72, 0, none⟩)] 233 true),
  (3148, .cells [.slice (some ⟨3150, 0, none⟩) 1 1, .slice (some ⟨13185, 0, none⟩) 1 1, .bool true] 130 true),
  (3150, .cells (u8s [120]) 5 false),
  (4945, .cells [.int .i64 (.ofNat 3), .int .i64 (.ofNat 0), .bool false, .pointer (some ⟨214, 0, none⟩), .pointer (some ⟨10682, 0, none⟩)] 351 true),
  (8295, .cells [.int .i64 (.ofNat 1), .int .i64 (.ofNat 3)] 3 false),
  (8437, .cells [.int .i64 (.ofNat 1), .int .i64 (.ofNat 3), .int .i64 (.ofNat 3), .int .i64 (.ofNat 4)] 119 false),
  (8521, .cells [.pointer (some ⟨2, 0, none⟩), .int .i64 (.ofNat 3), .int .i64 (.ofNat 3), .int .i64 (.ofNat 6), .int .i64 (.ofNat 1), .int .i64 (.ofNat 1), .int .i64 (.ofNat 4), .int .i64 (.ofNat 4), .slice none 0 0, .slice (some ⟨11530, 0, none⟩) 1 1, .slice none 0 0, .int .i64 (.ofNat 98), .int .u32 (.ofNat 4247761631), .pointer (some ⟨62, 0, none⟩), .slice (some ⟨10269, 0, none⟩) 2 2, .slice (some ⟨9648, 0, none⟩) 2 2, .slice (some ⟨11185, 0, none⟩) 2 2, .int .i64 (.ofNat 0), .int .i64 (.ofNat 1)] 116 true),
  (9026, .cells [.int .i64 (.ofNat 0), .int .i64 (.ofNat 0), .int .i64 (.ofNat 3)] 145 false),
  (9647, .cells [.int .i64 (.ofNat 1), .int .i64 (.ofNat 0), .int .i64 (.ofNat 1), .int .i64 (.ofNat 0), .int .i64 (.ofNat 0), .int .i64 (.ofNat 3)] 145 false),
  (9648, .cells [.slice (some ⟨9026, 0, none⟩) 1 1, .slice (some ⟨9647, 0, none⟩) 2 2] 113 false),
  (10269, .cells [.int .i64 (.ofNat 1), .int .i64 (.ofNat 0), .int .i64 (.ofNat 1), .int .i64 (.ofNat 0), .int .i64 (.ofNat 0), .int .i64 (.ofNat 3)] 145 false),
  (10682, .cells [.int .i64 (.ofNat 2), .int .i64 (.ofNat 0), .bool false, .pointer (some ⟨4945, 0, none⟩), .pointer (some ⟨11121, 0, none⟩)] 351 true),
  (11121, .cells [.int .i64 (.ofNat 5), .int .i64 (.ofNat 0), .bool false, .pointer (some ⟨10682, 0, none⟩), .pointer (some ⟨11632, 0, none⟩)] 351 true),
  (11185, .cells [.int .i64 (.ofNat 2), .int .i64 (.ofNat 3), .int .i64 (.ofNat 5), .int .i64 (.ofNat 4)] 119 false),
  (11385, .cells [.int .i64 (.ofNat 0), .slice (some ⟨11519, 0, none⟩) 2 2] 175 false),
  (11519, .cells [.int .i64 (.ofNat 1), .int .i64 (.ofNat 0), .int .i64 (.ofNat 1), .int .i64 (.ofNat 0), .int .i64 (.ofNat 0), .int .i64 (.ofNat 3)] 145 false),
  (11530, .cells [.complex .f32 11386 1] 173 false),
  (11577, .cells [.int .i64 (.ofNat 2), .int .i64 (.ofNat 5), .int .i64 (.ofNat 6)] 3 false),
  (11632, .cells [.int .i64 (.ofNat 6), .int .i64 (.ofNat 0), .bool false, .pointer (some ⟨11121, 0, none⟩), .pointer (some ⟨38, 1, none⟩)] 351 true),
  (13185, .cells (u8s [120]) 5 false),
  (13245, .cells (u8s [120, 97, 98, 99]) 5 false),
  (13576, .cells [.slice (some ⟨14088, 0, none⟩) 256 256, .slice (some ⟨14493, 0, none⟩) 256 256, .bool true] 130 true),
  (14088, .cells (u8s [111, 99, 116, 97, 118, 111, 45, 106] ++ u8z 4 ++ u8s [1, 98, 0, 0, 0, 223, 178, 47, 253] ++ u8z 39 ++ u8s [86, 27, 25, 196, 3, 0, 0, 0, 111, 99, 116, 97, 118, 111, 48, 49, 3] ++ u8z 5 ++ u8s [6, 0, 0, 0, 1, 1, 0, 0, 0, 4] ++ u8z 36 ++ u8s [14, 118, 28, 196, 4] ++ u8z 7 ++ u8s [1, 0, 0, 0, 1] ++ u8z 4 ++ u8s [2, 1] ++ u8z 4 ++ u8s [1] ++ u8z 5 ++ u8s [3] ++ u8z 30 ++ u8s [120, 97, 98, 99] ++ u8z 60) 5 false),
  (14577, .cells (u8s [120, 97, 98, 99]) 5 false)], .tuple #[], 14674, [(2, some (.cells [.int .i64 (.ofNat 100000), .int .i64 (.ofNat 32), .int .i64 (.negSucc 31), .bool false, .bool false, .map (some 1), .slice none 0 0] 61 true)),
  (13576, some (.cells [.slice (some ⟨14088, 0, none⟩) 256 256, .slice (some ⟨14672, 0, none⟩) 256 256, .bool true] 130 true)),
  (14088, some (.cells (u8s [111, 99, 116, 97, 118, 111, 45, 106, 1] ++ u8z 4 ++ u8s [98, 0, 0, 0, 223, 178, 47, 253] ++ u8z 39 ++ u8s [135, 11, 100, 144, 3, 0, 0, 0, 111, 99, 116, 97, 118, 111, 48, 49, 3] ++ u8z 5 ++ u8s [6, 0, 0, 0, 1, 1, 0, 0, 0, 4] ++ u8z 36 ++ u8s [14, 118, 28, 196, 4] ++ u8z 7 ++ u8s [1, 0, 0, 0, 1] ++ u8z 4 ++ u8s [2, 1] ++ u8z 4 ++ u8s [1] ++ u8z 5 ++ u8s [3] ++ u8z 30 ++ u8s [120, 97, 98, 99] ++ u8z 60) 5 false)),
  (14672, some (.cells (u8s [111, 99, 116, 97, 118, 111, 45, 106, 1] ++ u8z 4 ++ u8s [98, 0, 0, 0, 223, 178, 47, 253] ++ u8z 39 ++ u8s [135, 11, 100, 144, 3, 0, 0, 0, 111, 99, 116, 97, 118, 111, 48, 49, 3] ++ u8z 5 ++ u8s [6, 0, 0, 0, 1, 1, 0, 0, 0, 4] ++ u8z 36 ++ u8s [14, 118, 28, 196, 4] ++ u8z 7 ++ u8s [1, 0, 0, 0, 1] ++ u8z 4 ++ u8s [2, 1] ++ u8z 4 ++ u8s [1] ++ u8z 5 ++ u8s [3] ++ u8z 30 ++ u8s [120, 97, 98, 99] ++ u8z 60) 5 false))]⟩
theorem m23_151_ok : m23_151.ok (call evT evF k23_151 100000 m23_151.f m23_151.args m23_151.preH) = true := by kernel_rfl
theorem q23_151 : HkOk Tryz.prog (hkMemo m23_151) := hkMemo_ok evT_ok evF_ok k23_151_ok rfl m23_151_ok
noncomputable def k23_156 : Hk := orHk (hkMemo m23_155) (hkLib)
theorem k23_156_ok : HkOk Tryz.prog k23_156 := orHk_ok q23_155 (hkLib_ok)
noncomputable def m23_156 : Mm :=
  ⟨254, [.int .i64 (.ofNat 2), .slice (some ⟨14866, 0, none⟩) 256 256], 14867, [(14866, .cells (u8s [1, 0, 14, 0, 2, 0, 0, 0, 54, 213, 233, 1, 1, 0, 1, 0, 0, 0, 3, 0, 0, 0, 255, 255, 255, 255] ++ u8z 230) 5 false)], .tuple #[.int .i64 (.ofNat 1), .slice (some ⟨15056, 0, none⟩) 14 14, .int .i64 (.ofNat 0)], 15097, [(15056, some (.cells (u8s [1, 0, 1, 0, 0, 0, 3, 0, 0, 0, 255, 255, 255, 255]) 5 false))]⟩
theorem m23_156_ok : m23_156.ok (call evT evF k23_156 100000 m23_156.f m23_156.args m23_156.preH) = true := by kernel_rfl
theorem q23_156 : HkOk Tryz.prog (hkMemo m23_156) := hkMemo_ok evT_ok evF_ok k23_156_ok rfl m23_156_ok
noncomputable def k23_160 : Hk := orHk (hkMemo m23_159) (hkLib)
theorem k23_160_ok : HkOk Tryz.prog k23_160 := orHk_ok q23_159 (hkLib_ok)
noncomputable def m23_160 : Mm :=
  ⟨254, [.int .i64 (.ofNat 5), .slice (some ⟨15341, 0, none⟩) 256 256], 15342, [(15341, .cells (u8s [1, 0, 14, 0, 5, 0, 0, 0, 64, 196, 222, 82, 1] ++ u8z 5 ++ u8s [4, 0, 0, 0, 255, 255, 255, 255] ++ u8z 230) 5 false)], .tuple #[.int .i64 (.ofNat 1), .slice (some ⟨15531, 0, none⟩) 14 14, .int .i64 (.ofNat 0)], 15572, [(15531, some (.cells (u8s [1] ++ u8z 5 ++ u8s [4, 0, 0, 0, 255, 255, 255, 255]) 5 false))]⟩
theorem m23_160_ok : m23_160.ok (call evT evF k23_160 100000 m23_160.f m23_160.args m23_160.preH) = true := by kernel_rfl
theorem q23_160 : HkOk Tryz.prog (hkMemo m23_160) := hkMemo_ok evT_ok evF_ok k23_160_ok rfl m23_160_ok
noncomputable def k23_165 : Hk := orHk (hkMemo m23_164) (hkLib)
theorem k23_165_ok : HkOk Tryz.prog k23_165 := orHk_ok q23_164 (hkLib_ok)
noncomputable def m23_165 : Mm :=
  ⟨122, [.pointer (some ⟨62, 0, none⟩), .agg #[.int .i64 (.ofNat 3), .int .i64 (.ofNat 6), .int .i64 (.ofNat 1), .int .i64 (.ofNat 1), .int .i64 (.ofNat 4)], .slice (some ⟨11185, 0, none⟩) 2 2, .slice (some ⟨15774, 0, none⟩) 2 2], 15823, [(1, .map [⟨.string ⟨#[111, 114, 105, 103, 105, 110, 97, 108]⟩, .pointer (some ⟨32, 0, none⟩), 0⟩, ⟨.string ⟨#[115, 116, 111, 114, 101]⟩, .pointer (some ⟨412, 0, none⟩), 1⟩, ⟨.string ⟨#[116, 97, 105, 108]⟩, .pointer (some ⟨3148, 0, none⟩), 2⟩, ⟨.string ⟨#[106, 111, 117, 114, 110, 97, 108]⟩, .pointer (some ⟨13576, 0, none⟩), 3⟩] 4),
  (2, .cells [.int .i64 (.ofNat 100000), .int .i64 (.ofNat 37), .int .i64 (.negSucc 36), .bool false, .bool false, .map (some 1), .slice none 0 0] 61 true),
  (32, .cells [.slice (some ⟨13245, 0, none⟩) 4 4, .slice (some ⟨14687, 0, none⟩) 4 4, .bool true] 130 true),
  (37, .map [⟨.int .i64 (.ofNat 1), .pointer (some ⟨214, 0, none⟩), 0⟩, ⟨.int .i64 (.ofNat 3), .pointer (some ⟨4945, 0, none⟩), 2⟩, ⟨.int .i64 (.ofNat 2), .pointer (some ⟨10682, 0, none⟩), 4⟩, ⟨.int .i64 (.ofNat 5), .pointer (some ⟨11121, 0, none⟩), 5⟩, ⟨.int .i64 (.ofNat 6), .pointer (some ⟨11632, 0, none⟩), 6⟩] 7),
  (38, .cells [.int .i64 (.ofNat 5), .int .i64 (.ofNat 0), .int .i64 (.ofNat 0), .bool false, .pointer (some ⟨11121, 0, none⟩), .pointer (some ⟨214, 0, none⟩), .map (some 37)] 357 true),
  (55, .map [⟨.int .i64 (.ofNat 1), .slice (some ⟨240, 0, none⟩) 256 256, 0⟩, ⟨.int .i64 (.ofNat 3), .slice (some ⟨4971, 0, none⟩) 256 256, 2⟩, ⟨.int .i64 (.ofNat 2), .slice (some ⟨10708, 0, none⟩) 256 256, 4⟩, ⟨.int .i64 (.ofNat 5), .slice (some ⟨11147, 0, none⟩) 256 256, 5⟩, ⟨.int .i64 (.ofNat 6), .slice (some ⟨11658, 0, none⟩) 256 256, 6⟩] 7),
  (56, .cells [.pointer (some ⟨38, 0, none⟩), .pointer (some ⟨2, 0, none⟩), .string ⟨#[115, 116, 111, 114, 101]⟩, .int .i64 (.ofNat 5), .map (some 55), .int .i64 (.ofNat 0)] 249 true),
  (57, .map [⟨.int .i64 (.ofNat 4), .bool true, 6⟩, ⟨.int .i64 (.ofNat 1), .bool true, 7⟩, ⟨.int .i64 (.ofNat 3), .bool true, 8⟩, ⟨.int .i64 (.ofNat 2), .bool true, 9⟩, ⟨.int .i64 (.ofNat 5), .bool true, 10⟩, ⟨.int .i64 (.ofNat 6), .bool true, 11⟩] 12),
  (58, .map [] 0),
  (59, .cells [.int .i64 (.ofNat 1), .map (some 57), .map (some 58), .slice (some ⟨11577, 0, none⟩) 3 3] 214 true),
  (60, .cells [.pointer (some ⟨56, 0, none⟩), .pointer (some ⟨59, 0, none⟩)] 257 true),
  (62, .cells [.pointer (some ⟨56, 0, none⟩), .pointer (some ⟨59, 0, none⟩), .pointer (some ⟨60, 0, none⟩), .pointer (some ⟨2, 0, none⟩), .pointer (some ⟨72, 0, none⟩), .pointer none, .slice (some ⟨8437, 0, none⟩) 2 2, .int .i64 (.ofNat 1), .int .i64 (.ofNat 2), .int .i64 (.ofNat 4), .int .i64 (.ofNat 1), .int .i64 (.ofNat 1), .int .i64 (.ofNat 3), .int .i64 (.ofNat 3), .int .i64 (.ofNat 6), .int .i64 (.ofNat 1), .int .i64 (.ofNat 1), .int .i64 (.ofNat 4), .slice (some ⟨8295, 0, none⟩) 2 2] 85 true),
  (72, .cells [.pointer (some ⟨2, 0, none⟩), .int .i64 (.ofNat 1)] 216 true),
  (214, .cells [.int .i64 (.ofNat 1), .int .i64 (.ofNat 0), .bool false, .pointer (some ⟨38, 1, none⟩), .pointer (some ⟨4945, 0, none⟩)] 351 true),
  (412, .cells [.slice (some ⟨13047, 0, none⟩) 1792 1792, .slice (some ⟨14771, 0, none⟩) 1792 1792, .bool true] 130 true),
  (3148, .cells [.slice (some ⟨3150, 0, none⟩) 1 1, .slice (some ⟨13185, 0, none⟩) 1 1, .bool true] 130 true),
  (3150, .cells (u8s [120]) 5 false),
  (4945, .cells [.int .i64 (.ofNat 3), .int .i64 (.ofNat 0), .bool false, .pointer (some ⟨214, 0, none⟩), .pointer (some ⟨11632, 0, none⟩)] 351 true),
  (8295, .cells [.int .i64 (.ofNat 1), .int .i64 (.ofNat 3)] 3 false),
  (8437, .cells [.int .i64 (.ofNat 1), .int .i64 (.ofNat 3), .int .i64 (.ofNat 3), .int .i64 (.ofNat 4)] 119 false),
  (10682, .cells [.int .i64 (.ofNat 2), .int .i64 (.ofNat 0), .bool false, .pointer (some ⟨11632, 0, none⟩), .pointer (some ⟨11121, 0, none⟩)] 351 true),
  (11121, .cells [.int .i64 (.ofNat 5), .int .i64 (.ofNat 0), .bool false, .pointer (some ⟨10682, 0, none⟩), .pointer (some ⟨38, 1, none⟩)] 351 true),
  (11185, .cells [.int .i64 (.ofNat 2), .int .i64 (.ofNat 3), .int .i64 (.ofNat 5), .int .i64 (.ofNat 4)] 119 false),
  (11577, .cells [.int .i64 (.ofNat 2), .int .i64 (.ofNat 5), .int .i64 (.ofNat 6)] 3 false),
  (11632, .cells [.int .i64 (.ofNat 6), .int .i64 (.ofNat 0), .bool false, .pointer (some ⟨4945, 0, none⟩), .pointer (some ⟨10682, 0, none⟩)] 351 true),
  (13185, .cells (u8s [120]) 5 false),
  (13245, .cells (u8s [120, 97, 98, 99]) 5 false),
  (13576, .cells [.slice (some ⟨14088, 0, none⟩) 0 256, .slice (some ⟨14775, 0, none⟩) 0 0, .bool true] 130 true),
  (14687, .cells (u8s [120, 97, 98, 99]) 5 false),
  (14775, .cells [] 5 true),
  (15774, .cells [.int .i64 (.ofNat 2), .int .i64 (.ofNat 5)] 3 false)], .int .i64 (.ofNat 0), 15929, [(37, some (.map [⟨.int .i64 (.ofNat 2), .pointer (some ⟨10682, 0, none⟩), 4⟩, ⟨.int .i64 (.ofNat 5), .pointer (some ⟨11121, 0, none⟩), 5⟩, ⟨.int .i64 (.ofNat 6), .pointer (some ⟨11632, 0, none⟩), 6⟩] 7)),
  (38, some (.cells [.int .i64 (.ofNat 5), .int .i64 (.ofNat 0), .int .i64 (.ofNat 0), .bool false, .pointer (some ⟨11121, 0, none⟩), .pointer (some ⟨11632, 0, none⟩), .map (some 37)] 357 true)),
  (55, some (.map [⟨.int .i64 (.ofNat 2), .slice (some ⟨10708, 0, none⟩) 256 256, 4⟩, ⟨.int .i64 (.ofNat 5), .slice (some ⟨11147, 0, none⟩) 256 256, 5⟩, ⟨.int .i64 (.ofNat 6), .slice (some ⟨11658, 0, none⟩) 256 256, 6⟩] 7)),
  (57, some (.map [⟨.int .i64 (.ofNat 6), .bool true, 12⟩, ⟨.int .i64 (.ofNat 2), .bool true, 13⟩, ⟨.int .i64 (.ofNat 5), .bool true, 14⟩] 15)),
  (59, some (.cells [.int .i64 (.ofNat 1), .map (some 57), .map (some 58), .slice none 0 0] 214 true)),
  (62, some (.cells [.pointer (some ⟨56, 0, none⟩), .pointer (some ⟨59, 0, none⟩), .pointer (some ⟨60, 0, none⟩), .pointer (some ⟨2, 0, none⟩), .pointer (some ⟨72, 0, none⟩), .pointer (some ⟨15857, 0, none⟩), .slice (some ⟨15868, 0, none⟩) 2 2, .int .i64 (.ofNat 1), .int .i64 (.ofNat 3), .int .i64 (.ofNat 6), .int .i64 (.ofNat 1), .int .i64 (.ofNat 1), .int .i64 (.ofNat 4), .int .i64 (.ofNat 0), .int .i64 (.ofNat 0), .int .i64 (.ofNat 0), .int .i64 (.ofNat 0), .int .i64 (.ofNat 0), .slice (some ⟨15774, 0, none⟩) 2 2] 85 true)),
  (4945, some (.cells [.int .i64 (.ofNat 3), .int .i64 (.ofNat 0), .bool false, .pointer (some ⟨38, 1, none⟩), .pointer (some ⟨11632, 0, none⟩)] 351 true)),
  (11632, some (.cells [.int .i64 (.ofNat 6), .int .i64 (.ofNat 0), .bool false, .pointer (some ⟨38, 1, none⟩), .pointer (some ⟨10682, 0, none⟩)] 351 true)),
  (15836, some (.map [] 0)),
  (15837, some (.cells [.pointer (some ⟨2, 0, none⟩), .string ⟨#[111, 114, 105, 103, 105, 110, 97, 108]⟩, .int .i64 (.ofNat 4), .int .i64 (.ofNat 0), .map (some 15836)] 372 true)),
  (15857, some (.cells [.pointer (some ⟨60, 0, none⟩), .pointer (some ⟨15837, 0, none⟩), .pointer (some ⟨72, 0, none⟩)] 233 true)),
  (15868, some (.cells [.int .i64 (.ofNat 2), .int .i64 (.ofNat 3), .int .i64 (.ofNat 5), .int .i64 (.ofNat 4)] 119 false))]⟩
theorem m23_165_ok : m23_165.ok (call evT evF k23_165 100000 m23_165.f m23_165.args m23_165.preH) = true := by kernel_rfl
theorem q23_165 : HkOk Tryz.prog (hkMemo m23_165) := hkMemo_ok evT_ok evF_ok k23_165_ok rfl m23_165_ok
noncomputable def k23_172 : Hk := orHk (hkMemo m23_170) (orHk (hkMemo m23_171) (hkLib))
theorem k23_172_ok : HkOk Tryz.prog k23_172 := orHk_ok q23_170 (orHk_ok q23_171 (hkLib_ok))
noncomputable def m23_172 : Mm :=
  ⟨315, [.int .i64 (.ofNat 2), .slice (some ⟨15986, 512, none⟩) 256 1280], 15990, [(15986, .cells (u8s [111, 99, 116, 97, 118, 111, 48, 49, 2] ++ u8z 5 ++ u8s [4, 0, 0, 0, 1, 1, 0, 0, 0, 3] ++ u8z 36 ++ u8s [250, 212, 113, 102, 111, 99, 116, 97, 118, 111, 48, 49, 3] ++ u8z 5 ++ u8s [6, 0, 0, 0, 1, 1, 0, 0, 0, 4] ++ u8z 36 ++ u8s [14, 118, 28, 196] ++ u8z 128 ++ u8s [1, 0, 14, 0, 1, 0, 0, 0, 194, 105, 111, 233, 1] ++ u8z 5 ++ u8s [3, 0, 0, 0, 255, 255, 255, 255] ++ u8z 230 ++ u8s [1, 0, 14, 0, 2, 0, 0, 0, 54, 213, 233, 1, 1, 0, 1, 0, 0, 0, 3, 0, 0, 0, 255, 255, 255, 255] ++ u8z 230 ++ u8s [1, 0, 27, 0, 3, 0, 0, 0, 50, 165, 25, 235, 2, 1] ++ u8z 4 ++ u8s [1] ++ u8z 12 ++ u8s [3, 0, 0, 0, 255, 255, 255, 255] ++ u8z 217 ++ u8s [3, 0, 17, 0, 4, 0, 0, 0, 199, 184, 67, 119, 2, 1, 0, 0, 0, 3, 0, 0, 0, 3, 0, 0, 0, 4] ++ u8z 230 ++ u8s [1, 0, 14, 0, 5, 0, 0, 0, 64, 196, 222, 82, 1] ++ u8z 5 ++ u8s [4, 0, 0, 0, 255, 255, 255, 255] ++ u8z 230 ++ u8s [3, 0, 17, 0, 6, 0, 0, 0, 34, 46, 224, 217, 2, 2, 0, 0, 0, 3, 0, 0, 0, 5, 0, 0, 0, 4] ++ u8z 230) 5 false)], .tuple #[.int .i64 (.ofNat 1), .slice (some ⟨16041, 0, none⟩) 14 14, .int .i64 (.ofNat 0)], 18876, [(16041, some (.cells (u8s [1, 0, 1, 0, 0, 0, 3, 0, 0, 0, 255, 255, 255, 255]) 5 false))]⟩
theorem m23_172_ok : m23_172.ok (call evT evF k23_172 100000 m23_172.f m23_172.args m23_172.preH) = true := by kernel_rfl
theorem q23_172 : HkOk Tryz.prog (hkMemo m23_172) := hkMemo_ok evT_ok evF_ok k23_172_ok rfl m23_172_ok
noncomputable def k23_178 : Hk := orHk (hkMemo m23_176) (orHk (hkMemo m23_177) (hkLib))
theorem k23_178_ok : HkOk Tryz.prog k23_178 := orHk_ok q23_176 (orHk_ok q23_177 (hkLib_ok))
noncomputable def m23_178 : Mm :=
  ⟨315, [.int .i64 (.ofNat 5), .slice (some ⟨15986, 1280, none⟩) 256 512], 19045, [(15986, .cells (u8s [111, 99, 116, 97, 118, 111, 48, 49, 2] ++ u8z 5 ++ u8s [4, 0, 0, 0, 1, 1, 0, 0, 0, 3] ++ u8z 36 ++ u8s [250, 212, 113, 102, 111, 99, 116, 97, 118, 111, 48, 49, 3] ++ u8z 5 ++ u8s [6, 0, 0, 0, 1, 1, 0, 0, 0, 4] ++ u8z 36 ++ u8s [14, 118, 28, 196] ++ u8z 128 ++ u8s [1, 0, 14, 0, 1, 0, 0, 0, 194, 105, 111, 233, 1] ++ u8z 5 ++ u8s [3, 0, 0, 0, 255, 255, 255, 255] ++ u8z 230 ++ u8s [1, 0, 14, 0, 2, 0, 0, 0, 54, 213, 233, 1, 1, 0, 1, 0, 0, 0, 3, 0, 0, 0, 255, 255, 255, 255] ++ u8z 230 ++ u8s [1, 0, 27, 0, 3, 0, 0, 0, 50, 165, 25, 235, 2, 1] ++ u8z 4 ++ u8s [1] ++ u8z 12 ++ u8s [3, 0, 0, 0, 255, 255, 255, 255] ++ u8z 217 ++ u8s [3, 0, 17, 0, 4, 0, 0, 0, 199, 184, 67, 119, 2, 1, 0, 0, 0, 3, 0, 0, 0, 3, 0, 0, 0, 4] ++ u8z 230 ++ u8s [1, 0, 14, 0, 5, 0, 0, 0, 64, 196, 222, 82, 1] ++ u8z 5 ++ u8s [4, 0, 0, 0, 255, 255, 255, 255] ++ u8z 230 ++ u8s [3, 0, 17, 0, 6, 0, 0, 0, 34, 46, 224, 217, 2, 2, 0, 0, 0, 3, 0, 0, 0, 5, 0, 0, 0, 4] ++ u8z 230) 5 false)], .tuple #[.int .i64 (.ofNat 1), .slice (some ⟨19096, 0, none⟩) 14 14, .int .i64 (.ofNat 0)], 21931, [(19096, some (.cells (u8s [1] ++ u8z 5 ++ u8s [4, 0, 0, 0, 255, 255, 255, 255]) 5 false))]⟩
theorem m23_178_ok : m23_178.ok (call evT evF k23_178 100000 m23_178.f m23_178.args m23_178.preH) = true := by kernel_rfl
theorem q23_178 : HkOk Tryz.prog (hkMemo m23_178) := hkMemo_ok evT_ok evF_ok k23_178_ok rfl m23_178_ok
end Go.Proofs.YtjclpdlijblpjaaGreat
