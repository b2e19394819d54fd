/-
  Calls that were reckoned out, one by one. Printed by a program.
-/
import Derived.Test.YtjclpdlijblpjaaGreatEvl
import Derived.Test.YtjclpdlijblpjaaGreatEvM23a
import Derived.Test.YtjclpdlijblpjaaGreatEvM23b
import Derived.Test.YtjclpdlijblpjaaGreatEvM23c
import Derived.Test.YtjclpdlijblpjaaGreatEvM23d
namespace Go.Proofs.YtjclpdlijblpjaaGreat
open Go.Ev
set_option maxRecDepth 1000000
noncomputable def k23_4 : Hk := orHk (hkMemo m23_3) (hkLib)
theorem k23_4_ok : HkOk Tryz.prog k23_4 := orHk_ok q23_3 (hkLib_ok)
noncomputable def m23_4 : Mm :=
  ⟨123, [.pointer (some ⟨60, 0, none⟩), .slice (some ⟨74, 0, none⟩) 1 1], 75, [(1, .map [⟨.string ⟨#[111, 114, 105, 103, 105, 110, 97, 108]⟩, .pointer (some ⟨32, 0, none⟩), 0⟩] 1),
  (2, .cells [.int .i64 (.ofNat 100000), .int .i64 (.ofNat 0), .int .i64 (.ofNat 0), .bool false, .bool false, .map (some 1), .slice none 0 0] 61 true),
  (32, .cells [.slice (some ⟨34, 0, none⟩) 3 3, .slice (some ⟨35, 0, none⟩) 3 3, .bool true] 130 true),
  (34, .cells (u8s [97, 98, 99]) 5 false),
  (35, .cells (u8s [97, 98, 99]) 5 false),
  (37, .map [] 0),
  (38, .cells [.int .i64 (.ofNat 5), .int .i64 (.ofNat 0), .int .i64 (.ofNat 0), .bool false, .pointer (some ⟨38, 1, none⟩), .pointer (some ⟨38, 1, none⟩), .map (some 37)] 357 true),
  (55, .map [] 0),
  (56, .cells [.pointer (some ⟨38, 0, none⟩), .pointer (some ⟨2, 0, none⟩), .string ⟨#[115, 116, 111, 114, 101]⟩, .int .i64 (.ofNat 5), .map (some 55), .int .i64 (.ofNat 0)] 249 true),
  (57, .map [] 0),
  (58, .map [] 0),
  (59, .cells [.int .i64 (.ofNat 1), .map (some 57), .map (some 58), .slice none 0 0] 214 true),
  (60, .cells [.pointer (some ⟨56, 0, none⟩), .pointer (some ⟨59, 0, none⟩)] 257 true),
  (74, .cells [.int .i64 (.ofNat 0), .int .i64 (.ofNat 0), .int .i64 (.ofNat 3), .int .i64 (.negSucc 0)] 147 false)], .tuple #[.int .i64 (.ofNat 1), .int .i64 (.ofNat 0)], 277, [(37, some (.map [⟨.int .i64 (.ofNat 1), .pointer (some ⟨214, 0, none⟩), 0⟩] 1)),
  (38, some (.cells [.int .i64 (.ofNat 5), .int .i64 (.ofNat 0), .int .i64 (.ofNat 0), .bool false, .pointer (some ⟨214, 0, none⟩), .pointer (some ⟨214, 0, none⟩), .map (some 37)] 357 true)),
  (55, some (.map [⟨.int .i64 (.ofNat 1), .slice (some ⟨240, 0, none⟩) 256 256, 0⟩] 1)),
  (57, some (.map [⟨.int .i64 (.ofNat 1), .bool true, 0⟩] 1)),
  (59, some (.cells [.int .i64 (.ofNat 1), .map (some 57), .map (some 58), .slice (some ⟨182, 0, none⟩) 1 1] 214 true)),
  (182, some (.cells [.int .i64 (.ofNat 1)] 3 false)),
  (214, some (.cells [.int .i64 (.ofNat 1), .int .i64 (.ofNat 0), .bool true, .pointer (some ⟨38, 1, none⟩), .pointer (some ⟨38, 1, none⟩)] 351 true)),
  (240, some (.cells (u8s [1, 0, 14, 0, 1, 0, 0, 0, 194, 105, 111, 233, 1] ++ u8z 5 ++ u8s [3, 0, 0, 0, 255, 255, 255, 255] ++ u8z 230) 5 false))]⟩
theorem m23_4_ok : m23_4.ok (call evT evF k23_4 100000 m23_4.f m23_4.args m23_4.preH) = true := by kernel_rfl
theorem q23_4 : HkOk Tryz.prog (hkMemo m23_4) := hkMemo_ok evT_ok evF_ok k23_4_ok rfl m23_4_ok
noncomputable def k23_11 : Hk := orHk (hkMemo m23_8) (orHk (hkMemo m23_10) (hkLib))
theorem k23_11_ok : HkOk Tryz.prog k23_11 := orHk_ok q23_8 (orHk_ok q23_10 (hkLib_ok))
noncomputable def m23_11 : Mm :=
  ⟨249, [.pointer (some ⟨56, 0, none⟩), .int .i64 (.ofNat 1)], 367, [(1, .map [⟨.string ⟨#[111, 114, 105, 103, 105, 110, 97, 108]⟩, .pointer (some ⟨32, 0, none⟩), 0⟩] 1),
  (2, .cells [.int .i64 (.ofNat 100000), .int .i64 (.ofNat 0), .int .i64 (.ofNat 0), .bool false, .bool false, .map (some 1), .slice none 0 0] 61 true),
  (32, .cells [.slice (some ⟨34, 0, none⟩) 3 3, .slice (some ⟨35, 0, none⟩) 3 3, .bool true] 130 true),
  (34, .cells (u8s [97, 98, 99]) 5 false),
  (35, .cells (u8s [97, 98, 99]) 5 false),
  (37, .map [⟨.int .i64 (.ofNat 1), .pointer (some ⟨214, 0, none⟩), 0⟩, ⟨.int .i64 (.ofNat 2), .pointer (some ⟨339, 0, none⟩), 1⟩] 2),
  (38, .cells [.int .i64 (.ofNat 5), .int .i64 (.ofNat 0), .int .i64 (.ofNat 0), .bool false, .pointer (some ⟨339, 0, none⟩), .pointer (some ⟨214, 0, none⟩), .map (some 37)] 357 true),
  (55, .map [⟨.int .i64 (.ofNat 1), .slice (some ⟨240, 0, none⟩) 256 256, 0⟩, ⟨.int .i64 (.ofNat 2), .slice (some ⟨365, 0, none⟩) 256 256, 1⟩] 2),
  (56, .cells [.pointer (some ⟨38, 0, none⟩), .pointer (some ⟨2, 0, none⟩), .string ⟨#[115, 116, 111, 114, 101]⟩, .int .i64 (.ofNat 5), .map (some 55), .int .i64 (.ofNat 0)] 249 true),
  (214, .cells [.int .i64 (.ofNat 1), .int .i64 (.ofNat 0), .bool true, .pointer (some ⟨38, 1, none⟩), .pointer (some ⟨339, 0, none⟩)] 351 true),
  (240, .cells (u8s [1, 0, 14, 0, 1, 0, 0, 0, 194, 105, 111, 233, 1] ++ u8z 5 ++ u8s [3, 0, 0, 0, 255, 255, 255, 255] ++ u8z 230) 5 false),
  (339, .cells [.int .i64 (.ofNat 2), .int .i64 (.ofNat 0), .bool true, .pointer (some ⟨214, 0, none⟩), .pointer (some ⟨38, 1, none⟩)] 351 true)], .int .i64 (.ofNat 0), 1696, [(1, some (.map [⟨.string ⟨#[111, 114, 105, 103, 105, 110, 97, 108]⟩, .pointer (some ⟨32, 0, none⟩), 0⟩, ⟨.string ⟨#[115, 116, 111, 114, 101]⟩, .pointer (some ⟨412, 0, none⟩), 1⟩] 2)),
  (2, some (.cells [.int .i64 (.ofNat 100000), .int .i64 (.ofNat 2), .int .i64 (.negSucc 1), .bool false, .bool false, .map (some 1), .slice (some ⟨1687, 0, none⟩) 8 8] 61 true)),
  (214, some (.cells [.int .i64 (.ofNat 1), .int .i64 (.ofNat 0), .bool false, .pointer (some ⟨38, 1, none⟩), .pointer (some ⟨339, 0, none⟩)] 351 true)),
  (412, some (.cells [.slice (some ⟨1583, 0, none⟩) 512 512, .slice none 0 0, .bool false] 130 true)),
  (943, some (.cells (u8z 64) 5 false)),
  (971, some (.cells (u8z 64) 5 false)),
  (999, some (.cells (u8z 64) 5 false)),
  (1027, some (.cells (u8z 64) 5 false)),
  (1583, some (.cells (u8z 256 ++ u8s [1, 0, 14, 0, 1, 0, 0, 0, 194, 105, 111, 233, 1] ++ u8z 5 ++ u8s [3, 0, 0, 0, 255, 255, 255, 255] ++ u8z 230) 5 false)),
  (1602, some (.cells (u8s [1, 0, 14, 0, 1, 0, 0, 0, 194, 105, 111, 233, 1] ++ u8z 5 ++ u8s [3, 0, 0, 0, 255, 255, 255, 255] ++ u8z 38) 5 false)),
  (1630, some (.cells (u8z 64) 5 false)),
  (1658, some (.cells (u8z 64) 5 false)),
  (1686, some (.cells (u8z 64) 5 false)),
  (1687, some (.cells [.string ⟨#[115, 116, 111, 114, 101]⟩, .int .i64 (.ofNat 0), .slice (some ⟨943, 0, none⟩) 64 64, .string ⟨#[115, 116, 111, 114, 101]⟩, .int .i64 (.ofNat 64), .slice (some ⟨971, 0, none⟩) 64 64, .string ⟨#[115, 116, 111, 114, 101]⟩, .int .i64 (.ofNat 128), .slice (some ⟨999, 0, none⟩) 64 64, .string ⟨#[115, 116, 111, 114, 101]⟩, .int .i64 (.ofNat 192), .slice (some ⟨1027, 0, none⟩) 64 64, .string ⟨#[115, 116, 111, 114, 101]⟩, .int .i64 (.ofNat 256), .slice (some ⟨1602, 0, none⟩) 64 64, .string ⟨#[115, 116, 111, 114, 101]⟩, .int .i64 (.ofNat 320), .slice (some ⟨1630, 0, none⟩) 64 64, .string ⟨#[115, 116, 111, 114, 101]⟩, .int .i64 (.ofNat 384), .slice (some ⟨1658, 0, none⟩) 64 64, .string ⟨#[115, 116, 111, 114, 101]⟩, .int .i64 (.ofNat 448), .slice (some ⟨1686, 0, none⟩) 64 64] 134 false))]⟩
theorem m23_11_ok : m23_11.ok (call evT evF k23_11 100000 m23_11.f m23_11.args m23_11.preH) = true := by kernel_rfl
theorem q23_11 : HkOk Tryz.prog (hkMemo m23_11) := hkMemo_ok evT_ok evF_ok k23_11_ok rfl m23_11_ok
noncomputable def k23_14 : Hk := orHk (hkMemo m23_13) (hkLib)
theorem k23_14_ok : HkOk Tryz.prog k23_14 := orHk_ok q23_13 (hkLib_ok)
noncomputable def m23_14 : Mm :=
  ⟨249, [.pointer (some ⟨56, 0, none⟩), .int .i64 (.ofNat 2)], 1696, [(1, .map [⟨.string ⟨#[111, 114, 105, 103, 105, 110, 97, 108]⟩, .pointer (some ⟨32, 0, none⟩), 0⟩, ⟨.string ⟨#[115, 116, 111, 114, 101]⟩, .pointer (some ⟨412, 0, none⟩), 1⟩] 2),
  (2, .cells [.int .i64 (.ofNat 100000), .int .i64 (.ofNat 2), .int .i64 (.negSucc 1), .bool false, .bool false, .map (some 1), .slice (some ⟨1687, 0, none⟩) 8 8] 61 true),
  (32, .cells [.slice (some ⟨34, 0, none⟩) 3 3, .slice (some ⟨35, 0, none⟩) 3 3, .bool true] 130 true),
  (34, .cells (u8s [97, 98, 99]) 5 false),
  (35, .cells (u8s [97, 98, 99]) 5 false),
  (37, .map [⟨.int .i64 (.ofNat 1), .pointer (some ⟨214, 0, none⟩), 0⟩, ⟨.int .i64 (.ofNat 2), .pointer (some ⟨339, 0, none⟩), 1⟩] 2),
  (38, .cells [.int .i64 (.ofNat 5), .int .i64 (.ofNat 0), .int .i64 (.ofNat 0), .bool false, .pointer (some ⟨339, 0, none⟩), .pointer (some ⟨214, 0, none⟩), .map (some 37)] 357 true),
  (55, .map [⟨.int .i64 (.ofNat 1), .slice (some ⟨240, 0, none⟩) 256 256, 0⟩, ⟨.int .i64 (.ofNat 2), .slice (some ⟨365, 0, none⟩) 256 256, 1⟩] 2),
  (56, .cells [.pointer (some ⟨38, 0, none⟩), .pointer (some ⟨2, 0, none⟩), .string ⟨#[115, 116, 111, 114, 101]⟩, .int .i64 (.ofNat 5), .map (some 55), .int .i64 (.ofNat 0)] 249 true),
  (214, .cells [.int .i64 (.ofNat 1), .int .i64 (.ofNat 0), .bool false, .pointer (some ⟨38, 1, none⟩), .pointer (some ⟨339, 0, none⟩)] 351 true),
  (339, .cells [.int .i64 (.ofNat 2), .int .i64 (.ofNat 0), .bool true, .pointer (some ⟨214, 0, none⟩), .pointer (some ⟨38, 1, none⟩)] 351 true),
  (365, .cells (u8s [3, 0, 9, 0, 2, 0, 0, 0, 68, 252, 163, 153, 1, 1, 0, 0, 0, 3] ++ u8z 238) 5 false),
  (412, .cells [.slice (some ⟨1583, 0, none⟩) 512 512, .slice none 0 0, .bool false] 130 true),
  (1583, .cells (u8z 256 ++ u8s [1, 0, 14, 0, 1, 0, 0, 0, 194, 105, 111, 233, 1] ++ u8z 5 ++ u8s [3, 0, 0, 0, 255, 255, 255, 255] ++ u8z 230) 5 false),
  (1687, .cells [.string ⟨#[115, 116, 111, 114, 101]⟩, .int .i64 (.ofNat 0), .slice (some ⟨943, 0, none⟩) 64 64, .string ⟨#[115, 116, 111, 114, 101]⟩, .int .i64 (.ofNat 64), .slice (some ⟨971, 0, none⟩) 64 64, .string ⟨#[115, 116, 111, 114, 101]⟩, .int .i64 (.ofNat 128), .slice (some ⟨999, 0, none⟩) 64 64, .string ⟨#[115, 116, 111, 114, 101]⟩, .int .i64 (.ofNat 192), .slice (some ⟨1027, 0, none⟩) 64 64, .string ⟨#[115, 116, 111, 114, 101]⟩, .int .i64 (.ofNat 256), .slice (some ⟨1602, 0, none⟩) 64 64, .string ⟨#[115, 116, 111, 114, 101]⟩, .int .i64 (.ofNat 320), .slice (some ⟨1630, 0, none⟩) 64 64, .string ⟨#[115, 116, 111, 114, 101]⟩, .int .i64 (.ofNat 384), .slice (some ⟨1658, 0, none⟩) 64 64, .string ⟨#[115, 116, 111, 114, 101]⟩, .int .i64 (.ofNat 448), .slice (some ⟨1686, 0, none⟩) 64 64] 134 false)], .int .i64 (.ofNat 0), 2367, [(2, some (.cells [.int .i64 (.ofNat 100000), .int .i64 (.ofNat 3), .int .i64 (.negSucc 2), .bool false, .bool false, .map (some 1), .slice (some ⟨2358, 0, none⟩) 12 12] 61 true)),
  (339, some (.cells [.int .i64 (.ofNat 2), .int .i64 (.ofNat 0), .bool false, .pointer (some ⟨214, 0, none⟩), .pointer (some ⟨38, 1, none⟩)] 351 true)),
  (412, some (.cells [.slice (some ⟨2254, 0, none⟩) 768 768, .slice none 0 0, .bool false] 130 true)),
  (1583, none),
  (1687, none),
  (2254, some (.cells (u8z 256 ++ u8s [1, 0, 14, 0, 1, 0, 0, 0, 194, 105, 111, 233, 1] ++ u8z 5 ++ u8s [3, 0, 0, 0, 255, 255, 255, 255] ++ u8z 230 ++ u8s [3, 0, 9, 0, 2, 0, 0, 0, 68, 252, 163, 153, 1, 1, 0, 0, 0, 3] ++ u8z 238) 5 false)),
  (2273, some (.cells (u8s [3, 0, 9, 0, 2, 0, 0, 0, 68, 252, 163, 153, 1, 1, 0, 0, 0, 3] ++ u8z 46) 5 false)),
  (2301, some (.cells (u8z 64) 5 false)),
  (2329, some (.cells (u8z 64) 5 false)),
  (2357, some (.cells (u8z 64) 5 false)),
  (2358, some (.cells [.string ⟨#[115, 116, 111, 114, 101]⟩, .int .i64 (.ofNat 0), .slice (some ⟨943, 0, none⟩) 64 64, .string ⟨#[115, 116, 111, 114, 101]⟩, .int .i64 (.ofNat 64), .slice (some ⟨971, 0, none⟩) 64 64, .string ⟨#[115, 116, 111, 114, 101]⟩, .int .i64 (.ofNat 128), .slice (some ⟨999, 0, none⟩) 64 64, .string ⟨#[115, 116, 111, 114, 101]⟩, .int .i64 (.ofNat 192), .slice (some ⟨1027, 0, none⟩) 64 64, .string ⟨#[115, 116, 111, 114, 101]⟩, .int .i64 (.ofNat 256), .slice (some ⟨1602, 0, none⟩) 64 64, .string ⟨#[115, 116, 111, 114, 101]⟩, .int .i64 (.ofNat 320), .slice (some ⟨1630, 0, none⟩) 64 64, .string ⟨#[115, 116, 111, 114, 101]⟩, .int .i64 (.ofNat 384), .slice (some ⟨1658, 0, none⟩) 64 64, .string ⟨#[115, 116, 111, 114, 101]⟩, .int .i64 (.ofNat 448), .slice (some ⟨1686, 0, none⟩) 64 64, .string ⟨#[115, 116, 111, 114, 101]⟩, .int .i64 (.ofNat 512), .slice (some ⟨2273, 0, none⟩) 64 64, .string ⟨#[115, 116, 111, 114, 101]⟩, .int .i64 (.ofNat 576), .slice (some ⟨2301, 0, none⟩) 64 64, .string ⟨#[115, 116, 111, 114, 101]⟩, .int .i64 (.ofNat 640), .slice (some ⟨2329, 0, none⟩) 64 64, .string ⟨#[115, 116, 111, 114, 101]⟩, .int .i64 (.ofNat 704), .slice (some ⟨2357, 0, none⟩) 64 64] 134 false))]⟩
theorem m23_14_ok : m23_14.ok (call evT evF k23_14 100000 m23_14.f m23_14.args m23_14.preH) = true := by kernel_rfl
theorem q23_14 : HkOk Tryz.prog (hkMemo m23_14) := hkMemo_ok evT_ok evF_ok k23_14_ok rfl m23_14_ok
noncomputable def k23_20 : Hk := orHk (hkMemo m23_18) (orHk (hkMemo m23_19) (hkLib))
theorem k23_20_ok : HkOk Tryz.prog k23_20 := orHk_ok q23_18 (orHk_ok q23_19 (hkLib_ok))
noncomputable def m23_20 : Mm :=
  ⟨229, [.pointer (some ⟨60, 0, none⟩), .int .i64 (.ofNat 1)], 2438, [(1, .map [⟨.string ⟨#[111, 114, 105, 103, 105, 110, 97, 108]⟩, .pointer (some ⟨32, 0, none⟩), 0⟩, ⟨.string ⟨#[115, 116, 111, 114, 101]⟩, .pointer (some ⟨412, 0, none⟩), 1⟩] 2),
  (2, .cells [.int .i64 (.ofNat 100000), .int .i64 (.ofNat 4), .int .i64 (.negSucc 3), .bool false, .bool false, .map (some 1), .slice none 0 0] 61 true),
  (32, .cells [.slice (some ⟨34, 0, none⟩) 3 3, .slice (some ⟨35, 0, none⟩) 3 3, .bool true] 130 true),
  (34, .cells (u8s [97, 98, 99]) 5 false),
  (35, .cells (u8s [97, 98, 99]) 5 false),
  (37, .map [⟨.int .i64 (.ofNat 1), .pointer (some ⟨214, 0, none⟩), 0⟩, ⟨.int .i64 (.ofNat 2), .pointer (some ⟨339, 0, none⟩), 1⟩] 2),
  (38, .cells [.int .i64 (.ofNat 5), .int .i64 (.ofNat 0), .int .i64 (.ofNat 0), .bool false, .pointer (some ⟨339, 0, none⟩), .pointer (some ⟨214, 0, none⟩), .map (some 37)] 357 true),
  (55, .map [⟨.int .i64 (.ofNat 1), .slice (some ⟨240, 0, none⟩) 256 256, 0⟩, ⟨.int .i64 (.ofNat 2), .slice (some ⟨365, 0, none⟩) 256 256, 1⟩] 2),
  (56, .cells [.pointer (some ⟨38, 0, none⟩), .pointer (some ⟨2, 0, none⟩), .string ⟨#[115, 116, 111, 114, 101]⟩, .int .i64 (.ofNat 5), .map (some 55), .int .i64 (.ofNat 0)] 249 true),
  (57, .map [⟨.int .i64 (.ofNat 1), .bool true, 0⟩, ⟨.int .i64 (.ofNat 2), .bool true, 1⟩] 2),
  (58, .map [] 0),
  (59, .cells [.int .i64 (.ofNat 1), .map (some 57), .map (some 58), .slice (some ⟨307, 0, none⟩) 2 2] 214 true),
  (60, .cells [.pointer (some ⟨56, 0, none⟩), .pointer (some ⟨59, 0, none⟩)] 257 true),
  (214, .cells [.int .i64 (.ofNat 1), .int .i64 (.ofNat 0), .bool false, .pointer (some ⟨38, 1, none⟩), .pointer (some ⟨339, 0, none⟩)] 351 true),
  (240, .cells (u8s [1, 0, 14, 0, 1, 0, 0, 0, 194, 105, 111, 233, 1] ++ u8z 5 ++ u8s [3, 0, 0, 0, 255, 255, 255, 255] ++ u8z 230) 5 false),
  (307, .cells [.int .i64 (.ofNat 1), .int .i64 (.ofNat 2)] 3 false),
  (339, .cells [.int .i64 (.ofNat 2), .int .i64 (.ofNat 0), .bool false, .pointer (some ⟨214, 0, none⟩), .pointer (some ⟨38, 1, none⟩)] 351 true),
  (412, .cells [.slice (some ⟨2254, 0, none⟩) 768 768, .slice (some ⟨2378, 0, none⟩) 768 768, .bool true] 130 true)], .agg #[.bool true, .slice (some ⟨2884, 0, none⟩) 1 1, .slice none 0 0], 2899, [(38, some (.cells [.int .i64 (.ofNat 5), .int .i64 (.ofNat 0), .int .i64 (.ofNat 0), .bool false, .pointer (some ⟨214, 0, none⟩), .pointer (some ⟨339, 0, none⟩), .map (some 37)] 357 true)),
  (214, some (.cells [.int .i64 (.ofNat 1), .int .i64 (.ofNat 0), .bool false, .pointer (some ⟨339, 0, none⟩), .pointer (some ⟨38, 1, none⟩)] 351 true)),
  (339, some (.cells [.int .i64 (.ofNat 2), .int .i64 (.ofNat 0), .bool false, .pointer (some ⟨38, 1, none⟩), .pointer (some ⟨214, 0, none⟩)] 351 true)),
  (2884, some (.cells [.int .i64 (.ofNat 0), .int .i64 (.ofNat 0), .int .i64 (.ofNat 3), .int .i64 (.negSucc 0)] 147 false))]⟩
theorem m23_20_ok : m23_20.ok (call evT evF k23_20 100000 m23_20.f m23_20.args m23_20.preH) = true := by kernel_rfl
theorem q23_20 : HkOk Tryz.prog (hkMemo m23_20) := hkMemo_ok evT_ok evF_ok k23_20_ok rfl m23_20_ok
noncomputable def k23_33 : Hk := orHk (hkMemo m23_31) (orHk (hkMemo m23_32) (hkLib))
theorem k23_33_ok : HkOk Tryz.prog k23_33 := orHk_ok q23_31 (orHk_ok q23_32 (hkLib_ok))
noncomputable def m23_33 : Mm :=
  ⟨229, [.pointer (some ⟨60, 0, none⟩), .int .i64 (.ofNat 1)], 3232, [(1, .map [⟨.string ⟨#[111, 114, 105, 103, 105, 110, 97, 108]⟩, .pointer (some ⟨32, 0, none⟩), 0⟩, ⟨.string ⟨#[115, 116, 111, 114, 101]⟩, .pointer (some ⟨412, 0, none⟩), 1⟩, ⟨.string ⟨#[116, 97, 105, 108]⟩, .pointer (some ⟨3148, 0, none⟩), 2⟩] 3),
  (2, .cells [.int .i64 (.ofNat 100000), .int .i64 (.ofNat 7), .int .i64 (.negSucc 6), .bool false, .bool false, .map (some 1), .slice (some ⟨3170, 0, none⟩) 1 1] 61 true),
  (32, .cells [.slice (some ⟨34, 0, none⟩) 3 3, .slice (some ⟨35, 0, none⟩) 3 3, .bool true] 130 true),
  (34, .cells (u8s [97, 98, 99]) 5 false),
  (35, .cells (u8s [97, 98, 99]) 5 false),
  (37, .map [⟨.int .i64 (.ofNat 1), .pointer (some ⟨214, 0, none⟩), 0⟩, ⟨.int .i64 (.ofNat 2), .pointer (some ⟨339, 0, none⟩), 1⟩] 2),
  (38, .cells [.int .i64 (.ofNat 5), .int .i64 (.ofNat 0), .int .i64 (.ofNat 0), .bool false, .pointer (some ⟨214, 0, none⟩), .pointer (some ⟨339, 0, none⟩), .map (some 37)] 357 true),
  (55, .map [⟨.int .i64 (.ofNat 1), .slice (some ⟨240, 0, none⟩) 256 256, 0⟩, ⟨.int .i64 (.ofNat 2), .slice (some ⟨365, 0, none⟩) 256 256, 1⟩] 2),
  (56, .cells [.pointer (some ⟨38, 0, none⟩), .pointer (some ⟨2, 0, none⟩), .string ⟨#[115, 116, 111, 114, 101]⟩, .int .i64 (.ofNat 5), .map (some 55), .int .i64 (.ofNat 0)] 249 true),
  (57, .map [⟨.int .i64 (.ofNat 2), .bool true, 2⟩, ⟨.int .i64 (.ofNat 1), .bool true, 3⟩] 4),
  (58, .map [] 0),
  (59, .cells [.int .i64 (.ofNat 1), .map (some 57), .map (some 58), .slice none 0 0] 214 true),
  (60, .cells [.pointer (some ⟨56, 0, none⟩), .pointer (some ⟨59, 0, none⟩)] 257 true),
  (214, .cells [.int .i64 (.ofNat 1), .int .i64 (.ofNat 0), .bool false, .pointer (some ⟨339, 0, none⟩), .pointer (some ⟨38, 1, none⟩)] 351 true),
  (240, .cells (u8s [1, 0, 14, 0, 1, 0, 0, 0, 194, 105, 111, 233, 1] ++ u8z 5 ++ u8s [3, 0, 0, 0, 255, 255, 255, 255] ++ u8z 230) 5 false),
  (339, .cells [.int .i64 (.ofNat 2), .int .i64 (.ofNat 0), .bool false, .pointer (some ⟨38, 1, none⟩), .pointer (some ⟨214, 0, none⟩)] 351 true),
  (412, .cells [.slice (some ⟨2254, 0, none⟩) 768 768, .slice (some ⟨2990, 0, none⟩) 768 768, .bool true] 130 true),
  (3148, .cells [.slice (some ⟨3150, 0, none⟩) 1 1, .slice none 0 0, .bool false] 130 true),
  (3150, .cells (u8s [120]) 5 false),
  (3169, .cells (u8s [120]) 5 false),
  (3170, .cells [.string ⟨#[116, 97, 105, 108]⟩, .int .i64 (.ofNat 0), .slice (some ⟨3169, 0, none⟩) 1 1] 134 false)], .agg #[.bool true, .slice (some ⟨3678, 0, none⟩) 1 1, .slice none 0 0], 3693, [(3678, some (.cells [.int .i64 (.ofNat 0), .int .i64 (.ofNat 0), .int .i64 (.ofNat 3), .int .i64 (.negSucc 0)] 147 false))]⟩
theorem m23_33_ok : m23_33.ok (call evT evF k23_33 100000 m23_33.f m23_33.args m23_33.preH) = true := by kernel_rfl
theorem q23_33 : HkOk Tryz.prog (hkMemo m23_33) := hkMemo_ok evT_ok evF_ok k23_33_ok rfl m23_33_ok
noncomputable def k23_38 : Hk := orHk (hkMemo m23_36) (orHk (hkMemo m23_37) (hkLib))
theorem k23_38_ok : HkOk Tryz.prog k23_38 := orHk_ok q23_36 (orHk_ok q23_37 (hkLib_ok))
noncomputable def m23_38 : Mm :=
  ⟨229, [.pointer (some ⟨60, 0, none⟩), .int .i64 (.ofNat 1)], 3728, [(1, .map [⟨.string ⟨#[111, 114, 105, 103, 105, 110, 97, 108]⟩, .pointer (some ⟨32, 0, none⟩), 0⟩, ⟨.string ⟨#[115, 116, 111, 114, 101]⟩, .pointer (some ⟨412, 0, none⟩), 1⟩, ⟨.string ⟨#[116, 97, 105, 108]⟩, .pointer (some ⟨3148, 0, none⟩), 2⟩] 3),
  (2, .cells [.int .i64 (.ofNat 100000), .int .i64 (.ofNat 7), .int .i64 (.negSucc 6), .bool false, .bool false, .map (some 1), .slice (some ⟨3170, 0, none⟩) 1 1] 61 true),
  (32, .cells [.slice (some ⟨34, 0, none⟩) 3 3, .slice (some ⟨35, 0, none⟩) 3 3, .bool true] 130 true),
  (34, .cells (u8s [97, 98, 99]) 5 false),
  (35, .cells (u8s [97, 98, 99]) 5 false),
  (37, .map [⟨.int .i64 (.ofNat 1), .pointer (some ⟨214, 0, none⟩), 0⟩, ⟨.int .i64 (.ofNat 2), .pointer (some ⟨339, 0, none⟩), 1⟩] 2),
  (38, .cells [.int .i64 (.ofNat 5), .int .i64 (.ofNat 0), .int .i64 (.ofNat 0), .bool false, .pointer (some ⟨214, 0, none⟩), .pointer (some ⟨339, 0, none⟩), .map (some 37)] 357 true),
  (55, .map [⟨.int .i64 (.ofNat 1), .slice (some ⟨240, 0, none⟩) 256 256, 0⟩, ⟨.int .i64 (.ofNat 2), .slice (some ⟨365, 0, none⟩) 256 256, 1⟩] 2),
  (56, .cells [.pointer (some ⟨38, 0, none⟩), .pointer (some ⟨2, 0, none⟩), .string ⟨#[115, 116, 111, 114, 101]⟩, .int .i64 (.ofNat 5), .map (some 55), .int .i64 (.ofNat 0)] 249 true),
  (57, .map [⟨.int .i64 (.ofNat 2), .bool true, 2⟩, ⟨.int .i64 (.ofNat 1), .bool true, 3⟩] 4),
  (58, .map [] 0),
  (59, .cells [.int .i64 (.ofNat 1), .map (some 57), .map (some 58), .slice none 0 0] 214 true),
  (60, .cells [.pointer (some ⟨56, 0, none⟩), .pointer (some ⟨59, 0, none⟩)] 257 true),
  (214, .cells [.int .i64 (.ofNat 1), .int .i64 (.ofNat 0), .bool false, .pointer (some ⟨339, 0, none⟩), .pointer (some ⟨38, 1, none⟩)] 351 true),
  (240, .cells (u8s [1, 0, 14, 0, 1, 0, 0, 0, 194, 105, 111, 233, 1] ++ u8z 5 ++ u8s [3, 0, 0, 0, 255, 255, 255, 255] ++ u8z 230) 5 false),
  (339, .cells [.int .i64 (.ofNat 2), .int .i64 (.ofNat 0), .bool false, .pointer (some ⟨38, 1, none⟩), .pointer (some ⟨214, 0, none⟩)] 351 true),
  (412, .cells [.slice (some ⟨2254, 0, none⟩) 768 768, .slice (some ⟨2990, 0, none⟩) 768 768, .bool true] 130 true),
  (3148, .cells [.slice (some ⟨3150, 0, none⟩) 1 1, .slice none 0 0, .bool false] 130 true),
  (3150, .cells (u8s [120]) 5 false),
  (3169, .cells (u8s [120]) 5 false),
  (3170, .cells [.string ⟨#[116, 97, 105, 108]⟩, .int .i64 (.ofNat 0), .slice (some ⟨3169, 0, none⟩) 1 1] 134 false)], .agg #[.bool true, .slice (some ⟨4174, 0, none⟩) 1 1, .slice none 0 0], 4189, [(4174, some (.cells [.int .i64 (.ofNat 0), .int .i64 (.ofNat 0), .int .i64 (.ofNat 3), .int .i64 (.negSucc 0)] 147 false))]⟩
theorem m23_38_ok : m23_38.ok (call evT evF k23_38 100000 m23_38.f m23_38.args m23_38.preH) = true := by kernel_rfl
theorem q23_38 : HkOk Tryz.prog (hkMemo m23_38) := hkMemo_ok evT_ok evF_ok k23_38_ok rfl m23_38_ok
noncomputable def k23_43 : Hk := orHk (hkMemo m23_41) (orHk (hkMemo m23_42) (hkLib))
theorem k23_43_ok : HkOk Tryz.prog k23_43 := orHk_ok q23_41 (orHk_ok q23_42 (hkLib_ok))
noncomputable def m23_43 : Mm :=
  ⟨229, [.pointer (some ⟨60, 0, none⟩), .int .i64 (.ofNat 1)], 4285, [(1, .map [⟨.string ⟨#[111, 114, 105, 103, 105, 110, 97, 108]⟩, .pointer (some ⟨32, 0, none⟩), 0⟩, ⟨.string ⟨#[115, 116, 111, 114, 101]⟩, .pointer (some ⟨412, 0, none⟩), 1⟩, ⟨.string ⟨#[116, 97, 105, 108]⟩, .pointer (some ⟨3148, 0, none⟩), 2⟩] 3),
  (2, .cells [.int .i64 (.ofNat 100000), .int .i64 (.ofNat 7), .int .i64 (.negSucc 6), .bool false, .bool false, .map (some 1), .slice (some ⟨3170, 0, none⟩) 1 1] 61 true),
  (32, .cells [.slice (some ⟨34, 0, none⟩) 3 3, .slice (some ⟨35, 0, none⟩) 3 3, .bool true] 130 true),
  (34, .cells (u8s [97, 98, 99]) 5 false),
  (35, .cells (u8s [97, 98, 99]) 5 false),
  (37, .map [⟨.int .i64 (.ofNat 1), .pointer (some ⟨214, 0, none⟩), 0⟩, ⟨.int .i64 (.ofNat 2), .pointer (some ⟨339, 0, none⟩), 1⟩] 2),
  (38, .cells [.int .i64 (.ofNat 5), .int .i64 (.ofNat 0), .int .i64 (.ofNat 0), .bool false, .pointer (some ⟨214, 0, none⟩), .pointer (some ⟨339, 0, none⟩), .map (some 37)] 357 true),
  (55, .map [⟨.int .i64 (.ofNat 1), .slice (some ⟨240, 0, none⟩) 256 256, 0⟩, ⟨.int .i64 (.ofNat 2), .slice (some ⟨365, 0, none⟩) 256 256, 1⟩] 2),
  (56, .cells [.pointer (some ⟨38, 0, none⟩), .pointer (some ⟨2, 0, none⟩), .string ⟨#[115, 116, 111, 114, 101]⟩, .int .i64 (.ofNat 5), .map (some 55), .int .i64 (.ofNat 0)] 249 true),
  (57, .map [⟨.int .i64 (.ofNat 2), .bool true, 2⟩, ⟨.int .i64 (.ofNat 1), .bool true, 3⟩] 4),
  (58, .map [] 0),
  (59, .cells [.int .i64 (.ofNat 1), .map (some 57), .map (some 58), .slice none 0 0] 214 true),
  (60, .cells [.pointer (some ⟨56, 0, none⟩), .pointer (some ⟨59, 0, none⟩)] 257 true),
  (214, .cells [.int .i64 (.ofNat 1), .int .i64 (.ofNat 0), .bool false, .pointer (some ⟨339, 0, none⟩), .pointer (some ⟨38, 1, none⟩)] 351 true),
  (240, .cells (u8s [1, 0, 14, 0, 1, 0, 0, 0, 194, 105, 111, 233, 1] ++ u8z 5 ++ u8s [3, 0, 0, 0, 255, 255, 255, 255] ++ u8z 230) 5 false),
  (339, .cells [.int .i64 (.ofNat 2), .int .i64 (.ofNat 0), .bool false, .pointer (some ⟨38, 1, none⟩), .pointer (some ⟨214, 0, none⟩)] 351 true),
  (412, .cells [.slice (some ⟨2254, 0, none⟩) 768 768, .slice (some ⟨2990, 0, none⟩) 768 768, .bool true] 130 true),
  (3148, .cells [.slice (some ⟨3150, 0, none⟩) 1 1, .slice none 0 0, .bool false] 130 true),
  (3150, .cells (u8s [120]) 5 false),
  (3169, .cells (u8s [120]) 5 false),
  (3170, .cells [.string ⟨#[116, 97, 105, 108]⟩, .int .i64 (.ofNat 0), .slice (some ⟨3169, 0, none⟩) 1 1] 134 false)], .agg #[.bool true, .slice (some ⟨4731, 0, none⟩) 1 1, .slice none 0 0], 4746, [(4731, some (.cells [.int .i64 (.ofNat 0), .int .i64 (.ofNat 0), .int .i64 (.ofNat 3), .int .i64 (.negSucc 0)] 147 false))]⟩
theorem m23_43_ok : m23_43.ok (call evT evF k23_43 100000 m23_43.f m23_43.args m23_43.preH) = true := by kernel_rfl
theorem q23_43 : HkOk Tryz.prog (hkMemo m23_43) := hkMemo_ok evT_ok evF_ok k23_43_ok rfl m23_43_ok
noncomputable def k23_55 : Hk := orHk (hkMemo m23_53) (orHk (hkMemo m23_54) (hkLib))
theorem k23_55_ok : HkOk Tryz.prog k23_55 := orHk_ok q23_53 (orHk_ok q23_54 (hkLib_ok))
noncomputable def m23_55 : Mm :=
  ⟨229, [.pointer (some ⟨60, 0, none⟩), .int .i64 (.ofNat 3)], 5042, [(1, .map [⟨.string ⟨#[111, 114, 105, 103, 105, 110, 97, 108]⟩, .pointer (some ⟨32, 0, none⟩), 0⟩, ⟨.string ⟨#[115, 116, 111, 114, 101]⟩, .pointer (some ⟨412, 0, none⟩), 1⟩, ⟨.string ⟨#[116, 97, 105, 108]⟩, .pointer (some ⟨3148, 0, none⟩), 2⟩] 3),
  (2, .cells [.int .i64 (.ofNat 100000), .int .i64 (.ofNat 7), .int .i64 (.negSucc 6), .bool false, .bool false, .map (some 1), .slice (some ⟨3170, 0, none⟩) 1 1] 61 true),
  (32, .cells [.slice (some ⟨34, 0, none⟩) 3 3, .slice (some ⟨35, 0, none⟩) 3 3, .bool true] 130 true),
  (34, .cells (u8s [97, 98, 99]) 5 false),
  (35, .cells (u8s [97, 98, 99]) 5 false),
  (37, .map [⟨.int .i64 (.ofNat 1), .pointer (some ⟨214, 0, none⟩), 0⟩, ⟨.int .i64 (.ofNat 2), .pointer (some ⟨339, 0, none⟩), 1⟩, ⟨.int .i64 (.ofNat 3), .pointer (some ⟨4945, 0, none⟩), 2⟩] 3),
  (38, .cells [.int .i64 (.ofNat 5), .int .i64 (.ofNat 0), .int .i64 (.ofNat 0), .bool false, .pointer (some ⟨4945, 0, none⟩), .pointer (some ⟨339, 0, none⟩), .map (some 37)] 357 true),
  (55, .map [⟨.int .i64 (.ofNat 1), .slice (some ⟨240, 0, none⟩) 256 256, 0⟩, ⟨.int .i64 (.ofNat 2), .slice (some ⟨365, 0, none⟩) 256 256, 1⟩, ⟨.int .i64 (.ofNat 3), .slice (some ⟨4971, 0, none⟩) 256 256, 2⟩] 3),
  (56, .cells [.pointer (some ⟨38, 0, none⟩), .pointer (some ⟨2, 0, none⟩), .string ⟨#[115, 116, 111, 114, 101]⟩, .int .i64 (.ofNat 5), .map (some 55), .int .i64 (.ofNat 0)] 249 true),
  (57, .map [⟨.int .i64 (.ofNat 2), .bool true, 2⟩, ⟨.int .i64 (.ofNat 1), .bool true, 3⟩, ⟨.int .i64 (.ofNat 3), .bool true, 4⟩] 5),
  (58, .map [] 0),
  (59, .cells [.int .i64 (.ofNat 1), .map (some 57), .map (some 58), .slice (some ⟨4913, 0, none⟩) 1 1] 214 true),
  (60, .cells [.pointer (some ⟨56, 0, none⟩), .pointer (some ⟨59, 0, none⟩)] 257 true),
  (214, .cells [.int .i64 (.ofNat 1), .int .i64 (.ofNat 0), .bool false, .pointer (some ⟨339, 0, none⟩), .pointer (some ⟨4945, 0, none⟩)] 351 true),
  (339, .cells [.int .i64 (.ofNat 2), .int .i64 (.ofNat 0), .bool false, .pointer (some ⟨38, 1, none⟩), .pointer (some ⟨214, 0, none⟩)] 351 true),
  (412, .cells [.slice (some ⟨2254, 0, none⟩) 768 768, .slice (some ⟨2990, 0, none⟩) 768 768, .bool true] 130 true),
  (3148, .cells [.slice (some ⟨3150, 0, none⟩) 1 1, .slice none 0 0, .bool false] 130 true),
  (3150, .cells (u8s [120]) 5 false),
  (3169, .cells (u8s [120]) 5 false),
  (3170, .cells [.string ⟨#[116, 97, 105, 108]⟩, .int .i64 (.ofNat 0), .slice (some ⟨3169, 0, none⟩) 1 1] 134 false),
  (4913, .cells [.int .i64 (.ofNat 3)] 3 false),
  (4945, .cells [.int .i64 (.ofNat 3), .int .i64 (.ofNat 0), .bool true, .pointer (some ⟨214, 0, none⟩), .pointer (some ⟨38, 1, none⟩)] 351 true),
  (4971, .cells (u8s [1, 0, 27, 0, 3, 0, 0, 0, 50, 165, 25, 235, 2, 1] ++ u8z 4 ++ u8s [1] ++ u8z 12 ++ u8s [3, 0, 0, 0, 255, 255, 255, 255] ++ u8z 217) 5 false)], .agg #[.bool true, .slice (some ⟨5618, 0, none⟩) 2 2, .slice none 0 0], 5636, [(5618, some (.cells [.int .i64 (.ofNat 1), .int .i64 (.ofNat 0), .int .i64 (.ofNat 1), .int .i64 (.ofNat 0), .int .i64 (.ofNat 0), .int .i64 (.ofNat 0), .int .i64 (.ofNat 3), .int .i64 (.negSucc 0)] 147 false))]⟩
theorem m23_55_ok : m23_55.ok (call evT evF k23_55 100000 m23_55.f m23_55.args m23_55.preH) = true := by kernel_rfl
theorem q23_55 : HkOk Tryz.prog (hkMemo m23_55) := hkMemo_ok evT_ok evF_ok k23_55_ok rfl m23_55_ok
noncomputable def k23_62 : Hk := orHk (hkMemo m23_61) (hkLib)
theorem k23_62_ok : HkOk Tryz.prog k23_62 := orHk_ok q23_61 (hkLib_ok)
noncomputable def m23_62 : Mm :=
  ⟨249, [.pointer (some ⟨56, 0, none⟩), .int .i64 (.ofNat 3)], 5799, [(1, .map [⟨.string ⟨#[111, 114, 105, 103, 105, 110, 97, 108]⟩, .pointer (some ⟨32, 0, none⟩), 0⟩, ⟨.string ⟨#[115, 116, 111, 114, 101]⟩, .pointer (some ⟨412, 0, none⟩), 1⟩, ⟨.string ⟨#[116, 97, 105, 108]⟩, .pointer (some ⟨3148, 0, none⟩), 2⟩] 3),
  (2, .cells [.int .i64 (.ofNat 100000), .int .i64 (.ofNat 7), .int .i64 (.negSucc 6), .bool false, .bool false, .map (some 1), .slice (some ⟨3170, 0, none⟩) 1 1] 61 true),
  (32, .cells [.slice (some ⟨34, 0, none⟩) 3 3, .slice (some ⟨35, 0, none⟩) 3 3, .bool true] 130 true),
  (34, .cells (u8s [97, 98, 99]) 5 false),
  (35, .cells (u8s [97, 98, 99]) 5 false),
  (37, .map [⟨.int .i64 (.ofNat 1), .pointer (some ⟨214, 0, none⟩), 0⟩, ⟨.int .i64 (.ofNat 2), .pointer (some ⟨339, 0, none⟩), 1⟩, ⟨.int .i64 (.ofNat 3), .pointer (some ⟨4945, 0, none⟩), 2⟩, ⟨.int .i64 (.ofNat 4), .pointer (some ⟨5771, 0, none⟩), 3⟩] 4),
  (38, .cells [.int .i64 (.ofNat 5), .int .i64 (.ofNat 0), .int .i64 (.ofNat 0), .bool false, .pointer (some ⟨5771, 0, none⟩), .pointer (some ⟨339, 0, none⟩), .map (some 37)] 357 true),
  (55, .map [⟨.int .i64 (.ofNat 1), .slice (some ⟨240, 0, none⟩) 256 256, 0⟩, ⟨.int .i64 (.ofNat 2), .slice (some ⟨365, 0, none⟩) 256 256, 1⟩, ⟨.int .i64 (.ofNat 3), .slice (some ⟨4971, 0, none⟩) 256 256, 2⟩, ⟨.int .i64 (.ofNat 4), .slice (some ⟨5797, 0, none⟩) 256 256, 3⟩] 4),
  (56, .cells [.pointer (some ⟨38, 0, none⟩), .pointer (some ⟨2, 0, none⟩), .string ⟨#[115, 116, 111, 114, 101]⟩, .int .i64 (.ofNat 5), .map (some 55), .int .i64 (.ofNat 0)] 249 true),
  (214, .cells [.int .i64 (.ofNat 1), .int .i64 (.ofNat 0), .bool false, .pointer (some ⟨339, 0, none⟩), .pointer (some ⟨4945, 0, none⟩)] 351 true),
  (339, .cells [.int .i64 (.ofNat 2), .int .i64 (.ofNat 0), .bool false, .pointer (some ⟨38, 1, none⟩), .pointer (some ⟨214, 0, none⟩)] 351 true),
  (412, .cells [.slice (some ⟨2254, 0, none⟩) 768 768, .slice (some ⟨2990, 0, none⟩) 768 768, .bool true] 130 true),
  (2254, .cells (u8z 64 ++ u8s [111, 99, 116, 97, 118, 111, 48, 49, 1] ++ u8z 5 ++ u8s [2] ++ u8z 8 ++ u8s [3] ++ u8z 36 ++ u8s [137, 155, 206, 78] ++ u8z 128 ++ u8s [1, 0, 14, 0, 1, 0, 0, 0, 194, 105, 111, 233, 1] ++ u8z 5 ++ u8s [3, 0, 0, 0, 255, 255, 255, 255] ++ u8z 230 ++ u8s [3, 0, 9, 0, 2, 0, 0, 0, 68, 252, 163, 153, 1, 1, 0, 0, 0, 3] ++ u8z 238) 5 false),
  (3148, .cells [.slice (some ⟨3150, 0, none⟩) 1 1, .slice none 0 0, .bool false] 130 true),
  (3150, .cells (u8s [120]) 5 false),
  (3169, .cells (u8s [120]) 5 false),
  (3170, .cells [.string ⟨#[116, 97, 105, 108]⟩, .int .i64 (.ofNat 0), .slice (some ⟨3169, 0, none⟩) 1 1] 134 false),
  (4945, .cells [.int .i64 (.ofNat 3), .int .i64 (.ofNat 0), .bool true, .pointer (some ⟨214, 0, none⟩), .pointer (some ⟨5771, 0, none⟩)] 351 true),
  (4971, .cells (u8s [1, 0, 27, 0, 3, 0, 0, 0, 50, 165, 25, 235, 2, 1] ++ u8z 4 ++ u8s [1] ++ u8z 12 ++ u8s [3, 0, 0, 0, 255, 255, 255, 255] ++ u8z 217) 5 false),
  (5771, .cells [.int .i64 (.ofNat 4), .int .i64 (.ofNat 0), .bool true, .pointer (some ⟨4945, 0, none⟩), .pointer (some ⟨38, 1, none⟩)] 351 true)], .int .i64 (.ofNat 0), 6470, [(2, some (.cells [.int .i64 (.ofNat 100000), .int .i64 (.ofNat 8), .int .i64 (.negSucc 7), .bool false, .bool false, .map (some 1), .slice (some ⟨6461, 0, none⟩) 5 5] 61 true)),
  (412, some (.cells [.slice (some ⟨6357, 0, none⟩) 1024 1024, .slice (some ⟨2990, 0, none⟩) 768 768, .bool true] 130 true)),
  (2254, none),
  (3170, none),
  (4945, some (.cells [.int .i64 (.ofNat 3), .int .i64 (.ofNat 0), .bool false, .pointer (some ⟨214, 0, none⟩), .pointer (some ⟨5771, 0, none⟩)] 351 true)),
  (6357, some (.cells (u8z 64 ++ u8s [111, 99, 116, 97, 118, 111, 48, 49, 1] ++ u8z 5 ++ u8s [2] ++ u8z 8 ++ u8s [3] ++ u8z 36 ++ u8s [137, 155, 206, 78] ++ u8z 128 ++ u8s [1, 0, 14, 0, 1, 0, 0, 0, 194, 105, 111, 233, 1] ++ u8z 5 ++ u8s [3, 0, 0, 0, 255, 255, 255, 255] ++ u8z 230 ++ u8s [3, 0, 9, 0, 2, 0, 0, 0, 68, 252, 163, 153, 1, 1, 0, 0, 0, 3] ++ u8z 238 ++ u8s [1, 0, 27, 0, 3, 0, 0, 0, 50, 165, 25, 235, 2, 1] ++ u8z 4 ++ u8s [1] ++ u8z 12 ++ u8s [3, 0, 0, 0, 255, 255, 255, 255] ++ u8z 217) 5 false)),
  (6376, some (.cells (u8s [1, 0, 27, 0, 3, 0, 0, 0, 50, 165, 25, 235, 2, 1] ++ u8z 4 ++ u8s [1] ++ u8z 12 ++ u8s [3, 0, 0, 0, 255, 255, 255, 255] ++ u8z 25) 5 false)),
  (6404, some (.cells (u8z 64) 5 false)),
  (6432, some (.cells (u8z 64) 5 false)),
  (6460, some (.cells (u8z 64) 5 false)),
  (6461, some (.cells [.string ⟨#[116, 97, 105, 108]⟩, .int .i64 (.ofNat 0), .slice (some ⟨3169, 0, none⟩) 1 1, .string ⟨#[115, 116, 111, 114, 101]⟩, .int .i64 (.ofNat 768), .slice (some ⟨6376, 0, none⟩) 64 64, .string ⟨#[115, 116, 111, 114, 101]⟩, .int .i64 (.ofNat 832), .slice (some ⟨6404, 0, none⟩) 64 64, .string ⟨#[115, 116, 111, 114, 101]⟩, .int .i64 (.ofNat 896), .slice (some ⟨6432, 0, none⟩) 64 64, .string ⟨#[115, 116, 111, 114, 101]⟩, .int .i64 (.ofNat 960), .slice (some ⟨6460, 0, none⟩) 64 64] 134 false))]⟩
theorem m23_62_ok : m23_62.ok (call evT evF k23_62 100000 m23_62.f m23_62.args m23_62.preH) = true := by kernel_rfl
theorem q23_62 : HkOk Tryz.prog (hkMemo m23_62) := hkMemo_ok evT_ok evF_ok k23_62_ok rfl m23_62_ok
noncomputable def k23_65 : Hk := orHk (hkMemo m23_64) (hkLib)
theorem k23_65_ok : HkOk Tryz.prog k23_65 := orHk_ok q23_64 (hkLib_ok)
noncomputable def m23_65 : Mm :=
  ⟨249, [.pointer (some ⟨56, 0, none⟩), .int .i64 (.ofNat 4)], 6470, [(1, .map [⟨.string ⟨#[111, 114, 105, 103, 105, 110, 97, 108]⟩, .pointer (some ⟨32, 0, none⟩), 0⟩, ⟨.string ⟨#[115, 116, 111, 114, 101]⟩, .pointer (some ⟨412, 0, none⟩), 1⟩, ⟨.string ⟨#[116, 97, 105, 108]⟩, .pointer (some ⟨3148, 0, none⟩), 2⟩] 3),
  (2, .cells [.int .i64 (.ofNat 100000), .int .i64 (.ofNat 8), .int .i64 (.negSucc 7), .bool false, .bool false, .map (some 1), .slice (some ⟨6461, 0, none⟩) 5 5] 61 true),
  (32, .cells [.slice (some ⟨34, 0, none⟩) 3 3, .slice (some ⟨35, 0, none⟩) 3 3, .bool true] 130 true),
  (34, .cells (u8s [97, 98, 99]) 5 false),
  (35, .cells (u8s [97, 98, 99]) 5 false),
  (37, .map [⟨.int .i64 (.ofNat 1), .pointer (some ⟨214, 0, none⟩), 0⟩, ⟨.int .i64 (.ofNat 2), .pointer (some ⟨339, 0, none⟩), 1⟩, ⟨.int .i64 (.ofNat 3), .pointer (some ⟨4945, 0, none⟩), 2⟩, ⟨.int .i64 (.ofNat 4), .pointer (some ⟨5771, 0, none⟩), 3⟩] 4),
  (38, .cells [.int .i64 (.ofNat 5), .int .i64 (.ofNat 0), .int .i64 (.ofNat 0), .bool false, .pointer (some ⟨5771, 0, none⟩), .pointer (some ⟨339, 0, none⟩), .map (some 37)] 357 true),
  (55, .map [⟨.int .i64 (.ofNat 1), .slice (some ⟨240, 0, none⟩) 256 256, 0⟩, ⟨.int .i64 (.ofNat 2), .slice (some ⟨365, 0, none⟩) 256 256, 1⟩, ⟨.int .i64 (.ofNat 3), .slice (some ⟨4971, 0, none⟩) 256 256, 2⟩, ⟨.int .i64 (.ofNat 4), .slice (some ⟨5797, 0, none⟩) 256 256, 3⟩] 4),
  (56, .cells [.pointer (some ⟨38, 0, none⟩), .pointer (some ⟨2, 0, none⟩), .string ⟨#[115, 116, 111, 114, 101]⟩, .int .i64 (.ofNat 5), .map (some 55), .int .i64 (.ofNat 0)] 249 true),
  (214, .cells [.int .i64 (.ofNat 1), .int .i64 (.ofNat 0), .bool false, .pointer (some ⟨339, 0, none⟩), .pointer (some ⟨4945, 0, none⟩)] 351 true),
  (339, .cells [.int .i64 (.ofNat 2), .int .i64 (.ofNat 0), .bool false, .pointer (some ⟨38, 1, none⟩), .pointer (some ⟨214, 0, none⟩)] 351 true),
  (412, .cells [.slice (some ⟨6357, 0, none⟩) 1024 1024, .slice (some ⟨2990, 0, none⟩) 768 768, .bool true] 130 true),
  (3148, .cells [.slice (some ⟨3150, 0, none⟩) 1 1, .slice none 0 0, .bool false] 130 true),
  (3150, .cells (u8s [120]) 5 false),
  (3169, .cells (u8s [120]) 5 false),
  (4945, .cells [.int .i64 (.ofNat 3), .int .i64 (.ofNat 0), .bool false, .pointer (some ⟨214, 0, none⟩), .pointer (some ⟨5771, 0, none⟩)] 351 true),
  (5771, .cells [.int .i64 (.ofNat 4), .int .i64 (.ofNat 0), .bool true, .pointer (some ⟨4945, 0, none⟩), .pointer (some ⟨38, 1, none⟩)] 351 true),
  (5797, .cells (u8s [3, 0, 17, 0, 4, 0, 0, 0, 199, 184, 67, 119, 2, 1, 0, 0, 0, 3, 0, 0, 0, 3, 0, 0, 0, 4] ++ u8z 230) 5 false),
  (6357, .cells (u8z 64 ++ u8s [111, 99, 116, 97, 118, 111, 48, 49, 1] ++ u8z 5 ++ u8s [2] ++ u8z 8 ++ u8s [3] ++ u8z 36 ++ u8s [137, 155, 206, 78] ++ u8z 128 ++ u8s [1, 0, 14, 0, 1, 0, 0, 0, 194, 105, 111, 233, 1] ++ u8z 5 ++ u8s [3, 0, 0, 0, 255, 255, 255, 255] ++ u8z 230 ++ u8s [3, 0, 9, 0, 2, 0, 0, 0, 68, 252, 163, 153, 1, 1, 0, 0, 0, 3] ++ u8z 238 ++ u8s [1, 0, 27, 0, 3, 0, 0, 0, 50, 165, 25, 235, 2, 1] ++ u8z 4 ++ u8s [1] ++ u8z 12 ++ u8s [3, 0, 0, 0, 255, 255, 255, 255] ++ u8z 217) 5 false),
  (6461, .cells [.string ⟨#[116, 97, 105, 108]⟩, .int .i64 (.ofNat 0), .slice (some ⟨3169, 0, none⟩) 1 1, .string ⟨#[115, 116, 111, 114, 101]⟩, .int .i64 (.ofNat 768), .slice (some ⟨6376, 0, none⟩) 64 64, .string ⟨#[115, 116, 111, 114, 101]⟩, .int .i64 (.ofNat 832), .slice (some ⟨6404, 0, none⟩) 64 64, .string ⟨#[115, 116, 111, 114, 101]⟩, .int .i64 (.ofNat 896), .slice (some ⟨6432, 0, none⟩) 64 64, .string ⟨#[115, 116, 111, 114, 101]⟩, .int .i64 (.ofNat 960), .slice (some ⟨6460, 0, none⟩) 64 64] 134 false)], .int .i64 (.ofNat 0), 7141, [(2, some (.cells [.int .i64 (.ofNat 100000), .int .i64 (.ofNat 9), .int .i64 (.negSucc 8), .bool false, .bool false, .map (some 1), .slice (some ⟨7132, 0, none⟩) 9 9] 61 true)),
  (412, some (.cells [.slice (some ⟨7028, 0, none⟩) 1280 1280, .slice (some ⟨2990, 0, none⟩) 768 768, .bool true] 130 true)),
  (5771, some (.cells [.int .i64 (.ofNat 4), .int .i64 (.ofNat 0), .bool false, .pointer (some ⟨4945, 0, none⟩), .pointer (some ⟨38, 1, none⟩)] 351 true)),
  (6357, none),
  (6461, none),
  (7028, some (.cells (u8z 64 ++ u8s [111, 99, 116, 97, 118, 111, 48, 49, 1] ++ u8z 5 ++ u8s [2] ++ u8z 8 ++ u8s [3] ++ u8z 36 ++ u8s [137, 155, 206, 78] ++ u8z 128 ++ u8s [1, 0, 14, 0, 1, 0, 0, 0, 194, 105, 111, 233, 1] ++ u8z 5 ++ u8s [3, 0, 0, 0, 255, 255, 255, 255] ++ u8z 230 ++ u8s [3, 0, 9, 0, 2, 0, 0, 0, 68, 252, 163, 153, 1, 1, 0, 0, 0, 3] ++ u8z 238 ++ u8s [1, 0, 27, 0, 3, 0, 0, 0, 50, 165, 25, 235, 2, 1] ++ u8z 4 ++ u8s [1] ++ u8z 12 ++ u8s [3, 0, 0, 0, 255, 255, 255, 255] ++ u8z 217 ++ u8s [3, 0, 17, 0, 4, 0, 0, 0, 199, 184, 67, 119, 2, 1, 0, 0, 0, 3, 0, 0, 0, 3, 0, 0, 0, 4] ++ u8z 230) 5 false)),
  (7047, some (.cells (u8s [3, 0, 17, 0, 4, 0, 0, 0, 199, 184, 67, 119, 2, 1, 0, 0, 0, 3, 0, 0, 0, 3, 0, 0, 0, 4] ++ u8z 38) 5 false)),
  (7075, some (.cells (u8z 64) 5 false)),
  (7103, some (.cells (u8z 64) 5 false)),
  (7131, some (.cells (u8z 64) 5 false)),
  (7132, some (.cells [.string ⟨#[116, 97, 105, 108]⟩, .int .i64 (.ofNat 0), .slice (some ⟨3169, 0, none⟩) 1 1, .string ⟨#[115, 116, 111, 114, 101]⟩, .int .i64 (.ofNat 768), .slice (some ⟨6376, 0, none⟩) 64 64, .string ⟨#[115, 116, 111, 114, 101]⟩, .int .i64 (.ofNat 832), .slice (some ⟨6404, 0, none⟩) 64 64, .string ⟨#[115, 116, 111, 114, 101]⟩, .int .i64 (.ofNat 896), .slice (some ⟨6432, 0, none⟩) 64 64, .string ⟨#[115, 116, 111, 114, 101]⟩, .int .i64 (.ofNat 960), .slice (some ⟨6460, 0, none⟩) 64 64, .string ⟨#[115, 116, 111, 114, 101]⟩, .int .i64 (.ofNat 1024), .slice (some ⟨7047, 0, none⟩) 64 64, .string ⟨#[115, 116, 111, 114, 101]⟩, .int .i64 (.ofNat 1088), .slice (some ⟨7075, 0, none⟩) 64 64, .string ⟨#[115, 116, 111, 114, 101]⟩, .int .i64 (.ofNat 1152), .slice (some ⟨7103, 0, none⟩) 64 64, .string ⟨#[115, 116, 111, 114, 101]⟩, .int .i64 (.ofNat 1216), .slice (some ⟨7131, 0, none⟩) 64 64] 134 false))]⟩
theorem m23_65_ok : m23_65.ok (call evT evF k23_65 100000 m23_65.f m23_65.args m23_65.preH) = true := by kernel_rfl
theorem q23_65 : HkOk Tryz.prog (hkMemo m23_65) := hkMemo_ok evT_ok evF_ok k23_65_ok rfl m23_65_ok
noncomputable def k23_71 : Hk := orHk (hkMemo m23_69) (orHk (hkMemo m23_70) (hkLib))
theorem k23_71_ok : HkOk Tryz.prog k23_71 := orHk_ok q23_69 (orHk_ok q23_70 (hkLib_ok))
noncomputable def m23_71 : Mm :=
  ⟨229, [.pointer (some ⟨60, 0, none⟩), .int .i64 (.ofNat 1)], 7214, [(1, .map [⟨.string ⟨#[111, 114, 105, 103, 105, 110, 97, 108]⟩, .pointer (some ⟨32, 0, none⟩), 0⟩, ⟨.string ⟨#[115, 116, 111, 114, 101]⟩, .pointer (some ⟨412, 0, none⟩), 1⟩, ⟨.string ⟨#[116, 97, 105, 108]⟩, .pointer (some ⟨3148, 0, none⟩), 2⟩] 3),
  (2, .cells [.int .i64 (.ofNat 100000), .int .i64 (.ofNat 11), .int .i64 (.negSucc 10), .bool false, .bool false, .map (some 1), .slice none 0 0] 61 true),
  (32, .cells [.slice (some ⟨34, 0, none⟩) 3 3, .slice (some ⟨35, 0, none⟩) 3 3, .bool true] 130 true),
  (34, .cells (u8s [97, 98, 99]) 5 false),
  (35, .cells (u8s [97, 98, 99]) 5 false),
  (37, .map [⟨.int .i64 (.ofNat 1), .pointer (some ⟨214, 0, none⟩), 0⟩, ⟨.int .i64 (.ofNat 2), .pointer (some ⟨339, 0, none⟩), 1⟩, ⟨.int .i64 (.ofNat 3), .pointer (some ⟨4945, 0, none⟩), 2⟩, ⟨.int .i64 (.ofNat 4), .pointer (some ⟨5771, 0, none⟩), 3⟩] 4),
  (38, .cells [.int .i64 (.ofNat 5), .int .i64 (.ofNat 0), .int .i64 (.ofNat 0), .bool false, .pointer (some ⟨5771, 0, none⟩), .pointer (some ⟨339, 0, none⟩), .map (some 37)] 357 true),
  (55, .map [⟨.int .i64 (.ofNat 1), .slice (some ⟨240, 0, none⟩) 256 256, 0⟩, ⟨.int .i64 (.ofNat 2), .slice (some ⟨365, 0, none⟩) 256 256, 1⟩, ⟨.int .i64 (.ofNat 3), .slice (some ⟨4971, 0, none⟩) 256 256, 2⟩, ⟨.int .i64 (.ofNat 4), .slice (some ⟨5797, 0, none⟩) 256 256, 3⟩] 4),
  (56, .cells [.pointer (some ⟨38, 0, none⟩), .pointer (some ⟨2, 0, none⟩), .string ⟨#[115, 116, 111, 114, 101]⟩, .int .i64 (.ofNat 5), .map (some 55), .int .i64 (.ofNat 0)] 249 true),
  (57, .map [⟨.int .i64 (.ofNat 2), .bool true, 2⟩, ⟨.int .i64 (.ofNat 1), .bool true, 3⟩, ⟨.int .i64 (.ofNat 3), .bool true, 4⟩, ⟨.int .i64 (.ofNat 4), .bool true, 5⟩] 6),
  (58, .map [] 0),
  (59, .cells [.int .i64 (.ofNat 1), .map (some 57), .map (some 58), .slice (some ⟨5739, 0, none⟩) 2 2] 214 true),
  (60, .cells [.pointer (some ⟨56, 0, none⟩), .pointer (some ⟨59, 0, none⟩)] 257 true),
  (214, .cells [.int .i64 (.ofNat 1), .int .i64 (.ofNat 0), .bool false, .pointer (some ⟨339, 0, none⟩), .pointer (some ⟨4945, 0, none⟩)] 351 true),
  (240, .cells (u8s [1, 0, 14, 0, 1, 0, 0, 0, 194, 105, 111, 233, 1] ++ u8z 5 ++ u8s [3, 0, 0, 0, 255, 255, 255, 255] ++ u8z 230) 5 false),
  (339, .cells [.int .i64 (.ofNat 2), .int .i64 (.ofNat 0), .bool false, .pointer (some ⟨38, 1, none⟩), .pointer (some ⟨214, 0, none⟩)] 351 true),
  (412, .cells [.slice (some ⟨7028, 0, none⟩) 1280 1280, .slice (some ⟨7152, 0, none⟩) 1280 1280, .bool true] 130 true),
  (3148, .cells [.slice (some ⟨3150, 0, none⟩) 1 1, .slice (some ⟨7165, 0, none⟩) 1 1, .bool true] 130 true),
  (3150, .cells (u8s [120]) 5 false),
  (4945, .cells [.int .i64 (.ofNat 3), .int .i64 (.ofNat 0), .bool false, .pointer (some ⟨214, 0, none⟩), .pointer (some ⟨5771, 0, none⟩)] 351 true),
  (5739, .cells [.int .i64 (.ofNat 3), .int .i64 (.ofNat 4)] 3 false),
  (5771, .cells [.int .i64 (.ofNat 4), .int .i64 (.ofNat 0), .bool false, .pointer (some ⟨4945, 0, none⟩), .pointer (some ⟨38, 1, none⟩)] 351 true),
  (7165, .cells (u8s [120]) 5 false)], .agg #[.bool true, .slice (some ⟨7660, 0, none⟩) 1 1, .slice none 0 0], 7675, [(38, some (.cells [.int .i64 (.ofNat 5), .int .i64 (.ofNat 0), .int .i64 (.ofNat 0), .bool false, .pointer (some ⟨214, 0, none⟩), .pointer (some ⟨339, 0, none⟩), .map (some 37)] 357 true)),
  (214, some (.cells [.int .i64 (.ofNat 1), .int .i64 (.ofNat 0), .bool false, .pointer (some ⟨5771, 0, none⟩), .pointer (some ⟨38, 1, none⟩)] 351 true)),
  (339, some (.cells [.int .i64 (.ofNat 2), .int .i64 (.ofNat 0), .bool false, .pointer (some ⟨38, 1, none⟩), .pointer (some ⟨4945, 0, none⟩)] 351 true)),
  (4945, some (.cells [.int .i64 (.ofNat 3), .int .i64 (.ofNat 0), .bool false, .pointer (some ⟨339, 0, none⟩), .pointer (some ⟨5771, 0, none⟩)] 351 true)),
  (5771, some (.cells [.int .i64 (.ofNat 4), .int .i64 (.ofNat 0), .bool false, .pointer (some ⟨4945, 0, none⟩), .pointer (some ⟨214, 0, none⟩)] 351 true)),
  (7660, some (.cells [.int .i64 (.ofNat 0), .int .i64 (.ofNat 0), .int .i64 (.ofNat 3), .int .i64 (.negSucc 0)] 147 false))]⟩
theorem m23_71_ok : m23_71.ok (call evT evF k23_71 100000 m23_71.f m23_71.args m23_71.preH) = true := by kernel_rfl
theorem q23_71 : HkOk Tryz.prog (hkMemo m23_71) := hkMemo_ok evT_ok evF_ok k23_71_ok rfl m23_71_ok
noncomputable def k23_75 : Hk := orHk (hkMemo m23_73) (orHk (hkMemo m23_74) (hkLib))
theorem k23_75_ok : HkOk Tryz.prog k23_75 := orHk_ok q23_73 (orHk_ok q23_74 (hkLib_ok))
noncomputable def m23_75 : Mm :=
  ⟨229, [.pointer (some ⟨60, 0, none⟩), .int .i64 (.ofNat 3)], 7689, [(1, .map [⟨.string ⟨#[111, 114, 105, 103, 105, 110, 97, 108]⟩, .pointer (some ⟨32, 0, none⟩), 0⟩, ⟨.string ⟨#[115, 116, 111, 114, 101]⟩, .pointer (some ⟨412, 0, none⟩), 1⟩, ⟨.string ⟨#[116, 97, 105, 108]⟩, .pointer (some ⟨3148, 0, none⟩), 2⟩] 3),
  (2, .cells [.int .i64 (.ofNat 100000), .int .i64 (.ofNat 11), .int .i64 (.negSucc 10), .bool false, .bool false, .map (some 1), .slice none 0 0] 61 true),
  (32, .cells [.slice (some ⟨34, 0, none⟩) 3 3, .slice (some ⟨35, 0, none⟩) 3 3, .bool true] 130 true),
  (34, .cells (u8s [97, 98, 99]) 5 false),
  (35, .cells (u8s [97, 98, 99]) 5 false),
  (37, .map [⟨.int .i64 (.ofNat 1), .pointer (some ⟨214, 0, none⟩), 0⟩, ⟨.int .i64 (.ofNat 2), .pointer (some ⟨339, 0, none⟩), 1⟩, ⟨.int .i64 (.ofNat 3), .pointer (some ⟨4945, 0, none⟩), 2⟩, ⟨.int .i64 (.ofNat 4), .pointer (some ⟨5771, 0, none⟩), 3⟩] 4),
  (38, .cells [.int .i64 (.ofNat 5), .int .i64 (.ofNat 0), .int .i64 (.ofNat 0), .bool false, .pointer (some ⟨214, 0, none⟩), .pointer (some ⟨339, 0, none⟩), .map (some 37)] 357 true),
  (55, .map [⟨.int .i64 (.ofNat 1), .slice (some ⟨240, 0, none⟩) 256 256, 0⟩, ⟨.int .i64 (.ofNat 2), .slice (some ⟨365, 0, none⟩) 256 256, 1⟩, ⟨.int .i64 (.ofNat 3), .slice (some ⟨4971, 0, none⟩) 256 256, 2⟩, ⟨.int .i64 (.ofNat 4), .slice (some ⟨5797, 0, none⟩) 256 256, 3⟩] 4),
  (56, .cells [.pointer (some ⟨38, 0, none⟩), .pointer (some ⟨2, 0, none⟩), .string ⟨#[115, 116, 111, 114, 101]⟩, .int .i64 (.ofNat 5), .map (some 55), .int .i64 (.ofNat 0)] 249 true),
  (57, .map [⟨.int .i64 (.ofNat 2), .bool true, 2⟩, ⟨.int .i64 (.ofNat 1), .bool true, 3⟩, ⟨.int .i64 (.ofNat 3), .bool true, 4⟩, ⟨.int .i64 (.ofNat 4), .bool true, 5⟩] 6),
  (58, .map [] 0),
  (59, .cells [.int .i64 (.ofNat 1), .map (some 57), .map (some 58), .slice (some ⟨5739, 0, none⟩) 2 2] 214 true),
  (60, .cells [.pointer (some ⟨56, 0, none⟩), .pointer (some ⟨59, 0, none⟩)] 257 true),
  (214, .cells [.int .i64 (.ofNat 1), .int .i64 (.ofNat 0), .bool false, .pointer (some ⟨5771, 0, none⟩), .pointer (some ⟨38, 1, none⟩)] 351 true),
  (339, .cells [.int .i64 (.ofNat 2), .int .i64 (.ofNat 0), .bool false, .pointer (some ⟨38, 1, none⟩), .pointer (some ⟨4945, 0, none⟩)] 351 true),
  (412, .cells [.slice (some ⟨7028, 0, none⟩) 1280 1280, .slice (some ⟨7152, 0, none⟩) 1280 1280, .bool true] 130 true),
  (3148, .cells [.slice (some ⟨3150, 0, none⟩) 1 1, .slice (some ⟨7165, 0, none⟩) 1 1, .bool true] 130 true),
  (3150, .cells (u8s [120]) 5 false),
  (4945, .cells [.int .i64 (.ofNat 3), .int .i64 (.ofNat 0), .bool false, .pointer (some ⟨339, 0, none⟩), .pointer (some ⟨5771, 0, none⟩)] 351 true),
  (4971, .cells (u8s [1, 0, 27, 0, 3, 0, 0, 0, 50, 165, 25, 235, 2, 1] ++ u8z 4 ++ u8s [1] ++ u8z 12 ++ u8s [3, 0, 0, 0, 255, 255, 255, 255] ++ u8z 217) 5 false),
  (5739, .cells [.int .i64 (.ofNat 3), .int .i64 (.ofNat 4)] 3 false),
  (5771, .cells [.int .i64 (.ofNat 4), .int .i64 (.ofNat 0), .bool false, .pointer (some ⟨4945, 0, none⟩), .pointer (some ⟨214, 0, none⟩)] 351 true),
  (7165, .cells (u8s [120]) 5 false)], .agg #[.bool true, .slice (some ⟨8265, 0, none⟩) 2 2, .slice none 0 0], 8283, [(38, some (.cells [.int .i64 (.ofNat 5), .int .i64 (.ofNat 0), .int .i64 (.ofNat 0), .bool false, .pointer (some ⟨4945, 0, none⟩), .pointer (some ⟨339, 0, none⟩), .map (some 37)] 357 true)),
  (214, some (.cells [.int .i64 (.ofNat 1), .int .i64 (.ofNat 0), .bool false, .pointer (some ⟨5771, 0, none⟩), .pointer (some ⟨4945, 0, none⟩)] 351 true)),
  (339, some (.cells [.int .i64 (.ofNat 2), .int .i64 (.ofNat 0), .bool false, .pointer (some ⟨38, 1, none⟩), .pointer (some ⟨5771, 0, none⟩)] 351 true)),
  (4945, some (.cells [.int .i64 (.ofNat 3), .int .i64 (.ofNat 0), .bool false, .pointer (some ⟨214, 0, none⟩), .pointer (some ⟨38, 1, none⟩)] 351 true)),
  (5771, some (.cells [.int .i64 (.ofNat 4), .int .i64 (.ofNat 0), .bool false, .pointer (some ⟨339, 0, none⟩), .pointer (some ⟨214, 0, none⟩)] 351 true)),
  (8265, some (.cells [.int .i64 (.ofNat 1), .int .i64 (.ofNat 0), .int .i64 (.ofNat 1), .int .i64 (.ofNat 0), .int .i64 (.ofNat 0), .int .i64 (.ofNat 0), .int .i64 (.ofNat 3), .int .i64 (.negSucc 0)] 147 false))]⟩
theorem m23_75_ok : m23_75.ok (call evT evF k23_75 100000 m23_75.f m23_75.args m23_75.preH) = true := by kernel_rfl
theorem q23_75 : HkOk Tryz.prog (hkMemo m23_75) := hkMemo_ok evT_ok evF_ok k23_75_ok rfl m23_75_ok
noncomputable def k23_87 : Hk := orHk (hkMemo m23_85) (orHk (hkMemo m23_86) (hkLib))
theorem k23_87_ok : HkOk Tryz.prog k23_87 := orHk_ok q23_85 (orHk_ok q23_86 (hkLib_ok))
noncomputable def m23_87 : Mm :=
  ⟨229, [.pointer (some ⟨60, 0, none⟩), .int .i64 (.ofNat 1)], 8560, [(1, .map [⟨.string ⟨#[111, 114, 105, 103, 105, 110, 97, 108]⟩, .pointer (some ⟨32, 0, none⟩), 0⟩, ⟨.string ⟨#[115, 116, 111, 114, 101]⟩, .pointer (some ⟨412, 0, none⟩), 1⟩, ⟨.string ⟨#[116, 97, 105, 108]⟩, .pointer (some ⟨3148, 0, none⟩), 2⟩] 3),
  (2, .cells [.int .i64 (.ofNat 100000), .int .i64 (.ofNat 13), .int .i64 (.negSucc 12), .bool false, .bool false, .map (some 1), .slice none 0 0] 61 true),
  (32, .cells [.slice (some ⟨34, 0, none⟩) 3 3, .slice (some ⟨35, 0, none⟩) 3 3, .bool true] 130 true),
  (34, .cells (u8s [97, 98, 99]) 5 false),
  (35, .cells (u8s [97, 98, 99]) 5 false),
  (37, .map [⟨.int .i64 (.ofNat 1), .pointer (some ⟨214, 0, none⟩), 0⟩, ⟨.int .i64 (.ofNat 3), .pointer (some ⟨4945, 0, none⟩), 2⟩, ⟨.int .i64 (.ofNat 4), .pointer (some ⟨5771, 0, none⟩), 3⟩] 4),
  (38, .cells [.int .i64 (.ofNat 5), .int .i64 (.ofNat 0), .int .i64 (.ofNat 0), .bool false, .pointer (some ⟨4945, 0, none⟩), .pointer (some ⟨5771, 0, none⟩), .map (some 37)] 357 true),
  (55, .map [⟨.int .i64 (.ofNat 1), .slice (some ⟨240, 0, none⟩) 256 256, 0⟩, ⟨.int .i64 (.ofNat 3), .slice (some ⟨4971, 0, none⟩) 256 256, 2⟩, ⟨.int .i64 (.ofNat 4), .slice (some ⟨5797, 0, none⟩) 256 256, 3⟩] 4),
  (56, .cells [.pointer (some ⟨38, 0, none⟩), .pointer (some ⟨2, 0, none⟩), .string ⟨#[115, 116, 111, 114, 101]⟩, .int .i64 (.ofNat 5), .map (some 55), .int .i64 (.ofNat 0)] 249 true),
  (57, .map [⟨.int .i64 (.ofNat 4), .bool true, 6⟩, ⟨.int .i64 (.ofNat 1), .bool true, 7⟩, ⟨.int .i64 (.ofNat 3), .bool true, 8⟩] 9),
  (58, .map [] 0),
  (59, .cells [.int .i64 (.ofNat 1), .map (some 57), .map (some 58), .slice none 0 0] 214 true),
  (60, .cells [.pointer (some ⟨56, 0, none⟩), .pointer (some ⟨59, 0, none⟩)] 257 true),
  (214, .cells [.int .i64 (.ofNat 1), .int .i64 (.ofNat 0), .bool false, .pointer (some ⟨5771, 0, none⟩), .pointer (some ⟨4945, 0, none⟩)] 351 true),
  (240, .cells (u8s [1, 0, 14, 0, 1, 0, 0, 0, 194, 105, 111, 233, 1] ++ u8z 5 ++ u8s [3, 0, 0, 0, 255, 255, 255, 255] ++ u8z 230) 5 false),
  (412, .cells [.slice (some ⟨7028, 0, none⟩) 1280 1280, .slice (some ⟨8424, 0, none⟩) 1280 1280, .bool true] 130 true),
  (3148, .cells [.slice (some ⟨3150, 0, none⟩) 1 1, .slice (some ⟨7165, 0, none⟩) 1 1, .bool true] 130 true),
  (3150, .cells (u8s [120]) 5 false),
  (4945, .cells [.int .i64 (.ofNat 3), .int .i64 (.ofNat 0), .bool false, .pointer (some ⟨214, 0, none⟩), .pointer (some ⟨38, 1, none⟩)] 351 true),
  (5771, .cells [.int .i64 (.ofNat 4), .int .i64 (.ofNat 0), .bool false, .pointer (some ⟨38, 1, none⟩), .pointer (some ⟨214, 0, none⟩)] 351 true),
  (7165, .cells (u8s [120]) 5 false)], .agg #[.bool true, .slice (some ⟨9006, 0, none⟩) 1 1, .slice none 0 0], 9021, [(38, some (.cells [.int .i64 (.ofNat 5), .int .i64 (.ofNat 0), .int .i64 (.ofNat 0), .bool false, .pointer (some ⟨214, 0, none⟩), .pointer (some ⟨5771, 0, none⟩), .map (some 37)] 357 true)),
  (214, some (.cells [.int .i64 (.ofNat 1), .int .i64 (.ofNat 0), .bool false, .pointer (some ⟨4945, 0, none⟩), .pointer (some ⟨38, 1, none⟩)] 351 true)),
  (4945, some (.cells [.int .i64 (.ofNat 3), .int .i64 (.ofNat 0), .bool false, .pointer (some ⟨5771, 0, none⟩), .pointer (some ⟨214, 0, none⟩)] 351 true)),
  (5771, some (.cells [.int .i64 (.ofNat 4), .int .i64 (.ofNat 0), .bool false, .pointer (some ⟨38, 1, none⟩), .pointer (some ⟨4945, 0, none⟩)] 351 true)),
  (9006, some (.cells [.int .i64 (.ofNat 0), .int .i64 (.ofNat 0), .int .i64 (.ofNat 3), .int .i64 (.negSucc 0)] 147 false))]⟩
theorem m23_87_ok : m23_87.ok (call evT evF k23_87 100000 m23_87.f m23_87.args m23_87.preH) = true := by kernel_rfl
theorem q23_87 : HkOk Tryz.prog (hkMemo m23_87) := hkMemo_ok evT_ok evF_ok k23_87_ok rfl m23_87_ok
noncomputable def k23_91 : Hk := orHk (hkMemo m23_89) (orHk (hkMemo m23_90) (hkLib))
theorem k23_91_ok : HkOk Tryz.prog k23_91 := orHk_ok q23_89 (orHk_ok q23_90 (hkLib_ok))
noncomputable def m23_91 : Mm :=
  ⟨229, [.pointer (some ⟨60, 0, none⟩), .int .i64 (.ofNat 3)], 9045, [(1, .map [⟨.string ⟨#[111, 114, 105, 103, 105, 110, 97, 108]⟩, .pointer (some ⟨32, 0, none⟩), 0⟩, ⟨.string ⟨#[115, 116, 111, 114, 101]⟩, .pointer (some ⟨412, 0, none⟩), 1⟩, ⟨.string ⟨#[116, 97, 105, 108]⟩, .pointer (some ⟨3148, 0, none⟩), 2⟩] 3),
  (2, .cells [.int .i64 (.ofNat 100000), .int .i64 (.ofNat 13), .int .i64 (.negSucc 12), .bool false, .bool false, .map (some 1), .slice none 0 0] 61 true),
  (32, .cells [.slice (some ⟨34, 0, none⟩) 3 3, .slice (some ⟨35, 0, none⟩) 3 3, .bool true] 130 true),
  (34, .cells (u8s [97, 98, 99]) 5 false),
  (35, .cells (u8s [97, 98, 99]) 5 false),
  (37, .map [⟨.int .i64 (.ofNat 1), .pointer (some ⟨214, 0, none⟩), 0⟩, ⟨.int .i64 (.ofNat 3), .pointer (some ⟨4945, 0, none⟩), 2⟩, ⟨.int .i64 (.ofNat 4), .pointer (some ⟨5771, 0, none⟩), 3⟩] 4),
  (38, .cells [.int .i64 (.ofNat 5), .int .i64 (.ofNat 0), .int .i64 (.ofNat 0), .bool false, .pointer (some ⟨214, 0, none⟩), .pointer (some ⟨5771, 0, none⟩), .map (some 37)] 357 true),
  (55, .map [⟨.int .i64 (.ofNat 1), .slice (some ⟨240, 0, none⟩) 256 256, 0⟩, ⟨.int .i64 (.ofNat 3), .slice (some ⟨4971, 0, none⟩) 256 256, 2⟩, ⟨.int .i64 (.ofNat 4), .slice (some ⟨5797, 0, none⟩) 256 256, 3⟩] 4),
  (56, .cells [.pointer (some ⟨38, 0, none⟩), .pointer (some ⟨2, 0, none⟩), .string ⟨#[115, 116, 111, 114, 101]⟩, .int .i64 (.ofNat 5), .map (some 55), .int .i64 (.ofNat 0)] 249 true),
  (57, .map [⟨.int .i64 (.ofNat 4), .bool true, 6⟩, ⟨.int .i64 (.ofNat 1), .bool true, 7⟩, ⟨.int .i64 (.ofNat 3), .bool true, 8⟩] 9),
  (58, .map [] 0),
  (59, .cells [.int .i64 (.ofNat 1), .map (some 57), .map (some 58), .slice none 0 0] 214 true),
  (60, .cells [.pointer (some ⟨56, 0, none⟩), .pointer (some ⟨59, 0, none⟩)] 257 true),
  (214, .cells [.int .i64 (.ofNat 1), .int .i64 (.ofNat 0), .bool false, .pointer (some ⟨4945, 0, none⟩), .pointer (some ⟨38, 1, none⟩)] 351 true),
  (412, .cells [.slice (some ⟨7028, 0, none⟩) 1280 1280, .slice (some ⟨8424, 0, none⟩) 1280 1280, .bool true] 130 true),
  (3148, .cells [.slice (some ⟨3150, 0, none⟩) 1 1, .slice (some ⟨7165, 0, none⟩) 1 1, .bool true] 130 true),
  (3150, .cells (u8s [120]) 5 false),
  (4945, .cells [.int .i64 (.ofNat 3), .int .i64 (.ofNat 0), .bool false, .pointer (some ⟨5771, 0, none⟩), .pointer (some ⟨214, 0, none⟩)] 351 true),
  (4971, .cells (u8s [1, 0, 27, 0, 3, 0, 0, 0, 50, 165, 25, 235, 2, 1] ++ u8z 4 ++ u8s [1] ++ u8z 12 ++ u8s [3, 0, 0, 0, 255, 255, 255, 255] ++ u8z 217) 5 false),
  (5771, .cells [.int .i64 (.ofNat 4), .int .i64 (.ofNat 0), .bool false, .pointer (some ⟨38, 1, none⟩), .pointer (some ⟨4945, 0, none⟩)] 351 true),
  (7165, .cells (u8s [120]) 5 false)], .agg #[.bool true, .slice (some ⟨9621, 0, none⟩) 2 2, .slice none 0 0], 9639, [(38, some (.cells [.int .i64 (.ofNat 5), .int .i64 (.ofNat 0), .int .i64 (.ofNat 0), .bool false, .pointer (some ⟨4945, 0, none⟩), .pointer (some ⟨5771, 0, none⟩), .map (some 37)] 357 true)),
  (214, some (.cells [.int .i64 (.ofNat 1), .int .i64 (.ofNat 0), .bool false, .pointer (some ⟨5771, 0, none⟩), .pointer (some ⟨4945, 0, none⟩)] 351 true)),
  (4945, some (.cells [.int .i64 (.ofNat 3), .int .i64 (.ofNat 0), .bool false, .pointer (some ⟨214, 0, none⟩), .pointer (some ⟨38, 1, none⟩)] 351 true)),
  (5771, some (.cells [.int .i64 (.ofNat 4), .int .i64 (.ofNat 0), .bool false, .pointer (some ⟨38, 1, none⟩), .pointer (some ⟨214, 0, none⟩)] 351 true)),
  (9621, some (.cells [.int .i64 (.ofNat 1), .int .i64 (.ofNat 0), .int .i64 (.ofNat 1), .int .i64 (.ofNat 0), .int .i64 (.ofNat 0), .int .i64 (.ofNat 0), .int .i64 (.ofNat 3), .int .i64 (.negSucc 0)] 147 false))]⟩
theorem m23_91_ok : m23_91.ok (call evT evF k23_91 100000 m23_91.f m23_91.args m23_91.preH) = true := by kernel_rfl
theorem q23_91 : HkOk Tryz.prog (hkMemo m23_91) := hkMemo_ok evT_ok evF_ok k23_91_ok rfl m23_91_ok
noncomputable def k23_95 : Hk := orHk (hkMemo m23_93) (orHk (hkMemo m23_94) (hkLib))
theorem k23_95_ok : HkOk Tryz.prog k23_95 := orHk_ok q23_93 (orHk_ok q23_94 (hkLib_ok))
noncomputable def m23_95 : Mm :=
  ⟨229, [.pointer (some ⟨60, 0, none⟩), .int .i64 (.ofNat 3)], 9667, [(1, .map [⟨.string ⟨#[111, 114, 105, 103, 105, 110, 97, 108]⟩, .pointer (some ⟨32, 0, none⟩), 0⟩, ⟨.string ⟨#[115, 116, 111, 114, 101]⟩, .pointer (some ⟨412, 0, none⟩), 1⟩, ⟨.string ⟨#[116, 97, 105, 108]⟩, .pointer (some ⟨3148, 0, none⟩), 2⟩] 3),
  (2, .cells [.int .i64 (.ofNat 100000), .int .i64 (.ofNat 13), .int .i64 (.negSucc 12), .bool false, .bool false, .map (some 1), .slice none 0 0] 61 true),
  (32, .cells [.slice (some ⟨34, 0, none⟩) 3 3, .slice (some ⟨35, 0, none⟩) 3 3, .bool true] 130 true),
  (34, .cells (u8s [97, 98, 99]) 5 false),
  (35, .cells (u8s [97, 98, 99]) 5 false),
  (37, .map [⟨.int .i64 (.ofNat 1), .pointer (some ⟨214, 0, none⟩), 0⟩, ⟨.int .i64 (.ofNat 3), .pointer (some ⟨4945, 0, none⟩), 2⟩, ⟨.int .i64 (.ofNat 4), .pointer (some ⟨5771, 0, none⟩), 3⟩] 4),
  (38, .cells [.int .i64 (.ofNat 5), .int .i64 (.ofNat 0), .int .i64 (.ofNat 0), .bool false, .pointer (some ⟨4945, 0, none⟩), .pointer (some ⟨5771, 0, none⟩), .map (some 37)] 357 true),
  (55, .map [⟨.int .i64 (.ofNat 1), .slice (some ⟨240, 0, none⟩) 256 256, 0⟩, ⟨.int .i64 (.ofNat 3), .slice (some ⟨4971, 0, none⟩) 256 256, 2⟩, ⟨.int .i64 (.ofNat 4), .slice (some ⟨5797, 0, none⟩) 256 256, 3⟩] 4),
  (56, .cells [.pointer (some ⟨38, 0, none⟩), .pointer (some ⟨2, 0, none⟩), .string ⟨#[115, 116, 111, 114, 101]⟩, .int .i64 (.ofNat 5), .map (some 55), .int .i64 (.ofNat 0)] 249 true),
  (57, .map [⟨.int .i64 (.ofNat 4), .bool true, 6⟩, ⟨.int .i64 (.ofNat 1), .bool true, 7⟩, ⟨.int .i64 (.ofNat 3), .bool true, 8⟩] 9),
  (58, .map [] 0),
  (59, .cells [.int .i64 (.ofNat 1), .map (some 57), .map (some 58), .slice none 0 0] 214 true),
  (60, .cells [.pointer (some ⟨56, 0, none⟩), .pointer (some ⟨59, 0, none⟩)] 257 true),
  (214, .cells [.int .i64 (.ofNat 1), .int .i64 (.ofNat 0), .bool false, .pointer (some ⟨5771, 0, none⟩), .pointer (some ⟨4945, 0, none⟩)] 351 true),
  (412, .cells [.slice (some ⟨7028, 0, none⟩) 1280 1280, .slice (some ⟨8424, 0, none⟩) 1280 1280, .bool true] 130 true),
  (3148, .cells [.slice (some ⟨3150, 0, none⟩) 1 1, .slice (some ⟨7165, 0, none⟩) 1 1, .bool true] 130 true),
  (3150, .cells (u8s [120]) 5 false),
  (4945, .cells [.int .i64 (.ofNat 3), .int .i64 (.ofNat 0), .bool false, .pointer (some ⟨214, 0, none⟩), .pointer (some ⟨38, 1, none⟩)] 351 true),
  (4971, .cells (u8s [1, 0, 27, 0, 3, 0, 0, 0, 50, 165, 25, 235, 2, 1] ++ u8z 4 ++ u8s [1] ++ u8z 12 ++ u8s [3, 0, 0, 0, 255, 255, 255, 255] ++ u8z 217) 5 false),
  (5771, .cells [.int .i64 (.ofNat 4), .int .i64 (.ofNat 0), .bool false, .pointer (some ⟨38, 1, none⟩), .pointer (some ⟨214, 0, none⟩)] 351 true),
  (7165, .cells (u8s [120]) 5 false)], .agg #[.bool true, .slice (some ⟨10243, 0, none⟩) 2 2, .slice none 0 0], 10261, [(10243, some (.cells [.int .i64 (.ofNat 1), .int .i64 (.ofNat 0), .int .i64 (.ofNat 1), .int .i64 (.ofNat 0), .int .i64 (.ofNat 0), .int .i64 (.ofNat 0), .int .i64 (.ofNat 3), .int .i64 (.negSucc 0)] 147 false))]⟩
theorem m23_95_ok : m23_95.ok (call evT evF k23_95 100000 m23_95.f m23_95.args m23_95.preH) = true := by kernel_rfl
theorem q23_95 : HkOk Tryz.prog (hkMemo m23_95) := hkMemo_ok evT_ok evF_ok k23_95_ok rfl m23_95_ok
noncomputable def k23_103 : Hk := orHk (hkMemo m23_102) (hkLib)
theorem k23_103_ok : HkOk Tryz.prog k23_103 := orHk_ok q23_102 (hkLib_ok)
noncomputable def m23_103 : Mm :=
  ⟨123, [.pointer (some ⟨60, 0, none⟩), .slice (some ⟨10542, 0, none⟩) 1 1], 10543, [(1, .map [⟨.string ⟨#[111, 114, 105, 103, 105, 110, 97, 108]⟩, .pointer (some ⟨32, 0, none⟩), 0⟩, ⟨.string ⟨#[115, 116, 111, 114, 101]⟩, .pointer (some ⟨412, 0, none⟩), 1⟩, ⟨.string ⟨#[116, 97, 105, 108]⟩, .pointer (some ⟨3148, 0, none⟩), 2⟩] 3),
  (2, .cells [.int .i64 (.ofNat 100000), .int .i64 (.ofNat 13), .int .i64 (.negSucc 12), .bool false, .bool false, .map (some 1), .slice none 0 0] 61 true),
  (32, .cells [.slice (some ⟨34, 0, none⟩) 3 3, .slice (some ⟨35, 0, none⟩) 3 3, .bool true] 130 true),
  (34, .cells (u8s [97, 98, 99]) 5 false),
  (35, .cells (u8s [97, 98, 99]) 5 false),
  (37, .map [⟨.int .i64 (.ofNat 1), .pointer (some ⟨214, 0, none⟩), 0⟩, ⟨.int .i64 (.ofNat 3), .pointer (some ⟨4945, 0, none⟩), 2⟩, ⟨.int .i64 (.ofNat 4), .pointer (some ⟨5771, 0, none⟩), 3⟩] 4),
  (38, .cells [.int .i64 (.ofNat 5), .int .i64 (.ofNat 0), .int .i64 (.ofNat 0), .bool false, .pointer (some ⟨4945, 0, none⟩), .pointer (some ⟨5771, 0, none⟩), .map (some 37)] 357 true),
  (55, .map [⟨.int .i64 (.ofNat 1), .slice (some ⟨240, 0, none⟩) 256 256, 0⟩, ⟨.int .i64 (.ofNat 3), .slice (some ⟨4971, 0, none⟩) 256 256, 2⟩, ⟨.int .i64 (.ofNat 4), .slice (some ⟨5797, 0, none⟩) 256 256, 3⟩] 4),
  (56, .cells [.pointer (some ⟨38, 0, none⟩), .pointer (some ⟨2, 0, none⟩), .string ⟨#[115, 116, 111, 114, 101]⟩, .int .i64 (.ofNat 5), .map (some 55), .int .i64 (.ofNat 0)] 249 true),
  (57, .map [⟨.int .i64 (.ofNat 4), .bool true, 6⟩, ⟨.int .i64 (.ofNat 1), .bool true, 7⟩, ⟨.int .i64 (.ofNat 3), .bool true, 8⟩] 9),
  (58, .map [] 0),
  (59, .cells [.int .i64 (.ofNat 1), .map (some 57), .map (some 58), .slice none 0 0] 214 true),
  (60, .cells [.pointer (some ⟨56, 0, none⟩), .pointer (some ⟨59, 0, none⟩)] 257 true),
  (214, .cells [.int .i64 (.ofNat 1), .int .i64 (.ofNat 0), .bool false, .pointer (some ⟨5771, 0, none⟩), .pointer (some ⟨4945, 0, none⟩)] 351 true),
  (412, .cells [.slice (some ⟨7028, 0, none⟩) 1280 1280, .slice (some ⟨8424, 0, none⟩) 1280 1280, .bool true] 130 true),
  (3148, .cells [.slice (some ⟨3150, 0, none⟩) 1 1, .slice (some ⟨7165, 0, none⟩) 1 1, .bool true] 130 true),
  (3150, .cells (u8s [120]) 5 false),
  (4945, .cells [.int .i64 (.ofNat 3), .int .i64 (.ofNat 0), .bool false, .pointer (some ⟨214, 0, none⟩), .pointer (some ⟨38, 1, none⟩)] 351 true),
  (5771, .cells [.int .i64 (.ofNat 4), .int .i64 (.ofNat 0), .bool false, .pointer (some ⟨38, 1, none⟩), .pointer (some ⟨214, 0, none⟩)] 351 true),
  (7165, .cells (u8s [120]) 5 false),
  (10542, .cells [.int .i64 (.ofNat 0), .int .i64 (.ofNat 1), .int .i64 (.ofNat 3), .int .i64 (.negSucc 0)] 147 false)], .tuple #[.int .i64 (.ofNat 2), .int .i64 (.ofNat 0)], 10745, [(37, some (.map [⟨.int .i64 (.ofNat 1), .pointer (some ⟨214, 0, none⟩), 0⟩, ⟨.int .i64 (.ofNat 3), .pointer (some ⟨4945, 0, none⟩), 2⟩, ⟨.int .i64 (.ofNat 4), .pointer (some ⟨5771, 0, none⟩), 3⟩, ⟨.int .i64 (.ofNat 2), .pointer (some ⟨10682, 0, none⟩), 4⟩] 5)),
  (38, some (.cells [.int .i64 (.ofNat 5), .int .i64 (.ofNat 0), .int .i64 (.ofNat 0), .bool false, .pointer (some ⟨10682, 0, none⟩), .pointer (some ⟨5771, 0, none⟩), .map (some 37)] 357 true)),
  (55, some (.map [⟨.int .i64 (.ofNat 1), .slice (some ⟨240, 0, none⟩) 256 256, 0⟩, ⟨.int .i64 (.ofNat 3), .slice (some ⟨4971, 0, none⟩) 256 256, 2⟩, ⟨.int .i64 (.ofNat 4), .slice (some ⟨5797, 0, none⟩) 256 256, 3⟩, ⟨.int .i64 (.ofNat 2), .slice (some ⟨10708, 0, none⟩) 256 256, 4⟩] 5)),
  (57, some (.map [⟨.int .i64 (.ofNat 4), .bool true, 6⟩, ⟨.int .i64 (.ofNat 1), .bool true, 7⟩, ⟨.int .i64 (.ofNat 3), .bool true, 8⟩, ⟨.int .i64 (.ofNat 2), .bool true, 9⟩] 10)),
  (59, some (.cells [.int .i64 (.ofNat 1), .map (some 57), .map (some 58), .slice (some ⟨10650, 0, none⟩) 1 1] 214 true)),
  (4945, some (.cells [.int .i64 (.ofNat 3), .int .i64 (.ofNat 0), .bool false, .pointer (some ⟨214, 0, none⟩), .pointer (some ⟨10682, 0, none⟩)] 351 true)),
  (10650, some (.cells [.int .i64 (.ofNat 2)] 3 false)),
  (10682, some (.cells [.int .i64 (.ofNat 2), .int .i64 (.ofNat 0), .bool true, .pointer (some ⟨4945, 0, none⟩), .pointer (some ⟨38, 1, none⟩)] 351 true)),
  (10708, some (.cells (u8s [1, 0, 14, 0, 2, 0, 0, 0, 54, 213, 233, 1, 1, 0, 1, 0, 0, 0, 3, 0, 0, 0, 255, 255, 255, 255] ++ u8z 230) 5 false))]⟩
theorem m23_103_ok : m23_103.ok (call evT evF k23_103 100000 m23_103.f m23_103.args m23_103.preH) = true := by kernel_rfl
theorem q23_103 : HkOk Tryz.prog (hkMemo m23_103) := hkMemo_ok evT_ok evF_ok k23_103_ok rfl m23_103_ok
noncomputable def k23_111 : Hk := orHk (hkMemo m23_110) (hkLib)
theorem k23_111_ok : HkOk Tryz.prog k23_111 := orHk_ok q23_110 (hkLib_ok)
noncomputable def m23_111 : Mm :=
  ⟨123, [.pointer (some ⟨60, 0, none⟩), .slice (some ⟨10981, 0, none⟩) 1 1], 10982, [(1, .map [⟨.string ⟨#[111, 114, 105, 103, 105, 110, 97, 108]⟩, .pointer (some ⟨32, 0, none⟩), 0⟩, ⟨.string ⟨#[115, 116, 111, 114, 101]⟩, .pointer (some ⟨412, 0, none⟩), 1⟩, ⟨.string ⟨#[116, 97, 105, 108]⟩, .pointer (some ⟨3148, 0, none⟩), 2⟩] 3),
  (2, .cells [.int .i64 (.ofNat 100000), .int .i64 (.ofNat 13), .int .i64 (.negSucc 12), .bool false, .bool false, .map (some 1), .slice none 0 0] 61 true),
  (32, .cells [.slice (some ⟨34, 0, none⟩) 3 3, .slice (some ⟨35, 0, none⟩) 3 3, .bool true] 130 true),
  (34, .cells (u8s [97, 98, 99]) 5 false),
  (35, .cells (u8s [97, 98, 99]) 5 false),
  (37, .map [⟨.int .i64 (.ofNat 1), .pointer (some ⟨214, 0, none⟩), 0⟩, ⟨.int .i64 (.ofNat 3), .pointer (some ⟨4945, 0, none⟩), 2⟩, ⟨.int .i64 (.ofNat 4), .pointer (some ⟨5771, 0, none⟩), 3⟩, ⟨.int .i64 (.ofNat 2), .pointer (some ⟨10682, 0, none⟩), 4⟩] 5),
  (38, .cells [.int .i64 (.ofNat 5), .int .i64 (.ofNat 0), .int .i64 (.ofNat 0), .bool false, .pointer (some ⟨10682, 0, none⟩), .pointer (some ⟨5771, 0, none⟩), .map (some 37)] 357 true),
  (55, .map [⟨.int .i64 (.ofNat 1), .slice (some ⟨240, 0, none⟩) 256 256, 0⟩, ⟨.int .i64 (.ofNat 3), .slice (some ⟨4971, 0, none⟩) 256 256, 2⟩, ⟨.int .i64 (.ofNat 4), .slice (some ⟨5797, 0, none⟩) 256 256, 3⟩, ⟨.int .i64 (.ofNat 2), .slice (some ⟨10708, 0, none⟩) 256 256, 4⟩] 5),
  (56, .cells [.pointer (some ⟨38, 0, none⟩), .pointer (some ⟨2, 0, none⟩), .string ⟨#[115, 116, 111, 114, 101]⟩, .int .i64 (.ofNat 5), .map (some 55), .int .i64 (.ofNat 0)] 249 true),
  (57, .map [⟨.int .i64 (.ofNat 4), .bool true, 6⟩, ⟨.int .i64 (.ofNat 1), .bool true, 7⟩, ⟨.int .i64 (.ofNat 3), .bool true, 8⟩, ⟨.int .i64 (.ofNat 2), .bool true, 9⟩] 10),
  (58, .map [] 0),
  (59, .cells [.int .i64 (.ofNat 1), .map (some 57), .map (some 58), .slice (some ⟨10650, 0, none⟩) 1 1] 214 true),
  (60, .cells [.pointer (some ⟨56, 0, none⟩), .pointer (some ⟨59, 0, none⟩)] 257 true),
  (214, .cells [.int .i64 (.ofNat 1), .int .i64 (.ofNat 0), .bool false, .pointer (some ⟨5771, 0, none⟩), .pointer (some ⟨4945, 0, none⟩)] 351 true),
  (412, .cells [.slice (some ⟨7028, 0, none⟩) 1280 1280, .slice (some ⟨8424, 0, none⟩) 1280 1280, .bool true] 130 true),
  (3148, .cells [.slice (some ⟨3150, 0, none⟩) 1 1, .slice (some ⟨7165, 0, none⟩) 1 1, .bool true] 130 true),
  (3150, .cells (u8s [120]) 5 false),
  (4945, .cells [.int .i64 (.ofNat 3), .int .i64 (.ofNat 0), .bool false, .pointer (some ⟨214, 0, none⟩), .pointer (some ⟨10682, 0, none⟩)] 351 true),
  (5771, .cells [.int .i64 (.ofNat 4), .int .i64 (.ofNat 0), .bool false, .pointer (some ⟨38, 1, none⟩), .pointer (some ⟨214, 0, none⟩)] 351 true),
  (7165, .cells (u8s [120]) 5 false),
  (10650, .cells [.int .i64 (.ofNat 2)] 3 false),
  (10682, .cells [.int .i64 (.ofNat 2), .int .i64 (.ofNat 0), .bool true, .pointer (some ⟨4945, 0, none⟩), .pointer (some ⟨38, 1, none⟩)] 351 true),
  (10981, .cells [.int .i64 (.ofNat 0), .int .i64 (.ofNat 0), .int .i64 (.ofNat 4), .int .i64 (.negSucc 0)] 147 false)], .tuple #[.int .i64 (.ofNat 5), .int .i64 (.ofNat 0)], 11184, [(37, some (.map [⟨.int .i64 (.ofNat 1), .pointer (some ⟨214, 0, none⟩), 0⟩, ⟨.int .i64 (.ofNat 3), .pointer (some ⟨4945, 0, none⟩), 2⟩, ⟨.int .i64 (.ofNat 4), .pointer (some ⟨5771, 0, none⟩), 3⟩, ⟨.int .i64 (.ofNat 2), .pointer (some ⟨10682, 0, none⟩), 4⟩, ⟨.int .i64 (.ofNat 5), .pointer (some ⟨11121, 0, none⟩), 5⟩] 6)),
  (38, some (.cells [.int .i64 (.ofNat 5), .int .i64 (.ofNat 0), .int .i64 (.ofNat 0), .bool false, .pointer (some ⟨11121, 0, none⟩), .pointer (some ⟨5771, 0, none⟩), .map (some 37)] 357 true)),
  (55, some (.map [⟨.int .i64 (.ofNat 1), .slice (some ⟨240, 0, none⟩) 256 256, 0⟩, ⟨.int .i64 (.ofNat 3), .slice (some ⟨4971, 0, none⟩) 256 256, 2⟩, ⟨.int .i64 (.ofNat 4), .slice (some ⟨5797, 0, none⟩) 256 256, 3⟩, ⟨.int .i64 (.ofNat 2), .slice (some ⟨10708, 0, none⟩) 256 256, 4⟩, ⟨.int .i64 (.ofNat 5), .slice (some ⟨11147, 0, none⟩) 256 256, 5⟩] 6)),
  (57, some (.map [⟨.int .i64 (.ofNat 4), .bool true, 6⟩, ⟨.int .i64 (.ofNat 1), .bool true, 7⟩, ⟨.int .i64 (.ofNat 3), .bool true, 8⟩, ⟨.int .i64 (.ofNat 2), .bool true, 9⟩, ⟨.int .i64 (.ofNat 5), .bool true, 10⟩] 11)),
  (59, some (.cells [.int .i64 (.ofNat 1), .map (some 57), .map (some 58), .slice (some ⟨11089, 0, none⟩) 2 2] 214 true)),
  (10650, none),
  (10682, some (.cells [.int .i64 (.ofNat 2), .int .i64 (.ofNat 0), .bool true, .pointer (some ⟨4945, 0, none⟩), .pointer (some ⟨11121, 0, none⟩)] 351 true)),
  (11089, some (.cells [.int .i64 (.ofNat 2), .int .i64 (.ofNat 5)] 3 false)),
  (11121, some (.cells [.int .i64 (.ofNat 5), .int .i64 (.ofNat 0), .bool true, .pointer (some ⟨10682, 0, none⟩), .pointer (some ⟨38, 1, none⟩)] 351 true)),
  (11147, some (.cells (u8s [1, 0, 14, 0, 5, 0, 0, 0, 64, 196, 222, 82, 1] ++ u8z 5 ++ u8s [4, 0, 0, 0, 255, 255, 255, 255] ++ u8z 230) 5 false))]⟩
theorem m23_111_ok : m23_111.ok (call evT evF k23_111 100000 m23_111.f m23_111.args m23_111.preH) = true := by kernel_rfl
theorem q23_111 : HkOk Tryz.prog (hkMemo m23_111) := hkMemo_ok evT_ok evF_ok k23_111_ok rfl m23_111_ok
noncomputable def k23_124 : Hk := orHk (hkMemo m23_123) (hkLib)
theorem k23_124_ok : HkOk Tryz.prog k23_124 := orHk_ok q23_123 (hkLib_ok)
noncomputable def m23_124 : Mm :=
  ⟨249, [.pointer (some ⟨56, 0, none⟩), .int .i64 (.ofNat 5)], 11818, [(1, .map [⟨.string ⟨#[111, 114, 105, 103, 105, 110, 97, 108]⟩, .pointer (some ⟨32, 0, none⟩), 0⟩, ⟨.string ⟨#[115, 116, 111, 114, 101]⟩, .pointer (some ⟨412, 0, none⟩), 1⟩, ⟨.string ⟨#[116, 97, 105, 108]⟩, .pointer (some ⟨3148, 0, none⟩), 2⟩] 3),
  (2, .cells [.int .i64 (.ofNat 100000), .int .i64 (.ofNat 14), .int .i64 (.negSucc 13), .bool false, .bool false, .map (some 1), .slice (some ⟨11809, 0, none⟩) 4 4] 61 true),
  (32, .cells [.slice (some ⟨34, 0, none⟩) 3 3, .slice (some ⟨35, 0, none⟩) 3 3, .bool true] 130 true),
  (34, .cells (u8s [97, 98, 99]) 5 false),
  (35, .cells (u8s [97, 98, 99]) 5 false),
  (37, .map [⟨.int .i64 (.ofNat 1), .pointer (some ⟨214, 0, none⟩), 0⟩, ⟨.int .i64 (.ofNat 3), .pointer (some ⟨4945, 0, none⟩), 2⟩, ⟨.int .i64 (.ofNat 2), .pointer (some ⟨10682, 0, none⟩), 4⟩, ⟨.int .i64 (.ofNat 5), .pointer (some ⟨11121, 0, none⟩), 5⟩, ⟨.int .i64 (.ofNat 6), .pointer (some ⟨11632, 0, none⟩), 6⟩] 7),
  (38, .cells [.int .i64 (.ofNat 5), .int .i64 (.ofNat 0), .int .i64 (.ofNat 0), .bool false, .pointer (some ⟨11632, 0, none⟩), .pointer (some ⟨214, 0, none⟩), .map (some 37)] 357 true),
  (55, .map [⟨.int .i64 (.ofNat 1), .slice (some ⟨240, 0, none⟩) 256 256, 0⟩, ⟨.int .i64 (.ofNat 3), .slice (some ⟨4971, 0, none⟩) 256 256, 2⟩, ⟨.int .i64 (.ofNat 2), .slice (some ⟨10708, 0, none⟩) 256 256, 4⟩, ⟨.int .i64 (.ofNat 5), .slice (some ⟨11147, 0, none⟩) 256 256, 5⟩, ⟨.int .i64 (.ofNat 6), .slice (some ⟨11658, 0, none⟩) 256 256, 6⟩] 7),
  (56, .cells [.pointer (some ⟨38, 0, none⟩), .pointer (some ⟨2, 0, none⟩), .string ⟨#[115, 116, 111, 114, 101]⟩, .int .i64 (.ofNat 5), .map (some 55), .int .i64 (.ofNat 0)] 249 true),
  (214, .cells [.int .i64 (.ofNat 1), .int .i64 (.ofNat 0), .bool false, .pointer (some ⟨38, 1, none⟩), .pointer (some ⟨4945, 0, none⟩)] 351 true),
  (412, .cells [.slice (some ⟨7028, 0, none⟩) 1280 1280, .slice (some ⟨8424, 0, none⟩) 1280 1280, .bool true] 130 true),
  (3148, .cells [.slice (some ⟨3150, 0, none⟩) 1 1, .slice (some ⟨7165, 0, none⟩) 1 1, .bool true] 130 true),
  (3150, .cells (u8s [120]) 5 false),
  (4945, .cells [.int .i64 (.ofNat 3), .int .i64 (.ofNat 0), .bool false, .pointer (some ⟨214, 0, none⟩), .pointer (some ⟨10682, 0, none⟩)] 351 true),
  (7028, .cells (u8s [111, 99, 116, 97, 118, 111, 48, 49, 2] ++ u8z 5 ++ u8s [4, 0, 0, 0, 1, 1, 0, 0, 0, 3] ++ u8z 36 ++ u8s [250, 212, 113, 102, 111, 99, 116, 97, 118, 111, 48, 49, 1] ++ u8z 5 ++ u8s [2] ++ u8z 8 ++ u8s [3] ++ u8z 36 ++ u8s [137, 155, 206, 78] ++ u8z 128 ++ u8s [1, 0, 14, 0, 1, 0, 0, 0, 194, 105, 111, 233, 1] ++ u8z 5 ++ u8s [3, 0, 0, 0, 255, 255, 255, 255] ++ u8z 230 ++ u8s [1, 0, 14, 0, 2, 0, 0, 0, 54, 213, 233, 1, 1, 0, 1, 0, 0, 0, 3, 0, 0, 0, 255, 255, 255, 255] ++ u8z 230 ++ u8s [1, 0, 27, 0, 3, 0, 0, 0, 50, 165, 25, 235, 2, 1] ++ u8z 4 ++ u8s [1] ++ u8z 12 ++ u8s [3, 0, 0, 0, 255, 255, 255, 255] ++ u8z 217 ++ u8s [3, 0, 17, 0, 4, 0, 0, 0, 199, 184, 67, 119, 2, 1, 0, 0, 0, 3, 0, 0, 0, 3, 0, 0, 0, 4] ++ u8z 230) 5 false),
  (7165, .cells (u8s [120]) 5 false),
  (10682, .cells [.int .i64 (.ofNat 2), .int .i64 (.ofNat 0), .bool false, .pointer (some ⟨4945, 0, none⟩), .pointer (some ⟨11121, 0, none⟩)] 351 true),
  (11121, .cells [.int .i64 (.ofNat 5), .int .i64 (.ofNat 0), .bool true, .pointer (some ⟨10682, 0, none⟩), .pointer (some ⟨11632, 0, none⟩)] 351 true),
  (11147, .cells (u8s [1, 0, 14, 0, 5, 0, 0, 0, 64, 196, 222, 82, 1] ++ u8z 5 ++ u8s [4, 0, 0, 0, 255, 255, 255, 255] ++ u8z 230) 5 false),
  (11632, .cells [.int .i64 (.ofNat 6), .int .i64 (.ofNat 0), .bool true, .pointer (some ⟨11121, 0, none⟩), .pointer (some ⟨38, 1, none⟩)] 351 true),
  (11809, .cells [.string ⟨#[115, 116, 111, 114, 101]⟩, .int .i64 (.ofNat 512), .slice (some ⟨11724, 0, none⟩) 64 64, .string ⟨#[115, 116, 111, 114, 101]⟩, .int .i64 (.ofNat 576), .slice (some ⟨11752, 0, none⟩) 64 64, .string ⟨#[115, 116, 111, 114, 101]⟩, .int .i64 (.ofNat 640), .slice (some ⟨11780, 0, none⟩) 64 64, .string ⟨#[115, 116, 111, 114, 101]⟩, .int .i64 (.ofNat 704), .slice (some ⟨11808, 0, none⟩) 64 64] 134 false)], .int .i64 (.ofNat 0), 12489, [(2, some (.cells [.int .i64 (.ofNat 100000), .int .i64 (.ofNat 15), .int .i64 (.negSucc 14), .bool false, .bool false, .map (some 1), .slice (some ⟨12480, 0, none⟩) 8 8] 61 true)),
  (412, some (.cells [.slice (some ⟨12376, 0, none⟩) 1536 1536, .slice (some ⟨8424, 0, none⟩) 1280 1280, .bool true] 130 true)),
  (7028, none),
  (11121, some (.cells [.int .i64 (.ofNat 5), .int .i64 (.ofNat 0), .bool false, .pointer (some ⟨10682, 0, none⟩), .pointer (some ⟨11632, 0, none⟩)] 351 true)),
  (11809, none),
  (12376, some (.cells (u8s [111, 99, 116, 97, 118, 111, 48, 49, 2] ++ u8z 5 ++ u8s [4, 0, 0, 0, 1, 1, 0, 0, 0, 3] ++ u8z 36 ++ u8s [250, 212, 113, 102, 111, 99, 116, 97, 118, 111, 48, 49, 1] ++ u8z 5 ++ u8s [2] ++ u8z 8 ++ u8s [3] ++ u8z 36 ++ u8s [137, 155, 206, 78] ++ u8z 128 ++ u8s [1, 0, 14, 0, 1, 0, 0, 0, 194, 105, 111, 233, 1] ++ u8z 5 ++ u8s [3, 0, 0, 0, 255, 255, 255, 255] ++ u8z 230 ++ u8s [1, 0, 14, 0, 2, 0, 0, 0, 54, 213, 233, 1, 1, 0, 1, 0, 0, 0, 3, 0, 0, 0, 255, 255, 255, 255] ++ u8z 230 ++ u8s [1, 0, 27, 0, 3, 0, 0, 0, 50, 165, 25, 235, 2, 1] ++ u8z 4 ++ u8s [1] ++ u8z 12 ++ u8s [3, 0, 0, 0, 255, 255, 255, 255] ++ u8z 217 ++ u8s [3, 0, 17, 0, 4, 0, 0, 0, 199, 184, 67, 119, 2, 1, 0, 0, 0, 3, 0, 0, 0, 3, 0, 0, 0, 4] ++ u8z 230 ++ u8s [1, 0, 14, 0, 5, 0, 0, 0, 64, 196, 222, 82, 1] ++ u8z 5 ++ u8s [4, 0, 0, 0, 255, 255, 255, 255] ++ u8z 230) 5 false)),
  (12395, some (.cells (u8s [1, 0, 14, 0, 5, 0, 0, 0, 64, 196, 222, 82, 1] ++ u8z 5 ++ u8s [4, 0, 0, 0, 255, 255, 255, 255] ++ u8z 38) 5 false)),
  (12423, some (.cells (u8z 64) 5 false)),
  (12451, some (.cells (u8z 64) 5 false)),
  (12479, some (.cells (u8z 64) 5 false)),
  (12480, some (.cells [.string ⟨#[115, 116, 111, 114, 101]⟩, .int .i64 (.ofNat 512), .slice (some ⟨11724, 0, none⟩) 64 64, .string ⟨#[115, 116, 111, 114, 101]⟩, .int .i64 (.ofNat 576), .slice (some ⟨11752, 0, none⟩) 64 64, .string ⟨#[115, 116, 111, 114, 101]⟩, .int .i64 (.ofNat 640), .slice (some ⟨11780, 0, none⟩) 64 64, .string ⟨#[115, 116, 111, 114, 101]⟩, .int .i64 (.ofNat 704), .slice (some ⟨11808, 0, none⟩) 64 64, .string ⟨#[115, 116, 111, 114, 101]⟩, .int .i64 (.ofNat 1280), .slice (some ⟨12395, 0, none⟩) 64 64, .string ⟨#[115, 116, 111, 114, 101]⟩, .int .i64 (.ofNat 1344), .slice (some ⟨12423, 0, none⟩) 64 64, .string ⟨#[115, 116, 111, 114, 101]⟩, .int .i64 (.ofNat 1408), .slice (some ⟨12451, 0, none⟩) 64 64, .string ⟨#[115, 116, 111, 114, 101]⟩, .int .i64 (.ofNat 1472), .slice (some ⟨12479, 0, none⟩) 64 64] 134 false))]⟩
theorem m23_124_ok : m23_124.ok (call evT evF k23_124 100000 m23_124.f m23_124.args m23_124.preH) = true := by kernel_rfl
theorem q23_124 : HkOk Tryz.prog (hkMemo m23_124) := hkMemo_ok evT_ok evF_ok k23_124_ok rfl m23_124_ok
noncomputable def k23_127 : Hk := orHk (hkMemo m23_126) (hkLib)
theorem k23_127_ok : HkOk Tryz.prog k23_127 := orHk_ok q23_126 (hkLib_ok)
noncomputable def m23_127 : Mm :=
  ⟨249, [.pointer (some ⟨56, 0, none⟩), .int .i64 (.ofNat 6)], 12489, [(1, .map [⟨.string ⟨#[111, 114, 105, 103, 105, 110, 97, 108]⟩, .pointer (some ⟨32, 0, none⟩), 0⟩, ⟨.string ⟨#[115, 116, 111, 114, 101]⟩, .pointer (some ⟨412, 0, none⟩), 1⟩, ⟨.string ⟨#[116, 97, 105, 108]⟩, .pointer (some ⟨3148, 0, none⟩), 2⟩] 3),
  (2, .cells [.int .i64 (.ofNat 100000), .int .i64 (.ofNat 15), .int .i64 (.negSucc 14), .bool false, .bool false, .map (some 1), .slice (some ⟨12480, 0, none⟩) 8 8] 61 true),
  (32, .cells [.slice (some ⟨34, 0, none⟩) 3 3, .slice (some ⟨35, 0, none⟩) 3 3, .bool true] 130 true),
  (34, .cells (u8s [97, 98, 99]) 5 false),
  (35, .cells (u8s [97, 98, 99]) 5 false),
  (37, .map [⟨.int .i64 (.ofNat 1), .pointer (some ⟨214, 0, none⟩), 0⟩, ⟨.int .i64 (.ofNat 3), .pointer (some ⟨4945, 0, none⟩), 2⟩, ⟨.int .i64 (.ofNat 2), .pointer (some ⟨10682, 0, none⟩), 4⟩, ⟨.int .i64 (.ofNat 5), .pointer (some ⟨11121, 0, none⟩), 5⟩, ⟨.int .i64 (.ofNat 6), .pointer (some ⟨11632, 0, none⟩), 6⟩] 7),
  (38, .cells [.int .i64 (.ofNat 5), .int .i64 (.ofNat 0), .int .i64 (.ofNat 0), .bool false, .pointer (some ⟨11632, 0, none⟩), .pointer (some ⟨214, 0, none⟩), .map (some 37)] 357 true),
  (55, .map [⟨.int .i64 (.ofNat 1), .slice (some ⟨240, 0, none⟩) 256 256, 0⟩, ⟨.int .i64 (.ofNat 3), .slice (some ⟨4971, 0, none⟩) 256 256, 2⟩, ⟨.int .i64 (.ofNat 2), .slice (some ⟨10708, 0, none⟩) 256 256, 4⟩, ⟨.int .i64 (.ofNat 5), .slice (some ⟨11147, 0, none⟩) 256 256, 5⟩, ⟨.int .i64 (.ofNat 6), .slice (some ⟨11658, 0, none⟩) 256 256, 6⟩] 7),
  (56, .cells [.pointer (some ⟨38, 0, none⟩), .pointer (some ⟨2, 0, none⟩), .string ⟨#[115, 116, 111, 114, 101]⟩, .int .i64 (.ofNat 5), .map (some 55), .int .i64 (.ofNat 0)] 249 true),
  (214, .cells [.int .i64 (.ofNat 1), .int .i64 (.ofNat 0), .bool false, .pointer (some ⟨38, 1, none⟩), .pointer (some ⟨4945, 0, none⟩)] 351 true),
  (412, .cells [.slice (some ⟨12376, 0, none⟩) 1536 1536, .slice (some ⟨8424, 0, none⟩) 1280 1280, .bool true] 130 true),
  (3148, .cells [.slice (some ⟨3150, 0, none⟩) 1 1, .slice (some ⟨7165, 0, none⟩) 1 1, .bool true] 130 true),
  (3150, .cells (u8s [120]) 5 false),
  (4945, .cells [.int .i64 (.ofNat 3), .int .i64 (.ofNat 0), .bool false, .pointer (some ⟨214, 0, none⟩), .pointer (some ⟨10682, 0, none⟩)] 351 true),
  (7165, .cells (u8s [120]) 5 false),
  (10682, .cells [.int .i64 (.ofNat 2), .int .i64 (.ofNat 0), .bool false, .pointer (some ⟨4945, 0, none⟩), .pointer (some ⟨11121, 0, none⟩)] 351 true),
  (11121, .cells [.int .i64 (.ofNat 5), .int .i64 (.ofNat 0), .bool false, .pointer (some ⟨10682, 0, none⟩), .pointer (some ⟨11632, 0, none⟩)] 351 true),
  (11632, .cells [.int .i64 (.ofNat 6), .int .i64 (.ofNat 0), .bool true, .pointer (some ⟨11121, 0, none⟩), .pointer (some ⟨38, 1, none⟩)] 351 true),
  (11658, .cells (u8s [3, 0, 17, 0, 6, 0, 0, 0, 34, 46, 224, 217, 2, 2, 0, 0, 0, 3, 0, 0, 0, 5, 0, 0, 0, 4] ++ u8z 230) 5 false),
  (12376, .cells (u8s [111, 99, 116, 97, 118, 111, 48, 49, 2] ++ u8z 5 ++ u8s [4, 0, 0, 0, 1, 1, 0, 0, 0, 3] ++ u8z 36 ++ u8s [250, 212, 113, 102, 111, 99, 116, 97, 118, 111, 48, 49, 1] ++ u8z 5 ++ u8s [2] ++ u8z 8 ++ u8s [3] ++ u8z 36 ++ u8s [137, 155, 206, 78] ++ u8z 128 ++ u8s [1, 0, 14, 0, 1, 0, 0, 0, 194, 105, 111, 233, 1] ++ u8z 5 ++ u8s [3, 0, 0, 0, 255, 255, 255, 255] ++ u8z 230 ++ u8s [1, 0, 14, 0, 2, 0, 0, 0, 54, 213, 233, 1, 1, 0, 1, 0, 0, 0, 3, 0, 0, 0, 255, 255, 255, 255] ++ u8z 230 ++ u8s [1, 0, 27, 0, 3, 0, 0, 0, 50, 165, 25, 235, 2, 1] ++ u8z 4 ++ u8s [1] ++ u8z 12 ++ u8s [3, 0, 0, 0, 255, 255, 255, 255] ++ u8z 217 ++ u8s [3, 0, 17, 0, 4, 0, 0, 0, 199, 184, 67, 119, 2, 1, 0, 0, 0, 3, 0, 0, 0, 3, 0, 0, 0, 4] ++ u8z 230 ++ u8s [1, 0, 14, 0, 5, 0, 0, 0, 64, 196, 222, 82, 1] ++ u8z 5 ++ u8s [4, 0, 0, 0, 255, 255, 255, 255] ++ u8z 230) 5 false),
  (12480, .cells [.string ⟨#[115, 116, 111, 114, 101]⟩, .int .i64 (.ofNat 512), .slice (some ⟨11724, 0, none⟩) 64 64, .string ⟨#[115, 116, 111, 114, 101]⟩, .int .i64 (.ofNat 576), .slice (some ⟨11752, 0, none⟩) 64 64, .string ⟨#[115, 116, 111, 114, 101]⟩, .int .i64 (.ofNat 640), .slice (some ⟨11780, 0, none⟩) 64 64, .string ⟨#[115, 116, 111, 114, 101]⟩, .int .i64 (.ofNat 704), .slice (some ⟨11808, 0, none⟩) 64 64, .string ⟨#[115, 116, 111, 114, 101]⟩, .int .i64 (.ofNat 1280), .slice (some ⟨12395, 0, none⟩) 64 64, .string ⟨#[115, 116, 111, 114, 101]⟩, .int .i64 (.ofNat 1344), .slice (some ⟨12423, 0, none⟩) 64 64, .string ⟨#[115, 116, 111, 114, 101]⟩, .int .i64 (.ofNat 1408), .slice (some ⟨12451, 0, none⟩) 64 64, .string ⟨#[115, 116, 111, 114, 101]⟩, .int .i64 (.ofNat 1472), .slice (some ⟨12479, 0, none⟩) 64 64] 134 false)], .int .i64 (.ofNat 0), 13160, [(2, some (.cells [.int .i64 (.ofNat 100000), .int .i64 (.ofNat 16), .int .i64 (.negSucc 15), .bool false, .bool false, .map (some 1), .slice (some ⟨13151, 0, none⟩) 12 12] 61 true)),
  (412, some (.cells [.slice (some ⟨13047, 0, none⟩) 1792 1792, .slice (some ⟨8424, 0, none⟩) 1280 1280, .bool true] 130 true)),
  (11632, some (.cells [.int .i64 (.ofNat 6), .int .i64 (.ofNat 0), .bool false, .pointer (some ⟨11121, 0, none⟩), .pointer (some ⟨38, 1, none⟩)] 351 true)),
  (12376, none),
  (12480, none),
  (13047, some (.cells (u8s [111, 99, 116, 97, 118, 111, 48, 49, 2] ++ u8z 5 ++ u8s [4, 0, 0, 0, 1, 1, 0, 0, 0, 3] ++ u8z 36 ++ u8s [250, 212, 113, 102, 111, 99, 116, 97, 118, 111, 48, 49, 1] ++ u8z 5 ++ u8s [2] ++ u8z 8 ++ u8s [3] ++ u8z 36 ++ u8s [137, 155, 206, 78] ++ u8z 128 ++ u8s [1, 0, 14, 0, 1, 0, 0, 0, 194, 105, 111, 233, 1] ++ u8z 5 ++ u8s [3, 0, 0, 0, 255, 255, 255, 255] ++ u8z 230 ++ u8s [1, 0, 14, 0, 2, 0, 0, 0, 54, 213, 233, 1, 1, 0, 1, 0, 0, 0, 3, 0, 0, 0, 255, 255, 255, 255] ++ u8z 230 ++ u8s [1, 0, 27, 0, 3, 0, 0, 0, 50, 165, 25, 235, 2, 1] ++ u8z 4 ++ u8s [1] ++ u8z 12 ++ u8s [3, 0, 0, 0, 255, 255, 255, 255] ++ u8z 217 ++ u8s [3, 0, 17, 0, 4, 0, 0, 0, 199, 184, 67, 119, 2, 1, 0, 0, 0, 3, 0, 0, 0, 3, 0, 0, 0, 4] ++ u8z 230 ++ u8s [1, 0, 14, 0, 5, 0, 0, 0, 64, 196, 222, 82, 1] ++ u8z 5 ++ u8s [4, 0, 0, 0, 255, 255, 255, 255] ++ u8z 230 ++ u8s [3, 0, 17, 0, 6, 0, 0, 0, 34, 46, 224, 217, 2, 2, 0, 0, 0, 3, 0, 0, 0, 5, 0, 0, 0, 4] ++ u8z 230) 5 false)),
  (13066, some (.cells (u8s [3, 0, 17, 0, 6, 0, 0, 0, 34, 46, 224, 217, 2, 2, 0, 0, 0, 3, 0, 0, 0, 5, 0, 0, 0, 4] ++ u8z 38) 5 false)),
  (13094, some (.cells (u8z 64) 5 false)),
  (13122, some (.cells (u8z 64) 5 false)),
  (13150, some (.cells (u8z 64) 5 false)),
  (13151, some (.cells [.string ⟨#[115, 116, 111, 114, 101]⟩, .int .i64 (.ofNat 512), .slice (some ⟨11724, 0, none⟩) 64 64, .string ⟨#[115, 116, 111, 114, 101]⟩, .int .i64 (.ofNat 576), .slice (some ⟨11752, 0, none⟩) 64 64, .string ⟨#[115, 116, 111, 114, 101]⟩, .int .i64 (.ofNat 640), .slice (some ⟨11780, 0, none⟩) 64 64, .string ⟨#[115, 116, 111, 114, 101]⟩, .int .i64 (.ofNat 704), .slice (some ⟨11808, 0, none⟩) 64 64, .string ⟨#[115, 116, 111, 114, 101]⟩, .int .i64 (.ofNat 1280), .slice (some ⟨12395, 0, none⟩) 64 64, .string ⟨#[115, 116, 111, 114, 101]⟩, .int .i64 (.ofNat 1344), .slice (some ⟨12423, 0, none⟩) 64 64, .string ⟨#[115, 116, 111, 114, 101]⟩, .int .i64 (.ofNat 1408), .slice (some ⟨12451, 0, none⟩) 64 64, .string ⟨#[115, 116, 111, 114, 101]⟩, .int .i64 (.ofNat 1472), .slice (some ⟨12479, 0, none⟩) 64 64, .string ⟨#[115, 116, 111, 114, 101]⟩, .int .i64 (.ofNat 1536), .slice (some ⟨13066, 0, none⟩) 64 64, .string ⟨#[115, 116, 111, 114, 101]⟩, .int .i64 (.ofNat 1600), .slice (some ⟨13094, 0, none⟩) 64 64, .string ⟨#[115, 116, 111, 114, 101]⟩, .int .i64 (.ofNat 1664), .slice (some ⟨13122, 0, none⟩) 64 64, .string ⟨#[115, 116, 111, 114, 101]⟩, .int .i64 (.ofNat 1728), .slice (some ⟨13150, 0, none⟩) 64 64] 134 false))]⟩
theorem m23_127_ok : m23_127.ok (call evT evF k23_127 100000 m23_127.f m23_127.args m23_127.preH) = true := by kernel_rfl
theorem q23_127 : HkOk Tryz.prog (hkMemo m23_127) := hkMemo_ok evT_ok evF_ok k23_127_ok rfl m23_127_ok
noncomputable def k23_134 : Hk := orHk (hkMemo m23_132) (orHk (hkMemo m23_133) (hkLib))
theorem k23_134_ok : HkOk Tryz.prog k23_134 := orHk_ok q23_132 (orHk_ok q23_133 (hkLib_ok))
noncomputable def m23_134 : Mm :=
  ⟨140, [.agg #[.int .i64 (.ofNat 3), .int .i64 (.ofNat 3), .int .i64 (.ofNat 6), .int .i64 (.ofNat 1), .int .i64 (.ofNat 1), .int .i64 (.ofNat 4), .int .i64 (.ofNat 4), .slice none 0 0, .slice (some ⟨11530, 0, none⟩) 1 1, .slice none 0 0]], 13277, [(11385, .cells [.int .i64 (.ofNat 0), .slice (some ⟨11519, 0, none⟩) 2 2] 175 false),
  (11519, .cells [.int .i64 (.ofNat 1), .int .i64 (.ofNat 0), .int .i64 (.ofNat 1), .int .i64 (.ofNat 0), .int .i64 (.ofNat 0), .int .i64 (.ofNat 3)] 145 false),
  (11530, .cells [.complex .f32 11386 1] 173 false)], .tuple #[.slice (some ⟨13554, 0, none⟩) 98 98, .int .i64 (.ofNat 0)], 13555, [(13554, some (.cells (u8s [3, 0, 0, 0, 111, 99, 116, 97, 118, 111, 48, 49, 3] ++ u8z 5 ++ u8s [6, 0, 0, 0, 1, 1, 0, 0, 0, 4] ++ u8z 36 ++ u8s [14, 118, 28, 196, 4] ++ u8z 7 ++ u8s [1, 0, 0, 0, 1] ++ u8z 4 ++ u8s [2, 1] ++ u8z 4 ++ u8s [1] ++ u8z 5 ++ u8s [3]) 5 false))]⟩
theorem m23_134_ok : m23_134.ok (call evT evF k23_134 100000 m23_134.f m23_134.args m23_134.preH) = true := by kernel_rfl
theorem q23_134 : HkOk Tryz.prog (hkMemo m23_134) := hkMemo_ok evT_ok evF_ok k23_134_ok rfl m23_134_ok
noncomputable def k23_154 : Hk := orHk (hkMemo m23_142) (orHk (hkMemo m23_143) (orHk (hkMemo m23_146) (orHk (hkMemo m23_148) (orHk (hkMemo m23_151) (orHk (hkMemo m23_152) (orHk (hkMemo m23_153) (hkLib)))))))
theorem k23_154_ok : HkOk Tryz.prog k23_154 := orHk_ok q23_142 (orHk_ok q23_143 (orHk_ok q23_146 (orHk_ok q23_148 (orHk_ok q23_151 (orHk_ok q23_152 (orHk_ok q23_153 (hkLib_ok)))))))
noncomputable def m23_154 : Mm :=
  ⟨37, [.pointer (some ⟨8521, 0, none⟩), .int .i64 (.ofNat 0), .bool false], 14303, [(1, .map [⟨.string ⟨#[111, 114, 105, 103, 105, 110, 97, 108]⟩, .pointer (some ⟨32, 0, none⟩), 0⟩, ⟨.string ⟨#[115, 116, 111, 114, 101]⟩, .pointer (some ⟨412, 0, none⟩), 1⟩, ⟨.string ⟨#[116, 97, 105, 108]⟩, .pointer (some ⟨3148, 0, none⟩), 2⟩, ⟨.string ⟨#[106, 111, 117, 114, 110, 97, 108]⟩, .pointer (some ⟨13576, 0, none⟩), 3⟩] 4),
  (2, .cells [.int .i64 (.ofNat 100000), .int .i64 (.ofNat 24), .int .i64 (.negSucc 23), .bool false, .bool false, .map (some 1), .slice none 0 0] 61 true),
  (32, .cells [.slice (some ⟨13245, 0, none⟩) 4 4, .slice (some ⟨13275, 0, none⟩) 4 4, .bool true] 130 true),
  (37, .map [⟨.int .i64 (.ofNat 1), .pointer (some ⟨214, 0, none⟩), 0⟩, ⟨.int .i64 (.ofNat 3), .pointer (some ⟨4945, 0, none⟩), 2⟩, ⟨.int .i64 (.ofNat 2), .pointer (some ⟨10682, 0, none⟩), 4⟩, ⟨.int .i64 (.ofNat 5), .pointer (some ⟨11121, 0, none⟩), 5⟩, ⟨.int .i64 (.ofNat 6), .pointer (some ⟨11632, 0, none⟩), 6⟩] 7),
  (38, .cells [.int .i64 (.ofNat 5), .int .i64 (.ofNat 0), .int .i64 (.ofNat 0), .bool false, .pointer (some ⟨11632, 0, none⟩), .pointer (some ⟨214, 0, none⟩), .map (some 37)] 357 true),
  (55, .map [⟨.int .i64 (.ofNat 1), .slice (some ⟨240, 0, none⟩) 256 256, 0⟩, ⟨.int .i64 (.ofNat 3), .slice (some ⟨4971, 0, none⟩) 256 256, 2⟩, ⟨.int .i64 (.ofNat 2), .slice (some ⟨10708, 0, none⟩) 256 256, 4⟩, ⟨.int .i64 (.ofNat 5), .slice (some ⟨11147, 0, none⟩) 256 256, 5⟩, ⟨.int .i64 (.ofNat 6), .slice (some ⟨11658, 0, none⟩) 256 256, 6⟩] 7),
  (56, .cells [.pointer (some ⟨38, 0, none⟩), .pointer (some ⟨2, 0, none⟩), .string ⟨#[115, 116, 111, 114, 101]⟩, .int .i64 (.ofNat 5), .map (some 55), .int .i64 (.ofNat 0)] 249 true),
  (57, .map [⟨.int .i64 (.ofNat 4), .bool true, 6⟩, ⟨.int .i64 (.ofNat 1), .bool true, 7⟩, ⟨.int .i64 (.ofNat 3), .bool true, 8⟩, ⟨.int .i64 (.ofNat 2), .bool true, 9⟩, ⟨.int .i64 (.ofNat 5), .bool true, 10⟩, ⟨.int .i64 (.ofNat 6), .bool true, 11⟩] 12),
  (58, .map [] 0),
  (59, .cells [.int .i64 (.ofNat 1), .map (some 57), .map (some 58), .slice (some ⟨11577, 0, none⟩) 3 3] 214 true),
  (60, .cells [.pointer (some ⟨56, 0, none⟩), .pointer (some ⟨59, 0, none⟩)] 257 true),
  (72, .cells [.pointer (some ⟨2, 0, none⟩), .int .i64 (.ofNat 1)] 216 true),
  (214, .cells [.int .i64 (.ofNat 1), .int .i64 (.ofNat 0), .bool false, .pointer (some ⟨38, 1, none⟩), .pointer (some ⟨4945, 0, none⟩)] 351 true),
  (412, .cells [.slice (some ⟨13047, 0, none⟩) 1792 1792, .slice (some ⟨13171, 0, none⟩) 1792 1792, .bool true] 130 true),
  (3005, .map [] 0),
  (3006, .cells [.pointer (some ⟨2, 0, none⟩), .string ⟨#[111, 114, 105, 103, 105, 110, 97, 108]⟩, .int .i64 (.ofNat 3), .int .i64 (.ofNat 0), .map (some 3005)] 372 true),
  (3026, .cells [.pointer (some ⟨60, 0, none⟩), .pointer (some ⟨3006, 0, none⟩), .pointer (some ⟨72, 0, none⟩)] 233 true),
  (3148, .cells [.slice (some ⟨3150, 0, none⟩) 1 1, .slice (some ⟨13185, 0, none⟩) 1 1, .bool true] 130 true),
  (3150, .cells (u8s [120]) 5 false),
  (4945, .cells [.int .i64 (.ofNat 3), .int .i64 (.ofNat 0), .bool false, .pointer (some ⟨214, 0, none⟩), .pointer (some ⟨10682, 0, none⟩)] 351 true),
  (8295, .cells [.int .i64 (.ofNat 1), .int .i64 (.ofNat 3)] 3 false),
  (8437, .cells [.int .i64 (.ofNat 1), .int .i64 (.ofNat 3), .int .i64 (.ofNat 3), .int .i64 (.ofNat 4)] 119 false),
  (8521, .cells [.pointer (some ⟨2, 0, none⟩), .int .i64 (.ofNat 3), .int .i64 (.ofNat 3), .int .i64 (.ofNat 6), .int .i64 (.ofNat 1), .int .i64 (.ofNat 1), .int .i64 (.ofNat 4), .int .i64 (.ofNat 4), .slice none 0 0, .slice (some ⟨11530, 0, none⟩) 1 1, .slice none 0 0, .int .i64 (.ofNat 98), .int .u32 (.ofNat 4247761631), .pointer (some ⟨62, 0, none⟩), .slice (some ⟨10269, 0, none⟩) 2 2, .slice (some ⟨9648, 0, none⟩) 2 2, .slice (some ⟨11185, 0, none⟩) 2 2, .int .i64 (.ofNat 0), .int .i64 (.ofNat 1)] 116 true),
  (9026, .cells [.int .i64 (.ofNat 0), .int .i64 (.ofNat 0), .int .i64 (.ofNat 3)] 145 false),
  (9647, .cells [.int .i64 (.ofNat 1), .int .i64 (.ofNat 0), .int .i64 (.ofNat 1), .int .i64 (.ofNat 0), .int .i64 (.ofNat 0), .int .i64 (.ofNat 3)] 145 false),
  (9648, .cells [.slice (some ⟨9026, 0, none⟩) 1 1, .slice (some ⟨9647, 0, none⟩) 2 2] 113 false),
  (10269, .cells [.int .i64 (.ofNat 1), .int .i64 (.ofNat 0), .int .i64 (.ofNat 1), .int .i64 (.ofNat 0), .int .i64 (.ofNat 0), .int .i64 (.ofNat 3)] 145 false),
  (10682, .cells [.int .i64 (.ofNat 2), .int .i64 (.ofNat 0), .bool false, .pointer (some ⟨4945, 0, none⟩), .pointer (some ⟨11121, 0, none⟩)] 351 true),
  (11121, .cells [.int .i64 (.ofNat 5), .int .i64 (.ofNat 0), .bool false, .pointer (some ⟨10682, 0, none⟩), .pointer (some ⟨11632, 0, none⟩)] 351 true),
  (11185, .cells [.int .i64 (.ofNat 2), .int .i64 (.ofNat 3), .int .i64 (.ofNat 5), .int .i64 (.ofNat 4)] 119 false),
  (11385, .cells [.int .i64 (.ofNat 0), .slice (some ⟨11519, 0, none⟩) 2 2] 175 false),
  (11519, .cells [.int .i64 (.ofNat 1), .int .i64 (.ofNat 0), .int .i64 (.ofNat 1), .int .i64 (.ofNat 0), .int .i64 (.ofNat 0), .int .i64 (.ofNat 3)] 145 false),
  (11530, .cells [.complex .f32 11386 1] 173 false),
  (11577, .cells [.int .i64 (.ofNat 2), .int .i64 (.ofNat 5), .int .i64 (.ofNat 6)] 3 false),
  (11632, .cells [.int .i64 (.ofNat 6), .int .i64 (.ofNat 0), .bool false, .pointer (some ⟨11121, 0, none⟩), .pointer (some ⟨38, 1, none⟩)] 351 true),
  (13047, .cells (u8s [111, 99, 116, 97, 118, 111, 48, 49, 2] ++ u8z 5 ++ u8s [4, 0, 0, 0, 1, 1, 0, 0, 0, 3] ++ u8z 36 ++ u8s [250, 212, 113, 102, 111, 99, 116, 97, 118, 111, 48, 49, 1] ++ u8z 5 ++ u8s [2] ++ u8z 8 ++ u8s [3] ++ u8z 36 ++ u8s [137, 155, 206, 78] ++ u8z 128 ++ u8s [1, 0, 14, 0, 1, 0, 0, 0, 194, 105, 111, 233, 1] ++ u8z 5 ++ u8s [3, 0, 0, 0, 255, 255, 255, 255] ++ u8z 230 ++ u8s [1, 0, 14, 0, 2, 0, 0, 0, 54, 213, 233, 1, 1, 0, 1, 0, 0, 0, 3, 0, 0, 0, 255, 255, 255, 255] ++ u8z 230 ++ u8s [1, 0, 27, 0, 3, 0, 0, 0, 50, 165, 25, 235, 2, 1] ++ u8z 4 ++ u8s [1] ++ u8z 12 ++ u8s [3, 0, 0, 0, 255, 255, 255, 255] ++ u8z 217 ++ u8s [3, 0, 17, 0, 4, 0, 0, 0, 199, 184, 67, 119, 2, 1, 0, 0, 0, 3, 0, 0, 0, 3, 0, 0, 0, 4] ++ u8z 230 ++ u8s [1, 0, 14, 0, 5, 0, 0, 0, 64, 196, 222, 82, 1] ++ u8z 5 ++ u8s [4, 0, 0, 0, 255, 255, 255, 255] ++ u8z 230 ++ u8s [3, 0, 17, 0, 6, 0, 0, 0, 34, 46, 224, 217, 2, 2, 0, 0, 0, 3, 0, 0, 0, 5, 0, 0, 0, 4] ++ u8z 230) 5 false),
  (13185, .cells (u8s [120]) 5 false),
  (13245, .cells (u8s [97, 98, 99, 0]) 5 false),
  (13275, .cells (u8s [97, 98, 99, 0]) 5 false),
  (13576, .cells [.slice (some ⟨14088, 0, none⟩) 256 256, .slice (some ⟨14301, 0, none⟩) 256 256, .bool true] 130 true),
  (14088, .cells (u8s [111, 99, 116, 97, 118, 111, 45, 106] ++ u8z 5 ++ u8s [98, 0, 0, 0, 223, 178, 47, 253] ++ u8z 39 ++ u8s [138, 247, 168, 249, 3, 0, 0, 0, 111, 99, 116, 97, 118, 111, 48, 49, 3] ++ u8z 5 ++ u8s [6, 0, 0, 0, 1, 1, 0, 0, 0, 4] ++ u8z 36 ++ u8s [14, 118, 28, 196, 4] ++ u8z 7 ++ u8s [1, 0, 0, 0, 1] ++ u8z 4 ++ u8s [2, 1] ++ u8z 4 ++ u8s [1] ++ u8z 5 ++ u8s [3] ++ u8z 94) 5 false)], .tuple #[], 14777, [(2, some (.cells [.int .i64 (.ofNat 100000), .int .i64 (.ofNat 37), .int .i64 (.negSucc 36), .bool false, .bool false, .map (some 1), .slice none 0 0] 61 true)),
  (32, some (.cells [.slice (some ⟨13245, 0, none⟩) 4 4, .slice (some ⟨14687, 0, none⟩) 4 4, .bool true] 130 true)),
  (412, some (.cells [.slice (some ⟨13047, 0, none⟩) 1792 1792, .slice (some ⟨14771, 0, none⟩) 1792 1792, .bool true] 130 true)),
  (13047, some (.cells (u8s [111, 99, 116, 97, 118, 111, 48, 49, 2] ++ u8z 5 ++ u8s [4, 0, 0, 0, 1, 1, 0, 0, 0, 3] ++ u8z 36 ++ u8s [250, 212, 113, 102, 111, 99, 116, 97, 118, 111, 48, 49, 3] ++ u8z 5 ++ u8s [6, 0, 0, 0, 1, 1, 0, 0, 0, 4] ++ u8z 36 ++ u8s [14, 118, 28, 196] ++ u8z 128 ++ u8s [1, 0, 14, 0, 1, 0, 0, 0, 194, 105, 111, 233, 1] ++ u8z 5 ++ u8s [3, 0, 0, 0, 255, 255, 255, 255] ++ u8z 230 ++ u8s [1, 0, 14, 0, 2, 0, 0, 0, 54, 213, 233, 1, 1, 0, 1, 0, 0, 0, 3, 0, 0, 0, 255, 255, 255, 255] ++ u8z 230 ++ u8s [1, 0, 27, 0, 3, 0, 0, 0, 50, 165, 25, 235, 2, 1] ++ u8z 4 ++ u8s [1] ++ u8z 12 ++ u8s [3, 0, 0, 0, 255, 255, 255, 255] ++ u8z 217 ++ u8s [3, 0, 17, 0, 4, 0, 0, 0, 199, 184, 67, 119, 2, 1, 0, 0, 0, 3, 0, 0, 0, 3, 0, 0, 0, 4] ++ u8z 230 ++ u8s [1, 0, 14, 0, 5, 0, 0, 0, 64, 196, 222, 82, 1] ++ u8z 5 ++ u8s [4, 0, 0, 0, 255, 255, 255, 255] ++ u8z 230 ++ u8s [3, 0, 17, 0, 6, 0, 0, 0, 34, 46, 224, 217, 2, 2, 0, 0, 0, 3, 0, 0, 0, 5, 0, 0, 0, 4] ++ u8z 230) 5 false)),
  (13245, some (.cells (u8s [120, 97, 98, 99]) 5 false)),
  (13576, some (.cells [.slice (some ⟨14088, 0, none⟩) 0 256, .slice (some ⟨14775, 0, none⟩) 0 0, .bool true] 130 true)),
  (14088, some (.cells (u8s [111, 99, 116, 97, 118, 111, 45, 106, 1] ++ u8z 4 ++ u8s [98, 0, 0, 0, 223, 178, 47, 253] ++ u8z 39 ++ u8s [135, 11, 100, 144, 3, 0, 0, 0, 111, 99, 116, 97, 118, 111, 48, 49, 3] ++ u8z 5 ++ u8s [6, 0, 0, 0, 1, 1, 0, 0, 0, 4] ++ u8z 36 ++ u8s [14, 118, 28, 196, 4] ++ u8z 7 ++ u8s [1, 0, 0, 0, 1] ++ u8z 4 ++ u8s [2, 1] ++ u8z 4 ++ u8s [1] ++ u8z 5 ++ u8s [3] ++ u8z 30 ++ u8s [120, 97, 98, 99] ++ u8z 60) 5 false)),
  (14687, some (.cells (u8s [120, 97, 98, 99]) 5 false)),
  (14771, some (.cells (u8s [111, 99, 116, 97, 118, 111, 48, 49, 2] ++ u8z 5 ++ u8s [4, 0, 0, 0, 1, 1, 0, 0, 0, 3] ++ u8z 36 ++ u8s [250, 212, 113, 102, 111, 99, 116, 97, 118, 111, 48, 49, 3] ++ u8z 5 ++ u8s [6, 0, 0, 0, 1, 1, 0, 0, 0, 4] ++ u8z 36 ++ u8s [14, 118, 28, 196] ++ u8z 128 ++ u8s [1, 0, 14, 0, 1, 0, 0, 0, 194, 105, 111, 233, 1] ++ u8z 5 ++ u8s [3, 0, 0, 0, 255, 255, 255, 255] ++ u8z 230 ++ u8s [1, 0, 14, 0, 2, 0, 0, 0, 54, 213, 233, 1, 1, 0, 1, 0, 0, 0, 3, 0, 0, 0, 255, 255, 255, 255] ++ u8z 230 ++ u8s [1, 0, 27, 0, 3, 0, 0, 0, 50, 165, 25, 235, 2, 1] ++ u8z 4 ++ u8s [1] ++ u8z 12 ++ u8s [3, 0, 0, 0, 255, 255, 255, 255] ++ u8z 217 ++ u8s [3, 0, 17, 0, 4, 0, 0, 0, 199, 184, 67, 119, 2, 1, 0, 0, 0, 3, 0, 0, 0, 3, 0, 0, 0, 4] ++ u8z 230 ++ u8s [1, 0, 14, 0, 5, 0, 0, 0, 64, 196, 222, 82, 1] ++ u8z 5 ++ u8s [4, 0, 0, 0, 255, 255, 255, 255] ++ u8z 230 ++ u8s [3, 0, 17, 0, 6, 0, 0, 0, 34, 46, 224, 217, 2, 2, 0, 0, 0, 3, 0, 0, 0, 5, 0, 0, 0, 4] ++ u8z 230) 5 false)),
  (14775, some (.cells [] 5 true))]⟩
theorem m23_154_ok : m23_154.ok (call evT evF k23_154 100000 m23_154.f m23_154.args m23_154.preH) = true := by kernel_rfl
theorem q23_154 : HkOk Tryz.prog (hkMemo m23_154) := hkMemo_ok evT_ok evF_ok k23_154_ok rfl m23_154_ok
noncomputable def k23_158 : Hk := orHk (hkMemo m23_156) (orHk (hkMemo m23_157) (hkLib))
theorem k23_158_ok : HkOk Tryz.prog k23_158 := orHk_ok q23_156 (orHk_ok q23_157 (hkLib_ok))
noncomputable def m23_158 : Mm :=
  ⟨229, [.pointer (some ⟨60, 0, none⟩), .int .i64 (.ofNat 2)], 14826, [(1, .map [⟨.string ⟨#[111, 114, 105, 103, 105, 110, 97, 108]⟩, .pointer (some ⟨32, 0, none⟩), 0⟩, ⟨.string ⟨#[115, 116, 111, 114, 101]⟩, .pointer (some ⟨412, 0, none⟩), 1⟩, ⟨.string ⟨#[116, 97, 105, 108]⟩, .pointer (some ⟨3148, 0, none⟩), 2⟩, ⟨.string ⟨#[106, 111, 117, 114, 110, 97, 108]⟩, .pointer (some ⟨13576, 0, none⟩), 3⟩] 4),
  (2, .cells [.int .i64 (.ofNat 100000), .int .i64 (.ofNat 37), .int .i64 (.negSucc 36), .bool false, .bool false, .map (some 1), .slice none 0 0] 61 true),
  (32, .cells [.slice (some ⟨13245, 0, none⟩) 4 4, .slice (some ⟨14687, 0, none⟩) 4 4, .bool true] 130 true),
  (37, .map [⟨.int .i64 (.ofNat 1), .pointer (some ⟨214, 0, none⟩), 0⟩, ⟨.int .i64 (.ofNat 3), .pointer (some ⟨4945, 0, none⟩), 2⟩, ⟨.int .i64 (.ofNat 2), .pointer (some ⟨10682, 0, none⟩), 4⟩, ⟨.int .i64 (.ofNat 5), .pointer (some ⟨11121, 0, none⟩), 5⟩, ⟨.int .i64 (.ofNat 6), .pointer (some ⟨11632, 0, none⟩), 6⟩] 7),
  (38, .cells [.int .i64 (.ofNat 5), .int .i64 (.ofNat 0), .int .i64 (.ofNat 0), .bool false, .pointer (some ⟨11632, 0, none⟩), .pointer (some ⟨214, 0, none⟩), .map (some 37)] 357 true),
  (55, .map [⟨.int .i64 (.ofNat 1), .slice (some ⟨240, 0, none⟩) 256 256, 0⟩, ⟨.int .i64 (.ofNat 3), .slice (some ⟨4971, 0, none⟩) 256 256, 2⟩, ⟨.int .i64 (.ofNat 2), .slice (some ⟨10708, 0, none⟩) 256 256, 4⟩, ⟨.int .i64 (.ofNat 5), .slice (some ⟨11147, 0, none⟩) 256 256, 5⟩, ⟨.int .i64 (.ofNat 6), .slice (some ⟨11658, 0, none⟩) 256 256, 6⟩] 7),
  (56, .cells [.pointer (some ⟨38, 0, none⟩), .pointer (some ⟨2, 0, none⟩), .string ⟨#[115, 116, 111, 114, 101]⟩, .int .i64 (.ofNat 5), .map (some 55), .int .i64 (.ofNat 0)] 249 true),
  (57, .map [⟨.int .i64 (.ofNat 4), .bool true, 6⟩, ⟨.int .i64 (.ofNat 1), .bool true, 7⟩, ⟨.int .i64 (.ofNat 3), .bool true, 8⟩, ⟨.int .i64 (.ofNat 2), .bool true, 9⟩, ⟨.int .i64 (.ofNat 5), .bool true, 10⟩, ⟨.int .i64 (.ofNat 6), .bool true, 11⟩] 12),
  (58, .map [] 0),
  (59, .cells [.int .i64 (.ofNat 1), .map (some 57), .map (some 58), .slice (some ⟨11577, 0, none⟩) 3 3] 214 true),
  (60, .cells [.pointer (some ⟨56, 0, none⟩), .pointer (some ⟨59, 0, none⟩)] 257 true),
  (214, .cells [.int .i64 (.ofNat 1), .int .i64 (.ofNat 0), .bool false, .pointer (some ⟨38, 1, none⟩), .pointer (some ⟨4945, 0, none⟩)] 351 true),
  (412, .cells [.slice (some ⟨13047, 0, none⟩) 1792 1792, .slice (some ⟨14771, 0, none⟩) 1792 1792, .bool true] 130 true),
  (3148, .cells [.slice (some ⟨3150, 0, none⟩) 1 1, .slice (some ⟨13185, 0, none⟩) 1 1, .bool true] 130 true),
  (3150, .cells (u8s [120]) 5 false),
  (4945, .cells [.int .i64 (.ofNat 3), .int .i64 (.ofNat 0), .bool false, .pointer (some ⟨214, 0, none⟩), .pointer (some ⟨10682, 0, none⟩)] 351 true),
  (10682, .cells [.int .i64 (.ofNat 2), .int .i64 (.ofNat 0), .bool false, .pointer (some ⟨4945, 0, none⟩), .pointer (some ⟨11121, 0, none⟩)] 351 true),
  (10708, .cells (u8s [1, 0, 14, 0, 2, 0, 0, 0, 54, 213, 233, 1, 1, 0, 1, 0, 0, 0, 3, 0, 0, 0, 255, 255, 255, 255] ++ u8z 230) 5 false),
  (11121, .cells [.int .i64 (.ofNat 5), .int .i64 (.ofNat 0), .bool false, .pointer (some ⟨10682, 0, none⟩), .pointer (some ⟨11632, 0, none⟩)] 351 true),
  (11577, .cells [.int .i64 (.ofNat 2), .int .i64 (.ofNat 5), .int .i64 (.ofNat 6)] 3 false),
  (11632, .cells [.int .i64 (.ofNat 6), .int .i64 (.ofNat 0), .bool false, .pointer (some ⟨11121, 0, none⟩), .pointer (some ⟨38, 1, none⟩)] 351 true),
  (13185, .cells (u8s [120]) 5 false),
  (13245, .cells (u8s [120, 97, 98, 99]) 5 false),
  (13576, .cells [.slice (some ⟨14088, 0, none⟩) 0 256, .slice (some ⟨14775, 0, none⟩) 0 0, .bool true] 130 true),
  (14687, .cells (u8s [120, 97, 98, 99]) 5 false),
  (14775, .cells [] 5 true)], .agg #[.bool true, .slice (some ⟨15272, 0, none⟩) 1 1, .slice none 0 0], 15287, [(38, some (.cells [.int .i64 (.ofNat 5), .int .i64 (.ofNat 0), .int .i64 (.ofNat 0), .bool false, .pointer (some ⟨10682, 0, none⟩), .pointer (some ⟨214, 0, none⟩), .map (some 37)] 357 true)),
  (4945, some (.cells [.int .i64 (.ofNat 3), .int .i64 (.ofNat 0), .bool false, .pointer (some ⟨214, 0, none⟩), .pointer (some ⟨11121, 0, none⟩)] 351 true)),
  (10682, some (.cells [.int .i64 (.ofNat 2), .int .i64 (.ofNat 0), .bool false, .pointer (some ⟨11632, 0, none⟩), .pointer (some ⟨38, 1, none⟩)] 351 true)),
  (11121, some (.cells [.int .i64 (.ofNat 5), .int .i64 (.ofNat 0), .bool false, .pointer (some ⟨4945, 0, none⟩), .pointer (some ⟨11632, 0, none⟩)] 351 true)),
  (11632, some (.cells [.int .i64 (.ofNat 6), .int .i64 (.ofNat 0), .bool false, .pointer (some ⟨11121, 0, none⟩), .pointer (some ⟨10682, 0, none⟩)] 351 true)),
  (15272, some (.cells [.int .i64 (.ofNat 0), .int .i64 (.ofNat 1), .int .i64 (.ofNat 3), .int .i64 (.negSucc 0)] 147 false))]⟩
theorem m23_158_ok : m23_158.ok (call evT evF k23_158 100000 m23_158.f m23_158.args m23_158.preH) = true := by kernel_rfl
theorem q23_158 : HkOk Tryz.prog (hkMemo m23_158) := hkMemo_ok evT_ok evF_ok k23_158_ok rfl m23_158_ok
noncomputable def k23_162 : Hk := orHk (hkMemo m23_160) (orHk (hkMemo m23_161) (hkLib))
theorem k23_162_ok : HkOk Tryz.prog k23_162 := orHk_ok q23_160 (orHk_ok q23_161 (hkLib_ok))
noncomputable def m23_162 : Mm :=
  ⟨229, [.pointer (some ⟨60, 0, none⟩), .int .i64 (.ofNat 5)], 15301, [(1, .map [⟨.string ⟨#[111, 114, 105, 103, 105, 110, 97, 108]⟩, .pointer (some ⟨32, 0, none⟩), 0⟩, ⟨.string ⟨#[115, 116, 111, 114, 101]⟩, .pointer (some ⟨412, 0, none⟩), 1⟩, ⟨.string ⟨#[116, 97, 105, 108]⟩, .pointer (some ⟨3148, 0, none⟩), 2⟩, ⟨.string ⟨#[106, 111, 117, 114, 110, 97, 108]⟩, .pointer (some ⟨13576, 0, none⟩), 3⟩] 4),
  (2, .cells [.int .i64 (.ofNat 100000), .int .i64 (.ofNat 37), .int .i64 (.negSucc 36), .bool false, .bool false, .map (some 1), .slice none 0 0] 61 true),
  (32, .cells [.slice (some ⟨13245, 0, none⟩) 4 4, .slice (some ⟨14687, 0, none⟩) 4 4, .bool true] 130 true),
  (37, .map [⟨.int .i64 (.ofNat 1), .pointer (some ⟨214, 0, none⟩), 0⟩, ⟨.int .i64 (.ofNat 3), .pointer (some ⟨4945, 0, none⟩), 2⟩, ⟨.int .i64 (.ofNat 2), .pointer (some ⟨10682, 0, none⟩), 4⟩, ⟨.int .i64 (.ofNat 5), .pointer (some ⟨11121, 0, none⟩), 5⟩, ⟨.int .i64 (.ofNat 6), .pointer (some ⟨11632, 0, none⟩), 6⟩] 7),
  (38, .cells [.int .i64 (.ofNat 5), .int .i64 (.ofNat 0), .int .i64 (.ofNat 0), .bool false, .pointer (some ⟨10682, 0, none⟩), .pointer (some ⟨214, 0, none⟩), .map (some 37)] 357 true),
  (55, .map [⟨.int .i64 (.ofNat 1), .slice (some ⟨240, 0, none⟩) 256 256, 0⟩, ⟨.int .i64 (.ofNat 3), .slice (some ⟨4971, 0, none⟩) 256 256, 2⟩, ⟨.int .i64 (.ofNat 2), .slice (some ⟨10708, 0, none⟩) 256 256, 4⟩, ⟨.int .i64 (.ofNat 5), .slice (some ⟨11147, 0, none⟩) 256 256, 5⟩, ⟨.int .i64 (.ofNat 6), .slice (some ⟨11658, 0, none⟩) 256 256, 6⟩] 7),
  (56, .cells [.pointer (some ⟨38, 0, none⟩), .pointer (some ⟨2, 0, none⟩), .string ⟨#[115, 116, 111, 114, 101]⟩, .int .i64 (.ofNat 5), .map (some 55), .int .i64 (.ofNat 0)] 249 true),
  (57, .map [⟨.int .i64 (.ofNat 4), .bool true, 6⟩, ⟨.int .i64 (.ofNat 1), .bool true, 7⟩, ⟨.int .i64 (.ofNat 3), .bool true, 8⟩, ⟨.int .i64 (.ofNat 2), .bool true, 9⟩, ⟨.int .i64 (.ofNat 5), .bool true, 10⟩, ⟨.int .i64 (.ofNat 6), .bool true, 11⟩] 12),
  (58, .map [] 0),
  (59, .cells [.int .i64 (.ofNat 1), .map (some 57), .map (some 58), .slice (some ⟨11577, 0, none⟩) 3 3] 214 true),
  (60, .cells [.pointer (some ⟨56, 0, none⟩), .pointer (some ⟨59, 0, none⟩)] 257 true),
  (214, .cells [.int .i64 (.ofNat 1), .int .i64 (.ofNat 0), .bool false, .pointer (some ⟨38, 1, none⟩), .pointer (some ⟨4945, 0, none⟩)] 351 true),
  (412, .cells [.slice (some ⟨13047, 0, none⟩) 1792 1792, .slice (some ⟨14771, 0, none⟩) 1792 1792, .bool true] 130 true),
  (3148, .cells [.slice (some ⟨3150, 0, none⟩) 1 1, .slice (some ⟨13185, 0, none⟩) 1 1, .bool true] 130 true),
  (3150, .cells (u8s [120]) 5 false),
  (4945, .cells [.int .i64 (.ofNat 3), .int .i64 (.ofNat 0), .bool false, .pointer (some ⟨214, 0, none⟩), .pointer (some ⟨11121, 0, none⟩)] 351 true),
  (10682, .cells [.int .i64 (.ofNat 2), .int .i64 (.ofNat 0), .bool false, .pointer (some ⟨11632, 0, none⟩), .pointer (some ⟨38, 1, none⟩)] 351 true),
  (11121, .cells [.int .i64 (.ofNat 5), .int .i64 (.ofNat 0), .bool false, .pointer (some ⟨4945, 0, none⟩), .pointer (some ⟨11632, 0, none⟩)] 351 true),
  (11147, .cells (u8s [1, 0, 14, 0, 5, 0, 0, 0, 64, 196, 222, 82, 1] ++ u8z 5 ++ u8s [4, 0, 0, 0, 255, 255, 255, 255] ++ u8z 230) 5 false),
  (11577, .cells [.int .i64 (.ofNat 2), .int .i64 (.ofNat 5), .int .i64 (.ofNat 6)] 3 false),
  (11632, .cells [.int .i64 (.ofNat 6), .int .i64 (.ofNat 0), .bool false, .pointer (some ⟨11121, 0, none⟩), .pointer (some ⟨10682, 0, none⟩)] 351 true),
  (13185, .cells (u8s [120]) 5 false),
  (13245, .cells (u8s [120, 97, 98, 99]) 5 false),
  (13576, .cells [.slice (some ⟨14088, 0, none⟩) 0 256, .slice (some ⟨14775, 0, none⟩) 0 0, .bool true] 130 true),
  (14687, .cells (u8s [120, 97, 98, 99]) 5 false),
  (14775, .cells [] 5 true)], .agg #[.bool true, .slice (some ⟨15747, 0, none⟩) 1 1, .slice none 0 0], 15762, [(38, some (.cells [.int .i64 (.ofNat 5), .int .i64 (.ofNat 0), .int .i64 (.ofNat 0), .bool false, .pointer (some ⟨11121, 0, none⟩), .pointer (some ⟨214, 0, none⟩), .map (some 37)] 357 true)),
  (4945, some (.cells [.int .i64 (.ofNat 3), .int .i64 (.ofNat 0), .bool false, .pointer (some ⟨214, 0, none⟩), .pointer (some ⟨11632, 0, none⟩)] 351 true)),
  (10682, some (.cells [.int .i64 (.ofNat 2), .int .i64 (.ofNat 0), .bool false, .pointer (some ⟨11632, 0, none⟩), .pointer (some ⟨11121, 0, none⟩)] 351 true)),
  (11121, some (.cells [.int .i64 (.ofNat 5), .int .i64 (.ofNat 0), .bool false, .pointer (some ⟨10682, 0, none⟩), .pointer (some ⟨38, 1, none⟩)] 351 true)),
  (11632, some (.cells [.int .i64 (.ofNat 6), .int .i64 (.ofNat 0), .bool false, .pointer (some ⟨4945, 0, none⟩), .pointer (some ⟨10682, 0, none⟩)] 351 true)),
  (15747, some (.cells [.int .i64 (.ofNat 0), .int .i64 (.ofNat 0), .int .i64 (.ofNat 4), .int .i64 (.negSucc 0)] 147 false))]⟩
theorem m23_162_ok : m23_162.ok (call evT evF k23_162 100000 m23_162.f m23_162.args m23_162.preH) = true := by kernel_rfl
theorem q23_162 : HkOk Tryz.prog (hkMemo m23_162) := hkMemo_ok evT_ok evF_ok k23_162_ok rfl m23_162_ok
noncomputable def k23_174 : Hk := orHk (hkMemo m23_172) (orHk (hkMemo m23_173) (hkLib))
theorem k23_174_ok : HkOk Tryz.prog k23_174 := orHk_ok q23_172 (orHk_ok q23_173 (hkLib_ok))
noncomputable def m23_174 : Mm :=
  ⟨135, [.slice (some ⟨15986, 0, none⟩) 1792 1792, .int .i64 (.ofNat 2)], 15987, [(15986, .cells (u8s [111, 99, 116, 97, 118, 111, 48, 49, 2] ++ u8z 5 ++ u8s [4, 0, 0, 0, 1, 1, 0, 0, 0, 3] ++ u8z 36 ++ u8s [250, 212, 113, 102, 111, 99, 116, 97, 118, 111, 48, 49, 3] ++ u8z 5 ++ u8s [6, 0, 0, 0, 1, 1, 0, 0, 0, 4] ++ u8z 36 ++ u8s [14, 118, 28, 196] ++ u8z 128 ++ u8s [1, 0, 14, 0, 1, 0, 0, 0, 194, 105, 111, 233, 1] ++ u8z 5 ++ u8s [3, 0, 0, 0, 255, 255, 255, 255] ++ u8z 230 ++ u8s [1, 0, 14, 0, 2, 0, 0, 0, 54, 213, 233, 1, 1, 0, 1, 0, 0, 0, 3, 0, 0, 0, 255, 255, 255, 255] ++ u8z 230 ++ u8s [1, 0, 27, 0, 3, 0, 0, 0, 50, 165, 25, 235, 2, 1] ++ u8z 4 ++ u8s [1] ++ u8z 12 ++ u8s [3, 0, 0, 0, 255, 255, 255, 255] ++ u8z 217 ++ u8s [3, 0, 17, 0, 4, 0, 0, 0, 199, 184, 67, 119, 2, 1, 0, 0, 0, 3, 0, 0, 0, 3, 0, 0, 0, 4] ++ u8z 230 ++ u8s [1, 0, 14, 0, 5, 0, 0, 0, 64, 196, 222, 82, 1] ++ u8z 5 ++ u8s [4, 0, 0, 0, 255, 255, 255, 255] ++ u8z 230 ++ u8s [3, 0, 17, 0, 6, 0, 0, 0, 34, 46, 224, 217, 2, 2, 0, 0, 0, 3, 0, 0, 0, 5, 0, 0, 0, 4] ++ u8z 230) 5 false)], .agg #[.bool true, .int .i64 (.ofNat 0), .slice (some ⟨18899, 0, none⟩) 1 1, .slice (some ⟨18918, 0, none⟩) 1 1], 18970, [(18899, some (.cells [.int .i64 (.ofNat 0), .int .i64 (.ofNat 1), .int .i64 (.ofNat 3), .int .i64 (.negSucc 0)] 147 false)),
  (18918, some (.cells [.int .i64 (.ofNat 2)] 3 true))]⟩
theorem m23_174_ok : m23_174.ok (call evT evF k23_174 100000 m23_174.f m23_174.args m23_174.preH) = true := by kernel_rfl
theorem q23_174 : HkOk Tryz.prog (hkMemo m23_174) := hkMemo_ok evT_ok evF_ok k23_174_ok rfl m23_174_ok
noncomputable def k23_180 : Hk := orHk (hkMemo m23_178) (orHk (hkMemo m23_179) (hkLib))
theorem k23_180_ok : HkOk Tryz.prog k23_180 := orHk_ok q23_178 (orHk_ok q23_179 (hkLib_ok))
noncomputable def m23_180 : Mm :=
  ⟨135, [.slice (some ⟨15986, 0, none⟩) 1792 1792, .int .i64 (.ofNat 5)], 19042, [(15986, .cells (u8s [111, 99, 116, 97, 118, 111, 48, 49, 2] ++ u8z 5 ++ u8s [4, 0, 0, 0, 1, 1, 0, 0, 0, 3] ++ u8z 36 ++ u8s [250, 212, 113, 102, 111, 99, 116, 97, 118, 111, 48, 49, 3] ++ u8z 5 ++ u8s [6, 0, 0, 0, 1, 1, 0, 0, 0, 4] ++ u8z 36 ++ u8s [14, 118, 28, 196] ++ u8z 128 ++ u8s [1, 0, 14, 0, 1, 0, 0, 0, 194, 105, 111, 233, 1] ++ u8z 5 ++ u8s [3, 0, 0, 0, 255, 255, 255, 255] ++ u8z 230 ++ u8s [1, 0, 14, 0, 2, 0, 0, 0, 54, 213, 233, 1, 1, 0, 1, 0, 0, 0, 3, 0, 0, 0, 255, 255, 255, 255] ++ u8z 230 ++ u8s [1, 0, 27, 0, 3, 0, 0, 0, 50, 165, 25, 235, 2, 1] ++ u8z 4 ++ u8s [1] ++ u8z 12 ++ u8s [3, 0, 0, 0, 255, 255, 255, 255] ++ u8z 217 ++ u8s [3, 0, 17, 0, 4, 0, 0, 0, 199, 184, 67, 119, 2, 1, 0, 0, 0, 3, 0, 0, 0, 3, 0, 0, 0, 4] ++ u8z 230 ++ u8s [1, 0, 14, 0, 5, 0, 0, 0, 64, 196, 222, 82, 1] ++ u8z 5 ++ u8s [4, 0, 0, 0, 255, 255, 255, 255] ++ u8z 230 ++ u8s [3, 0, 17, 0, 6, 0, 0, 0, 34, 46, 224, 217, 2, 2, 0, 0, 0, 3, 0, 0, 0, 5, 0, 0, 0, 4] ++ u8z 230) 5 false)], .agg #[.bool true, .int .i64 (.ofNat 0), .slice (some ⟨21954, 0, none⟩) 1 1, .slice (some ⟨21973, 0, none⟩) 1 1], 22025, [(21954, some (.cells [.int .i64 (.ofNat 0), .int .i64 (.ofNat 0), .int .i64 (.ofNat 4), .int .i64 (.negSucc 0)] 147 false)),
  (21973, some (.cells [.int .i64 (.ofNat 5)] 3 true))]⟩
theorem m23_180_ok : m23_180.ok (call evT evF k23_180 100000 m23_180.f m23_180.args m23_180.preH) = true := by kernel_rfl
theorem q23_180 : HkOk Tryz.prog (hkMemo m23_180) := hkMemo_ok evT_ok evF_ok k23_180_ok rfl m23_180_ok
end Go.Proofs.YtjclpdlijblpjaaGreat
