/-
  Calls that were reckoned out, one by one. Printed by a program.
-/
import Derived.Test.YtgpceblcfkcckaaGreatEvl
import Derived.Test.YtgpceblcfkcckaaGreatEvM19a
import Derived.Test.YtgpceblcfkcckaaGreatEvM19b
namespace Go.Proofs.YtgpceblcfkcckaaGreat
open Go.Ev
set_option maxRecDepth 1000000
noncomputable def k19_3 : Hk := orHk (hkMemo m19_1) (orHk (hkMemo m19_2) (hkLib))
theorem k19_3_ok : HkOk Tryz.prog k19_3 := orHk_ok q19_1 (orHk_ok q19_2 (hkLib_ok))
noncomputable def m19_3 : Mm :=
  ⟨114, [.pointer (some ⟨56, 0, none⟩), .int .i64 (.ofNat 1)], 419, [(1, .map [⟨.string ⟨#[111, 114, 105, 103, 105, 110, 97, 108]⟩, .pointer (some ⟨32, 0, none⟩), 0⟩] 1),
  (2, .cells [.int .i64 (.ofNat 100000), .int .i64 (.ofNat 0), .int .i64 (.ofNat 0), .bool false, .bool false, .map (some 1), .slice none 0 0] 67 true),
  (32, .cells [.slice (some ⟨34, 0, none⟩) 3 3, .slice (some ⟨35, 0, none⟩) 3 3, .bool true] 88 true),
  (34, .cells (u8s [97, 98, 99]) 5 false),
  (35, .cells (u8s [97, 98, 99]) 5 false),
  (37, .map [⟨.int .i64 (.ofNat 1), .pointer (some ⟨214, 0, none⟩), 0⟩, ⟨.int .i64 (.ofNat 2), .pointer (some ⟨339, 0, none⟩), 1⟩] 2),
  (38, .cells [.int .i64 (.ofNat 5), .int .i64 (.ofNat 0), .int .i64 (.ofNat 0), .bool false, .pointer (some ⟨339, 0, none⟩), .pointer (some ⟨214, 0, none⟩), .map (some 37)] 263 true),
  (55, .map [⟨.int .i64 (.ofNat 1), .slice (some ⟨240, 0, none⟩) 256 256, 0⟩, ⟨.int .i64 (.ofNat 2), .slice (some ⟨365, 0, none⟩) 256 256, 1⟩] 2),
  (56, .cells [.pointer (some ⟨38, 0, none⟩), .pointer (some ⟨2, 0, none⟩), .string ⟨#[115, 116, 111, 114, 101]⟩, .int .i64 (.ofNat 5), .map (some 55), .int .i64 (.ofNat 0)] 193 true),
  (214, .cells [.int .i64 (.ofNat 1), .int .i64 (.ofNat 0), .bool true, .pointer (some ⟨38, 1, none⟩), .pointer (some ⟨339, 0, none⟩)] 255 true),
  (240, .cells (u8s [1, 0, 14, 0, 1, 0, 0, 0, 194, 105, 111, 233, 1] ++ u8z 5 ++ u8s [3, 0, 0, 0, 255, 255, 255, 255] ++ u8z 230) 5 false),
  (339, .cells [.int .i64 (.ofNat 2), .int .i64 (.ofNat 0), .bool true, .pointer (some ⟨214, 0, none⟩), .pointer (some ⟨38, 1, none⟩)] 255 true)], .int .i64 (.ofNat 0), 1800, [(1, some (.map [⟨.string ⟨#[111, 114, 105, 103, 105, 110, 97, 108]⟩, .pointer (some ⟨32, 0, none⟩), 0⟩, ⟨.string ⟨#[115, 116, 111, 114, 101]⟩, .pointer (some ⟨516, 0, none⟩), 1⟩] 2)),
  (2, some (.cells [.int .i64 (.ofNat 100000), .int .i64 (.ofNat 2), .int .i64 (.negSucc 1), .bool false, .bool false, .map (some 1), .slice (some ⟨1791, 0, none⟩) 8 8] 67 true)),
  (214, some (.cells [.int .i64 (.ofNat 1), .int .i64 (.ofNat 0), .bool false, .pointer (some ⟨38, 1, none⟩), .pointer (some ⟨339, 0, none⟩)] 255 true)),
  (516, some (.cells [.slice (some ⟨1687, 0, none⟩) 512 512, .slice none 0 0, .bool false] 88 true)),
  (1047, some (.cells (u8z 64) 5 false)),
  (1075, some (.cells (u8z 64) 5 false)),
  (1103, some (.cells (u8z 64) 5 false)),
  (1131, some (.cells (u8z 64) 5 false)),
  (1687, some (.cells (u8z 256 ++ u8s [1, 0, 14, 0, 1, 0, 0, 0, 194, 105, 111, 233, 1] ++ u8z 5 ++ u8s [3, 0, 0, 0, 255, 255, 255, 255] ++ u8z 230) 5 false)),
  (1706, some (.cells (u8s [1, 0, 14, 0, 1, 0, 0, 0, 194, 105, 111, 233, 1] ++ u8z 5 ++ u8s [3, 0, 0, 0, 255, 255, 255, 255] ++ u8z 38) 5 false)),
  (1734, some (.cells (u8z 64) 5 false)),
  (1762, some (.cells (u8z 64) 5 false)),
  (1790, some (.cells (u8z 64) 5 false)),
  (1791, some (.cells [.string ⟨#[115, 116, 111, 114, 101]⟩, .int .i64 (.ofNat 0), .slice (some ⟨1047, 0, none⟩) 64 64, .string ⟨#[115, 116, 111, 114, 101]⟩, .int .i64 (.ofNat 64), .slice (some ⟨1075, 0, none⟩) 64 64, .string ⟨#[115, 116, 111, 114, 101]⟩, .int .i64 (.ofNat 128), .slice (some ⟨1103, 0, none⟩) 64 64, .string ⟨#[115, 116, 111, 114, 101]⟩, .int .i64 (.ofNat 192), .slice (some ⟨1131, 0, none⟩) 64 64, .string ⟨#[115, 116, 111, 114, 101]⟩, .int .i64 (.ofNat 256), .slice (some ⟨1706, 0, none⟩) 64 64, .string ⟨#[115, 116, 111, 114, 101]⟩, .int .i64 (.ofNat 320), .slice (some ⟨1734, 0, none⟩) 64 64, .string ⟨#[115, 116, 111, 114, 101]⟩, .int .i64 (.ofNat 384), .slice (some ⟨1762, 0, none⟩) 64 64, .string ⟨#[115, 116, 111, 114, 101]⟩, .int .i64 (.ofNat 448), .slice (some ⟨1790, 0, none⟩) 64 64] 92 false))]⟩
theorem m19_3_ok : m19_3.ok (call evT evF k19_3 100000 m19_3.f m19_3.args m19_3.preH) = true := by kernel_rfl
theorem q19_3 : HkOk Tryz.prog (hkMemo m19_3) := hkMemo_ok evT_ok evF_ok k19_3_ok rfl m19_3_ok
noncomputable def k19_5 : Hk := orHk (hkMemo m19_4) (hkLib)
theorem k19_5_ok : HkOk Tryz.prog k19_5 := orHk_ok q19_4 (hkLib_ok)
noncomputable def m19_5 : Mm :=
  ⟨114, [.pointer (some ⟨56, 0, none⟩), .int .i64 (.ofNat 2)], 1800, [(1, .map [⟨.string ⟨#[111, 114, 105, 103, 105, 110, 97, 108]⟩, .pointer (some ⟨32, 0, none⟩), 0⟩, ⟨.string ⟨#[115, 116, 111, 114, 101]⟩, .pointer (some ⟨516, 0, none⟩), 1⟩] 2),
  (2, .cells [.int .i64 (.ofNat 100000), .int .i64 (.ofNat 2), .int .i64 (.negSucc 1), .bool false, .bool false, .map (some 1), .slice (some ⟨1791, 0, none⟩) 8 8] 67 true),
  (32, .cells [.slice (some ⟨34, 0, none⟩) 3 3, .slice (some ⟨35, 0, none⟩) 3 3, .bool true] 88 true),
  (34, .cells (u8s [97, 98, 99]) 5 false),
  (35, .cells (u8s [97, 98, 99]) 5 false),
  (37, .map [⟨.int .i64 (.ofNat 1), .pointer (some ⟨214, 0, none⟩), 0⟩, ⟨.int .i64 (.ofNat 2), .pointer (some ⟨339, 0, none⟩), 1⟩] 2),
  (38, .cells [.int .i64 (.ofNat 5), .int .i64 (.ofNat 0), .int .i64 (.ofNat 0), .bool false, .pointer (some ⟨339, 0, none⟩), .pointer (some ⟨214, 0, none⟩), .map (some 37)] 263 true),
  (55, .map [⟨.int .i64 (.ofNat 1), .slice (some ⟨240, 0, none⟩) 256 256, 0⟩, ⟨.int .i64 (.ofNat 2), .slice (some ⟨365, 0, none⟩) 256 256, 1⟩] 2),
  (56, .cells [.pointer (some ⟨38, 0, none⟩), .pointer (some ⟨2, 0, none⟩), .string ⟨#[115, 116, 111, 114, 101]⟩, .int .i64 (.ofNat 5), .map (some 55), .int .i64 (.ofNat 0)] 193 true),
  (214, .cells [.int .i64 (.ofNat 1), .int .i64 (.ofNat 0), .bool false, .pointer (some ⟨38, 1, none⟩), .pointer (some ⟨339, 0, none⟩)] 255 true),
  (339, .cells [.int .i64 (.ofNat 2), .int .i64 (.ofNat 0), .bool true, .pointer (some ⟨214, 0, none⟩), .pointer (some ⟨38, 1, none⟩)] 255 true),
  (365, .cells (u8s [3, 0, 9, 0, 2, 0, 0, 0, 68, 252, 163, 153, 1, 1, 0, 0, 0, 3] ++ u8z 238) 5 false),
  (516, .cells [.slice (some ⟨1687, 0, none⟩) 512 512, .slice none 0 0, .bool false] 88 true),
  (1687, .cells (u8z 256 ++ u8s [1, 0, 14, 0, 1, 0, 0, 0, 194, 105, 111, 233, 1] ++ u8z 5 ++ u8s [3, 0, 0, 0, 255, 255, 255, 255] ++ u8z 230) 5 false),
  (1791, .cells [.string ⟨#[115, 116, 111, 114, 101]⟩, .int .i64 (.ofNat 0), .slice (some ⟨1047, 0, none⟩) 64 64, .string ⟨#[115, 116, 111, 114, 101]⟩, .int .i64 (.ofNat 64), .slice (some ⟨1075, 0, none⟩) 64 64, .string ⟨#[115, 116, 111, 114, 101]⟩, .int .i64 (.ofNat 128), .slice (some ⟨1103, 0, none⟩) 64 64, .string ⟨#[115, 116, 111, 114, 101]⟩, .int .i64 (.ofNat 192), .slice (some ⟨1131, 0, none⟩) 64 64, .string ⟨#[115, 116, 111, 114, 101]⟩, .int .i64 (.ofNat 256), .slice (some ⟨1706, 0, none⟩) 64 64, .string ⟨#[115, 116, 111, 114, 101]⟩, .int .i64 (.ofNat 320), .slice (some ⟨1734, 0, none⟩) 64 64, .string ⟨#[115, 116, 111, 114, 101]⟩, .int .i64 (.ofNat 384), .slice (some ⟨1762, 0, none⟩) 64 64, .string ⟨#[115, 116, 111, 114, 101]⟩, .int .i64 (.ofNat 448), .slice (some ⟨1790, 0, none⟩) 64 64] 92 false)], .int .i64 (.ofNat 0), 2473, [(2, some (.cells [.int .i64 (.ofNat 100000), .int .i64 (.ofNat 3), .int .i64 (.negSucc 2), .bool false, .bool false, .map (some 1), .slice (some ⟨2464, 0, none⟩) 12 12] 67 true)),
  (339, some (.cells [.int .i64 (.ofNat 2), .int .i64 (.ofNat 0), .bool false, .pointer (some ⟨214, 0, none⟩), .pointer (some ⟨38, 1, none⟩)] 255 true)),
  (516, some (.cells [.slice (some ⟨2360, 0, none⟩) 768 768, .slice none 0 0, .bool false] 88 true)),
  (1687, none),
  (1791, none),
  (2360, some (.cells (u8z 256 ++ u8s [1, 0, 14, 0, 1, 0, 0, 0, 194, 105, 111, 233, 1] ++ u8z 5 ++ u8s [3, 0, 0, 0, 255, 255, 255, 255] ++ u8z 230 ++ u8s [3, 0, 9, 0, 2, 0, 0, 0, 68, 252, 163, 153, 1, 1, 0, 0, 0, 3] ++ u8z 238) 5 false)),
  (2379, some (.cells (u8s [3, 0, 9, 0, 2, 0, 0, 0, 68, 252, 163, 153, 1, 1, 0, 0, 0, 3] ++ u8z 46) 5 false)),
  (2407, some (.cells (u8z 64) 5 false)),
  (2435, some (.cells (u8z 64) 5 false)),
  (2463, some (.cells (u8z 64) 5 false)),
  (2464, some (.cells [.string ⟨#[115, 116, 111, 114, 101]⟩, .int .i64 (.ofNat 0), .slice (some ⟨1047, 0, none⟩) 64 64, .string ⟨#[115, 116, 111, 114, 101]⟩, .int .i64 (.ofNat 64), .slice (some ⟨1075, 0, none⟩) 64 64, .string ⟨#[115, 116, 111, 114, 101]⟩, .int .i64 (.ofNat 128), .slice (some ⟨1103, 0, none⟩) 64 64, .string ⟨#[115, 116, 111, 114, 101]⟩, .int .i64 (.ofNat 192), .slice (some ⟨1131, 0, none⟩) 64 64, .string ⟨#[115, 116, 111, 114, 101]⟩, .int .i64 (.ofNat 256), .slice (some ⟨1706, 0, none⟩) 64 64, .string ⟨#[115, 116, 111, 114, 101]⟩, .int .i64 (.ofNat 320), .slice (some ⟨1734, 0, none⟩) 64 64, .string ⟨#[115, 116, 111, 114, 101]⟩, .int .i64 (.ofNat 384), .slice (some ⟨1762, 0, none⟩) 64 64, .string ⟨#[115, 116, 111, 114, 101]⟩, .int .i64 (.ofNat 448), .slice (some ⟨1790, 0, none⟩) 64 64, .string ⟨#[115, 116, 111, 114, 101]⟩, .int .i64 (.ofNat 512), .slice (some ⟨2379, 0, none⟩) 64 64, .string ⟨#[115, 116, 111, 114, 101]⟩, .int .i64 (.ofNat 576), .slice (some ⟨2407, 0, none⟩) 64 64, .string ⟨#[115, 116, 111, 114, 101]⟩, .int .i64 (.ofNat 640), .slice (some ⟨2435, 0, none⟩) 64 64, .string ⟨#[115, 116, 111, 114, 101]⟩, .int .i64 (.ofNat 704), .slice (some ⟨2463, 0, none⟩) 64 64] 92 false))]⟩
theorem m19_5_ok : m19_5.ok (call evT evF k19_5 100000 m19_5.f m19_5.args m19_5.preH) = true := by kernel_rfl
theorem q19_5 : HkOk Tryz.prog (hkMemo m19_5) := hkMemo_ok evT_ok evF_ok k19_5_ok rfl m19_5_ok
noncomputable def k19_8 : Hk := orHk (hkMemo m19_7) (hkLib)
theorem k19_8_ok : HkOk Tryz.prog k19_8 := orHk_ok q19_7 (hkLib_ok)
noncomputable def m19_8 : Mm :=
  ⟨138, [.int .i64 (.ofNat 1), .slice (some ⟨2584, 0, none⟩) 256 256], 2585, [(2584, .cells (u8s [1, 0, 14, 0, 1, 0, 0, 0, 194, 105, 111, 233, 1] ++ u8z 5 ++ u8s [3, 0, 0, 0, 255, 255, 255, 255] ++ u8z 230) 5 false)], .tuple #[.int .i64 (.ofNat 1), .slice (some ⟨2774, 0, none⟩) 14 14, .int .i64 (.ofNat 0)], 2815, [(2774, some (.cells (u8s [1] ++ u8z 5 ++ u8s [3, 0, 0, 0, 255, 255, 255, 255]) 5 false))]⟩
theorem m19_8_ok : m19_8.ok (call evT evF k19_8 100000 m19_8.f m19_8.args m19_8.preH) = true := by kernel_rfl
theorem q19_8 : HkOk Tryz.prog (hkMemo m19_8) := hkMemo_ok evT_ok evF_ok k19_8_ok rfl m19_8_ok
noncomputable def k19_15 : Hk := orHk (hkMemo m19_13) (orHk (hkMemo m19_14) (hkLib))
theorem k19_15_ok : HkOk Tryz.prog k19_15 := orHk_ok q19_13 (orHk_ok q19_14 (hkLib_ok))
noncomputable def m19_15 : Mm :=
  ⟨161, [.slice (some ⟨3323, 0, none⟩) 768 768, .int .i64 (.ofNat 1)], 3326, [(3323, .cells (u8z 64 ++ u8s [111, 99, 116, 97, 118, 111, 48, 49, 1] ++ u8z 5 ++ u8s [2] ++ u8z 8 ++ u8s [3] ++ u8z 36 ++ u8s [137, 155, 206, 78] ++ u8z 128 ++ u8s [1, 0, 14, 0, 1, 0, 0, 0, 194, 105, 111, 233, 1] ++ u8z 5 ++ u8s [3, 0, 0, 0, 255, 255, 255, 255] ++ u8z 230 ++ u8s [3, 0, 9, 0, 2, 0, 0, 0, 68, 252, 163, 153, 1, 1, 0, 0, 0, 3] ++ u8z 238) 5 false)], .tuple #[.agg #[.bool true, .slice (some ⟨6236, 0, none⟩) 1 1, .slice none 0 0], .bool true], 6254, [(6236, some (.cells [.int .i64 (.ofNat 0), .int .i64 (.ofNat 0), .int .i64 (.ofNat 3), .int .i64 (.negSucc 0)] 130 false))]⟩
theorem m19_15_ok : m19_15.ok (call evT evF k19_15 100000 m19_15.f m19_15.args m19_15.preH) = true := by kernel_rfl
theorem q19_15 : HkOk Tryz.prog (hkMemo m19_15) := hkMemo_ok evT_ok evF_ok k19_15_ok rfl m19_15_ok
noncomputable def k19_18 : Hk := orHk (hkMemo m19_17) (hkLib)
theorem k19_18_ok : HkOk Tryz.prog k19_18 := orHk_ok q19_17 (hkLib_ok)
noncomputable def m19_18 : Mm :=
  ⟨138, [.int .i64 (.ofNat 1), .slice (some ⟨6440, 0, none⟩) 256 256], 6441, [(6440, .cells (u8s [1, 0, 14, 0, 1, 0, 0, 0, 194, 105, 111, 233, 1] ++ u8z 5 ++ u8s [3, 0, 0, 0, 255, 255, 255, 255] ++ u8z 230) 5 false)], .tuple #[.int .i64 (.ofNat 1), .slice (some ⟨6630, 0, none⟩) 14 14, .int .i64 (.ofNat 0)], 6671, [(6630, some (.cells (u8s [1] ++ u8z 5 ++ u8s [3, 0, 0, 0, 255, 255, 255, 255]) 5 false))]⟩
theorem m19_18_ok : m19_18.ok (call evT evF k19_18 100000 m19_18.f m19_18.args m19_18.preH) = true := by kernel_rfl
theorem q19_18 : HkOk Tryz.prog (hkMemo m19_18) := hkMemo_ok evT_ok evF_ok k19_18_ok rfl m19_18_ok
noncomputable def k19_21 : Hk := orHk (hkMemo m19_20) (hkLib)
theorem k19_21_ok : HkOk Tryz.prog k19_21 := orHk_ok q19_20 (hkLib_ok)
noncomputable def m19_21 : Mm :=
  ⟨138, [.int .i64 (.ofNat 1), .slice (some ⟨6935, 0, none⟩) 256 256], 6936, [(6935, .cells (u8s [1, 0, 14, 0, 1, 0, 0, 0, 194, 105, 111, 233, 1] ++ u8z 5 ++ u8s [3, 0, 0, 0, 255, 255, 255, 255] ++ u8z 230) 5 false)], .tuple #[.int .i64 (.ofNat 1), .slice (some ⟨7125, 0, none⟩) 14 14, .int .i64 (.ofNat 0)], 7166, [(7125, some (.cells (u8s [1] ++ u8z 5 ++ u8s [3, 0, 0, 0, 255, 255, 255, 255]) 5 false))]⟩
theorem m19_21_ok : m19_21.ok (call evT evF k19_21 100000 m19_21.f m19_21.args m19_21.preH) = true := by kernel_rfl
theorem q19_21 : HkOk Tryz.prog (hkMemo m19_21) := hkMemo_ok evT_ok evF_ok k19_21_ok rfl m19_21_ok
noncomputable def k19_24 : Hk := orHk (hkMemo m19_23) (hkLib)
theorem k19_24_ok : HkOk Tryz.prog k19_24 := orHk_ok q19_23 (hkLib_ok)
noncomputable def m19_24 : Mm :=
  ⟨138, [.int .i64 (.ofNat 1), .slice (some ⟨7402, 0, none⟩) 256 256], 7403, [(7402, .cells (u8s [1, 0, 14, 0, 1, 0, 0, 0, 194, 105, 111, 233, 1] ++ u8z 5 ++ u8s [3, 0, 0, 0, 255, 255, 255, 255] ++ u8z 230) 5 false)], .tuple #[.int .i64 (.ofNat 1), .slice (some ⟨7592, 0, none⟩) 14 14, .int .i64 (.ofNat 0)], 7633, [(7592, some (.cells (u8s [1] ++ u8z 5 ++ u8s [3, 0, 0, 0, 255, 255, 255, 255]) 5 false))]⟩
theorem m19_24_ok : m19_24.ok (call evT evF k19_24 100000 m19_24.f m19_24.args m19_24.preH) = true := by kernel_rfl
theorem q19_24 : HkOk Tryz.prog (hkMemo m19_24) := hkMemo_ok evT_ok evF_ok k19_24_ok rfl m19_24_ok
noncomputable def k19_27 : Hk := orHk (hkMemo m19_26) (hkLib)
theorem k19_27_ok : HkOk Tryz.prog k19_27 := orHk_ok q19_26 (hkLib_ok)
noncomputable def m19_27 : Mm :=
  ⟨138, [.int .i64 (.ofNat 1), .slice (some ⟨7959, 0, none⟩) 256 256], 7960, [(7959, .cells (u8s [1, 0, 14, 0, 1, 0, 0, 0, 194, 105, 111, 233, 1] ++ u8z 5 ++ u8s [3, 0, 0, 0, 255, 255, 255, 255] ++ u8z 230) 5 false)], .tuple #[.int .i64 (.ofNat 1), .slice (some ⟨8149, 0, none⟩) 14 14, .int .i64 (.ofNat 0)], 8190, [(8149, some (.cells (u8s [1] ++ u8z 5 ++ u8s [3, 0, 0, 0, 255, 255, 255, 255]) 5 false))]⟩
theorem m19_27_ok : m19_27.ok (call evT evF k19_27 100000 m19_27.f m19_27.args m19_27.preH) = true := by kernel_rfl
theorem q19_27 : HkOk Tryz.prog (hkMemo m19_27) := hkMemo_ok evT_ok evF_ok k19_27_ok rfl m19_27_ok
noncomputable def k19_32 : Hk := orHk (hkMemo m19_31) (hkLib)
theorem k19_32_ok : HkOk Tryz.prog k19_32 := orHk_ok q19_31 (hkLib_ok)
noncomputable def m19_32 : Mm :=
  ⟨138, [.int .i64 (.ofNat 3), .slice (some ⟨8702, 0, none⟩) 256 256], 8703, [(8702, .cells (u8s [1, 0, 27, 0, 3, 0, 0, 0, 116, 27, 238, 85, 2] ++ u8z 5 ++ u8s [1, 0, 0, 0, 255, 255, 255, 255, 0, 2, 0, 0, 0, 1, 0, 0, 0, 255, 255, 255, 255] ++ u8z 217) 5 false)], .tuple #[.int .i64 (.ofNat 1), .slice (some ⟨8892, 0, none⟩) 27 27, .int .i64 (.ofNat 0)], 8933, [(8892, some (.cells (u8s [2] ++ u8z 5 ++ u8s [1, 0, 0, 0, 255, 255, 255, 255, 0, 2, 0, 0, 0, 1, 0, 0, 0, 255, 255, 255, 255]) 5 false))]⟩
theorem m19_32_ok : m19_32.ok (call evT evF k19_32 100000 m19_32.f m19_32.args m19_32.preH) = true := by kernel_rfl
theorem q19_32 : HkOk Tryz.prog (hkMemo m19_32) := hkMemo_ok evT_ok evF_ok k19_32_ok rfl m19_32_ok
noncomputable def k19_35 : Hk := orHk (hkMemo m19_34) (hkLib)
theorem k19_35_ok : HkOk Tryz.prog k19_35 := orHk_ok q19_34 (hkLib_ok)
noncomputable def m19_35 : Mm :=
  ⟨114, [.pointer (some ⟨56, 0, none⟩), .int .i64 (.ofNat 3)], 9471, [(1, .map [⟨.string ⟨#[111, 114, 105, 103, 105, 110, 97, 108]⟩, .pointer (some ⟨32, 0, none⟩), 0⟩, ⟨.string ⟨#[115, 116, 111, 114, 101]⟩, .pointer (some ⟨516, 0, none⟩), 1⟩] 2),
  (2, .cells [.int .i64 (.ofNat 100000), .int .i64 (.ofNat 6), .int .i64 (.negSucc 5), .bool false, .bool false, .map (some 1), .slice none 0 0] 67 true),
  (32, .cells [.slice (some ⟨34, 0, none⟩) 3 3, .slice (some ⟨35, 0, none⟩) 3 3, .bool true] 88 true),
  (34, .cells (u8s [97, 98, 99]) 5 false),
  (35, .cells (u8s [97, 98, 99]) 5 false),
  (37, .map [⟨.int .i64 (.ofNat 1), .pointer (some ⟨214, 0, none⟩), 0⟩, ⟨.int .i64 (.ofNat 2), .pointer (some ⟨339, 0, none⟩), 1⟩, ⟨.int .i64 (.ofNat 3), .pointer (some ⟨8579, 0, none⟩), 2⟩, ⟨.int .i64 (.ofNat 4), .pointer (some ⟨9391, 0, none⟩), 3⟩] 4),
  (38, .cells [.int .i64 (.ofNat 5), .int .i64 (.ofNat 0), .int .i64 (.ofNat 0), .bool false, .pointer (some ⟨9391, 0, none⟩), .pointer (some ⟨339, 0, none⟩), .map (some 37)] 263 true),
  (55, .map [⟨.int .i64 (.ofNat 1), .slice (some ⟨240, 0, none⟩) 256 256, 0⟩, ⟨.int .i64 (.ofNat 2), .slice (some ⟨365, 0, none⟩) 256 256, 1⟩, ⟨.int .i64 (.ofNat 3), .slice (some ⟨8605, 0, none⟩) 256 256, 2⟩, ⟨.int .i64 (.ofNat 4), .slice (some ⟨9417, 0, none⟩) 256 256, 3⟩] 4),
  (56, .cells [.pointer (some ⟨38, 0, none⟩), .pointer (some ⟨2, 0, none⟩), .string ⟨#[115, 116, 111, 114, 101]⟩, .int .i64 (.ofNat 5), .map (some 55), .int .i64 (.ofNat 0)] 193 true),
  (214, .cells [.int .i64 (.ofNat 1), .int .i64 (.ofNat 0), .bool false, .pointer (some ⟨339, 0, none⟩), .pointer (some ⟨8579, 0, none⟩)] 255 true),
  (339, .cells [.int .i64 (.ofNat 2), .int .i64 (.ofNat 0), .bool false, .pointer (some ⟨38, 1, none⟩), .pointer (some ⟨214, 0, none⟩)] 255 true),
  (516, .cells [.slice (some ⟨2360, 0, none⟩) 768 768, .slice (some ⟨3114, 0, none⟩) 768 768, .bool true] 88 true),
  (2360, .cells (u8z 64 ++ u8s [111, 99, 116, 97, 118, 111, 48, 49, 1] ++ u8z 5 ++ u8s [2] ++ u8z 8 ++ u8s [3] ++ u8z 36 ++ u8s [137, 155, 206, 78] ++ u8z 128 ++ u8s [1, 0, 14, 0, 1, 0, 0, 0, 194, 105, 111, 233, 1] ++ u8z 5 ++ u8s [3, 0, 0, 0, 255, 255, 255, 255] ++ u8z 230 ++ u8s [3, 0, 9, 0, 2, 0, 0, 0, 68, 252, 163, 153, 1, 1, 0, 0, 0, 3] ++ u8z 238) 5 false),
  (8579, .cells [.int .i64 (.ofNat 3), .int .i64 (.ofNat 0), .bool true, .pointer (some ⟨214, 0, none⟩), .pointer (some ⟨9391, 0, none⟩)] 255 true),
  (8605, .cells (u8s [1, 0, 27, 0, 3, 0, 0, 0, 116, 27, 238, 85, 2] ++ u8z 5 ++ u8s [1, 0, 0, 0, 255, 255, 255, 255, 0, 2, 0, 0, 0, 1, 0, 0, 0, 255, 255, 255, 255] ++ u8z 217) 5 false),
  (9391, .cells [.int .i64 (.ofNat 4), .int .i64 (.ofNat 0), .bool true, .pointer (some ⟨8579, 0, none⟩), .pointer (some ⟨38, 1, none⟩)] 255 true)], .int .i64 (.ofNat 0), 10194, [(2, some (.cells [.int .i64 (.ofNat 100000), .int .i64 (.ofNat 7), .int .i64 (.negSucc 6), .bool false, .bool false, .map (some 1), .slice (some ⟨10185, 0, none⟩) 4 4] 67 true)),
  (516, some (.cells [.slice (some ⟨10081, 0, none⟩) 1024 1024, .slice (some ⟨3114, 0, none⟩) 768 768, .bool true] 88 true)),
  (2360, none),
  (8579, some (.cells [.int .i64 (.ofNat 3), .int .i64 (.ofNat 0), .bool false, .pointer (some ⟨214, 0, none⟩), .pointer (some ⟨9391, 0, none⟩)] 255 true)),
  (10081, some (.cells (u8z 64 ++ u8s [111, 99, 116, 97, 118, 111, 48, 49, 1] ++ u8z 5 ++ u8s [2] ++ u8z 8 ++ u8s [3] ++ u8z 36 ++ u8s [137, 155, 206, 78] ++ u8z 128 ++ u8s [1, 0, 14, 0, 1, 0, 0, 0, 194, 105, 111, 233, 1] ++ u8z 5 ++ u8s [3, 0, 0, 0, 255, 255, 255, 255] ++ u8z 230 ++ u8s [3, 0, 9, 0, 2, 0, 0, 0, 68, 252, 163, 153, 1, 1, 0, 0, 0, 3] ++ u8z 238 ++ u8s [1, 0, 27, 0, 3, 0, 0, 0, 116, 27, 238, 85, 2] ++ u8z 5 ++ u8s [1, 0, 0, 0, 255, 255, 255, 255, 0, 2, 0, 0, 0, 1, 0, 0, 0, 255, 255, 255, 255] ++ u8z 217) 5 false)),
  (10100, some (.cells (u8s [1, 0, 27, 0, 3, 0, 0, 0, 116, 27, 238, 85, 2] ++ u8z 5 ++ u8s [1, 0, 0, 0, 255, 255, 255, 255, 0, 2, 0, 0, 0, 1, 0, 0, 0, 255, 255, 255, 255] ++ u8z 25) 5 false)),
  (10128, some (.cells (u8z 64) 5 false)),
  (10156, some (.cells (u8z 64) 5 false)),
  (10184, some (.cells (u8z 64) 5 false)),
  (10185, some (.cells [.string ⟨#[115, 116, 111, 114, 101]⟩, .int .i64 (.ofNat 768), .slice (some ⟨10100, 0, none⟩) 64 64, .string ⟨#[115, 116, 111, 114, 101]⟩, .int .i64 (.ofNat 832), .slice (some ⟨10128, 0, none⟩) 64 64, .string ⟨#[115, 116, 111, 114, 101]⟩, .int .i64 (.ofNat 896), .slice (some ⟨10156, 0, none⟩) 64 64, .string ⟨#[115, 116, 111, 114, 101]⟩, .int .i64 (.ofNat 960), .slice (some ⟨10184, 0, none⟩) 64 64] 92 false))]⟩
theorem m19_35_ok : m19_35.ok (call evT evF k19_35 100000 m19_35.f m19_35.args m19_35.preH) = true := by kernel_rfl
theorem q19_35 : HkOk Tryz.prog (hkMemo m19_35) := hkMemo_ok evT_ok evF_ok k19_35_ok rfl m19_35_ok
noncomputable def k19_37 : Hk := orHk (hkMemo m19_36) (hkLib)
theorem k19_37_ok : HkOk Tryz.prog k19_37 := orHk_ok q19_36 (hkLib_ok)
noncomputable def m19_37 : Mm :=
  ⟨114, [.pointer (some ⟨56, 0, none⟩), .int .i64 (.ofNat 4)], 10194, [(1, .map [⟨.string ⟨#[111, 114, 105, 103, 105, 110, 97, 108]⟩, .pointer (some ⟨32, 0, none⟩), 0⟩, ⟨.string ⟨#[115, 116, 111, 114, 101]⟩, .pointer (some ⟨516, 0, none⟩), 1⟩] 2),
  (2, .cells [.int .i64 (.ofNat 100000), .int .i64 (.ofNat 7), .int .i64 (.negSucc 6), .bool false, .bool false, .map (some 1), .slice (some ⟨10185, 0, none⟩) 4 4] 67 true),
  (32, .cells [.slice (some ⟨34, 0, none⟩) 3 3, .slice (some ⟨35, 0, none⟩) 3 3, .bool true] 88 true),
  (34, .cells (u8s [97, 98, 99]) 5 false),
  (35, .cells (u8s [97, 98, 99]) 5 false),
  (37, .map [⟨.int .i64 (.ofNat 1), .pointer (some ⟨214, 0, none⟩), 0⟩, ⟨.int .i64 (.ofNat 2), .pointer (some ⟨339, 0, none⟩), 1⟩, ⟨.int .i64 (.ofNat 3), .pointer (some ⟨8579, 0, none⟩), 2⟩, ⟨.int .i64 (.ofNat 4), .pointer (some ⟨9391, 0, none⟩), 3⟩] 4),
  (38, .cells [.int .i64 (.ofNat 5), .int .i64 (.ofNat 0), .int .i64 (.ofNat 0), .bool false, .pointer (some ⟨9391, 0, none⟩), .pointer (some ⟨339, 0, none⟩), .map (some 37)] 263 true),
  (55, .map [⟨.int .i64 (.ofNat 1), .slice (some ⟨240, 0, none⟩) 256 256, 0⟩, ⟨.int .i64 (.ofNat 2), .slice (some ⟨365, 0, none⟩) 256 256, 1⟩, ⟨.int .i64 (.ofNat 3), .slice (some ⟨8605, 0, none⟩) 256 256, 2⟩, ⟨.int .i64 (.ofNat 4), .slice (some ⟨9417, 0, none⟩) 256 256, 3⟩] 4),
  (56, .cells [.pointer (some ⟨38, 0, none⟩), .pointer (some ⟨2, 0, none⟩), .string ⟨#[115, 116, 111, 114, 101]⟩, .int .i64 (.ofNat 5), .map (some 55), .int .i64 (.ofNat 0)] 193 true),
  (214, .cells [.int .i64 (.ofNat 1), .int .i64 (.ofNat 0), .bool false, .pointer (some ⟨339, 0, none⟩), .pointer (some ⟨8579, 0, none⟩)] 255 true),
  (339, .cells [.int .i64 (.ofNat 2), .int .i64 (.ofNat 0), .bool false, .pointer (some ⟨38, 1, none⟩), .pointer (some ⟨214, 0, none⟩)] 255 true),
  (516, .cells [.slice (some ⟨10081, 0, none⟩) 1024 1024, .slice (some ⟨3114, 0, none⟩) 768 768, .bool true] 88 true),
  (8579, .cells [.int .i64 (.ofNat 3), .int .i64 (.ofNat 0), .bool false, .pointer (some ⟨214, 0, none⟩), .pointer (some ⟨9391, 0, none⟩)] 255 true),
  (9391, .cells [.int .i64 (.ofNat 4), .int .i64 (.ofNat 0), .bool true, .pointer (some ⟨8579, 0, none⟩), .pointer (some ⟨38, 1, none⟩)] 255 true),
  (9417, .cells (u8s [3, 0, 17, 0, 4, 0, 0, 0, 238, 26, 49, 237, 2, 1, 0, 0, 0, 3, 0, 0, 0, 3, 0, 0, 0, 2] ++ u8z 230) 5 false),
  (10081, .cells (u8z 64 ++ u8s [111, 99, 116, 97, 118, 111, 48, 49, 1] ++ u8z 5 ++ u8s [2] ++ u8z 8 ++ u8s [3] ++ u8z 36 ++ u8s [137, 155, 206, 78] ++ u8z 128 ++ u8s [1, 0, 14, 0, 1, 0, 0, 0, 194, 105, 111, 233, 1] ++ u8z 5 ++ u8s [3, 0, 0, 0, 255, 255, 255, 255] ++ u8z 230 ++ u8s [3, 0, 9, 0, 2, 0, 0, 0, 68, 252, 163, 153, 1, 1, 0, 0, 0, 3] ++ u8z 238 ++ u8s [1, 0, 27, 0, 3, 0, 0, 0, 116, 27, 238, 85, 2] ++ u8z 5 ++ u8s [1, 0, 0, 0, 255, 255, 255, 255, 0, 2, 0, 0, 0, 1, 0, 0, 0, 255, 255, 255, 255] ++ u8z 217) 5 false),
  (10185, .cells [.string ⟨#[115, 116, 111, 114, 101]⟩, .int .i64 (.ofNat 768), .slice (some ⟨10100, 0, none⟩) 64 64, .string ⟨#[115, 116, 111, 114, 101]⟩, .int .i64 (.ofNat 832), .slice (some ⟨10128, 0, none⟩) 64 64, .string ⟨#[115, 116, 111, 114, 101]⟩, .int .i64 (.ofNat 896), .slice (some ⟨10156, 0, none⟩) 64 64, .string ⟨#[115, 116, 111, 114, 101]⟩, .int .i64 (.ofNat 960), .slice (some ⟨10184, 0, none⟩) 64 64] 92 false)], .int .i64 (.ofNat 0), 10867, [(2, some (.cells [.int .i64 (.ofNat 100000), .int .i64 (.ofNat 8), .int .i64 (.negSucc 7), .bool false, .bool false, .map (some 1), .slice (some ⟨10858, 0, none⟩) 8 8] 67 true)),
  (516, some (.cells [.slice (some ⟨10754, 0, none⟩) 1280 1280, .slice (some ⟨3114, 0, none⟩) 768 768, .bool true] 88 true)),
  (9391, some (.cells [.int .i64 (.ofNat 4), .int .i64 (.ofNat 0), .bool false, .pointer (some ⟨8579, 0, none⟩), .pointer (some ⟨38, 1, none⟩)] 255 true)),
  (10081, none),
  (10185, none),
  (10754, some (.cells (u8z 64 ++ u8s [111, 99, 116, 97, 118, 111, 48, 49, 1] ++ u8z 5 ++ u8s [2] ++ u8z 8 ++ u8s [3] ++ u8z 36 ++ u8s [137, 155, 206, 78] ++ u8z 128 ++ u8s [1, 0, 14, 0, 1, 0, 0, 0, 194, 105, 111, 233, 1] ++ u8z 5 ++ u8s [3, 0, 0, 0, 255, 255, 255, 255] ++ u8z 230 ++ u8s [3, 0, 9, 0, 2, 0, 0, 0, 68, 252, 163, 153, 1, 1, 0, 0, 0, 3] ++ u8z 238 ++ u8s [1, 0, 27, 0, 3, 0, 0, 0, 116, 27, 238, 85, 2] ++ u8z 5 ++ u8s [1, 0, 0, 0, 255, 255, 255, 255, 0, 2, 0, 0, 0, 1, 0, 0, 0, 255, 255, 255, 255] ++ u8z 217 ++ u8s [3, 0, 17, 0, 4, 0, 0, 0, 238, 26, 49, 237, 2, 1, 0, 0, 0, 3, 0, 0, 0, 3, 0, 0, 0, 2] ++ u8z 230) 5 false)),
  (10773, some (.cells (u8s [3, 0, 17, 0, 4, 0, 0, 0, 238, 26, 49, 237, 2, 1, 0, 0, 0, 3, 0, 0, 0, 3, 0, 0, 0, 2] ++ u8z 38) 5 false)),
  (10801, some (.cells (u8z 64) 5 false)),
  (10829, some (.cells (u8z 64) 5 false)),
  (10857, some (.cells (u8z 64) 5 false)),
  (10858, some (.cells [.string ⟨#[115, 116, 111, 114, 101]⟩, .int .i64 (.ofNat 768), .slice (some ⟨10100, 0, none⟩) 64 64, .string ⟨#[115, 116, 111, 114, 101]⟩, .int .i64 (.ofNat 832), .slice (some ⟨10128, 0, none⟩) 64 64, .string ⟨#[115, 116, 111, 114, 101]⟩, .int .i64 (.ofNat 896), .slice (some ⟨10156, 0, none⟩) 64 64, .string ⟨#[115, 116, 111, 114, 101]⟩, .int .i64 (.ofNat 960), .slice (some ⟨10184, 0, none⟩) 64 64, .string ⟨#[115, 116, 111, 114, 101]⟩, .int .i64 (.ofNat 1024), .slice (some ⟨10773, 0, none⟩) 64 64, .string ⟨#[115, 116, 111, 114, 101]⟩, .int .i64 (.ofNat 1088), .slice (some ⟨10801, 0, none⟩) 64 64, .string ⟨#[115, 116, 111, 114, 101]⟩, .int .i64 (.ofNat 1152), .slice (some ⟨10829, 0, none⟩) 64 64, .string ⟨#[115, 116, 111, 114, 101]⟩, .int .i64 (.ofNat 1216), .slice (some ⟨10857, 0, none⟩) 64 64] 92 false))]⟩
theorem m19_37_ok : m19_37.ok (call evT evF k19_37 100000 m19_37.f m19_37.args m19_37.preH) = true := by kernel_rfl
theorem q19_37 : HkOk Tryz.prog (hkMemo m19_37) := hkMemo_ok evT_ok evF_ok k19_37_ok rfl m19_37_ok
noncomputable def k19_40 : Hk := orHk (hkMemo m19_39) (hkLib)
theorem k19_40_ok : HkOk Tryz.prog k19_40 := orHk_ok q19_39 (hkLib_ok)
noncomputable def m19_40 : Mm :=
  ⟨138, [.int .i64 (.ofNat 1), .slice (some ⟨10974, 0, none⟩) 256 256], 10975, [(10974, .cells (u8s [1, 0, 14, 0, 1, 0, 0, 0, 194, 105, 111, 233, 1] ++ u8z 5 ++ u8s [3, 0, 0, 0, 255, 255, 255, 255] ++ u8z 230) 5 false)], .tuple #[.int .i64 (.ofNat 1), .slice (some ⟨11164, 0, none⟩) 14 14, .int .i64 (.ofNat 0)], 11205, [(11164, some (.cells (u8s [1] ++ u8z 5 ++ u8s [3, 0, 0, 0, 255, 255, 255, 255]) 5 false))]⟩
theorem m19_40_ok : m19_40.ok (call evT evF k19_40 100000 m19_40.f m19_40.args m19_40.preH) = true := by kernel_rfl
theorem q19_40 : HkOk Tryz.prog (hkMemo m19_40) := hkMemo_ok evT_ok evF_ok k19_40_ok rfl m19_40_ok
noncomputable def k19_43 : Hk := orHk (hkMemo m19_42) (hkLib)
theorem k19_43_ok : HkOk Tryz.prog k19_43 := orHk_ok q19_42 (hkLib_ok)
noncomputable def m19_43 : Mm :=
  ⟨138, [.int .i64 (.ofNat 3), .slice (some ⟨11467, 0, none⟩) 256 256], 11468, [(11467, .cells (u8s [1, 0, 27, 0, 3, 0, 0, 0, 116, 27, 238, 85, 2] ++ u8z 5 ++ u8s [1, 0, 0, 0, 255, 255, 255, 255, 0, 2, 0, 0, 0, 1, 0, 0, 0, 255, 255, 255, 255] ++ u8z 217) 5 false)], .tuple #[.int .i64 (.ofNat 1), .slice (some ⟨11657, 0, none⟩) 27 27, .int .i64 (.ofNat 0)], 11698, [(11657, some (.cells (u8s [2] ++ u8z 5 ++ u8s [1, 0, 0, 0, 255, 255, 255, 255, 0, 2, 0, 0, 0, 1, 0, 0, 0, 255, 255, 255, 255]) 5 false))]⟩
theorem m19_43_ok : m19_43.ok (call evT evF k19_43 100000 m19_43.f m19_43.args m19_43.preH) = true := by kernel_rfl
theorem q19_43 : HkOk Tryz.prog (hkMemo m19_43) := hkMemo_ok evT_ok evF_ok k19_43_ok rfl m19_43_ok
noncomputable def k19_50 : Hk := orHk (hkMemo m19_48) (orHk (hkMemo m19_49) (hkLib))
theorem k19_50_ok : HkOk Tryz.prog k19_50 := orHk_ok q19_48 (orHk_ok q19_49 (hkLib_ok))
noncomputable def m19_50 : Mm :=
  ⟨161, [.slice (some ⟨12379, 0, none⟩) 1280 1280, .int .i64 (.ofNat 1)], 12382, [(12379, .cells (u8s [111, 99, 116, 97, 118, 111, 48, 49, 2] ++ u8z 5 ++ u8s [4, 0, 0, 0, 1] ++ u8z 4 ++ u8s [3] ++ u8z 36 ++ u8s [91, 68, 102, 142, 111, 99, 116, 97, 118, 111, 48, 49, 1] ++ u8z 5 ++ u8s [2] ++ u8z 8 ++ u8s [3] ++ u8z 36 ++ u8s [137, 155, 206, 78] ++ u8z 128 ++ u8s [1, 0, 14, 0, 1, 0, 0, 0, 194, 105, 111, 233, 1] ++ u8z 5 ++ u8s [3, 0, 0, 0, 255, 255, 255, 255] ++ u8z 230 ++ u8s [3, 0, 9, 0, 2, 0, 0, 0, 68, 252, 163, 153, 1, 1, 0, 0, 0, 3] ++ u8z 238 ++ u8s [1, 0, 27, 0, 3, 0, 0, 0, 116, 27, 238, 85, 2] ++ u8z 5 ++ u8s [1, 0, 0, 0, 255, 255, 255, 255, 0, 2, 0, 0, 0, 1, 0, 0, 0, 255, 255, 255, 255] ++ u8z 217 ++ u8s [3, 0, 17, 0, 4, 0, 0, 0, 238, 26, 49, 237, 2, 1, 0, 0, 0, 3, 0, 0, 0, 3, 0, 0, 0, 2] ++ u8z 230) 5 false)], .tuple #[.agg #[.bool true, .slice (some ⟨15292, 0, none⟩) 1 1, .slice none 0 0], .bool true], 15310, [(15292, some (.cells [.int .i64 (.ofNat 0), .int .i64 (.ofNat 0), .int .i64 (.ofNat 3), .int .i64 (.negSucc 0)] 130 false))]⟩
theorem m19_50_ok : m19_50.ok (call evT evF k19_50 100000 m19_50.f m19_50.args m19_50.preH) = true := by kernel_rfl
theorem q19_50 : HkOk Tryz.prog (hkMemo m19_50) := hkMemo_ok evT_ok evF_ok k19_50_ok rfl m19_50_ok
noncomputable def k19_53 : Hk := orHk (hkMemo m19_51) (orHk (hkMemo m19_52) (hkLib))
theorem k19_53_ok : HkOk Tryz.prog k19_53 := orHk_ok q19_51 (orHk_ok q19_52 (hkLib_ok))
noncomputable def m19_53 : Mm :=
  ⟨161, [.slice (some ⟨12379, 0, none⟩) 1280 1280, .int .i64 (.ofNat 3)], 15437, [(12379, .cells (u8s [111, 99, 116, 97, 118, 111, 48, 49, 2] ++ u8z 5 ++ u8s [4, 0, 0, 0, 1] ++ u8z 4 ++ u8s [3] ++ u8z 36 ++ u8s [91, 68, 102, 142, 111, 99, 116, 97, 118, 111, 48, 49, 1] ++ u8z 5 ++ u8s [2] ++ u8z 8 ++ u8s [3] ++ u8z 36 ++ u8s [137, 155, 206, 78] ++ u8z 128 ++ u8s [1, 0, 14, 0, 1, 0, 0, 0, 194, 105, 111, 233, 1] ++ u8z 5 ++ u8s [3, 0, 0, 0, 255, 255, 255, 255] ++ u8z 230 ++ u8s [3, 0, 9, 0, 2, 0, 0, 0, 68, 252, 163, 153, 1, 1, 0, 0, 0, 3] ++ u8z 238 ++ u8s [1, 0, 27, 0, 3, 0, 0, 0, 116, 27, 238, 85, 2] ++ u8z 5 ++ u8s [1, 0, 0, 0, 255, 255, 255, 255, 0, 2, 0, 0, 0, 1, 0, 0, 0, 255, 255, 255, 255] ++ u8z 217 ++ u8s [3, 0, 17, 0, 4, 0, 0, 0, 238, 26, 49, 237, 2, 1, 0, 0, 0, 3, 0, 0, 0, 3, 0, 0, 0, 2] ++ u8z 230) 5 false)], .tuple #[.agg #[.bool true, .slice (some ⟨18395, 0, none⟩) 2 2, .slice none 0 0], .bool true], 18428, [(18395, some (.cells [.int .i64 (.ofNat 0), .int .i64 (.ofNat 0), .int .i64 (.ofNat 1), .int .i64 (.negSucc 0), .int .i64 (.ofNat 0), .int .i64 (.ofNat 2), .int .i64 (.ofNat 1), .int .i64 (.negSucc 0)] 130 false))]⟩
theorem m19_53_ok : m19_53.ok (call evT evF k19_53 100000 m19_53.f m19_53.args m19_53.preH) = true := by kernel_rfl
theorem q19_53 : HkOk Tryz.prog (hkMemo m19_53) := hkMemo_ok evT_ok evF_ok k19_53_ok rfl m19_53_ok
end Go.Proofs.YtgpceblcfkcckaaGreat
