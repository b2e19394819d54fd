/-
  Calls that were reckoned out, one by one. Printed by a program.
-/
import Derived.Test.YtgpceblcfkcckaaGreatEvl
import Derived.Test.YtgpceblcfkcckaaGreatEvM19a
import Derived.Test.YtgpceblcfkcckaaGreatEvM19b
import Derived.Test.YtgpceblcfkcckaaGreatEvM19c
namespace Go.Proofs.YtgpceblcfkcckaaGreat
open Go.Ev
set_option maxRecDepth 1000000
noncomputable def k19_6 : Hk := orHk (hkMemo m19_3) (orHk (hkMemo m19_5) (hkLib))
theorem k19_6_ok : HkOk Tryz.prog k19_6 := orHk_ok q19_3 (orHk_ok q19_5 (hkLib_ok))
noncomputable def m19_6 : Mm :=
  ⟨24, [.pointer (some ⟨62, 0, none⟩), .agg #[.slice (some ⟨277, 0, none⟩) 1 1, .int .i64 (.ofNat 0)], .int .i64 (.ofNat 3)], 293, [(1, .map [⟨.string ⟨#[111, 114, 105, 103, 105, 110, 97, 108]⟩, .pointer (some ⟨32, 0, none⟩), 0⟩] 1),
  (2, .cells [.int .i64 (.ofNat 100000), .int .i64 (.ofNat 0), .int .i64 (.ofNat 0), .bool false, .bool false, .map (some 1), .slice none 0 0] 67 true),
  (32, .cells [.slice (some ⟨34, 0, none⟩) 3 3, .slice (some ⟨35, 0, none⟩) 3 3, .bool true] 88 true),
  (34, .cells (u8s [97, 98, 99]) 5 false),
  (35, .cells (u8s [97, 98, 99]) 5 false),
  (37, .map [⟨.int .i64 (.ofNat 1), .pointer (some ⟨214, 0, none⟩), 0⟩] 1),
  (38, .cells [.int .i64 (.ofNat 5), .int .i64 (.ofNat 0), .int .i64 (.ofNat 0), .bool false, .pointer (some ⟨214, 0, none⟩), .pointer (some ⟨214, 0, none⟩), .map (some 37)] 263 true),
  (55, .map [⟨.int .i64 (.ofNat 1), .slice (some ⟨240, 0, none⟩) 256 256, 0⟩] 1),
  (56, .cells [.pointer (some ⟨38, 0, none⟩), .pointer (some ⟨2, 0, none⟩), .string ⟨#[115, 116, 111, 114, 101]⟩, .int .i64 (.ofNat 5), .map (some 55), .int .i64 (.ofNat 0)] 193 true),
  (57, .map [⟨.int .i64 (.ofNat 1), .bool true, 0⟩] 1),
  (58, .map [] 0),
  (59, .cells [.int .i64 (.ofNat 1), .map (some 57), .map (some 58), .slice (some ⟨182, 0, none⟩) 1 1] 189 true),
  (60, .cells [.pointer (some ⟨56, 0, none⟩), .pointer (some ⟨59, 0, none⟩)] 144 true),
  (62, .cells [.pointer (some ⟨56, 0, none⟩), .pointer (some ⟨59, 0, none⟩), .pointer (some ⟨60, 0, none⟩), .pointer (some ⟨2, 0, none⟩), .pointer (some ⟨72, 0, none⟩), .pointer none, .slice none 0 0, .int .i64 (.ofNat 0), .int .i64 (.ofNat 0), .int .i64 (.ofNat 0), .int .i64 (.ofNat 0), .int .i64 (.ofNat 0), .int .i64 (.ofNat 3), .int .i64 (.ofNat 0), .int .i64 (.ofNat 0), .int .i64 (.ofNat 0), .int .i64 (.ofNat 0), .int .i64 (.ofNat 0), .slice none 0 0] 61 true),
  (72, .cells [.pointer (some ⟨2, 0, none⟩), .int .i64 (.ofNat 0)] 174 true),
  (182, .cells [.int .i64 (.ofNat 1)] 3 false),
  (214, .cells [.int .i64 (.ofNat 1), .int .i64 (.ofNat 0), .bool true, .pointer (some ⟨38, 1, none⟩), .pointer (some ⟨38, 1, none⟩)] 255 true),
  (240, .cells (u8s [1, 0, 14, 0, 1, 0, 0, 0, 194, 105, 111, 233, 1] ++ u8z 5 ++ u8s [3, 0, 0, 0, 255, 255, 255, 255] ++ u8z 230) 5 false),
  (277, .cells [.int .i64 (.ofNat 1), .int .i64 (.ofNat 3)] 99 true)], .tuple #[.agg #[.int .i64 (.ofNat 1), .int .i64 (.ofNat 2), .int .i64 (.ofNat 0), .int .i64 (.ofNat 0), .int .i64 (.ofNat 3)], .int .i64 (.ofNat 0)], 2524, [(1, some (.map [⟨.string ⟨#[111, 114, 105, 103, 105, 110, 97, 108]⟩, .pointer (some ⟨32, 0, none⟩), 0⟩, ⟨.string ⟨#[115, 116, 111, 114, 101]⟩, .pointer (some ⟨516, 0, none⟩), 1⟩] 2)),
  (2, some (.cells [.int .i64 (.ofNat 100000), .int .i64 (.ofNat 4), .int .i64 (.negSucc 3), .bool false, .bool false, .map (some 1), .slice none 0 0] 67 true)),
  (37, some (.map [⟨.int .i64 (.ofNat 1), .pointer (some ⟨214, 0, none⟩), 0⟩, ⟨.int .i64 (.ofNat 2), .pointer (some ⟨339, 0, none⟩), 1⟩] 2)),
  (38, some (.cells [.int .i64 (.ofNat 5), .int .i64 (.ofNat 0), .int .i64 (.ofNat 0), .bool false, .pointer (some ⟨339, 0, none⟩), .pointer (some ⟨214, 0, none⟩), .map (some 37)] 263 true)),
  (55, some (.map [⟨.int .i64 (.ofNat 1), .slice (some ⟨240, 0, none⟩) 256 256, 0⟩, ⟨.int .i64 (.ofNat 2), .slice (some ⟨365, 0, none⟩) 256 256, 1⟩] 2)),
  (57, some (.map [⟨.int .i64 (.ofNat 1), .bool true, 0⟩, ⟨.int .i64 (.ofNat 2), .bool true, 1⟩] 2)),
  (59, some (.cells [.int .i64 (.ofNat 1), .map (some 57), .map (some 58), .slice (some ⟨307, 0, none⟩) 2 2] 189 true)),
  (182, none),
  (214, some (.cells [.int .i64 (.ofNat 1), .int .i64 (.ofNat 0), .bool false, .pointer (some ⟨38, 1, none⟩), .pointer (some ⟨339, 0, none⟩)] 255 true)),
  (307, some (.cells [.int .i64 (.ofNat 1), .int .i64 (.ofNat 2)] 3 false)),
  (339, some (.cells [.int .i64 (.ofNat 2), .int .i64 (.ofNat 0), .bool false, .pointer (some ⟨214, 0, none⟩), .pointer (some ⟨38, 1, none⟩)] 255 true)),
  (365, some (.cells (u8s [3, 0, 9, 0, 2, 0, 0, 0, 68, 252, 163, 153, 1, 1, 0, 0, 0, 3] ++ u8z 238) 5 false)),
  (516, some (.cells [.slice (some ⟨2360, 0, none⟩) 768 768, .slice (some ⟨2484, 0, none⟩) 768 768, .bool true] 88 true)),
  (2360, some (.cells (u8z 256 ++ u8s [1, 0, 14, 0, 1, 0, 0, 0, 194, 105, 111, 233, 1] ++ u8z 5 ++ u8s [3, 0, 0, 0, 255, 255, 255, 255] ++ u8z 230 ++ u8s [3, 0, 9, 0, 2, 0, 0, 0, 68, 252, 163, 153, 1, 1, 0, 0, 0, 3] ++ u8z 238) 5 false)),
  (2484, some (.cells (u8z 256 ++ u8s [1, 0, 14, 0, 1, 0, 0, 0, 194, 105, 111, 233, 1] ++ u8z 5 ++ u8s [3, 0, 0, 0, 255, 255, 255, 255] ++ u8z 230 ++ u8s [3, 0, 9, 0, 2, 0, 0, 0, 68, 252, 163, 153, 1, 1, 0, 0, 0, 3] ++ u8z 238) 5 false))]⟩
theorem m19_6_ok : m19_6.ok (call evT evF k19_6 100000 m19_6.f m19_6.args m19_6.preH) = true := by kernel_rfl
theorem q19_6 : HkOk Tryz.prog (hkMemo m19_6) := hkMemo_ok evT_ok evF_ok k19_6_ok rfl m19_6_ok
noncomputable def k19_16 : Hk := orHk (hkMemo m19_15) (hkLib)
theorem k19_16_ok : HkOk Tryz.prog k19_16 := orHk_ok q19_15 (hkLib_ok)
noncomputable def m19_16 : Mm :=
  ⟨33, [.pointer (some ⟨62, 0, none⟩), .pointer (some ⟨2, 0, none⟩), .slice (some ⟨3283, 0, none⟩) 1 1, .int .i64 (.ofNat 0)], 3305, [(1, .map [⟨.string ⟨#[111, 114, 105, 103, 105, 110, 97, 108]⟩, .pointer (some ⟨32, 0, none⟩), 0⟩, ⟨.string ⟨#[115, 116, 111, 114, 101]⟩, .pointer (some ⟨516, 0, none⟩), 1⟩] 2),
  (2, .cells [.int .i64 (.ofNat 100000), .int .i64 (.ofNat 6), .int .i64 (.negSucc 5), .bool false, .bool false, .map (some 1), .slice none 0 0] 67 true),
  (32, .cells [.slice (some ⟨34, 0, none⟩) 3 3, .slice (some ⟨35, 0, none⟩) 3 3, .bool true] 88 true),
  (34, .cells (u8s [97, 98, 99]) 5 false),
  (35, .cells (u8s [97, 98, 99]) 5 false),
  (37, .map [⟨.int .i64 (.ofNat 1), .pointer (some ⟨214, 0, none⟩), 0⟩, ⟨.int .i64 (.ofNat 2), .pointer (some ⟨339, 0, none⟩), 1⟩] 2),
  (38, .cells [.int .i64 (.ofNat 5), .int .i64 (.ofNat 0), .int .i64 (.ofNat 0), .bool false, .pointer (some ⟨214, 0, none⟩), .pointer (some ⟨339, 0, none⟩), .map (some 37)] 263 true),
  (55, .map [⟨.int .i64 (.ofNat 1), .slice (some ⟨240, 0, none⟩) 256 256, 0⟩, ⟨.int .i64 (.ofNat 2), .slice (some ⟨365, 0, none⟩) 256 256, 1⟩] 2),
  (56, .cells [.pointer (some ⟨38, 0, none⟩), .pointer (some ⟨2, 0, none⟩), .string ⟨#[115, 116, 111, 114, 101]⟩, .int .i64 (.ofNat 5), .map (some 55), .int .i64 (.ofNat 0)] 193 true),
  (57, .map [⟨.int .i64 (.ofNat 2), .bool true, 2⟩, ⟨.int .i64 (.ofNat 1), .bool true, 3⟩] 4),
  (58, .map [] 0),
  (59, .cells [.int .i64 (.ofNat 1), .map (some 57), .map (some 58), .slice none 0 0] 189 true),
  (60, .cells [.pointer (some ⟨56, 0, none⟩), .pointer (some ⟨59, 0, none⟩)] 144 true),
  (62, .cells [.pointer (some ⟨56, 0, none⟩), .pointer (some ⟨59, 0, none⟩), .pointer (some ⟨60, 0, none⟩), .pointer (some ⟨2, 0, none⟩), .pointer (some ⟨72, 0, none⟩), .pointer (some ⟨3150, 0, none⟩), .slice (some ⟨3161, 0, none⟩) 1 1, .int .i64 (.ofNat 0), .int .i64 (.ofNat 1), .int .i64 (.ofNat 2), .int .i64 (.ofNat 0), .int .i64 (.ofNat 0), .int .i64 (.ofNat 3), .int .i64 (.ofNat 0), .int .i64 (.ofNat 0), .int .i64 (.ofNat 0), .int .i64 (.ofNat 0), .int .i64 (.ofNat 0), .slice (some ⟨3033, 0, none⟩) 1 1] 61 true),
  (72, .cells [.pointer (some ⟨2, 0, none⟩), .int .i64 (.ofNat 0)] 174 true),
  (214, .cells [.int .i64 (.ofNat 1), .int .i64 (.ofNat 0), .bool false, .pointer (some ⟨339, 0, none⟩), .pointer (some ⟨38, 1, none⟩)] 255 true),
  (339, .cells [.int .i64 (.ofNat 2), .int .i64 (.ofNat 0), .bool false, .pointer (some ⟨38, 1, none⟩), .pointer (some ⟨214, 0, none⟩)] 255 true),
  (516, .cells [.slice (some ⟨2360, 0, none⟩) 768 768, .slice (some ⟨3114, 0, none⟩) 768 768, .bool true] 88 true),
  (2360, .cells (u8z 64 ++ u8s [111, 99, 116, 97, 118, 111, 48, 49, 1] ++ u8z 5 ++ u8s [2] ++ u8z 8 ++ u8s [3] ++ u8z 36 ++ u8s [137, 155, 206, 78] ++ u8z 128 ++ u8s [1, 0, 14, 0, 1, 0, 0, 0, 194, 105, 111, 233, 1] ++ u8z 5 ++ u8s [3, 0, 0, 0, 255, 255, 255, 255] ++ u8z 230 ++ u8s [3, 0, 9, 0, 2, 0, 0, 0, 68, 252, 163, 153, 1, 1, 0, 0, 0, 3] ++ u8z 238) 5 false),
  (3033, .cells [.int .i64 (.ofNat 1)] 3 false),
  (3129, .map [] 0),
  (3130, .cells [.pointer (some ⟨2, 0, none⟩), .string ⟨#[111, 114, 105, 103, 105, 110, 97, 108]⟩, .int .i64 (.ofNat 3), .int .i64 (.ofNat 0), .map (some 3129)] 248 true),
  (3150, .cells [.pointer (some ⟨60, 0, none⟩), .pointer (some ⟨3130, 0, none⟩), .pointer (some ⟨72, 0, none⟩)] 250 true),
  (3161, .cells [.int .i64 (.ofNat 1), .int .i64 (.ofNat 3)] 99 false),
  (3281, .cells (u8s [97, 98, 99]) 5 false),
  (3283, .cells [.slice (some ⟨3281, 0, none⟩) 3 3] 36 true)], .bool true, 6379, []⟩
theorem m19_16_ok : m19_16.ok (call evT evF k19_16 100000 m19_16.f m19_16.args m19_16.preH) = true := by kernel_rfl
theorem q19_16 : HkOk Tryz.prog (hkMemo m19_16) := hkMemo_ok evT_ok evF_ok k19_16_ok rfl m19_16_ok
noncomputable def k19_30 : Hk := orHk (hkMemo m19_18) (orHk (hkMemo m19_19) (orHk (hkMemo m19_21) (orHk (hkMemo m19_22) (orHk (hkMemo m19_24) (orHk (hkMemo m19_25) (orHk (hkMemo m19_27) (orHk (hkMemo m19_28) (orHk (hkMemo m19_29) (hkLib)))))))))
theorem k19_30_ok : HkOk Tryz.prog k19_30 := orHk_ok q19_18 (orHk_ok q19_19 (orHk_ok q19_21 (orHk_ok q19_22 (orHk_ok q19_24 (orHk_ok q19_25 (orHk_ok q19_27 (orHk_ok q19_28 (orHk_ok q19_29 (hkLib_ok)))))))))
noncomputable def m19_30 : Mm :=
  ⟨34, [.pointer (some ⟨60, 0, none⟩), .int .i64 (.ofNat 1), .int .i64 (.ofNat 1), .int .i64 (.ofNat 1), .slice none 0 0], 6396, [(1, .map [⟨.string ⟨#[111, 114, 105, 103, 105, 110, 97, 108]⟩, .pointer (some ⟨32, 0, none⟩), 0⟩, ⟨.string ⟨#[115, 116, 111, 114, 101]⟩, .pointer (some ⟨516, 0, none⟩), 1⟩] 2),
  (2, .cells [.int .i64 (.ofNat 100000), .int .i64 (.ofNat 6), .int .i64 (.negSucc 5), .bool false, .bool false, .map (some 1), .slice none 0 0] 67 true),
  (32, .cells [.slice (some ⟨34, 0, none⟩) 3 3, .slice (some ⟨35, 0, none⟩) 3 3, .bool true] 88 true),
  (34, .cells (u8s [97, 98, 99]) 5 false),
  (35, .cells (u8s [97, 98, 99]) 5 false),
  (37, .map [⟨.int .i64 (.ofNat 1), .pointer (some ⟨214, 0, none⟩), 0⟩, ⟨.int .i64 (.ofNat 2), .pointer (some ⟨339, 0, none⟩), 1⟩] 2),
  (38, .cells [.int .i64 (.ofNat 5), .int .i64 (.ofNat 0), .int .i64 (.ofNat 0), .bool false, .pointer (some ⟨214, 0, none⟩), .pointer (some ⟨339, 0, none⟩), .map (some 37)] 263 true),
  (55, .map [⟨.int .i64 (.ofNat 1), .slice (some ⟨240, 0, none⟩) 256 256, 0⟩, ⟨.int .i64 (.ofNat 2), .slice (some ⟨365, 0, none⟩) 256 256, 1⟩] 2),
  (56, .cells [.pointer (some ⟨38, 0, none⟩), .pointer (some ⟨2, 0, none⟩), .string ⟨#[115, 116, 111, 114, 101]⟩, .int .i64 (.ofNat 5), .map (some 55), .int .i64 (.ofNat 0)] 193 true),
  (57, .map [⟨.int .i64 (.ofNat 2), .bool true, 2⟩, ⟨.int .i64 (.ofNat 1), .bool true, 3⟩] 4),
  (58, .map [] 0),
  (59, .cells [.int .i64 (.ofNat 1), .map (some 57), .map (some 58), .slice none 0 0] 189 true),
  (60, .cells [.pointer (some ⟨56, 0, none⟩), .pointer (some ⟨59, 0, none⟩)] 144 true),
  (214, .cells [.int .i64 (.ofNat 1), .int .i64 (.ofNat 0), .bool false, .pointer (some ⟨339, 0, none⟩), .pointer (some ⟨38, 1, none⟩)] 255 true),
  (240, .cells (u8s [1, 0, 14, 0, 1, 0, 0, 0, 194, 105, 111, 233, 1] ++ u8z 5 ++ u8s [3, 0, 0, 0, 255, 255, 255, 255] ++ u8z 230) 5 false),
  (339, .cells [.int .i64 (.ofNat 2), .int .i64 (.ofNat 0), .bool false, .pointer (some ⟨38, 1, none⟩), .pointer (some ⟨214, 0, none⟩)] 255 true),
  (516, .cells [.slice (some ⟨2360, 0, none⟩) 768 768, .slice (some ⟨3114, 0, none⟩) 768 768, .bool true] 88 true)], .tuple #[.int .i64 (.ofNat 3), .int .i64 (.ofNat 0)], 8660, [(37, some (.map [⟨.int .i64 (.ofNat 1), .pointer (some ⟨214, 0, none⟩), 0⟩, ⟨.int .i64 (.ofNat 2), .pointer (some ⟨339, 0, none⟩), 1⟩, ⟨.int .i64 (.ofNat 3), .pointer (some ⟨8579, 0, none⟩), 2⟩] 3)),
  (38, some (.cells [.int .i64 (.ofNat 5), .int .i64 (.ofNat 0), .int .i64 (.ofNat 0), .bool false, .pointer (some ⟨8579, 0, none⟩), .pointer (some ⟨339, 0, none⟩), .map (some 37)] 263 true)),
  (55, some (.map [⟨.int .i64 (.ofNat 1), .slice (some ⟨240, 0, none⟩) 256 256, 0⟩, ⟨.int .i64 (.ofNat 2), .slice (some ⟨365, 0, none⟩) 256 256, 1⟩, ⟨.int .i64 (.ofNat 3), .slice (some ⟨8605, 0, none⟩) 256 256, 2⟩] 3)),
  (57, some (.map [⟨.int .i64 (.ofNat 2), .bool true, 2⟩, ⟨.int .i64 (.ofNat 1), .bool true, 3⟩, ⟨.int .i64 (.ofNat 3), .bool true, 4⟩] 5)),
  (59, some (.cells [.int .i64 (.ofNat 1), .map (some 57), .map (some 58), .slice (some ⟨8547, 0, none⟩) 1 1] 189 true)),
  (214, some (.cells [.int .i64 (.ofNat 1), .int .i64 (.ofNat 0), .bool false, .pointer (some ⟨339, 0, none⟩), .pointer (some ⟨8579, 0, none⟩)] 255 true)),
  (8547, some (.cells [.int .i64 (.ofNat 3)] 3 false)),
  (8579, some (.cells [.int .i64 (.ofNat 3), .int .i64 (.ofNat 0), .bool true, .pointer (some ⟨214, 0, none⟩), .pointer (some ⟨38, 1, none⟩)] 255 true)),
  (8605, some (.cells (u8s [1, 0, 27, 0, 3, 0, 0, 0, 116, 27, 238, 85, 2] ++ u8z 5 ++ u8s [1, 0, 0, 0, 255, 255, 255, 255, 0, 2, 0, 0, 0, 1, 0, 0, 0, 255, 255, 255, 255] ++ u8z 217) 5 false))]⟩
theorem m19_30_ok : m19_30.ok (call evT evF k19_30 100000 m19_30.f m19_30.args m19_30.preH) = true := by kernel_rfl
theorem q19_30 : HkOk Tryz.prog (hkMemo m19_30) := hkMemo_ok evT_ok evF_ok k19_30_ok rfl m19_30_ok
noncomputable def k19_38 : Hk := orHk (hkMemo m19_35) (orHk (hkMemo m19_37) (hkLib))
theorem k19_38_ok : HkOk Tryz.prog k19_38 := orHk_ok q19_35 (orHk_ok q19_37 (hkLib_ok))
noncomputable def m19_38 : Mm :=
  ⟨24, [.pointer (some ⟨62, 0, none⟩), .agg #[.slice (some ⟨9321, 0, none⟩) 2 2, .int .i64 (.ofNat 1)], .int .i64 (.ofNat 3)], 9338, [(1, .map [⟨.string ⟨#[111, 114, 105, 103, 105, 110, 97, 108]⟩, .pointer (some ⟨32, 0, none⟩), 0⟩, ⟨.string ⟨#[115, 116, 111, 114, 101]⟩, .pointer (some ⟨516, 0, none⟩), 1⟩] 2),
  (2, .cells [.int .i64 (.ofNat 100000), .int .i64 (.ofNat 6), .int .i64 (.negSucc 5), .bool false, .bool false, .map (some 1), .slice none 0 0] 67 true),
  (32, .cells [.slice (some ⟨34, 0, none⟩) 3 3, .slice (some ⟨35, 0, none⟩) 3 3, .bool true] 88 true),
  (34, .cells (u8s [97, 98, 99]) 5 false),
  (35, .cells (u8s [97, 98, 99]) 5 false),
  (37, .map [⟨.int .i64 (.ofNat 1), .pointer (some ⟨214, 0, none⟩), 0⟩, ⟨.int .i64 (.ofNat 2), .pointer (some ⟨339, 0, none⟩), 1⟩, ⟨.int .i64 (.ofNat 3), .pointer (some ⟨8579, 0, none⟩), 2⟩] 3),
  (38, .cells [.int .i64 (.ofNat 5), .int .i64 (.ofNat 0), .int .i64 (.ofNat 0), .bool false, .pointer (some ⟨8579, 0, none⟩), .pointer (some ⟨339, 0, none⟩), .map (some 37)] 263 true),
  (55, .map [⟨.int .i64 (.ofNat 1), .slice (some ⟨240, 0, none⟩) 256 256, 0⟩, ⟨.int .i64 (.ofNat 2), .slice (some ⟨365, 0, none⟩) 256 256, 1⟩, ⟨.int .i64 (.ofNat 3), .slice (some ⟨8605, 0, none⟩) 256 256, 2⟩] 3),
  (56, .cells [.pointer (some ⟨38, 0, none⟩), .pointer (some ⟨2, 0, none⟩), .string ⟨#[115, 116, 111, 114, 101]⟩, .int .i64 (.ofNat 5), .map (some 55), .int .i64 (.ofNat 0)] 193 true),
  (57, .map [⟨.int .i64 (.ofNat 2), .bool true, 2⟩, ⟨.int .i64 (.ofNat 1), .bool true, 3⟩, ⟨.int .i64 (.ofNat 3), .bool true, 4⟩] 5),
  (58, .map [] 0),
  (59, .cells [.int .i64 (.ofNat 1), .map (some 57), .map (some 58), .slice (some ⟨8547, 0, none⟩) 1 1] 189 true),
  (60, .cells [.pointer (some ⟨56, 0, none⟩), .pointer (some ⟨59, 0, none⟩)] 144 true),
  (62, .cells [.pointer (some ⟨56, 0, none⟩), .pointer (some ⟨59, 0, none⟩), .pointer (some ⟨60, 0, none⟩), .pointer (some ⟨2, 0, none⟩), .pointer (some ⟨72, 0, none⟩), .pointer (some ⟨3150, 0, none⟩), .slice (some ⟨3161, 0, none⟩) 1 1, .int .i64 (.ofNat 0), .int .i64 (.ofNat 1), .int .i64 (.ofNat 2), .int .i64 (.ofNat 0), .int .i64 (.ofNat 0), .int .i64 (.ofNat 3), .int .i64 (.ofNat 0), .int .i64 (.ofNat 0), .int .i64 (.ofNat 0), .int .i64 (.ofNat 0), .int .i64 (.ofNat 0), .slice (some ⟨3033, 0, none⟩) 1 1] 61 true),
  (72, .cells [.pointer (some ⟨2, 0, none⟩), .int .i64 (.ofNat 0)] 174 true),
  (214, .cells [.int .i64 (.ofNat 1), .int .i64 (.ofNat 0), .bool false, .pointer (some ⟨339, 0, none⟩), .pointer (some ⟨8579, 0, none⟩)] 255 true),
  (339, .cells [.int .i64 (.ofNat 2), .int .i64 (.ofNat 0), .bool false, .pointer (some ⟨38, 1, none⟩), .pointer (some ⟨214, 0, none⟩)] 255 true),
  (516, .cells [.slice (some ⟨2360, 0, none⟩) 768 768, .slice (some ⟨3114, 0, none⟩) 768 768, .bool true] 88 true),
  (2360, .cells (u8z 64 ++ u8s [111, 99, 116, 97, 118, 111, 48, 49, 1] ++ u8z 5 ++ u8s [2] ++ u8z 8 ++ u8s [3] ++ u8z 36 ++ u8s [137, 155, 206, 78] ++ u8z 128 ++ u8s [1, 0, 14, 0, 1, 0, 0, 0, 194, 105, 111, 233, 1] ++ u8z 5 ++ u8s [3, 0, 0, 0, 255, 255, 255, 255] ++ u8z 230 ++ u8s [3, 0, 9, 0, 2, 0, 0, 0, 68, 252, 163, 153, 1, 1, 0, 0, 0, 3] ++ u8z 238) 5 false),
  (3033, .cells [.int .i64 (.ofNat 1)] 3 false),
  (3129, .map [] 0),
  (3130, .cells [.pointer (some ⟨2, 0, none⟩), .string ⟨#[111, 114, 105, 103, 105, 110, 97, 108]⟩, .int .i64 (.ofNat 3), .int .i64 (.ofNat 0), .map (some 3129)] 248 true),
  (3150, .cells [.pointer (some ⟨60, 0, none⟩), .pointer (some ⟨3130, 0, none⟩), .pointer (some ⟨72, 0, none⟩)] 250 true),
  (3161, .cells [.int .i64 (.ofNat 1), .int .i64 (.ofNat 3)] 99 false),
  (8547, .cells [.int .i64 (.ofNat 3)] 3 false),
  (8579, .cells [.int .i64 (.ofNat 3), .int .i64 (.ofNat 0), .bool true, .pointer (some ⟨214, 0, none⟩), .pointer (some ⟨38, 1, none⟩)] 255 true),
  (8605, .cells (u8s [1, 0, 27, 0, 3, 0, 0, 0, 116, 27, 238, 85, 2] ++ u8z 5 ++ u8s [1, 0, 0, 0, 255, 255, 255, 255, 0, 2, 0, 0, 0, 1, 0, 0, 0, 255, 255, 255, 255] ++ u8z 217) 5 false),
  (9321, .cells [.int .i64 (.ofNat 1), .int .i64 (.ofNat 3), .int .i64 (.ofNat 3), .int .i64 (.ofNat 2)] 99 false)], .tuple #[.agg #[.int .i64 (.ofNat 2), .int .i64 (.ofNat 4), .int .i64 (.ofNat 1), .int .i64 (.ofNat 0), .int .i64 (.ofNat 3)], .int .i64 (.ofNat 0)], 10914, [(2, some (.cells [.int .i64 (.ofNat 100000), .int .i64 (.ofNat 9), .int .i64 (.negSucc 8), .bool false, .bool false, .map (some 1), .slice none 0 0] 67 true)),
  (37, some (.map [⟨.int .i64 (.ofNat 1), .pointer (some ⟨214, 0, none⟩), 0⟩, ⟨.int .i64 (.ofNat 2), .pointer (some ⟨339, 0, none⟩), 1⟩, ⟨.int .i64 (.ofNat 3), .pointer (some ⟨8579, 0, none⟩), 2⟩, ⟨.int .i64 (.ofNat 4), .pointer (some ⟨9391, 0, none⟩), 3⟩] 4)),
  (38, some (.cells [.int .i64 (.ofNat 5), .int .i64 (.ofNat 0), .int .i64 (.ofNat 0), .bool false, .pointer (some ⟨9391, 0, none⟩), .pointer (some ⟨339, 0, none⟩), .map (some 37)] 263 true)),
  (55, some (.map [⟨.int .i64 (.ofNat 1), .slice (some ⟨240, 0, none⟩) 256 256, 0⟩, ⟨.int .i64 (.ofNat 2), .slice (some ⟨365, 0, none⟩) 256 256, 1⟩, ⟨.int .i64 (.ofNat 3), .slice (some ⟨8605, 0, none⟩) 256 256, 2⟩, ⟨.int .i64 (.ofNat 4), .slice (some ⟨9417, 0, none⟩) 256 256, 3⟩] 4)),
  (57, some (.map [⟨.int .i64 (.ofNat 2), .bool true, 2⟩, ⟨.int .i64 (.ofNat 1), .bool true, 3⟩, ⟨.int .i64 (.ofNat 3), .bool true, 4⟩, ⟨.int .i64 (.ofNat 4), .bool true, 5⟩] 6)),
  (59, some (.cells [.int .i64 (.ofNat 1), .map (some 57), .map (some 58), .slice (some ⟨9359, 0, none⟩) 2 2] 189 true)),
  (516, some (.cells [.slice (some ⟨10754, 0, none⟩) 1280 1280, .slice (some ⟨10878, 0, none⟩) 1280 1280, .bool true] 88 true)),
  (2360, none),
  (8547, none),
  (8579, some (.cells [.int .i64 (.ofNat 3), .int .i64 (.ofNat 0), .bool false, .pointer (some ⟨214, 0, none⟩), .pointer (some ⟨9391, 0, none⟩)] 255 true)),
  (9359, some (.cells [.int .i64 (.ofNat 3), .int .i64 (.ofNat 4)] 3 false)),
  (9391, some (.cells [.int .i64 (.ofNat 4), .int .i64 (.ofNat 0), .bool false, .pointer (some ⟨8579, 0, none⟩), .pointer (some ⟨38, 1, none⟩)] 255 true)),
  (9417, some (.cells (u8s [3, 0, 17, 0, 4, 0, 0, 0, 238, 26, 49, 237, 2, 1, 0, 0, 0, 3, 0, 0, 0, 3, 0, 0, 0, 2] ++ u8z 230) 5 false)),
  (10754, some (.cells (u8z 64 ++ u8s [111, 99, 116, 97, 118, 111, 48, 49, 1] ++ u8z 5 ++ u8s [2] ++ u8z 8 ++ u8s [3] ++ u8z 36 ++ u8s [137, 155, 206, 78] ++ u8z 128 ++ u8s [1, 0, 14, 0, 1, 0, 0, 0, 194, 105, 111, 233, 1] ++ u8z 5 ++ u8s [3, 0, 0, 0, 255, 255, 255, 255] ++ u8z 230 ++ u8s [3, 0, 9, 0, 2, 0, 0, 0, 68, 252, 163, 153, 1, 1, 0, 0, 0, 3] ++ u8z 238 ++ u8s [1, 0, 27, 0, 3, 0, 0, 0, 116, 27, 238, 85, 2] ++ u8z 5 ++ u8s [1, 0, 0, 0, 255, 255, 255, 255, 0, 2, 0, 0, 0, 1, 0, 0, 0, 255, 255, 255, 255] ++ u8z 217 ++ u8s [3, 0, 17, 0, 4, 0, 0, 0, 238, 26, 49, 237, 2, 1, 0, 0, 0, 3, 0, 0, 0, 3, 0, 0, 0, 2] ++ u8z 230) 5 false)),
  (10878, some (.cells (u8z 64 ++ u8s [111, 99, 116, 97, 118, 111, 48, 49, 1] ++ u8z 5 ++ u8s [2] ++ u8z 8 ++ u8s [3] ++ u8z 36 ++ u8s [137, 155, 206, 78] ++ u8z 128 ++ u8s [1, 0, 14, 0, 1, 0, 0, 0, 194, 105, 111, 233, 1] ++ u8z 5 ++ u8s [3, 0, 0, 0, 255, 255, 255, 255] ++ u8z 230 ++ u8s [3, 0, 9, 0, 2, 0, 0, 0, 68, 252, 163, 153, 1, 1, 0, 0, 0, 3] ++ u8z 238 ++ u8s [1, 0, 27, 0, 3, 0, 0, 0, 116, 27, 238, 85, 2] ++ u8z 5 ++ u8s [1, 0, 0, 0, 255, 255, 255, 255, 0, 2, 0, 0, 0, 1, 0, 0, 0, 255, 255, 255, 255] ++ u8z 217 ++ u8s [3, 0, 17, 0, 4, 0, 0, 0, 238, 26, 49, 237, 2, 1, 0, 0, 0, 3, 0, 0, 0, 3, 0, 0, 0, 2] ++ u8z 230) 5 false))]⟩
theorem m19_38_ok : m19_38.ok (call evT evF k19_38 100000 m19_38.f m19_38.args m19_38.preH) = true := by kernel_rfl
theorem q19_38 : HkOk Tryz.prog (hkMemo m19_38) := hkMemo_ok evT_ok evF_ok k19_38_ok rfl m19_38_ok
noncomputable def k19_45 : Hk := orHk (hkMemo m19_40) (orHk (hkMemo m19_41) (orHk (hkMemo m19_43) (orHk (hkMemo m19_44) (hkLib))))
theorem k19_45_ok : HkOk Tryz.prog k19_45 := orHk_ok q19_40 (orHk_ok q19_41 (orHk_ok q19_43 (orHk_ok q19_44 (hkLib_ok))))
noncomputable def m19_45 : Mm :=
  ⟨49, [.pointer (some ⟨60, 0, none⟩), .slice (some ⟨9321, 0, none⟩) 2 2], 10927, [(1, .map [⟨.string ⟨#[111, 114, 105, 103, 105, 110, 97, 108]⟩, .pointer (some ⟨32, 0, none⟩), 0⟩, ⟨.string ⟨#[115, 116, 111, 114, 101]⟩, .pointer (some ⟨516, 0, none⟩), 1⟩] 2),
  (2, .cells [.int .i64 (.ofNat 100000), .int .i64 (.ofNat 9), .int .i64 (.negSucc 8), .bool false, .bool false, .map (some 1), .slice none 0 0] 67 true),
  (32, .cells [.slice (some ⟨34, 0, none⟩) 3 3, .slice (some ⟨35, 0, none⟩) 3 3, .bool true] 88 true),
  (34, .cells (u8s [97, 98, 99]) 5 false),
  (35, .cells (u8s [97, 98, 99]) 5 false),
  (37, .map [⟨.int .i64 (.ofNat 1), .pointer (some ⟨214, 0, none⟩), 0⟩, ⟨.int .i64 (.ofNat 2), .pointer (some ⟨339, 0, none⟩), 1⟩, ⟨.int .i64 (.ofNat 3), .pointer (some ⟨8579, 0, none⟩), 2⟩, ⟨.int .i64 (.ofNat 4), .pointer (some ⟨9391, 0, none⟩), 3⟩] 4),
  (38, .cells [.int .i64 (.ofNat 5), .int .i64 (.ofNat 0), .int .i64 (.ofNat 0), .bool false, .pointer (some ⟨9391, 0, none⟩), .pointer (some ⟨339, 0, none⟩), .map (some 37)] 263 true),
  (55, .map [⟨.int .i64 (.ofNat 1), .slice (some ⟨240, 0, none⟩) 256 256, 0⟩, ⟨.int .i64 (.ofNat 2), .slice (some ⟨365, 0, none⟩) 256 256, 1⟩, ⟨.int .i64 (.ofNat 3), .slice (some ⟨8605, 0, none⟩) 256 256, 2⟩, ⟨.int .i64 (.ofNat 4), .slice (some ⟨9417, 0, none⟩) 256 256, 3⟩] 4),
  (56, .cells [.pointer (some ⟨38, 0, none⟩), .pointer (some ⟨2, 0, none⟩), .string ⟨#[115, 116, 111, 114, 101]⟩, .int .i64 (.ofNat 5), .map (some 55), .int .i64 (.ofNat 0)] 193 true),
  (57, .map [⟨.int .i64 (.ofNat 2), .bool true, 2⟩, ⟨.int .i64 (.ofNat 1), .bool true, 3⟩, ⟨.int .i64 (.ofNat 3), .bool true, 4⟩, ⟨.int .i64 (.ofNat 4), .bool true, 5⟩] 6),
  (58, .map [] 0),
  (59, .cells [.int .i64 (.ofNat 1), .map (some 57), .map (some 58), .slice (some ⟨9359, 0, none⟩) 2 2] 189 true),
  (60, .cells [.pointer (some ⟨56, 0, none⟩), .pointer (some ⟨59, 0, none⟩)] 144 true),
  (214, .cells [.int .i64 (.ofNat 1), .int .i64 (.ofNat 0), .bool false, .pointer (some ⟨339, 0, none⟩), .pointer (some ⟨8579, 0, none⟩)] 255 true),
  (240, .cells (u8s [1, 0, 14, 0, 1, 0, 0, 0, 194, 105, 111, 233, 1] ++ u8z 5 ++ u8s [3, 0, 0, 0, 255, 255, 255, 255] ++ u8z 230) 5 false),
  (339, .cells [.int .i64 (.ofNat 2), .int .i64 (.ofNat 0), .bool false, .pointer (some ⟨38, 1, none⟩), .pointer (some ⟨214, 0, none⟩)] 255 true),
  (516, .cells [.slice (some ⟨10754, 0, none⟩) 1280 1280, .slice (some ⟨10878, 0, none⟩) 1280 1280, .bool true] 88 true),
  (8579, .cells [.int .i64 (.ofNat 3), .int .i64 (.ofNat 0), .bool false, .pointer (some ⟨214, 0, none⟩), .pointer (some ⟨9391, 0, none⟩)] 255 true),
  (8605, .cells (u8s [1, 0, 27, 0, 3, 0, 0, 0, 116, 27, 238, 85, 2] ++ u8z 5 ++ u8s [1, 0, 0, 0, 255, 255, 255, 255, 0, 2, 0, 0, 0, 1, 0, 0, 0, 255, 255, 255, 255] ++ u8z 217) 5 false),
  (9321, .cells [.int .i64 (.ofNat 1), .int .i64 (.ofNat 3), .int .i64 (.ofNat 3), .int .i64 (.ofNat 2)] 99 false),
  (9359, .cells [.int .i64 (.ofNat 3), .int .i64 (.ofNat 4)] 3 false),
  (9391, .cells [.int .i64 (.ofNat 4), .int .i64 (.ofNat 0), .bool false, .pointer (some ⟨8579, 0, none⟩), .pointer (some ⟨38, 1, none⟩)] 255 true)], .tuple #[.slice (some ⟨12051, 0, none⟩) 2 2, .int .i64 (.ofNat 0)], 12100, [(38, some (.cells [.int .i64 (.ofNat 5), .int .i64 (.ofNat 0), .int .i64 (.ofNat 0), .bool false, .pointer (some ⟨8579, 0, none⟩), .pointer (some ⟨339, 0, none⟩), .map (some 37)] 263 true)),
  (214, some (.cells [.int .i64 (.ofNat 1), .int .i64 (.ofNat 0), .bool false, .pointer (some ⟨9391, 0, none⟩), .pointer (some ⟨8579, 0, none⟩)] 255 true)),
  (339, some (.cells [.int .i64 (.ofNat 2), .int .i64 (.ofNat 0), .bool false, .pointer (some ⟨38, 1, none⟩), .pointer (some ⟨9391, 0, none⟩)] 255 true)),
  (8579, some (.cells [.int .i64 (.ofNat 3), .int .i64 (.ofNat 0), .bool false, .pointer (some ⟨214, 0, none⟩), .pointer (some ⟨38, 1, none⟩)] 255 true)),
  (9391, some (.cells [.int .i64 (.ofNat 4), .int .i64 (.ofNat 0), .bool false, .pointer (some ⟨339, 0, none⟩), .pointer (some ⟨214, 0, none⟩)] 255 true)),
  (12051, some (.cells [.int .i64 (.ofNat 1), .int .i64 (.ofNat 3)] 3 false))]⟩
theorem m19_45_ok : m19_45.ok (call evT evF k19_45 100000 m19_45.f m19_45.args m19_45.preH) = true := by kernel_rfl
theorem q19_45 : HkOk Tryz.prog (hkMemo m19_45) := hkMemo_ok evT_ok evF_ok k19_45_ok rfl m19_45_ok
noncomputable def k19_54 : Hk := orHk (hkMemo m19_50) (orHk (hkMemo m19_53) (hkLib))
theorem k19_54_ok : HkOk Tryz.prog k19_54 := orHk_ok q19_50 (orHk_ok q19_53 (hkLib_ok))
noncomputable def m19_54 : Mm :=
  ⟨33, [.pointer (some ⟨62, 0, none⟩), .pointer (some ⟨2, 0, none⟩), .slice (some ⟨12358, 0, none⟩) 2 2, .int .i64 (.ofNat 1)], 12361, [(1, .map [⟨.string ⟨#[111, 114, 105, 103, 105, 110, 97, 108]⟩, .pointer (some ⟨32, 0, none⟩), 0⟩, ⟨.string ⟨#[115, 116, 111, 114, 101]⟩, .pointer (some ⟨516, 0, none⟩), 1⟩] 2),
  (2, .cells [.int .i64 (.ofNat 100000), .int .i64 (.ofNat 11), .int .i64 (.negSucc 10), .bool false, .bool false, .map (some 1), .slice none 0 0] 67 true),
  (32, .cells [.slice (some ⟨34, 0, none⟩) 3 3, .slice (some ⟨35, 0, none⟩) 3 3, .bool true] 88 true),
  (34, .cells (u8s [97, 98, 99]) 5 false),
  (35, .cells (u8s [97, 98, 99]) 5 false),
  (37, .map [⟨.int .i64 (.ofNat 1), .pointer (some ⟨214, 0, none⟩), 0⟩, ⟨.int .i64 (.ofNat 3), .pointer (some ⟨8579, 0, none⟩), 2⟩, ⟨.int .i64 (.ofNat 4), .pointer (some ⟨9391, 0, none⟩), 3⟩] 4),
  (38, .cells [.int .i64 (.ofNat 5), .int .i64 (.ofNat 0), .int .i64 (.ofNat 0), .bool false, .pointer (some ⟨8579, 0, none⟩), .pointer (some ⟨9391, 0, none⟩), .map (some 37)] 263 true),
  (55, .map [⟨.int .i64 (.ofNat 1), .slice (some ⟨240, 0, none⟩) 256 256, 0⟩, ⟨.int .i64 (.ofNat 3), .slice (some ⟨8605, 0, none⟩) 256 256, 2⟩, ⟨.int .i64 (.ofNat 4), .slice (some ⟨9417, 0, none⟩) 256 256, 3⟩] 4),
  (56, .cells [.pointer (some ⟨38, 0, none⟩), .pointer (some ⟨2, 0, none⟩), .string ⟨#[115, 116, 111, 114, 101]⟩, .int .i64 (.ofNat 5), .map (some 55), .int .i64 (.ofNat 0)] 193 true),
  (57, .map [⟨.int .i64 (.ofNat 4), .bool true, 6⟩, ⟨.int .i64 (.ofNat 1), .bool true, 7⟩, ⟨.int .i64 (.ofNat 3), .bool true, 8⟩] 9),
  (58, .map [] 0),
  (59, .cells [.int .i64 (.ofNat 1), .map (some 57), .map (some 58), .slice none 0 0] 189 true),
  (60, .cells [.pointer (some ⟨56, 0, none⟩), .pointer (some ⟨59, 0, none⟩)] 144 true),
  (62, .cells [.pointer (some ⟨56, 0, none⟩), .pointer (some ⟨59, 0, none⟩), .pointer (some ⟨60, 0, none⟩), .pointer (some ⟨2, 0, none⟩), .pointer (some ⟨72, 0, none⟩), .pointer (some ⟨3150, 0, none⟩), .slice (some ⟨12193, 0, none⟩) 2 2, .int .i64 (.ofNat 1), .int .i64 (.ofNat 2), .int .i64 (.ofNat 4), .int .i64 (.ofNat 1), .int .i64 (.ofNat 0), .int .i64 (.ofNat 3), .int .i64 (.ofNat 0), .int .i64 (.ofNat 0), .int .i64 (.ofNat 0), .int .i64 (.ofNat 0), .int .i64 (.ofNat 0), .slice (some ⟨12051, 0, none⟩) 2 2] 61 true),
  (72, .cells [.pointer (some ⟨2, 0, none⟩), .int .i64 (.ofNat 0)] 174 true),
  (214, .cells [.int .i64 (.ofNat 1), .int .i64 (.ofNat 0), .bool false, .pointer (some ⟨9391, 0, none⟩), .pointer (some ⟨8579, 0, none⟩)] 255 true),
  (516, .cells [.slice (some ⟨10754, 0, none⟩) 1280 1280, .slice (some ⟨12180, 0, none⟩) 1280 1280, .bool true] 88 true),
  (3129, .map [] 0),
  (3130, .cells [.pointer (some ⟨2, 0, none⟩), .string ⟨#[111, 114, 105, 103, 105, 110, 97, 108]⟩, .int .i64 (.ofNat 3), .int .i64 (.ofNat 0), .map (some 3129)] 248 true),
  (3150, .cells [.pointer (some ⟨60, 0, none⟩), .pointer (some ⟨3130, 0, none⟩), .pointer (some ⟨72, 0, none⟩)] 250 true),
  (8579, .cells [.int .i64 (.ofNat 3), .int .i64 (.ofNat 0), .bool false, .pointer (some ⟨214, 0, none⟩), .pointer (some ⟨38, 1, none⟩)] 255 true),
  (9391, .cells [.int .i64 (.ofNat 4), .int .i64 (.ofNat 0), .bool false, .pointer (some ⟨38, 1, none⟩), .pointer (some ⟨214, 0, none⟩)] 255 true),
  (10754, .cells (u8s [111, 99, 116, 97, 118, 111, 48, 49, 2] ++ u8z 5 ++ u8s [4, 0, 0, 0, 1] ++ u8z 4 ++ u8s [3] ++ u8z 36 ++ u8s [91, 68, 102, 142, 111, 99, 116, 97, 118, 111, 48, 49, 1] ++ u8z 5 ++ u8s [2] ++ u8z 8 ++ u8s [3] ++ u8z 36 ++ u8s [137, 155, 206, 78] ++ u8z 128 ++ u8s [1, 0, 14, 0, 1, 0, 0, 0, 194, 105, 111, 233, 1] ++ u8z 5 ++ u8s [3, 0, 0, 0, 255, 255, 255, 255] ++ u8z 230 ++ u8s [3, 0, 9, 0, 2, 0, 0, 0, 68, 252, 163, 153, 1, 1, 0, 0, 0, 3] ++ u8z 238 ++ u8s [1, 0, 27, 0, 3, 0, 0, 0, 116, 27, 238, 85, 2] ++ u8z 5 ++ u8s [1, 0, 0, 0, 255, 255, 255, 255, 0, 2, 0, 0, 0, 1, 0, 0, 0, 255, 255, 255, 255] ++ u8z 217 ++ u8s [3, 0, 17, 0, 4, 0, 0, 0, 238, 26, 49, 237, 2, 1, 0, 0, 0, 3, 0, 0, 0, 3, 0, 0, 0, 2] ++ u8z 230) 5 false),
  (12051, .cells [.int .i64 (.ofNat 1), .int .i64 (.ofNat 3)] 3 false),
  (12193, .cells [.int .i64 (.ofNat 1), .int .i64 (.ofNat 3), .int .i64 (.ofNat 3), .int .i64 (.ofNat 2)] 99 false),
  (12354, .cells (u8s [97, 98, 99]) 5 false),
  (12356, .cells (u8s [97, 99]) 5 false),
  (12358, .cells [.slice (some ⟨12354, 0, none⟩) 3 3, .slice (some ⟨12356, 0, none⟩) 2 2] 36 true)], .bool true, 18624, []⟩
theorem m19_54_ok : m19_54.ok (call evT evF k19_54 100000 m19_54.f m19_54.args m19_54.preH) = true := by kernel_rfl
theorem q19_54 : HkOk Tryz.prog (hkMemo m19_54) := hkMemo_ok evT_ok evF_ok k19_54_ok rfl m19_54_ok
end Go.Proofs.YtgpceblcfkcckaaGreat
