/-
  Calls that were reckoned out, one by one. Printed by a program.
-/
import Derived.Test.YtgpceblcfkcckaaGreatEvl
import Derived.Test.YtgpceblcfkcckaaGreatEvM19a
import Derived.Test.YtgpceblcfkcckaaGreatEvM19b
import Derived.Test.YtgpceblcfkcckaaGreatEvM19c
import Derived.Test.YtgpceblcfkcckaaGreatEvM19d
namespace Go.Proofs.YtgpceblcfkcckaaGreat
open Go.Ev
set_option maxRecDepth 1000000
noncomputable def k19_11 : Hk := orHk (hkMemo m19_0) (orHk (hkMemo m19_6) (orHk (hkMemo m19_8) (orHk (hkMemo m19_9) (orHk (hkMemo m19_10) (hkLib)))))
theorem k19_11_ok : HkOk Tryz.prog k19_11 := orHk_ok q19_0 (orHk_ok q19_6 (orHk_ok q19_8 (orHk_ok q19_9 (orHk_ok q19_10 (hkLib_ok)))))
noncomputable def m19_11 : Mm :=
  ⟨31, [.pointer (some ⟨62, 0, none⟩)], 72, [(1, .map [⟨.string ⟨#[111, 114, 105, 103, 105, 110, 97, 108]⟩, .pointer (some ⟨32, 0, none⟩), 0⟩] 1),
  (2, .cells [.int .i64 (.ofNat 100000), .int .i64 (.ofNat 0), .int .i64 (.ofNat 0), .bool false, .bool false, .map (some 1), .slice none 0 0] 67 true),
  (32, .cells [.slice (some ⟨34, 0, none⟩) 3 3, .slice (some ⟨35, 0, none⟩) 3 3, .bool true] 88 true),
  (34, .cells (u8s [97, 98, 99]) 5 false),
  (35, .cells (u8s [97, 98, 99]) 5 false),
  (37, .map [] 0),
  (38, .cells [.int .i64 (.ofNat 5), .int .i64 (.ofNat 0), .int .i64 (.ofNat 0), .bool false, .pointer (some ⟨38, 1, none⟩), .pointer (some ⟨38, 1, none⟩), .map (some 37)] 263 true),
  (55, .map [] 0),
  (56, .cells [.pointer (some ⟨38, 0, none⟩), .pointer (some ⟨2, 0, none⟩), .string ⟨#[115, 116, 111, 114, 101]⟩, .int .i64 (.ofNat 5), .map (some 55), .int .i64 (.ofNat 0)] 193 true),
  (57, .map [] 0),
  (58, .map [] 0),
  (59, .cells [.int .i64 (.ofNat 1), .map (some 57), .map (some 58), .slice none 0 0] 189 true),
  (60, .cells [.pointer (some ⟨56, 0, none⟩), .pointer (some ⟨59, 0, none⟩)] 144 true),
  (62, .cells [.pointer (some ⟨56, 0, none⟩), .pointer (some ⟨59, 0, none⟩), .pointer (some ⟨60, 0, none⟩), .pointer (some ⟨2, 0, none⟩), .pointer none, .pointer none, .slice none 0 0, .int .i64 (.ofNat 0), .int .i64 (.ofNat 0), .int .i64 (.ofNat 0), .int .i64 (.ofNat 0), .int .i64 (.ofNat 0), .int .i64 (.ofNat 0), .int .i64 (.ofNat 0), .int .i64 (.ofNat 0), .int .i64 (.ofNat 0), .int .i64 (.ofNat 0), .int .i64 (.ofNat 0), .slice none 0 0] 61 true)], .int .i64 (.ofNat 0), 3230, [(1, some (.map [⟨.string ⟨#[111, 114, 105, 103, 105, 110, 97, 108]⟩, .pointer (some ⟨32, 0, none⟩), 0⟩, ⟨.string ⟨#[115, 116, 111, 114, 101]⟩, .pointer (some ⟨516, 0, none⟩), 1⟩] 2)),
  (2, some (.cells [.int .i64 (.ofNat 100000), .int .i64 (.ofNat 6), .int .i64 (.negSucc 5), .bool false, .bool false, .map (some 1), .slice none 0 0] 67 true)),
  (37, some (.map [⟨.int .i64 (.ofNat 1), .pointer (some ⟨214, 0, none⟩), 0⟩, ⟨.int .i64 (.ofNat 2), .pointer (some ⟨339, 0, none⟩), 1⟩] 2)),
  (38, some (.cells [.int .i64 (.ofNat 5), .int .i64 (.ofNat 0), .int .i64 (.ofNat 0), .bool false, .pointer (some ⟨214, 0, none⟩), .pointer (some ⟨339, 0, none⟩), .map (some 37)] 263 true)),
  (55, some (.map [⟨.int .i64 (.ofNat 1), .slice (some ⟨240, 0, none⟩) 256 256, 0⟩, ⟨.int .i64 (.ofNat 2), .slice (some ⟨365, 0, none⟩) 256 256, 1⟩] 2)),
  (57, some (.map [⟨.int .i64 (.ofNat 2), .bool true, 2⟩, ⟨.int .i64 (.ofNat 1), .bool true, 3⟩] 4)),
  (62, some (.cells [.pointer (some ⟨56, 0, none⟩), .pointer (some ⟨59, 0, none⟩), .pointer (some ⟨60, 0, none⟩), .pointer (some ⟨2, 0, none⟩), .pointer (some ⟨72, 0, none⟩), .pointer (some ⟨3150, 0, none⟩), .slice (some ⟨3161, 0, none⟩) 1 1, .int .i64 (.ofNat 0), .int .i64 (.ofNat 1), .int .i64 (.ofNat 2), .int .i64 (.ofNat 0), .int .i64 (.ofNat 0), .int .i64 (.ofNat 3), .int .i64 (.ofNat 0), .int .i64 (.ofNat 0), .int .i64 (.ofNat 0), .int .i64 (.ofNat 0), .int .i64 (.ofNat 0), .slice (some ⟨3033, 0, none⟩) 1 1] 61 true)),
  (72, some (.cells [.pointer (some ⟨2, 0, none⟩), .int .i64 (.ofNat 0)] 174 true)),
  (214, some (.cells [.int .i64 (.ofNat 1), .int .i64 (.ofNat 0), .bool false, .pointer (some ⟨339, 0, none⟩), .pointer (some ⟨38, 1, none⟩)] 255 true)),
  (240, some (.cells (u8s [1, 0, 14, 0, 1, 0, 0, 0, 194, 105, 111, 233, 1] ++ u8z 5 ++ u8s [3, 0, 0, 0, 255, 255, 255, 255] ++ u8z 230) 5 false)),
  (339, some (.cells [.int .i64 (.ofNat 2), .int .i64 (.ofNat 0), .bool false, .pointer (some ⟨38, 1, none⟩), .pointer (some ⟨214, 0, none⟩)] 255 true)),
  (365, some (.cells (u8s [3, 0, 9, 0, 2, 0, 0, 0, 68, 252, 163, 153, 1, 1, 0, 0, 0, 3] ++ u8z 238) 5 false)),
  (516, some (.cells [.slice (some ⟨2360, 0, none⟩) 768 768, .slice (some ⟨3114, 0, none⟩) 768 768, .bool true] 88 true)),
  (2360, some (.cells (u8z 64 ++ u8s [111, 99, 116, 97, 118, 111, 48, 49, 1] ++ u8z 5 ++ u8s [2] ++ u8z 8 ++ u8s [3] ++ u8z 36 ++ u8s [137, 155, 206, 78] ++ u8z 128 ++ u8s [1, 0, 14, 0, 1, 0, 0, 0, 194, 105, 111, 233, 1] ++ u8z 5 ++ u8s [3, 0, 0, 0, 255, 255, 255, 255] ++ u8z 230 ++ u8s [3, 0, 9, 0, 2, 0, 0, 0, 68, 252, 163, 153, 1, 1, 0, 0, 0, 3] ++ u8z 238) 5 false)),
  (3033, some (.cells [.int .i64 (.ofNat 1)] 3 false)),
  (3114, some (.cells (u8z 64 ++ u8s [111, 99, 116, 97, 118, 111, 48, 49, 1] ++ u8z 5 ++ u8s [2] ++ u8z 8 ++ u8s [3] ++ u8z 36 ++ u8s [137, 155, 206, 78] ++ u8z 128 ++ u8s [1, 0, 14, 0, 1, 0, 0, 0, 194, 105, 111, 233, 1] ++ u8z 5 ++ u8s [3, 0, 0, 0, 255, 255, 255, 255] ++ u8z 230 ++ u8s [3, 0, 9, 0, 2, 0, 0, 0, 68, 252, 163, 153, 1, 1, 0, 0, 0, 3] ++ u8z 238) 5 false)),
  (3129, some (.map [] 0)),
  (3130, some (.cells [.pointer (some ⟨2, 0, none⟩), .string ⟨#[111, 114, 105, 103, 105, 110, 97, 108]⟩, .int .i64 (.ofNat 3), .int .i64 (.ofNat 0), .map (some 3129)] 248 true)),
  (3150, some (.cells [.pointer (some ⟨60, 0, none⟩), .pointer (some ⟨3130, 0, none⟩), .pointer (some ⟨72, 0, none⟩)] 250 true)),
  (3161, some (.cells [.int .i64 (.ofNat 1), .int .i64 (.ofNat 3)] 99 false))]⟩
theorem m19_11_ok : m19_11.ok (call evT evF k19_11 100000 m19_11.f m19_11.args m19_11.preH) = true := by kernel_rfl
theorem q19_11 : HkOk Tryz.prog (hkMemo m19_11) := hkMemo_ok evT_ok evF_ok k19_11_ok rfl m19_11_ok
noncomputable def k19_47 : Hk := orHk (hkMemo m19_32) (orHk (hkMemo m19_33) (orHk (hkMemo m19_38) (orHk (hkMemo m19_45) (orHk (hkMemo m19_46) (hkLib)))))
theorem k19_47_ok : HkOk Tryz.prog k19_47 := orHk_ok q19_32 (orHk_ok q19_33 (orHk_ok q19_38 (orHk_ok q19_45 (orHk_ok q19_46 (hkLib_ok)))))
noncomputable def m19_47 : Mm :=
  ⟨11, [.pointer (some ⟨62, 0, none⟩), .int .i64 (.ofNat 3), .int .i64 (.ofNat 5)], 8660, [(1, .map [⟨.string ⟨#[111, 114, 105, 103, 105, 110, 97, 108]⟩, .pointer (some ⟨32, 0, none⟩), 0⟩, ⟨.string ⟨#[115, 116, 111, 114, 101]⟩, .pointer (some ⟨516, 0, none⟩), 1⟩] 2),
  (2, .cells [.int .i64 (.ofNat 100000), .int .i64 (.ofNat 6), .int .i64 (.negSucc 5), .bool false, .bool false, .map (some 1), .slice none 0 0] 67 true),
  (32, .cells [.slice (some ⟨34, 0, none⟩) 3 3, .slice (some ⟨35, 0, none⟩) 3 3, .bool true] 88 true),
  (34, .cells (u8s [97, 98, 99]) 5 false),
  (35, .cells (u8s [97, 98, 99]) 5 false),
  (37, .map [⟨.int .i64 (.ofNat 1), .pointer (some ⟨214, 0, none⟩), 0⟩, ⟨.int .i64 (.ofNat 2), .pointer (some ⟨339, 0, none⟩), 1⟩, ⟨.int .i64 (.ofNat 3), .pointer (some ⟨8579, 0, none⟩), 2⟩] 3),
  (38, .cells [.int .i64 (.ofNat 5), .int .i64 (.ofNat 0), .int .i64 (.ofNat 0), .bool false, .pointer (some ⟨8579, 0, none⟩), .pointer (some ⟨339, 0, none⟩), .map (some 37)] 263 true),
  (55, .map [⟨.int .i64 (.ofNat 1), .slice (some ⟨240, 0, none⟩) 256 256, 0⟩, ⟨.int .i64 (.ofNat 2), .slice (some ⟨365, 0, none⟩) 256 256, 1⟩, ⟨.int .i64 (.ofNat 3), .slice (some ⟨8605, 0, none⟩) 256 256, 2⟩] 3),
  (56, .cells [.pointer (some ⟨38, 0, none⟩), .pointer (some ⟨2, 0, none⟩), .string ⟨#[115, 116, 111, 114, 101]⟩, .int .i64 (.ofNat 5), .map (some 55), .int .i64 (.ofNat 0)] 193 true),
  (57, .map [⟨.int .i64 (.ofNat 2), .bool true, 2⟩, ⟨.int .i64 (.ofNat 1), .bool true, 3⟩, ⟨.int .i64 (.ofNat 3), .bool true, 4⟩] 5),
  (58, .map [] 0),
  (59, .cells [.int .i64 (.ofNat 1), .map (some 57), .map (some 58), .slice (some ⟨8547, 0, none⟩) 1 1] 189 true),
  (60, .cells [.pointer (some ⟨56, 0, none⟩), .pointer (some ⟨59, 0, none⟩)] 144 true),
  (62, .cells [.pointer (some ⟨56, 0, none⟩), .pointer (some ⟨59, 0, none⟩), .pointer (some ⟨60, 0, none⟩), .pointer (some ⟨2, 0, none⟩), .pointer (some ⟨72, 0, none⟩), .pointer (some ⟨3150, 0, none⟩), .slice (some ⟨3161, 0, none⟩) 1 1, .int .i64 (.ofNat 0), .int .i64 (.ofNat 1), .int .i64 (.ofNat 2), .int .i64 (.ofNat 0), .int .i64 (.ofNat 0), .int .i64 (.ofNat 3), .int .i64 (.ofNat 0), .int .i64 (.ofNat 0), .int .i64 (.ofNat 0), .int .i64 (.ofNat 0), .int .i64 (.ofNat 0), .slice (some ⟨3033, 0, none⟩) 1 1] 61 true),
  (72, .cells [.pointer (some ⟨2, 0, none⟩), .int .i64 (.ofNat 0)] 174 true),
  (214, .cells [.int .i64 (.ofNat 1), .int .i64 (.ofNat 0), .bool false, .pointer (some ⟨339, 0, none⟩), .pointer (some ⟨8579, 0, none⟩)] 255 true),
  (240, .cells (u8s [1, 0, 14, 0, 1, 0, 0, 0, 194, 105, 111, 233, 1] ++ u8z 5 ++ u8s [3, 0, 0, 0, 255, 255, 255, 255] ++ u8z 230) 5 false),
  (339, .cells [.int .i64 (.ofNat 2), .int .i64 (.ofNat 0), .bool false, .pointer (some ⟨38, 1, none⟩), .pointer (some ⟨214, 0, none⟩)] 255 true),
  (516, .cells [.slice (some ⟨2360, 0, none⟩) 768 768, .slice (some ⟨3114, 0, none⟩) 768 768, .bool true] 88 true),
  (2360, .cells (u8z 64 ++ u8s [111, 99, 116, 97, 118, 111, 48, 49, 1] ++ u8z 5 ++ u8s [2] ++ u8z 8 ++ u8s [3] ++ u8z 36 ++ u8s [137, 155, 206, 78] ++ u8z 128 ++ u8s [1, 0, 14, 0, 1, 0, 0, 0, 194, 105, 111, 233, 1] ++ u8z 5 ++ u8s [3, 0, 0, 0, 255, 255, 255, 255] ++ u8z 230 ++ u8s [3, 0, 9, 0, 2, 0, 0, 0, 68, 252, 163, 153, 1, 1, 0, 0, 0, 3] ++ u8z 238) 5 false),
  (3033, .cells [.int .i64 (.ofNat 1)] 3 false),
  (3129, .map [] 0),
  (3130, .cells [.pointer (some ⟨2, 0, none⟩), .string ⟨#[111, 114, 105, 103, 105, 110, 97, 108]⟩, .int .i64 (.ofNat 3), .int .i64 (.ofNat 0), .map (some 3129)] 248 true),
  (3150, .cells [.pointer (some ⟨60, 0, none⟩), .pointer (some ⟨3130, 0, none⟩), .pointer (some ⟨72, 0, none⟩)] 250 true),
  (3161, .cells [.int .i64 (.ofNat 1), .int .i64 (.ofNat 3)] 99 false),
  (8547, .cells [.int .i64 (.ofNat 3)] 3 false),
  (8579, .cells [.int .i64 (.ofNat 3), .int .i64 (.ofNat 0), .bool true, .pointer (some ⟨214, 0, none⟩), .pointer (some ⟨38, 1, none⟩)] 255 true),
  (8605, .cells (u8s [1, 0, 27, 0, 3, 0, 0, 0, 116, 27, 238, 85, 2] ++ u8z 5 ++ u8s [1, 0, 0, 0, 255, 255, 255, 255, 0, 2, 0, 0, 0, 1, 0, 0, 0, 255, 255, 255, 255] ++ u8z 217) 5 false)], .int .i64 (.ofNat 0), 12346, [(2, some (.cells [.int .i64 (.ofNat 100000), .int .i64 (.ofNat 11), .int .i64 (.negSucc 10), .bool false, .bool false, .map (some 1), .slice none 0 0] 67 true)),
  (37, some (.map [⟨.int .i64 (.ofNat 1), .pointer (some ⟨214, 0, none⟩), 0⟩, ⟨.int .i64 (.ofNat 3), .pointer (some ⟨8579, 0, none⟩), 2⟩, ⟨.int .i64 (.ofNat 4), .pointer (some ⟨9391, 0, none⟩), 3⟩] 4)),
  (38, some (.cells [.int .i64 (.ofNat 5), .int .i64 (.ofNat 0), .int .i64 (.ofNat 0), .bool false, .pointer (some ⟨8579, 0, none⟩), .pointer (some ⟨9391, 0, none⟩), .map (some 37)] 263 true)),
  (55, some (.map [⟨.int .i64 (.ofNat 1), .slice (some ⟨240, 0, none⟩) 256 256, 0⟩, ⟨.int .i64 (.ofNat 3), .slice (some ⟨8605, 0, none⟩) 256 256, 2⟩, ⟨.int .i64 (.ofNat 4), .slice (some ⟨9417, 0, none⟩) 256 256, 3⟩] 4)),
  (57, some (.map [⟨.int .i64 (.ofNat 4), .bool true, 6⟩, ⟨.int .i64 (.ofNat 1), .bool true, 7⟩, ⟨.int .i64 (.ofNat 3), .bool true, 8⟩] 9)),
  (59, some (.cells [.int .i64 (.ofNat 1), .map (some 57), .map (some 58), .slice none 0 0] 189 true)),
  (62, some (.cells [.pointer (some ⟨56, 0, none⟩), .pointer (some ⟨59, 0, none⟩), .pointer (some ⟨60, 0, none⟩), .pointer (some ⟨2, 0, none⟩), .pointer (some ⟨72, 0, none⟩), .pointer (some ⟨3150, 0, none⟩), .slice (some ⟨12193, 0, none⟩) 2 2, .int .i64 (.ofNat 1), .int .i64 (.ofNat 2), .int .i64 (.ofNat 4), .int .i64 (.ofNat 1), .int .i64 (.ofNat 0), .int .i64 (.ofNat 3), .int .i64 (.ofNat 0), .int .i64 (.ofNat 0), .int .i64 (.ofNat 0), .int .i64 (.ofNat 0), .int .i64 (.ofNat 0), .slice (some ⟨12051, 0, none⟩) 2 2] 61 true)),
  (214, some (.cells [.int .i64 (.ofNat 1), .int .i64 (.ofNat 0), .bool false, .pointer (some ⟨9391, 0, none⟩), .pointer (some ⟨8579, 0, none⟩)] 255 true)),
  (339, some (.cells [.int .i64 (.ofNat 2), .int .i64 (.ofNat 0), .bool false, .pointer (some ⟨38, 1, none⟩), .pointer (some ⟨9391, 0, none⟩)] 255 true)),
  (516, some (.cells [.slice (some ⟨10754, 0, none⟩) 1280 1280, .slice (some ⟨12180, 0, none⟩) 1280 1280, .bool true] 88 true)),
  (2360, none),
  (8547, none),
  (8579, some (.cells [.int .i64 (.ofNat 3), .int .i64 (.ofNat 0), .bool false, .pointer (some ⟨214, 0, none⟩), .pointer (some ⟨38, 1, none⟩)] 255 true)),
  (9391, some (.cells [.int .i64 (.ofNat 4), .int .i64 (.ofNat 0), .bool false, .pointer (some ⟨38, 1, none⟩), .pointer (some ⟨214, 0, none⟩)] 255 true)),
  (9417, some (.cells (u8s [3, 0, 17, 0, 4, 0, 0, 0, 238, 26, 49, 237, 2, 1, 0, 0, 0, 3, 0, 0, 0, 3, 0, 0, 0, 2] ++ u8z 230) 5 false)),
  (10754, some (.cells (u8s [111, 99, 116, 97, 118, 111, 48, 49, 2] ++ u8z 5 ++ u8s [4, 0, 0, 0, 1] ++ u8z 4 ++ u8s [3] ++ u8z 36 ++ u8s [91, 68, 102, 142, 111, 99, 116, 97, 118, 111, 48, 49, 1] ++ u8z 5 ++ u8s [2] ++ u8z 8 ++ u8s [3] ++ u8z 36 ++ u8s [137, 155, 206, 78] ++ u8z 128 ++ u8s [1, 0, 14, 0, 1, 0, 0, 0, 194, 105, 111, 233, 1] ++ u8z 5 ++ u8s [3, 0, 0, 0, 255, 255, 255, 255] ++ u8z 230 ++ u8s [3, 0, 9, 0, 2, 0, 0, 0, 68, 252, 163, 153, 1, 1, 0, 0, 0, 3] ++ u8z 238 ++ u8s [1, 0, 27, 0, 3, 0, 0, 0, 116, 27, 238, 85, 2] ++ u8z 5 ++ u8s [1, 0, 0, 0, 255, 255, 255, 255, 0, 2, 0, 0, 0, 1, 0, 0, 0, 255, 255, 255, 255] ++ u8z 217 ++ u8s [3, 0, 17, 0, 4, 0, 0, 0, 238, 26, 49, 237, 2, 1, 0, 0, 0, 3, 0, 0, 0, 3, 0, 0, 0, 2] ++ u8z 230) 5 false)),
  (12051, some (.cells [.int .i64 (.ofNat 1), .int .i64 (.ofNat 3)] 3 false)),
  (12180, some (.cells (u8s [111, 99, 116, 97, 118, 111, 48, 49, 2] ++ u8z 5 ++ u8s [4, 0, 0, 0, 1] ++ u8z 4 ++ u8s [3] ++ u8z 36 ++ u8s [91, 68, 102, 142, 111, 99, 116, 97, 118, 111, 48, 49, 1] ++ u8z 5 ++ u8s [2] ++ u8z 8 ++ u8s [3] ++ u8z 36 ++ u8s [137, 155, 206, 78] ++ u8z 128 ++ u8s [1, 0, 14, 0, 1, 0, 0, 0, 194, 105, 111, 233, 1] ++ u8z 5 ++ u8s [3, 0, 0, 0, 255, 255, 255, 255] ++ u8z 230 ++ u8s [3, 0, 9, 0, 2, 0, 0, 0, 68, 252, 163, 153, 1, 1, 0, 0, 0, 3] ++ u8z 238 ++ u8s [1, 0, 27, 0, 3, 0, 0, 0, 116, 27, 238, 85, 2] ++ u8z 5 ++ u8s [1, 0, 0, 0, 255, 255, 255, 255, 0, 2, 0, 0, 0, 1, 0, 0, 0, 255, 255, 255, 255] ++ u8z 217 ++ u8s [3, 0, 17, 0, 4, 0, 0, 0, 238, 26, 49, 237, 2, 1, 0, 0, 0, 3, 0, 0, 0, 3, 0, 0, 0, 2] ++ u8z 230) 5 false)),
  (12193, some (.cells [.int .i64 (.ofNat 1), .int .i64 (.ofNat 3), .int .i64 (.ofNat 3), .int .i64 (.ofNat 2)] 99 false))]⟩
theorem m19_47_ok : m19_47.ok (call evT evF k19_47 100000 m19_47.f m19_47.args m19_47.preH) = true := by kernel_rfl
theorem q19_47 : HkOk Tryz.prog (hkMemo m19_47) := hkMemo_ok evT_ok evF_ok k19_47_ok rfl m19_47_ok
end Go.Proofs.YtgpceblcfkcckaaGreat
