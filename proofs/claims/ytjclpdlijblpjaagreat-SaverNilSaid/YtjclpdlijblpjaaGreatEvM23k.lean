/-
  Calls that were reckoned out, one by one. Printed by a program.
-/
import Derived.Test.YtjclpdlijblpjaaGreatEvl
import Derived.Test.YtjclpdlijblpjaaGreatEvM23j
namespace Go.Proofs.YtjclpdlijblpjaaGreat
open Go.Ev
set_option maxRecDepth 1000000
noncomputable def k23_28 : Hk := orHk (hkMemo m23_27) (hkLib)
theorem k23_28_ok : HkOk Tryz.prog k23_28 := orHk_ok q23_27 (hkLib_ok)
noncomputable def m23_28 : Mm :=
  ⟨44, [.slice (some ⟨0, 0, none⟩) 3 3, .int .i64 (.ofNat 100000)], 1, [(0, .cells (u8s [97, 98, 99]) 5 false)], .pointer (some ⟨3055, 0, none⟩), 3094, [(1, some (.map [⟨.string ⟨#[111, 114, 105, 103, 105, 110, 97, 108]⟩, .pointer (some ⟨32, 0, none⟩), 0⟩, ⟨.string ⟨#[115, 116, 111, 114, 101]⟩, .pointer (some ⟨412, 0, none⟩), 1⟩] 2)),
  (2, some (.cells [.int .i64 (.ofNat 100000), .int .i64 (.ofNat 6), .int .i64 (.negSucc 5), .bool false, .bool false, .map (some 1), .slice none 0 0] 61 true)),
  (32, some (.cells [.slice (some ⟨34, 0, none⟩) 3 3, .slice (some ⟨35, 0, none⟩) 3 3, .bool true] 130 true)),
  (34, some (.cells (u8s [97, 98, 99]) 5 false)),
  (35, some (.cells (u8s [97, 98, 99]) 5 false)),
  (37, some (.map [⟨.int .i64 (.ofNat 1), .pointer (some ⟨214, 0, none⟩), 0⟩, ⟨.int .i64 (.ofNat 2), .pointer (some ⟨339, 0, none⟩), 1⟩] 2)),
  (38, some (.cells [.int .i64 (.ofNat 5), .int .i64 (.ofNat 0), .int .i64 (.ofNat 0), .bool false, .pointer (some ⟨214, 0, none⟩), .pointer (some ⟨339, 0, none⟩), .map (some 37)] 357 true)),
  (55, some (.map [⟨.int .i64 (.ofNat 1), .slice (some ⟨240, 0, none⟩) 256 256, 0⟩, ⟨.int .i64 (.ofNat 2), .slice (some ⟨365, 0, none⟩) 256 256, 1⟩] 2)),
  (56, some (.cells [.pointer (some ⟨38, 0, none⟩), .pointer (some ⟨2, 0, none⟩), .string ⟨#[115, 116, 111, 114, 101]⟩, .int .i64 (.ofNat 5), .map (some 55), .int .i64 (.ofNat 0)] 249 true)),
  (57, some (.map [⟨.int .i64 (.ofNat 2), .bool true, 2⟩, ⟨.int .i64 (.ofNat 1), .bool true, 3⟩] 4)),
  (58, some (.map [] 0)),
  (59, some (.cells [.int .i64 (.ofNat 1), .map (some 57), .map (some 58), .slice none 0 0] 214 true)),
  (60, some (.cells [.pointer (some ⟨56, 0, none⟩), .pointer (some ⟨59, 0, none⟩)] 257 true)),
  (62, some (.cells [.pointer (some ⟨56, 0, none⟩), .pointer (some ⟨59, 0, none⟩), .pointer (some ⟨60, 0, none⟩), .pointer (some ⟨2, 0, none⟩), .pointer (some ⟨72, 0, none⟩), .pointer (some ⟨3026, 0, none⟩), .slice (some ⟨3037, 0, none⟩) 1 1, .int .i64 (.ofNat 0), .int .i64 (.ofNat 1), .int .i64 (.ofNat 2), .int .i64 (.ofNat 0), .int .i64 (.ofNat 0), .int .i64 (.ofNat 3), .int .i64 (.ofNat 0), .int .i64 (.ofNat 0), .int .i64 (.ofNat 0), .int .i64 (.ofNat 0), .int .i64 (.ofNat 0), .slice (some ⟨2909, 0, none⟩) 1 1] 85 true)),
  (72, some (.cells [.pointer (some ⟨2, 0, none⟩), .int .i64 (.ofNat 0)] 216 true)),
  (214, some (.cells [.int .i64 (.ofNat 1), .int .i64 (.ofNat 0), .bool false, .pointer (some ⟨339, 0, none⟩), .pointer (some ⟨38, 1, none⟩)] 351 true)),
  (240, some (.cells (u8s [1, 0, 14, 0, 1, 0, 0, 0, 194, 105, 111, 233, 1] ++ u8z 5 ++ u8s [3, 0, 0, 0, 255, 255, 255, 255] ++ u8z 230) 5 false)),
  (339, some (.cells [.int .i64 (.ofNat 2), .int .i64 (.ofNat 0), .bool false, .pointer (some ⟨38, 1, none⟩), .pointer (some ⟨214, 0, none⟩)] 351 true)),
  (365, some (.cells (u8s [3, 0, 9, 0, 2, 0, 0, 0, 68, 252, 163, 153, 1, 1, 0, 0, 0, 3] ++ u8z 238) 5 false)),
  (412, some (.cells [.slice (some ⟨2254, 0, none⟩) 768 768, .slice (some ⟨2990, 0, none⟩) 768 768, .bool true] 130 true)),
  (2254, some (.cells (u8z 64 ++ u8s [111, 99, 116, 97, 118, 111, 48, 49, 1] ++ u8z 5 ++ u8s [2] ++ u8z 8 ++ u8s [3] ++ u8z 36 ++ u8s [137, 155, 206, 78] ++ u8z 128 ++ u8s [1, 0, 14, 0, 1, 0, 0, 0, 194, 105, 111, 233, 1] ++ u8z 5 ++ u8s [3, 0, 0, 0, 255, 255, 255, 255] ++ u8z 230 ++ u8s [3, 0, 9, 0, 2, 0, 0, 0, 68, 252, 163, 153, 1, 1, 0, 0, 0, 3] ++ u8z 238) 5 false)),
  (2909, some (.cells [.int .i64 (.ofNat 1)] 3 false)),
  (2990, some (.cells (u8z 64 ++ u8s [111, 99, 116, 97, 118, 111, 48, 49, 1] ++ u8z 5 ++ u8s [2] ++ u8z 8 ++ u8s [3] ++ u8z 36 ++ u8s [137, 155, 206, 78] ++ u8z 128 ++ u8s [1, 0, 14, 0, 1, 0, 0, 0, 194, 105, 111, 233, 1] ++ u8z 5 ++ u8s [3, 0, 0, 0, 255, 255, 255, 255] ++ u8z 230 ++ u8s [3, 0, 9, 0, 2, 0, 0, 0, 68, 252, 163, 153, 1, 1, 0, 0, 0, 3] ++ u8z 238) 5 false)),
  (3005, some (.map [] 0)),
  (3006, some (.cells [.pointer (some ⟨2, 0, none⟩), .string ⟨#[111, 114, 105, 103, 105, 110, 97, 108]⟩, .int .i64 (.ofNat 3), .int .i64 (.ofNat 0), .map (some 3005)] 372 true)),
  (3026, some (.cells [.pointer (some ⟨60, 0, none⟩), .pointer (some ⟨3006, 0, none⟩), .pointer (some ⟨72, 0, none⟩)] 233 true)),
  (3037, some (.cells [.int .i64 (.ofNat 1), .int .i64 (.ofNat 3)] 119 false)),
  (3054, some (.cells [.slice (some ⟨0, 0, none⟩) 3 3] 35 true)),
  (3055, some (.cells [.pointer (some ⟨2, 0, none⟩), .pointer (some ⟨62, 0, none⟩), .int .i64 (.ofNat 1), .slice (some ⟨3093, 0, none⟩) 3 3, .slice (some ⟨3054, 0, none⟩) 1 1, .int .i64 (.ofNat 0), .slice (some ⟨0, 0, none⟩) 3 3] 99 true)),
  (3093, some (.cells (u8s [97, 98, 99]) 5 false))]⟩
theorem m23_28_ok : m23_28.ok (call evT evF k23_28 100000 m23_28.f m23_28.args m23_28.preH) = true := by kernel_rfl
theorem q23_28 : HkOk Tryz.prog (hkMemo m23_28) := hkMemo_ok evT_ok evF_ok k23_28_ok rfl m23_28_ok
end Go.Proofs.YtjclpdlijblpjaaGreat
