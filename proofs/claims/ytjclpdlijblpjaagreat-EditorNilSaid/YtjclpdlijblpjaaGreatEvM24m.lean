/-
  Calls that were reckoned out, one by one. Printed by a program.
-/
import Derived.Test.YtjclpdlijblpjaaGreatEvl
import Derived.Test.YtjclpdlijblpjaaGreatEvM24l
namespace Go.Proofs.YtjclpdlijblpjaaGreat
open Go.Ev
set_option maxRecDepth 1000000
noncomputable def k24_30 : Hk := orHk (hkMemo m24_29) (hkLib)
theorem k24_30_ok : HkOk Tryz.prog k24_30 := orHk_ok q24_29 (hkLib_ok)
noncomputable def m24_30 : Mm :=
  ⟨69, [.slice (some ⟨0, 0, none⟩) 5 5, i6 1048576, i6 5, i6 9], 1, [(0, .cells (u8s [97, 98, 99, 10, 100]) 5 false)], pt 3136 0, 3137, [(1, some (.map [⟨.string ⟨#[111, 114, 105, 103, 105, 110, 97, 108]⟩, pt 32 0, 0⟩, ⟨.string ⟨#[115, 116, 111, 114, 101]⟩, pt 423 0, 1⟩] 2)),
  (2, some (.cells [i6 1048576, i6 6, .int .i64 (.negSucc 5), .bool false, .bool false, .map (some 1), .slice none 0 0] 61 true)),
  (32, some (.cells [.slice (some ⟨34, 0, none⟩) 5 5, .slice (some ⟨35, 0, none⟩) 5 5, .bool true] 130 true)),
  (34, some (.cells (u8s [97, 98, 99, 10, 100]) 5 false)),
  (35, some (.cells (u8s [97, 98, 99, 10, 100]) 5 false)),
  (48, some (.map [⟨i6 1, pt 225 0, 0⟩, ⟨i6 2, pt 350 0, 1⟩] 2)),
  (49, some (.cells [i6 5, i6 0, i6 0, .bool false, pt 225 0, pt 350 0, .map (some 48)] 357 true)),
  (66, some (.map [⟨i6 1, .slice (some ⟨251, 0, none⟩) 256 256, 0⟩, ⟨i6 2, .slice (some ⟨376, 0, none⟩) 256 256, 1⟩] 2)),
  (67, some (.cells [pt 49 0, pt 2 0, .string ⟨#[115, 116, 111, 114, 101]⟩, i6 5, .map (some 66), i6 0] 249 true)),
  (68, some (.map [⟨i6 2, .bool true, 2⟩, ⟨i6 1, .bool true, 3⟩] 4)),
  (69, some (.map [] 0)),
  (70, some (.cells [i6 1, .map (some 68), .map (some 69), .slice none 0 0] 214 true)),
  (71, some (.cells [pt 67 0, pt 70 0] 257 true)),
  (73, some (.cells [pt 67 0, pt 70 0, pt 71 0, pt 2 0, pt 83 0, pt 3037 0, .slice (some ⟨3048, 0, none⟩) 1 1, i6 0, i6 1, i6 2, i6 0, i6 0, i6 5, i6 0, i6 0, i6 0, i6 0, i6 0, .slice (some ⟨2920, 0, none⟩) 1 1] 85 true)),
  (83, some (.cells [pt 2 0, i6 0] 216 true)),
  (225, some (.cells [i6 1, i6 0, .bool false, pt 350 0, pt 49 1] 351 true)),
  (251, some (.cells (u8s [1, 0, 14, 0, 1, 0, 0, 0, 7, 23, 113, 182, 1] ++ u8z 5 ++ u8s [5, 0, 0, 0, 255, 255, 255, 255] ++ u8z 230) 5 false)),
  (350, some (.cells [i6 2, i6 0, .bool false, pt 49 1, pt 225 0] 351 true)),
  (376, some (.cells (u8s [3, 0, 9, 0, 2, 0, 0, 0, 5, 212, 242, 114, 1, 1, 0, 0, 0, 5] ++ u8z 238) 5 false)),
  (423, some (.cells [.slice (some ⟨2265, 0, none⟩) 768 768, .slice (some ⟨3001, 0, none⟩) 768 768, .bool true] 130 true)),
  (2265, some (.cells (u8z 64 ++ u8s [111, 99, 116, 97, 118, 111, 48, 49, 1] ++ u8z 5 ++ u8s [2] ++ u8z 8 ++ u8s [5] ++ u8z 36 ++ u8s [73, 229, 12, 250] ++ u8z 128 ++ u8s [1, 0, 14, 0, 1, 0, 0, 0, 7, 23, 113, 182, 1] ++ u8z 5 ++ u8s [5, 0, 0, 0, 255, 255, 255, 255] ++ u8z 230 ++ u8s [3, 0, 9, 0, 2, 0, 0, 0, 5, 212, 242, 114, 1, 1, 0, 0, 0, 5] ++ u8z 238) 5 false)),
  (2920, some (.cells [i6 1] 3 false)),
  (3001, some (.cells (u8z 64 ++ u8s [111, 99, 116, 97, 118, 111, 48, 49, 1] ++ u8z 5 ++ u8s [2] ++ u8z 8 ++ u8s [5] ++ u8z 36 ++ u8s [73, 229, 12, 250] ++ u8z 128 ++ u8s [1, 0, 14, 0, 1, 0, 0, 0, 7, 23, 113, 182, 1] ++ u8z 5 ++ u8s [5, 0, 0, 0, 255, 255, 255, 255] ++ u8z 230 ++ u8s [3, 0, 9, 0, 2, 0, 0, 0, 5, 212, 242, 114, 1, 1, 0, 0, 0, 5] ++ u8z 238) 5 false)),
  (3016, some (.map [] 0)),
  (3017, some (.cells [pt 2 0, .string ⟨#[111, 114, 105, 103, 105, 110, 97, 108]⟩, i6 5, i6 0, .map (some 3016)] 372 true)),
  (3037, some (.cells [pt 71 0, pt 3017 0, pt 83 0] 233 true)),
  (3048, some (.cells [i6 1, i6 5] 119 false)),
  (3065, some (.cells [pt 73 0, pt 2 0, i6 9, i6 1, i6 5, .bool false, .bool false] 137 true)),
  (3113, some (.cells (u8s [97, 98, 99, 10, 100]) 5 false)),
  (3114, some (.cells [.slice (some ⟨3113, 0, none⟩) 5 5] 35 true)),
  (3124, some (.cells (u8s [97, 98, 99, 10, 100]) 5 false)),
  (3134, some (.cells (u8s [97, 98, 99, 10, 100]) 5 false)),
  (3135, some (.cells [.slice (some ⟨3114, 0, none⟩) 1 1, i6 0, .slice (some ⟨3124, 0, none⟩) 5 5, .bool false, .slice (some ⟨3134, 0, none⟩) 5 5, i6 9] 334 true)),
  (3136, some (.cells [pt 2 0, pt 3065 0, pt 3135 0, i6 5] 142 true))]⟩
theorem m24_30_ok : m24_30.ok (call evT evF k24_30 100000 m24_30.f m24_30.args m24_30.preH) = true := by kernel_rfl
theorem q24_30 : HkOk Tryz.prog (hkMemo m24_30) := hkMemo_ok evT_ok evF_ok k24_30_ok rfl m24_30_ok
end Go.Proofs.YtjclpdlijblpjaaGreat
