/-
  Calls that were reckoned out, one by one. Printed by a program.
-/
import Derived.Test.YtefcphflpbopiaaGreatDoorEvl
namespace Go.Proofs.YtefcphflpbopiaaGreatDoor
open Go.Ev
set_option maxRecDepth 1000000
noncomputable def k25_0 : Hk Empty := hkLib
theorem k25_0_ok : HkOk Tryz.prog k25_0 := hkLib_ok
noncomputable def m25_0 : Mm Empty :=
  ⟨127, [pt 2 0, .string ⟨#[115, 116, 111, 114, 101]⟩, i6 0, .slice (some ⟨574, 0, none⟩) 256 256], 577, [(1, .map [⟨.string ⟨#[111, 114, 105, 103, 105, 110, 97, 108]⟩, pt 32 0, 0⟩] 1),
  (2, .cells [i6 1048576, i6 0, i6 0, .bool false, .bool false, .map (some 1), .slice none 0 0] 75 true),
  (32, .cells [.slice (some ⟨34, 0, none⟩) 3 3, .slice (some ⟨35, 0, none⟩) 3 3, .bool true] 80 true),
  (34, .cells (u8s [97, 98, 99]) 5 false),
  (35, .cells (u8s [97, 98, 99]) 5 false),
  (574, .cells (u8z 256) 5 true)], i6 0, 1219, [(1, some (.map [⟨.string ⟨#[111, 114, 105, 103, 105, 110, 97, 108]⟩, pt 32 0, 0⟩, ⟨.string ⟨#[115, 116, 111, 114, 101]⟩, pt 594 0, 1⟩] 2)),
  (2, some (.cells [i6 1048576, i6 1, .int .i64 (.negSucc 0), .bool false, .bool false, .map (some 1), .slice (some ⟨1210, 0, none⟩) 4 4] 75 true)),
  (594, some (.cells [.slice (some ⟨1106, 0, none⟩) 256 256, .slice none 0 0, .bool false] 80 true)),
  (1106, some (.cells (u8z 256) 5 false)),
  (1125, some (.cells (u8z 64) 5 false)),
  (1153, some (.cells (u8z 64) 5 false)),
  (1181, some (.cells (u8z 64) 5 false)),
  (1209, some (.cells (u8z 64) 5 false)),
  (1210, some (.cells [.string ⟨#[115, 116, 111, 114, 101]⟩, i6 0, .slice (some ⟨1125, 0, none⟩) 64 64, .string ⟨#[115, 116, 111, 114, 101]⟩, i6 64, .slice (some ⟨1153, 0, none⟩) 64 64, .string ⟨#[115, 116, 111, 114, 101]⟩, i6 128, .slice (some ⟨1181, 0, none⟩) 64 64, .string ⟨#[115, 116, 111, 114, 101]⟩, i6 192, .slice (some ⟨1209, 0, none⟩) 64 64] 105 false))]⟩
theorem m25_0_ok : m25_0.ok (call evT evF k25_0 100000 m25_0.f m25_0.args m25_0.preH) = true := by kernel_rfl
theorem q25_0 : HkOk Tryz.prog (hkMemo m25_0 : Hk Empty) := hkMemo_ok evT_ok evF_ok k25_0_ok rfl m25_0_ok
noncomputable def k25_4 : Hk Empty := hkLib
theorem k25_4_ok : HkOk Tryz.prog k25_4 := hkLib_ok
noncomputable def m25_4 : Mm Empty :=
  ⟨258, [i6 1, .slice (some ⟨2662, 0, none⟩) 256 256], 2663, [(2662, .cells (u8s [1, 0, 14, 0, 1, 0, 0, 0, 194, 105, 111, 233, 1] ++ u8z 5 ++ u8s [3, 0, 0, 0, 255, 255, 255, 255] ++ u8z 230) 5 false)], .tuple #[i6 1, .slice (some ⟨2852, 0, none⟩) 14 14, i6 0], 2893, [(2852, some (.cells (u8s [1] ++ u8z 5 ++ u8s [3, 0, 0, 0, 255, 255, 255, 255]) 5 false))]⟩
theorem m25_4_ok : m25_4.ok (call evT evF k25_4 100000 m25_4.f m25_4.args m25_4.preH) = true := by kernel_rfl
theorem q25_4 : HkOk Tryz.prog (hkMemo m25_4 : Hk Empty) := hkMemo_ok evT_ok evF_ok k25_4_ok rfl m25_4_ok
noncomputable def k25_13 : Hk Empty := hkLib
theorem k25_13_ok : HkOk Tryz.prog k25_13 := hkLib_ok
noncomputable def m25_13 : Mm Empty :=
  ⟨258, [i6 3, .slice (some ⟨6035, 0, none⟩) 256 256], 6036, [(6035, .cells (u8s [1, 0, 40, 0, 3, 0, 0, 0, 77, 237, 48, 148, 3] ++ u8z 5 ++ u8s [1, 0, 0, 0, 255, 255, 255, 255, 1] ++ u8z 4 ++ u8s [2, 0, 0, 0, 1] ++ u8z 4 ++ u8s [1, 0, 0, 0, 2, 0, 0, 0, 255, 255, 255, 255] ++ u8z 204) 5 false)], .tuple #[i6 1, .slice (some ⟨6225, 0, none⟩) 40 40, i6 0], 6266, [(6225, some (.cells (u8s [3] ++ u8z 5 ++ u8s [1, 0, 0, 0, 255, 255, 255, 255, 1] ++ u8z 4 ++ u8s [2, 0, 0, 0, 1] ++ u8z 4 ++ u8s [1, 0, 0, 0, 2, 0, 0, 0, 255, 255, 255, 255]) 5 false))]⟩
theorem m25_13_ok : m25_13.ok (call evT evF k25_13 100000 m25_13.f m25_13.args m25_13.preH) = true := by kernel_rfl
theorem q25_13 : HkOk Tryz.prog (hkMemo m25_13 : Hk Empty) := hkMemo_ok evT_ok evF_ok k25_13_ok rfl m25_13_ok
noncomputable def k25_22 : Hk Empty := hkLib
theorem k25_22_ok : HkOk Tryz.prog k25_22 := hkLib_ok
noncomputable def m25_22 : Mm Empty :=
  ⟨259, [i6 1, .slice (some ⟨9349, 0, none⟩) 40 40], 9391, [(9349, .cells (u8s [3] ++ u8z 5 ++ u8s [1, 0, 0, 0, 255, 255, 255, 255, 1] ++ u8z 4 ++ u8s [2, 0, 0, 0, 1] ++ u8z 4 ++ u8s [1, 0, 0, 0, 2, 0, 0, 0, 255, 255, 255, 255]) 5 false)], .tuple #[.agg #[.bool true, .slice (some ⟨9825, 0, none⟩) 3 3, .slice none 0 0], i6 0], 9846, [(9825, some (.cells [i6 0, i6 0, i6 1, .int .i64 (.negSucc 0), i6 1, i6 0, i6 2, i6 1, i6 0, i6 1, i6 2, .int .i64 (.negSucc 0)] 123 false))]⟩
theorem m25_22_ok : m25_22.ok (call evT evF k25_22 100000 m25_22.f m25_22.args m25_22.preH) = true := by kernel_rfl
theorem q25_22 : HkOk Tryz.prog (hkMemo m25_22 : Hk Empty) := hkMemo_ok evT_ok evF_ok k25_22_ok rfl m25_22_ok
noncomputable def k25_23 : Hk Empty := hkLib
theorem k25_23_ok : HkOk Tryz.prog k25_23 := hkLib_ok
noncomputable def m25_23 : Mm Empty :=
  ⟨258, [i6 3, .slice (some ⟨9944, 0, none⟩) 256 256], 9945, [(9944, .cells (u8s [1, 0, 40, 0, 3, 0, 0, 0, 77, 237, 48, 148, 3] ++ u8z 5 ++ u8s [1, 0, 0, 0, 255, 255, 255, 255, 1] ++ u8z 4 ++ u8s [2, 0, 0, 0, 1] ++ u8z 4 ++ u8s [1, 0, 0, 0, 2, 0, 0, 0, 255, 255, 255, 255] ++ u8z 204) 5 false)], .tuple #[i6 1, .slice (some ⟨10134, 0, none⟩) 40 40, i6 0], 10175, [(10134, some (.cells (u8s [3] ++ u8z 5 ++ u8s [1, 0, 0, 0, 255, 255, 255, 255, 1] ++ u8z 4 ++ u8s [2, 0, 0, 0, 1] ++ u8z 4 ++ u8s [1, 0, 0, 0, 2, 0, 0, 0, 255, 255, 255, 255]) 5 false))]⟩
theorem m25_23_ok : m25_23.ok (call evT evF k25_23 100000 m25_23.f m25_23.args m25_23.preH) = true := by kernel_rfl
theorem q25_23 : HkOk Tryz.prog (hkMemo m25_23 : Hk Empty) := hkMemo_ok evT_ok evF_ok k25_23_ok rfl m25_23_ok
end Go.Proofs.YtefcphflpbopiaaGreatDoor
