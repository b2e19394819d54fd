/-
  Calls that were reckoned out, one by one. Printed by a program.
  Calls that were reckoned out, one by one. Printed by a program.
-/
import Derived.Test.YtebhnbecjmdicaaGreatDoorEvl
namespace Go.Proofs.YtebhnbecjmdicaaGreatDoor
open Go.Ev
set_option maxRecDepth 1000000
noncomputable def k25_1 : Hk Empty := hkLib
theorem k25_1_ok : HkOk Tryz.prog k25_1 := hkLib_ok
noncomputable def m25_1 : Mm Empty :=
  ⟨132, [pt 2 0, .string ⟨#[115, 116, 111, 114, 101]⟩, i6 256, .slice (some ⟨318, 0, none⟩) 256 256], 1237, [(1, .map [⟨.string ⟨#[111, 114, 105, 103, 105, 110, 97, 108]⟩, pt 32 0, 0⟩, ⟨.string ⟨#[115, 116, 111, 114, 101]⟩, pt 594 0, 1⟩] 2),
  (2, .cells [i6 1048576, i6 1, .int .i64 (.negSucc 0), .bool false, .bool false, .map (some 1), .slice (some ⟨1210, 0, none⟩) 4 4] 76 true),
  (32, .cells [.slice (some ⟨34, 0, none⟩) 3 3, .slice (some ⟨35, 0, none⟩) 3 3, .bool true] 82 true),
  (34, .cells (u8s [97, 98, 99]) 5 false),
  (35, .cells (u8s [97, 98, 99]) 5 false),
  (318, .cells (u8s [1, 0, 14, 0, 1, 0, 0, 0, 194, 105, 111, 233, 1] ++ u8z 5 ++ u8s [3, 0, 0, 0, 255, 255, 255, 255] ++ u8z 230) 5 false),
  (594, .cells [.slice (some ⟨1106, 0, none⟩) 256 256, .slice none 0 0, .bool false] 82 true),
  (1106, .cells (u8z 256) 5 false),
  (1210, .cells [.string ⟨#[115, 116, 111, 114, 101]⟩, i6 0, .slice (some ⟨1125, 0, none⟩) 64 64, .string ⟨#[115, 116, 111, 114, 101]⟩, i6 64, .slice (some ⟨1153, 0, none⟩) 64 64, .string ⟨#[115, 116, 111, 114, 101]⟩, i6 128, .slice (some ⟨1181, 0, none⟩) 64 64, .string ⟨#[115, 116, 111, 114, 101]⟩, i6 192, .slice (some ⟨1209, 0, none⟩) 64 64] 107 false)], i6 0, 1878, [(2, some (.cells [i6 1048576, i6 2, .int .i64 (.negSucc 1), .bool false, .bool false, .map (some 1), .slice (some ⟨1869, 0, none⟩) 8 8] 76 true)),
  (594, some (.cells [.slice (some ⟨1765, 0, none⟩) 512 512, .slice none 0 0, .bool false] 82 true)),
  (1106, none),
  (1210, none),
  (1765, some (.cells (u8z 256 ++ u8s [1, 0, 14, 0, 1, 0, 0, 0, 194, 105, 111, 233, 1] ++ u8z 5 ++ u8s [3, 0, 0, 0, 255, 255, 255, 255] ++ u8z 230) 5 false)),
  (1784, some (.cells (u8s [1, 0, 14, 0, 1, 0, 0, 0, 194, 105, 111, 233, 1] ++ u8z 5 ++ u8s [3, 0, 0, 0, 255, 255, 255, 255] ++ u8z 38) 5 false)),
  (1812, some (.cells (u8z 64) 5 false)),
  (1840, some (.cells (u8z 64) 5 false)),
  (1868, some (.cells (u8z 64) 5 false)),
  (1869, some (.cells [.string ⟨#[115, 116, 111, 114, 101]⟩, i6 0, .slice (some ⟨1125, 0, none⟩) 64 64, .string ⟨#[115, 116, 111, 114, 101]⟩, i6 64, .slice (some ⟨1153, 0, none⟩) 64 64, .string ⟨#[115, 116, 111, 114, 101]⟩, i6 128, .slice (some ⟨1181, 0, none⟩) 64 64, .string ⟨#[115, 116, 111, 114, 101]⟩, i6 192, .slice (some ⟨1209, 0, none⟩) 64 64, .string ⟨#[115, 116, 111, 114, 101]⟩, i6 256, .slice (some ⟨1784, 0, none⟩) 64 64, .string ⟨#[115, 116, 111, 114, 101]⟩, i6 320, .slice (some ⟨1812, 0, none⟩) 64 64, .string ⟨#[115, 116, 111, 114, 101]⟩, i6 384, .slice (some ⟨1840, 0, none⟩) 64 64, .string ⟨#[115, 116, 111, 114, 101]⟩, i6 448, .slice (some ⟨1868, 0, none⟩) 64 64] 107 false))]⟩
theorem m25_1_ok : m25_1.ok (call evT evF k25_1 100000 m25_1.f m25_1.args m25_1.preH) = true := by kernel_rfl
theorem q25_1 : HkOk Tryz.prog (hkMemo m25_1 : Hk Empty) := hkMemo_ok evT_ok evF_ok k25_1_ok rfl m25_1_ok
noncomputable def k25_7 : Hk Empty := hkLib
theorem k25_7_ok : HkOk Tryz.prog k25_7 := hkLib_ok
noncomputable def m25_7 : Mm Empty :=
  ⟨261, [i6 1, .slice (some ⟨3530, 0, none⟩) 256 256], 3531, [(3530, .cells (u8s [1, 0, 14, 0, 1, 0, 0, 0, 194, 105, 111, 233, 1] ++ u8z 5 ++ u8s [3, 0, 0, 0, 255, 255, 255, 255] ++ u8z 230) 5 false)], .tuple #[i6 1, .slice (some ⟨3720, 0, none⟩) 14 14, i6 0], 3761, [(3720, some (.cells (u8s [1] ++ u8z 5 ++ u8s [3, 0, 0, 0, 255, 255, 255, 255]) 5 false))]⟩
theorem m25_7_ok : m25_7.ok (call evT evF k25_7 100000 m25_7.f m25_7.args m25_7.preH) = true := by kernel_rfl
theorem q25_7 : HkOk Tryz.prog (hkMemo m25_7 : Hk Empty) := hkMemo_ok evT_ok evF_ok k25_7_ok rfl m25_7_ok
noncomputable def k25_15 : Hk Empty := hkLib
theorem k25_15_ok : HkOk Tryz.prog k25_15 := hkLib_ok
noncomputable def m25_15 : Mm Empty :=
  ⟨261, [i6 3, .slice (some ⟨6820, 0, none⟩) 256 256], 6821, [(6820, .cells (u8s [1, 0, 40, 0, 3, 0, 0, 0, 77, 237, 48, 148, 3] ++ u8z 5 ++ u8s [1, 0, 0, 0, 255, 255, 255, 255, 1] ++ u8z 4 ++ u8s [2, 0, 0, 0, 1] ++ u8z 4 ++ u8s [1, 0, 0, 0, 2, 0, 0, 0, 255, 255, 255, 255] ++ u8z 204) 5 false)], .tuple #[i6 1, .slice (some ⟨7010, 0, none⟩) 40 40, i6 0], 7051, [(7010, some (.cells (u8s [3] ++ u8z 5 ++ u8s [1, 0, 0, 0, 255, 255, 255, 255, 1] ++ u8z 4 ++ u8s [2, 0, 0, 0, 1] ++ u8z 4 ++ u8s [1, 0, 0, 0, 2, 0, 0, 0, 255, 255, 255, 255]) 5 false))]⟩
theorem m25_15_ok : m25_15.ok (call evT evF k25_15 100000 m25_15.f m25_15.args m25_15.preH) = true := by kernel_rfl
theorem q25_15 : HkOk Tryz.prog (hkMemo m25_15 : Hk Empty) := hkMemo_ok evT_ok evF_ok k25_15_ok rfl m25_15_ok
noncomputable def k25_18 : Hk Empty := hkLib
theorem k25_18_ok : HkOk Tryz.prog k25_18 := hkLib_ok
noncomputable def m25_18 : Mm Empty :=
  ⟨262, [i6 1, .slice (some ⟨7786, 0, none⟩) 40 40], 7828, [(7786, .cells (u8s [3] ++ u8z 5 ++ u8s [1, 0, 0, 0, 255, 255, 255, 255, 1] ++ u8z 4 ++ u8s [2, 0, 0, 0, 1] ++ u8z 4 ++ u8s [1, 0, 0, 0, 2, 0, 0, 0, 255, 255, 255, 255]) 5 false)], .tuple #[.agg #[.bool true, .slice (some ⟨8262, 0, none⟩) 3 3, .slice none 0 0], i6 0], 8283, [(8262, some (.cells [i6 0, i6 0, i6 1, .int .i64 (.negSucc 0), i6 1, i6 0, i6 2, i6 1, i6 0, i6 1, i6 2, .int .i64 (.negSucc 0)] 125 false))]⟩
theorem m25_18_ok : m25_18.ok (call evT evF k25_18 100000 m25_18.f m25_18.args m25_18.preH) = true := by kernel_rfl
theorem q25_18 : HkOk Tryz.prog (hkMemo m25_18 : Hk Empty) := hkMemo_ok evT_ok evF_ok k25_18_ok rfl m25_18_ok
end Go.Proofs.YtebhnbecjmdicaaGreatDoor

namespace Go.Proofs.YtebhnbecjmdicaaGreatDoor
open Go.Ev
set_option maxRecDepth 1000000
noncomputable def k25_2 : Hk Empty := hkLib
theorem k25_2_ok : HkOk Tryz.prog k25_2 := hkLib_ok
noncomputable def m25_2 : Mm Empty :=
  ⟨132, [pt 2 0, .string ⟨#[115, 116, 111, 114, 101]⟩, i6 512, .slice (some ⟨443, 0, none⟩) 256 256], 1910, [(1, .map [⟨.string ⟨#[111, 114, 105, 103, 105, 110, 97, 108]⟩, pt 32 0, 0⟩, ⟨.string ⟨#[115, 116, 111, 114, 101]⟩, pt 594 0, 1⟩] 2),
  (2, .cells [i6 1048576, i6 2, .int .i64 (.negSucc 1), .bool false, .bool false, .map (some 1), .slice (some ⟨1869, 0, none⟩) 8 8] 76 true),
  (32, .cells [.slice (some ⟨34, 0, none⟩) 3 3, .slice (some ⟨35, 0, none⟩) 3 3, .bool true] 82 true),
  (34, .cells (u8s [97, 98, 99]) 5 false),
  (35, .cells (u8s [97, 98, 99]) 5 false),
  (443, .cells (u8s [3, 0, 9, 0, 2, 0, 0, 0, 68, 252, 163, 153, 1, 1, 0, 0, 0, 3] ++ u8z 238) 5 false),
  (594, .cells [.slice (some ⟨1765, 0, none⟩) 512 512, .slice none 0 0, .bool false] 82 true),
  (1765, .cells (u8z 256 ++ u8s [1, 0, 14, 0, 1, 0, 0, 0, 194, 105, 111, 233, 1] ++ u8z 5 ++ u8s [3, 0, 0, 0, 255, 255, 255, 255] ++ u8z 230) 5 false),
  (1869, .cells [.string ⟨#[115, 116, 111, 114, 101]⟩, i6 0, .slice (some ⟨1125, 0, none⟩) 64 64, .string ⟨#[115, 116, 111, 114, 101]⟩, i6 64, .slice (some ⟨1153, 0, none⟩) 64 64, .string ⟨#[115, 116, 111, 114, 101]⟩, i6 128, .slice (some ⟨1181, 0, none⟩) 64 64, .string ⟨#[115, 116, 111, 114, 101]⟩, i6 192, .slice (some ⟨1209, 0, none⟩) 64 64, .string ⟨#[115, 116, 111, 114, 101]⟩, i6 256, .slice (some ⟨1784, 0, none⟩) 64 64, .string ⟨#[115, 116, 111, 114, 101]⟩, i6 320, .slice (some ⟨1812, 0, none⟩) 64 64, .string ⟨#[115, 116, 111, 114, 101]⟩, i6 384, .slice (some ⟨1840, 0, none⟩) 64 64, .string ⟨#[115, 116, 111, 114, 101]⟩, i6 448, .slice (some ⟨1868, 0, none⟩) 64 64] 107 false)], i6 0, 2551, [(2, some (.cells [i6 1048576, i6 3, .int .i64 (.negSucc 2), .bool false, .bool false, .map (some 1), .slice (some ⟨2542, 0, none⟩) 12 12] 76 true)),
  (594, some (.cells [.slice (some ⟨2438, 0, none⟩) 768 768, .slice none 0 0, .bool false] 82 true)),
  (1765, none),
  (1869, none),
  (2438, some (.cells (u8z 256 ++ u8s [1, 0, 14, 0, 1, 0, 0, 0, 194, 105, 111, 233, 1] ++ u8z 5 ++ u8s [3, 0, 0, 0, 255, 255, 255, 255] ++ u8z 230 ++ u8s [3, 0, 9, 0, 2, 0, 0, 0, 68, 252, 163, 153, 1, 1, 0, 0, 0, 3] ++ u8z 238) 5 false)),
  (2457, some (.cells (u8s [3, 0, 9, 0, 2, 0, 0, 0, 68, 252, 163, 153, 1, 1, 0, 0, 0, 3] ++ u8z 46) 5 false)),
  (2485, some (.cells (u8z 64) 5 false)),
  (2513, some (.cells (u8z 64) 5 false)),
  (2541, some (.cells (u8z 64) 5 false)),
  (2542, some (.cells [.string ⟨#[115, 116, 111, 114, 101]⟩, i6 0, .slice (some ⟨1125, 0, none⟩) 64 64, .string ⟨#[115, 116, 111, 114, 101]⟩, i6 64, .slice (some ⟨1153, 0, none⟩) 64 64, .string ⟨#[115, 116, 111, 114, 101]⟩, i6 128, .slice (some ⟨1181, 0, none⟩) 64 64, .string ⟨#[115, 116, 111, 114, 101]⟩, i6 192, .slice (some ⟨1209, 0, none⟩) 64 64, .string ⟨#[115, 116, 111, 114, 101]⟩, i6 256, .slice (some ⟨1784, 0, none⟩) 64 64, .string ⟨#[115, 116, 111, 114, 101]⟩, i6 320, .slice (some ⟨1812, 0, none⟩) 64 64, .string ⟨#[115, 116, 111, 114, 101]⟩, i6 384, .slice (some ⟨1840, 0, none⟩) 64 64, .string ⟨#[115, 116, 111, 114, 101]⟩, i6 448, .slice (some ⟨1868, 0, none⟩) 64 64, .string ⟨#[115, 116, 111, 114, 101]⟩, i6 512, .slice (some ⟨2457, 0, none⟩) 64 64, .string ⟨#[115, 116, 111, 114, 101]⟩, i6 576, .slice (some ⟨2485, 0, none⟩) 64 64, .string ⟨#[115, 116, 111, 114, 101]⟩, i6 640, .slice (some ⟨2513, 0, none⟩) 64 64, .string ⟨#[115, 116, 111, 114, 101]⟩, i6 704, .slice (some ⟨2541, 0, none⟩) 64 64] 107 false))]⟩
theorem m25_2_ok : m25_2.ok (call evT evF k25_2 100000 m25_2.f m25_2.args m25_2.preH) = true := by kernel_rfl
theorem q25_2 : HkOk Tryz.prog (hkMemo m25_2 : Hk Empty) := hkMemo_ok evT_ok evF_ok k25_2_ok rfl m25_2_ok
noncomputable def k25_8 : Hk Empty := hkLib
theorem k25_8_ok : HkOk Tryz.prog k25_8 := hkLib_ok
noncomputable def m25_8 : Mm Empty :=
  ⟨261, [i6 1, .slice (some ⟨4026, 0, none⟩) 256 256], 4027, [(4026, .cells (u8s [1, 0, 14, 0, 1, 0, 0, 0, 194, 105, 111, 233, 1] ++ u8z 5 ++ u8s [3, 0, 0, 0, 255, 255, 255, 255] ++ u8z 230) 5 false)], .tuple #[i6 1, .slice (some ⟨4216, 0, none⟩) 14 14, i6 0], 4257, [(4216, some (.cells (u8s [1] ++ u8z 5 ++ u8s [3, 0, 0, 0, 255, 255, 255, 255]) 5 false))]⟩
theorem m25_8_ok : m25_8.ok (call evT evF k25_8 100000 m25_8.f m25_8.args m25_8.preH) = true := by kernel_rfl
theorem q25_8 : HkOk Tryz.prog (hkMemo m25_8 : Hk Empty) := hkMemo_ok evT_ok evF_ok k25_8_ok rfl m25_8_ok
noncomputable def k25_17 : Hk Empty := hkLib
theorem k25_17_ok : HkOk Tryz.prog k25_17 := hkLib_ok
noncomputable def m25_17 : Mm Empty :=
  ⟨261, [i6 3, .slice (some ⟨7596, 0, none⟩) 256 256], 7597, [(7596, .cells (u8s [1, 0, 40, 0, 3, 0, 0, 0, 77, 237, 48, 148, 3] ++ u8z 5 ++ u8s [1, 0, 0, 0, 255, 255, 255, 255, 1] ++ u8z 4 ++ u8s [2, 0, 0, 0, 1] ++ u8z 4 ++ u8s [1, 0, 0, 0, 2, 0, 0, 0, 255, 255, 255, 255] ++ u8z 204) 5 false)], .tuple #[i6 1, .slice (some ⟨7786, 0, none⟩) 40 40, i6 0], 7827, [(7786, some (.cells (u8s [3] ++ u8z 5 ++ u8s [1, 0, 0, 0, 255, 255, 255, 255, 1] ++ u8z 4 ++ u8s [2, 0, 0, 0, 1] ++ u8z 4 ++ u8s [1, 0, 0, 0, 2, 0, 0, 0, 255, 255, 255, 255]) 5 false))]⟩
theorem m25_17_ok : m25_17.ok (call evT evF k25_17 100000 m25_17.f m25_17.args m25_17.preH) = true := by kernel_rfl
theorem q25_17 : HkOk Tryz.prog (hkMemo m25_17 : Hk Empty) := hkMemo_ok evT_ok evF_ok k25_17_ok rfl m25_17_ok
noncomputable def k25_20 : Hk Empty := hkLib
theorem k25_20_ok : HkOk Tryz.prog k25_20 := hkLib_ok
noncomputable def m25_20 : Mm Empty :=
  ⟨262, [i6 1, .slice (some ⟨8571, 0, none⟩) 40 40], 8613, [(8571, .cells (u8s [3] ++ u8z 5 ++ u8s [1, 0, 0, 0, 255, 255, 255, 255, 1] ++ u8z 4 ++ u8s [2, 0, 0, 0, 1] ++ u8z 4 ++ u8s [1, 0, 0, 0, 2, 0, 0, 0, 255, 255, 255, 255]) 5 false)], .tuple #[.agg #[.bool true, .slice (some ⟨9047, 0, none⟩) 3 3, .slice none 0 0], i6 0], 9068, [(9047, some (.cells [i6 0, i6 0, i6 1, .int .i64 (.negSucc 0), i6 1, i6 0, i6 2, i6 1, i6 0, i6 1, i6 2, .int .i64 (.negSucc 0)] 125 false))]⟩
theorem m25_20_ok : m25_20.ok (call evT evF k25_20 100000 m25_20.f m25_20.args m25_20.preH) = true := by kernel_rfl
theorem q25_20 : HkOk Tryz.prog (hkMemo m25_20 : Hk Empty) := hkMemo_ok evT_ok evF_ok k25_20_ok rfl m25_20_ok
end Go.Proofs.YtebhnbecjmdicaaGreatDoor
