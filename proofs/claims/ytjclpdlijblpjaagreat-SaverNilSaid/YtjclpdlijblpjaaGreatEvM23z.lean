/-
  Calls that were reckoned out, one by one. Printed by a program.
-/
import Derived.Test.YtjclpdlijblpjaaGreatEvl
import Derived.Test.YtjclpdlijblpjaaGreatEvM23b
import Derived.Test.YtjclpdlijblpjaaGreatEvM23f
import Derived.Test.YtjclpdlijblpjaaGreatEvM23h
import Derived.Test.YtjclpdlijblpjaaGreatEvM23j
import Derived.Test.YtjclpdlijblpjaaGreatEvM23k
namespace Go.Proofs.YtjclpdlijblpjaaGreat
open Go.Ev
set_option maxRecDepth 1000000
noncomputable def kt23 : Hk := orHk (hkMemo m23_28) (orHk (hkMemo m23_51) (orHk (hkMemo m23_83) (orHk (hkMemo m23_168) (orHk (hkMemo m23_169) (orHk (hkMemo m23_182) (hkLib))))))
theorem kt23_ok : HkOk Tryz.prog kt23 := orHk_ok q23_28 (orHk_ok q23_51 (orHk_ok q23_83 (orHk_ok q23_168 (orHk_ok q23_169 (orHk_ok q23_182 (hkLib_ok))))))
end Go.Proofs.YtjclpdlijblpjaaGreat
