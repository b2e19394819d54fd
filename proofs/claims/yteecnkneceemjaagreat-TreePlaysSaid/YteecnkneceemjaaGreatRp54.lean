/-
  TreePlays: what its proof leans on (part 54)
-/
import Derived.Test.YteecnkneceemjaaGreatRp34
import Derived.Test.YteecnkneceemjaaGreatRp28
set_option linter.unusedSimpArgs false
set_option linter.unusedVariables false
namespace Go.Tr
set_option linter.unusedSimpArgs false
set_option linter.unusedVariables false
end Go.Tr
