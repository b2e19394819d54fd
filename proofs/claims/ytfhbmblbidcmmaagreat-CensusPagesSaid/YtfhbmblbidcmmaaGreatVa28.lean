/-
  Of all versions the pages that are told are just those of their trees in the file in the form of the document, and a root that is none is refused. No condition. (part 28)
-/
import Derived.Test.YtfhbmblbidcmmaaGreatVa21
set_option linter.unusedSimpArgs false
set_option linter.unusedVariables false
namespace Go.Tr
set_option linter.unusedSimpArgs false
set_option linter.unusedVariables false
def endsC (b : List UInt8) : Nat := b.count 10
theorem endsC_app (a b : List UInt8) : endsC (a ++ b) = endsC a + endsC b := List.count_append ..
theorem endsC_le (a : List UInt8) : endsC a ≤ a.length := List.count_le_length
variable {O T : List UInt8}
end Go.Tr
namespace Go.Tr
set_option linter.unusedSimpArgs false
set_option linter.unusedVariables false
theorem endsC_cons (x : UInt8) (b : List UInt8) : endsC (x :: b) = (if x = 10 then 1 else 0) + endsC b := by
 unfold endsC
 rw [List.count_cons]
 by_cases h : x = 10 <;> simp [h, Nat.add_comm]
end Go.Tr
