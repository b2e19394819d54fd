/- censusSound holds for every input. No condition. (part 24) -/
import Derived.Test.YtfhbmblbidcmmaaGreatWa17
set_option linter.all false
namespace Go.Tr
def CL(b:List UInt8):Nat:=b.count 10
theorem Y1(a b:List UInt8):CL (a++b)=CL a+CL b:=List.count_append ..
theorem j7(a:List UInt8):CL a≤a.length:=List.count_le_length
variable {O T:List UInt8}
end Go.Tr
namespace Go.Tr
theorem VS(x:UInt8)(b:List UInt8):CL (x::b)=(if x=10 then 1 else 0)+CL b:=by
 unfold CL
 rw[List.count_cons]
 by_cases h:x=10<;>simp[h,Nat.add_comm]
