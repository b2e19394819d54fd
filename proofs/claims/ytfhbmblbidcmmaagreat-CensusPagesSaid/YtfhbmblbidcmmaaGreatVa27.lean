/- censusPages holds for every input. No condition. (part 27) -/
import Derived.Test.YtfhbmblbidcmmaaGreatVa20
set_option linter.all false
namespace Go.Tr
def DQ(b:List UInt8):Nat:=b.count 10
theorem YD(a b:List UInt8):DQ (a++b)=DQ a+DQ b:=List.count_append ..
theorem o7(a:List UInt8):DQ a≤a.length:=List.count_le_length
variable {O T:List UInt8}
end Go.Tr
namespace Go.Tr
theorem Wb(x:UInt8)(b:List UInt8):DQ (x::b)=(if x=10 then 1 else 0)+DQ b:=by
 unfold DQ
 rw[List.count_cons]
 by_cases h:x=10<;>simp[h,Nat.add_comm]
