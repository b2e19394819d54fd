/- treeShape holds for every input. No condition. (part 31) -/
import Derived.Test.YtfhbmblbidcmmaaGreatSk25
set_option linter.all false
set_option maxRecDepth 100000
set_option maxHeartbeats 800000
namespace Go.Proofs.YtfhbmblbidcmmaaGreat
open Go.RowKit Go.Sl Go.Dk Go.Tr
theorem QR(e:Int)(w:World):Sem.run Tryz.prog (Instr.typeAssert (.iface Y8 (.agg #[.int .i64 e])) 20 Y8 true) w= .ok (.tuple #[.agg #[.int .i64 e],.bool true]) w:=by
 kernel_rfl
theorem FM(e:Int)(F:Ac)(w:World)(hs:Sat F w):
 Calls Tryz.prog 74 #[.iface Y8 (.agg #[.int .i64 e])] w fun a b=>a= .returned (.int .i64 e)∧Sat F b:=by
 haveI:=hs.i
 go_enter Tryz.func74,Tryz.ntmps74
 have ha:=QR e
 go_wp2
 go_returns
 exact ⟨rfl,Sat.Dq (B:=Sl.block w.heap.size Y8 [.int .i64 e]) (Av (by ac_rfl))⟩
