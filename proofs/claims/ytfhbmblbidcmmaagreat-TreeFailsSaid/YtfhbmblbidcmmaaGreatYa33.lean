/- treeFails holds for every input. No condition. (part 33) -/
import Derived.Test.YtfhbmblbidcmmaaGreatYa25
set_option linter.all false
set_option maxRecDepth 100000
set_option maxHeartbeats 800000
namespace Go.Proofs.YtfhbmblbidcmmaaGreat
open Go.RowKit Go.Sl Go.Dk Go.Tr
theorem PG(e:Int)(w:World):Sem.run Tryz.prog (Instr.typeAssert (.iface Yi (.agg #[.int .i64 e])) 20 Yi true) w= .ok (.tuple #[.agg #[.int .i64 e],.bool true]) w:=by
 kernel_rfl
theorem Jf(e:Int)(F:Ac)(w:World)(hs:Sat F w):
 Calls Tryz.prog 74 #[.iface Yi (.agg #[.int .i64 e])] w fun a b=>a= .returned (.int .i64 e)∧Sat F b:=by
 haveI:=hs.i
 go_enter Tryz.func74,Tryz.ntmps74
 have ha:=PG e
 go_wp2
 go_returns
 exact ⟨rfl,Sat.CR (B:=Sl.block w.heap.size Yi [.int .i64 e]) (A8 (by ac_rfl))⟩
