/-
  Of all roots that are made the pages are a tree in the form of the document, and just these are told, and each is in use. No condition. (part 31)
-/
import Derived.Test.YtfhbmblbidcmmaaGreatSk25
set_option linter.unusedSimpArgs false
set_option linter.unusedVariables false
namespace Go.Proofs.YtfhbmblbidcmmaaGreat
set_option linter.unusedSimpArgs false
set_option linter.unusedVariables false
open Go.RowKit Go.Sl Go.Dk Go.Tr
attribute [local go_sem ↓] Go.wp_at_zero Go.wp_at_succ
attribute [local go_sem] Go.Sl.cell_sat Go.Sl.frozen_sat
theorem assert_fault (e : Int) (w : World) : Sem.run Tryz.prog (Instr.typeAssert (.iface TFa (.agg #[.int .i64 e])) 20 TFa true) w = .ok (.tuple #[.agg #[.int .i64 e], .bool true]) w := by
 kernel_rfl
set_option maxRecDepth 100000 in
set_option maxHeartbeats 800000 in
theorem given_any (e : Int) (F : Assn) (w : World) (hs : Sat F w) :
 Calls Tryz.prog 74 #[.iface TFa (.agg #[.int .i64 e])] w fun en w' => en = .returned (.int .i64 e) ∧ Sat F w' := by
 haveI := hs.i
 go_enter Tryz.func74, Tryz.ntmps74
 have ha := assert_fault e
 go_wp2
 go_returns
 exact ⟨rfl, Sat.weak (B := Sl.block w.heap.size TFa [.int .i64 e]) (satI_eq (by ac_rfl))⟩
end Go.Proofs.YtfhbmblbidcmmaaGreat
