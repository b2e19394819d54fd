/-
  Versions are found sound just if they are in the words of the document. No condition. (part 10)
-/
import Derived.Test.YtfhbmblbidcmmaaGreatWa8
import Derived.Deep.DeepCutAuto
import Derived.Deep.RegionLaw
import Derived.WalkSpells
set_option linter.unusedSimpArgs false
set_option linter.unusedVariables false
namespace Go.Proofs.YtfhbmblbidcmmaaGreat
set_option linter.unusedSimpArgs false
set_option linter.unusedVariables false
open Go.RowKit Go.Sl Go.Dk
attribute [local go_sem ↓] Go.wp_at_zero Go.wp_at_succ
end Go.Proofs.YtfhbmblbidcmmaaGreat
namespace Go.Proofs.YtfhbmblbidcmmaaGreat
set_option linter.unusedSimpArgs false
set_option linter.unusedVariables false
open Go.RowKit Go.Sl Go.Dk
attribute [local go_sem ↓] Go.wp_at_zero Go.wp_at_succ
set_option maxHeartbeats 400000 in
theorem newD_yes (room : Int) (F : Assn) (w : World) (hs : Sat F w) (h1 : 0 ≤ room) (h2 : room ≤ 1099511627776) :
 Calls Tryz.prog 62 #[.int .i64 room] w fun e w' => ∃ D, e = .returned (.tuple #[.pointer (some ⟨D, 0, none⟩), .int .i64 0]) ∧ Sat (diskP D (Dk.new room) * F) w' := by
 have hmm := @run_makeMap Tryz.prog
 have g1 : decide (room < 0) = false := by simp; omega
 have g2 : ¬ 1099511627776 < room := by omega
 have a1 := hs.alloc_raw (.map #[] 0)
 have a2 := a1.alloc #[.int .i64 room, .int .i64 0, .int .i64 0, .bool false, .bool false, .map (some w.heap.size), .slice none 0 0] TD
 have e : (w.alloc (.map #[] 0)).heap.size = w.heap.size + 1 := by simp
 rw [e] at a2
 have a3 := Sat.mp_shut (kf := skey) (ms := []) (b := w.heap.size) (o := .map #[] 0) ⟨#[], 0, rfl, rfl, by simp, by simp⟩ (a2.take (raw w.heap.size _))
 have a4 := a3.rw_nil (e := TP) (s := 3)
 clear a1 a2 a3 e hs
 go_enter Tryz.func62, Tryz.ntmps62
 go_wp2
 go_ret2
 refine ⟨w.heap.size + 1, rfl, ?_⟩
 refine Sat.disk_shut (M := w.heap.size) (ns := []) (pv := .slice none 0 0) (ps := []) rfl rfl (a4.eq ?_)
 unfold diskA coreD pendA Dk.new
 simp only [block, Sl.cells, filesA, piecesA, prows, List.map_nil, List.flatMap_nil, one_sep, sep_one, List.length_cons, List.length_nil, Nat.zero_add, Nat.reduceAdd]
 ac_rfl
end Go.Proofs.YtfhbmblbidcmmaaGreat
