/- censusSound holds for every input. No condition. (part 8) -/
import Derived.Test.YtfhbmblbidcmmaaGreatWa6
import Derived.WalkSpells
set_option linter.all false
set_option maxHeartbeats 400000
namespace Go.Proofs.YtfhbmblbidcmmaaGreat
open Go.RowKit Go.Sl Go.Dk
theorem aB(room:Int)(F:Ab)(w:World)(hs:Sat F w)(h1:0≤room)(l:room≤1099511627776):
 Calls Tryz.prog 62 #[.int .i64 room] w fun e i=> ∃D,e= .returned (.tuple #[.pointer (some ⟨D,0,none⟩),.int .i64 0])∧Sat (Bv D (Dk.new room)*F) i:=by
 have g:= @run_makeMap Tryz.prog
 have j:decide (room<0)=false:=by simp;omega
 have k: ¬1099511627776<room:=by omega
 have c:=hs.CW (.map #[] 0)
 have a:=c.alloc #[.int .i64 room,.int .i64 0,.int .i64 0,.bool false,.bool false,.map (some w.heap.size),.slice none 0 0] TD
 have e:(w.alloc (.map #[] 0)).heap.size=w.heap.size+1:=by simp
 rw[e] at a
 have d:=Sat.Eo (kf:=DO) (ms:= []) (b:=w.heap.size) (o:= .map #[] 0) ⟨#[],0,rfl,rfl,by simp,by simp⟩ (a.take (raw w.heap.size _))
 have f:=d.AG (e:=TP) (s:=3)
 clear c a d e hs
 go_enter Tryz.func62,Tryz.ntmps62
 go_wp2
 go_ret2
 refine ⟨w.heap.size+1,rfl,?_⟩
 refine Sat.CY (M:=w.heap.size) (ns:= []) (pv:= .slice none 0 0) (ps:= []) rfl rfl (f.eq ?_)
 unfold BC AY Dt Dk.new
 simp only[block,Sl.cells,Bs,B8,Cg,List.map_nil,List.flatMap_nil,Ay,Bg,List.length_cons,List.length_nil,Nat.zero_add,Nat.reduceAdd]
 ac_rfl
