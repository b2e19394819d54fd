/- treeFails holds for every input. No condition. (part 3) -/
import Derived.Shelf.Strings.Search1
import Derived.Shelf.Sort.Plain
import Derived.Shelf.GgSortFunc.Tiny
import Derived.Shelf.Slices.In.SortNone2
import Derived.Shelf.Bytes.SlCountOne
import Derived.Shelf.SlSortFuncK.WholeK
import Derived.Test.YtfhbmblbidcmmaaGreatProg
import Derived.Test.YtfhbmblbidcmmaaGreatYa1
set_option linter.all false
namespace Go.Proofs
open Go.Shelf
def Tryz.QN:Go.Shelf.Ren:=⟨fun|191=>122|189=>153|125=>174|257=>176|128=>208|129=>209|294=>218|295=>219|296=>220|297=>221|298=>222|299=>223|216=>224|300=>225|301=>226|328=>246|329=>247|330=>248|331=>249|332=>250|215=>251|343=>259|n=>n,fun|28=>45|0=>0|3=>3|46=>300|51=>143|53=>324|4=>4|183=>334|182=>333|131=>288|5=>5|9=>9|218=>355|222=>353|228=>363|229=>305|n=>n,fun|n=>n⟩
theorem Tryz.Uj:Go.Proofs.Lays.n191 Tryz.prog Tryz.QN:= {
 mixed:=by kernel_rfl
 f125:=Tryz.func174.trans (congrArg some (by kernel_rfl))
 f128:=Tryz.func208.trans (congrArg some (by kernel_rfl))
 f129:=Tryz.func209.trans (congrArg some (by kernel_rfl))
 f189:=Tryz.func153.trans (congrArg some (by kernel_rfl))
 f191:=Tryz.func122.trans (congrArg some (by kernel_rfl))
 f215:=Tryz.func251.trans (congrArg some (by kernel_rfl))
 f216:=Tryz.func224.trans (congrArg some (by kernel_rfl))
 f257:=Tryz.func176.trans (congrArg some (by kernel_rfl))
 f294:=Tryz.func218.trans (congrArg some (by kernel_rfl))
 f295:=Tryz.func219.trans (congrArg some (by kernel_rfl))
 f296:=Tryz.func220.trans (congrArg some (by kernel_rfl))
 f297:=Tryz.func221.trans (congrArg some (by kernel_rfl))
 f298:=Tryz.func222.trans (congrArg some (by kernel_rfl))
 f299:=Tryz.func223.trans (congrArg some (by kernel_rfl))
 f300:=Tryz.func225.trans (congrArg some (by kernel_rfl))
 f301:=Tryz.func226.trans (congrArg some (by kernel_rfl))
 f328:=Tryz.func246.trans (congrArg some (by kernel_rfl))
 f329:=Tryz.func247.trans (congrArg some (by kernel_rfl))
 f330:=Tryz.func248.trans (congrArg some (by kernel_rfl))
 f331:=Tryz.func249.trans (congrArg some (by kernel_rfl))
 f332:=Tryz.func250.trans (congrArg some (by kernel_rfl))
 f343:=Tryz.func259.trans (congrArg some (by kernel_rfl))
 t0:=Tryz.underlying0
 a0:=Tryz.isAgg0
 z0:=Tryz.sizeOf0
 v0:=Tryz.zeroValue0
 t3:=Tryz.underlying3
 a3:=Tryz.isAgg3
 z3:=Tryz.sizeOf3
 v3:=Tryz.zeroValue3
 t4:=Tryz.underlying4
 a4:=Tryz.isAgg4
 z4:=Tryz.sizeOf4
 v4:=Tryz.zeroValue4
 t5:=Tryz.underlying5
 a5:=Tryz.isAgg5
 z5:=Tryz.sizeOf5
 v5:=Tryz.zeroValue5
 t9:=Tryz.underlying9
 a9:=Tryz.isAgg9
 z9:=Tryz.sizeOf9
 v9:=Tryz.zeroValue9
 t28:=Tryz.underlying45
 a28:=Tryz.isAgg45
 z28:=Tryz.sizeOf45
 v28:=Tryz.zeroValue45
 t46:=Tryz.underlying300
 a46:=Tryz.isAgg300
 z46:=Tryz.sizeOf300
 v46:=Tryz.zeroValue300
 t51:=Tryz.underlying143
 a51:=Tryz.isAgg143
 z51:=Tryz.sizeOf143
 v51:=Tryz.zeroValue143
 t53:=Tryz.underlying324
 a53:=Tryz.isAgg324
 z53:=Tryz.sizeOf324
 v53:=Tryz.zeroValue324
 t131:=Tryz.underlying288
 a131:=Tryz.isAgg288
 z131:=Tryz.sizeOf288
 v131:=Tryz.zeroValue288
 t182:=Tryz.underlying333
 a182:=Tryz.isAgg333
 z182:=Tryz.sizeOf333
 v182:=Tryz.zeroValue333
 t183:=Tryz.underlying334
 a183:=Tryz.isAgg334
 z183:=Tryz.sizeOf334
 v183:=Tryz.zeroValue334
 t218:=Tryz.underlying355
 a218:=Tryz.isAgg355
 z218:=Tryz.sizeOf355
 v218:=Tryz.zeroValue355
 t222:=Tryz.underlying353
 a222:=Tryz.isAgg353
 z222:=Tryz.sizeOf353
 v222:=Tryz.zeroValue353
 t228:=Tryz.underlying363
 a228:=Tryz.isAgg363
 z228:=Tryz.sizeOf363
 v228:=Tryz.zeroValue363
 t229:=Tryz.underlying305
 a229:=Tryz.isAgg305
 z229:=Tryz.sizeOf305
 v229:=Tryz.zeroValue305 }
open Go.Sort Go.RowKit in
theorem Tryz.sort_Ints(Ew a cap:Nat)(zs:List Int)(w:World)(d:Holds (Value.int .i64) w Ew a zs.toArray)(b:Ew<w.heap.size)(c:zs.length<4611686018427387904):
 Calls Tryz.prog 122 #[.slice (some ⟨Ew,a,none⟩) zs.length cap] w fun e f=>
  e= .returned (.tuple #[])∧ ∃n os,f=grow (putRow (Value.int .i64) (Sort.ahead w n) Ew a (zs.mergeSort fun x y=>decide (x≤y)).toArray) os:=Any.sort_Ints Tryz.Uj Ew a cap zs w d b c
def Tryz.QO:Go.Shelf.Ren:=⟨fun|6=>151|10=>171|11=>172|12=>173|13=>174|14=>175|24=>208|25=>209|26=>210|27=>211|28=>212|29=>213|30=>214|31=>215|32=>216|33=>217|34=>241|35=>242|36=>243|37=>244|38=>245|39=>258|n=>n,fun|20=>20|26=>273|35=>295|0=>0|37=>297|3=>3|41=>300|44=>303|49=>143|51=>324|4=>4|54=>327|53=>326|58=>288|5=>5|9=>9|60=>349|64=>353|66=>361|67=>305|17=>17|32=>292|33=>293|82=>378|12=>12|75=>371|76=>372|77=>373|78=>374|79=>375|80=>376|n=>n,fun|n=>n⟩
theorem Tryz.PQ:Go.Proofs.LaysGg.n6 Tryz.prog Tryz.QO:= {
 mixed:=by kernel_rfl
 f6:=Tryz.func151.trans (congrArg some (by kernel_rfl))
 f10:=Tryz.func171.trans (congrArg some (by kernel_rfl))
 f11:=Tryz.func172.trans (congrArg some (by kernel_rfl))
 f12:=Tryz.func173.trans (congrArg some (by kernel_rfl))
 f13:=Tryz.func174.trans (congrArg some (by kernel_rfl))
 f14:=Tryz.func175.trans (congrArg some (by kernel_rfl))
 f24:=Tryz.func208.trans (congrArg some (by kernel_rfl))
 f25:=Tryz.func209.trans (congrArg some (by kernel_rfl))
 f26:=Tryz.func210.trans (congrArg some (by kernel_rfl))
 f27:=Tryz.func211.trans (congrArg some (by kernel_rfl))
 f28:=Tryz.func212.trans (congrArg some (by kernel_rfl))
 f29:=Tryz.func213.trans (congrArg some (by kernel_rfl))
 f30:=Tryz.func214.trans (congrArg some (by kernel_rfl))
 f31:=Tryz.func215.trans (congrArg some (by kernel_rfl))
 f32:=Tryz.func216.trans (congrArg some (by kernel_rfl))
 f33:=Tryz.func217.trans (congrArg some (by kernel_rfl))
 f34:=Tryz.func241.trans (congrArg some (by kernel_rfl))
 f35:=Tryz.func242.trans (congrArg some (by kernel_rfl))
 f36:=Tryz.func243.trans (congrArg some (by kernel_rfl))
 f37:=Tryz.func244.trans (congrArg some (by kernel_rfl))
 f38:=Tryz.func245.trans (congrArg some (by kernel_rfl))
 f39:=Tryz.func258.trans (congrArg some (by kernel_rfl))
 t0:=Tryz.underlying0
 a0:=Tryz.isAgg0
 z0:=Tryz.sizeOf0
 v0:=Tryz.zeroValue0
 i0:=by kernel_rfl
 t3:=Tryz.underlying3
 a3:=Tryz.isAgg3
 z3:=Tryz.sizeOf3
 v3:=Tryz.zeroValue3
 i3:=by kernel_rfl
 t4:=Tryz.underlying4
 a4:=Tryz.isAgg4
 z4:=Tryz.sizeOf4
 v4:=Tryz.zeroValue4
 i4:=by kernel_rfl
 t5:=Tryz.underlying5
 a5:=Tryz.isAgg5
 z5:=Tryz.sizeOf5
 v5:=Tryz.zeroValue5
 i5:=by kernel_rfl
 t9:=Tryz.underlying9
 a9:=Tryz.isAgg9
 z9:=Tryz.sizeOf9
 v9:=Tryz.zeroValue9
 i9:=by kernel_rfl
 t12:=Tryz.underlying12
 a12:=Tryz.isAgg12
 z12:=Tryz.sizeOf12
 v12:=Tryz.zeroValue12
 i12:=by kernel_rfl
 t17:=Tryz.underlying17
 a17:=Tryz.isAgg17
 z17:=Tryz.sizeOf17
 v17:=Tryz.zeroValue17
 i17:=by kernel_rfl
 t20:=Tryz.underlying20
 a20:=Tryz.isAgg20
 z20:=Tryz.sizeOf20
 v20:=Tryz.zeroValue20
 i20:=by kernel_rfl
 t26:=Tryz.underlying273
 a26:=Tryz.isAgg273
 z26:=Tryz.sizeOf273
 v26:=Tryz.zeroValue273
 i26:=by kernel_rfl
 t32:=Tryz.underlying292
 a32:=Tryz.isAgg292
 z32:=Tryz.sizeOf292
 v32:=Tryz.zeroValue292
 i32:=by kernel_rfl
 t33:=Tryz.underlying293
 a33:=Tryz.isAgg293
 z33:=Tryz.sizeOf293
 v33:=Tryz.zeroValue293
 i33:=by kernel_rfl
 t35:=Tryz.underlying295
 a35:=Tryz.isAgg295
 z35:=Tryz.sizeOf295
 v35:=Tryz.zeroValue295
 i35:=by kernel_rfl
 t37:=Tryz.underlying297
 a37:=Tryz.isAgg297
 z37:=Tryz.sizeOf297
 v37:=Tryz.zeroValue297
 i37:=by kernel_rfl
 t41:=Tryz.underlying300
 a41:=Tryz.isAgg300
 z41:=Tryz.sizeOf300
 v41:=Tryz.zeroValue300
 i41:=by kernel_rfl
 t44:=Tryz.underlying303
 a44:=Tryz.isAgg303
 z44:=Tryz.sizeOf303
 v44:=Tryz.zeroValue303
 i44:=by kernel_rfl
 t49:=Tryz.underlying143
 a49:=Tryz.isAgg143
 z49:=Tryz.sizeOf143
 v49:=Tryz.zeroValue143
 i49:=by kernel_rfl
 t51:=Tryz.underlying324
 a51:=Tryz.isAgg324
 z51:=Tryz.sizeOf324
 v51:=Tryz.zeroValue324
 i51:=by kernel_rfl
 t53:=Tryz.underlying326
 a53:=Tryz.isAgg326
 z53:=Tryz.sizeOf326
 v53:=Tryz.zeroValue326
 i53:=by kernel_rfl
 t54:=Tryz.underlying327
 a54:=Tryz.isAgg327
 z54:=Tryz.sizeOf327
 v54:=Tryz.zeroValue327
 i54:=by kernel_rfl
 t58:=Tryz.underlying288
 a58:=Tryz.isAgg288
 z58:=Tryz.sizeOf288
 v58:=Tryz.zeroValue288
 i58:=by kernel_rfl
 t60:=Tryz.underlying349
 a60:=Tryz.isAgg349
 z60:=Tryz.sizeOf349
 v60:=Tryz.zeroValue349
 i60:=by kernel_rfl
 t64:=Tryz.underlying353
 a64:=Tryz.isAgg353
 z64:=Tryz.sizeOf353
 v64:=Tryz.zeroValue353
 i64:=by kernel_rfl
 t66:=Tryz.underlying361
 a66:=Tryz.isAgg361
 z66:=Tryz.sizeOf361
 v66:=Tryz.zeroValue361
 i66:=by kernel_rfl
 t67:=Tryz.underlying305
 a67:=Tryz.isAgg305
 z67:=Tryz.sizeOf305
 v67:=Tryz.zeroValue305
 i67:=by kernel_rfl
 t75:=Tryz.underlying371
 a75:=Tryz.isAgg371
 z75:=Tryz.sizeOf371
 v75:=Tryz.zeroValue371
 i75:=by kernel_rfl
 t76:=Tryz.underlying372
 a76:=Tryz.isAgg372
 z76:=Tryz.sizeOf372
 v76:=Tryz.zeroValue372
 i76:=by kernel_rfl
 t77:=Tryz.underlying373
 a77:=Tryz.isAgg373
 z77:=Tryz.sizeOf373
 v77:=Tryz.zeroValue373
 i77:=by kernel_rfl
 t78:=Tryz.underlying374
 a78:=Tryz.isAgg374
 z78:=Tryz.sizeOf374
 v78:=Tryz.zeroValue374
 i78:=by kernel_rfl
 t79:=Tryz.underlying375
 a79:=Tryz.isAgg375
 z79:=Tryz.sizeOf375
 v79:=Tryz.zeroValue375
 i79:=by kernel_rfl
 t80:=Tryz.underlying376
 a80:=Tryz.isAgg376
 z80:=Tryz.sizeOf376
 v80:=Tryz.zeroValue376
 i80:=by kernel_rfl
 t82:=Tryz.underlying378
 a82:=Tryz.isAgg378
 z82:=Tryz.sizeOf378
 v82:=Tryz.zeroValue378
 i82:=by kernel_rfl }
open Go.RowKit Go.Sort in
theorem Tryz.sort_Ints_none(p:Option Addr)(cap:Nat)(w:World):
 Calls Tryz.prog 122 #[.slice p 0 cap] w fun e a=>e= .returned (.tuple #[])∧a=w:=Any.sort_Ints_none Tryz.Uj p cap w
end Go.Proofs
namespace Go.Proofs.YtfhbmblbidcmmaaGreat
open Go.RowKit Go.Sl
def E8(zs:List Int):List Int:=zs.mergeSort fun x y=>decide (x≤y)
theorem RV{α:Type}[Inhabited α](enc:α→Value){b e n:Nat}{xs ys:List α}{sp:List Value}{F:Ac}{w:World}{os:Array Obj}(hs:Sat (block b e (xs.map enc++sp)*F) w)(hl:ys.length=xs.length):
 Sat (block b e (ys.map enc++sp)*F) (Go.Sort.grow (Go.Sort.putRow enc (Go.Sort.ahead w n) b 0 ys.toArray) os):=by
 have hw:=hs.Ee
 have c:=Eh hw
 have a:(Go.Sort.putRow enc (Go.Sort.ahead w n) b 0 ys.toArray).heap.size=w.heap.size:=by simp[Go.Sort.putRow,Go.Sort.mapBlock,Go.Sort.ahead]
 refine hs.YL (by simp[hl]) ?_ ?_ rfl rfl rfl
 ·rw[Go.Sort.heap_grow_old _ _ (by rw[a];exact c)]
  simp only[Go.Sort.putRow,Go.Sort.mapBlock,Go.Sort.ahead,Array.getElem?_modify,if_true,hw,Option.map_some,Go.Sort.onCells]
  congr 2
  apply Array.ext
  ·simp[Go.Sort.putCells,hl]
  intro i g j
  simp only[Go.Sort.putCells,Array.getElem_mapIdx,Nat.zero_le,true_and,Nat.zero_add,List.size_toArray,Nat.sub_zero,List.getElem_toArray]
  by_cases hi:i<ys.length
  ·rw[if_pos hi,List.getElem_append_left (by simpa using hi)]
   simp[hi]
  rw[if_neg hi,List.getElem_append_right (by simp;omega),List.getElem_append_right (by simp;omega)]
  simp[hl]
 intro k f d
 rw[Go.Sort.heap_grow_old _ _ (by rw[a];exact f)]
 simp only[Go.Sort.putRow,Go.Sort.mapBlock,Go.Sort.ahead,Array.getElem?_modify]
 rw[if_neg (fun e=>d e.symm)]
theorem Md(a:Option Addr)(n c:Nat)(zs:List Int)(F:Ac)(w:World)(hs:Sat (rw 3 1 (.slice a n c) (zs.map (Value.int .i64))*F) w)(hm:zs.length<4611686018427387904):
 Calls Tryz.prog 122 #[.slice a n c] w fun e l=>e= .returned (.tuple #[])∧Sat (rw 3 1 (.slice a n c) ((E8 zs).map (Value.int .i64))*F) l:=by
 rcases hs.Cm with ⟨d,f,o⟩|⟨g,n',m,sp,d,f,o,p,q,i⟩
 · cases d
   have:zs= []:=by simpa using f
   subst this
   refine (Tryz.sort_Ints_none none 0 w).mono fun e l ⟨h,b⟩=>⟨h,?_⟩
   subst b
   simpa[E8] using hs
 cases d
 have u:n=zs.length:=by simpa using f.symm
 subst u
 have hw:=i.Ee
 have t:Go.Sort.Holds (Value.int .i64) w g 0 zs.toArray:=by
  intro j k
  simp only[List.size_toArray] at k
  have r:Sat (cells g 0 (zs.map (Value.int .i64))*(Dl g 3 (zs.map (Value.int .i64)++sp).length*(cells g (zs.map (Value.int .i64)).length sp*F))) w:=i.eq (by rw[De];ac_rfl)
  refine ⟨?_,by simp[World.frozen?,hw]⟩
  rw[r.DC j (.int .i64 zs[j]) (by simp[k])]
  simp[k]
 refine (Tryz.sort_Ints g 0 c zs w t (Eh hw) hm).mono fun e l ⟨h,v,os,b⟩=>⟨h,?_⟩
 subst b
 have hl:(E8 zs).length=zs.length:=List.length_mergeSort zs
 have s:=RV (Value.int .i64) (n:=v) (os:=os) (ys:=E8 zs) i hl
 refine Sat.Fg (sp:=sp) ?_ ?_ p q s
 · simp[hl]
 have:((zs.map (Value.int .i64))++sp).length=c*1:=o
 simp only[List.length_append,List.length_map,hl] at this⊢
 exact this
