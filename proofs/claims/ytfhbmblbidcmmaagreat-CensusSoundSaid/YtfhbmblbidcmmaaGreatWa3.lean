/- censusSound holds for every input. No condition. (part 3) -/
import Derived.Shelf.Strings.Search1
import Derived.Shelf.Sort.Plain
import Derived.Shelf.GgSortFunc.Tiny
import Derived.Shelf.Slices.In.SortNone2
import Derived.Shelf.Bytes.SlCountOne
import Derived.Shelf.SlSortFuncK.WholeK
import Derived.Test.YtfhbmblbidcmmaaGreatWa2
set_option linter.all false
set_option maxHeartbeats 400000
namespace Go.Proofs
open Go.Shelf
def Tryz.TR:Go.Shelf.Ren:=⟨fun|191=>122|189=>153|125=>174|257=>176|128=>208|129=>209|294=>218|295=>219|296=>220|297=>221|298=>222|299=>223|216=>224|300=>225|301=>226|328=>246|329=>247|330=>248|331=>249|332=>250|215=>251|343=>259|n=>n,fun|28=>45|0=>0|3=>3|46=>300|51=>143|53=>324|4=>4|183=>334|182=>333|131=>288|5=>5|9=>9|218=>355|222=>353|228=>363|229=>305|n=>n,fun|n=>n⟩
theorem Tryz.XN:Go.Proofs.Lays.n191 Tryz.prog Tryz.TR:= {
 mixed:=by kernel_rfl
 f125:=Tryz.func174.trans (congrArg some (by kernel_rfl))
 f128:=Tryz.func208.trans (congrArg some (by kernel_rfl))
 f129:=Tryz.func209.trans (congrArg some (by kernel_rfl))
 f189:=Tryz.func153.trans (congrArg some (by kernel_rfl))
 f191:=Tryz.func122.trans (congrArg some (by kernel_rfl))
 f215:=Tryz.func251.trans (congrArg some (by kernel_rfl))
 f216:=Tryz.func224.trans (congrArg some (by kernel_rfl))
 f257:=Tryz.func176.trans (congrArg some (by kernel_rfl))
 f294:=Tryz.func218.trans (congrArg some (by kernel_rfl))
 f295:=Tryz.func219.trans (congrArg some (by kernel_rfl))
 f296:=Tryz.func220.trans (congrArg some (by kernel_rfl))
 f297:=Tryz.func221.trans (congrArg some (by kernel_rfl))
 f298:=Tryz.func222.trans (congrArg some (by kernel_rfl))
 f299:=Tryz.func223.trans (congrArg some (by kernel_rfl))
 f300:=Tryz.func225.trans (congrArg some (by kernel_rfl))
 f301:=Tryz.func226.trans (congrArg some (by kernel_rfl))
 f328:=Tryz.func246.trans (congrArg some (by kernel_rfl))
 f329:=Tryz.func247.trans (congrArg some (by kernel_rfl))
 f330:=Tryz.func248.trans (congrArg some (by kernel_rfl))
 f331:=Tryz.func249.trans (congrArg some (by kernel_rfl))
 f332:=Tryz.func250.trans (congrArg some (by kernel_rfl))
 f343:=Tryz.func259.trans (congrArg some (by kernel_rfl))
 t0:=Tryz.underlying0
 a0:=Tryz.isAgg0
 z0:=Tryz.sizeOf0
 v0:=Tryz.zeroValue0
 t3:=Tryz.underlying3
 a3:=Tryz.isAgg3
 z3:=Tryz.sizeOf3
 v3:=Tryz.zeroValue3
 t4:=Tryz.underlying4
 a4:=Tryz.isAgg4
 z4:=Tryz.sizeOf4
 v4:=Tryz.zeroValue4
 t5:=Tryz.underlying5
 a5:=Tryz.isAgg5
 z5:=Tryz.sizeOf5
 v5:=Tryz.zeroValue5
 t9:=Tryz.underlying9
 a9:=Tryz.isAgg9
 z9:=Tryz.sizeOf9
 v9:=Tryz.zeroValue9
 t28:=Tryz.underlying45
 a28:=Tryz.isAgg45
 z28:=Tryz.sizeOf45
 v28:=Tryz.zeroValue45
 t46:=Tryz.underlying300
 a46:=Tryz.isAgg300
 z46:=Tryz.sizeOf300
 v46:=Tryz.zeroValue300
 t51:=Tryz.underlying143
 a51:=Tryz.isAgg143
 z51:=Tryz.sizeOf143
 v51:=Tryz.zeroValue143
 t53:=Tryz.underlying324
 a53:=Tryz.isAgg324
 z53:=Tryz.sizeOf324
 v53:=Tryz.zeroValue324
 t131:=Tryz.underlying288
 a131:=Tryz.isAgg288
 z131:=Tryz.sizeOf288
 v131:=Tryz.zeroValue288
 t182:=Tryz.underlying333
 a182:=Tryz.isAgg333
 z182:=Tryz.sizeOf333
 v182:=Tryz.zeroValue333
 t183:=Tryz.underlying334
 a183:=Tryz.isAgg334
 z183:=Tryz.sizeOf334
 v183:=Tryz.zeroValue334
 t218:=Tryz.underlying355
 a218:=Tryz.isAgg355
 z218:=Tryz.sizeOf355
 v218:=Tryz.zeroValue355
 t222:=Tryz.underlying353
 a222:=Tryz.isAgg353
 z222:=Tryz.sizeOf353
 v222:=Tryz.zeroValue353
 t228:=Tryz.underlying363
 a228:=Tryz.isAgg363
 z228:=Tryz.sizeOf363
 v228:=Tryz.zeroValue363
 t229:=Tryz.underlying305
 a229:=Tryz.isAgg305
 z229:=Tryz.sizeOf305
 v229:=Tryz.zeroValue305 }
open Go.Sort Go.RowKit in
theorem Tryz.sort_Ints(ET a cap:Nat)(zs:List Int)(w:World)(d:Holds (Value.int .i64) w ET a zs.toArray)(b:ET<w.heap.size)(c:zs.length<4611686018427387904):
 Calls Tryz.prog 122 #[.slice (some ⟨ET,a,none⟩) zs.length cap] w fun e f=>
  e= .returned (.tuple #[])∧ ∃n os,f=grow (putRow (Value.int .i64) (Sort.ahead w n) ET a (zs.mergeSort fun x y=>decide (x≤y)).toArray) os:=Any.sort_Ints Tryz.XN ET a cap zs w d b c
def Tryz.TT:Go.Shelf.Ren:=⟨fun|6=>151|10=>171|11=>172|12=>173|13=>174|14=>175|24=>208|25=>209|26=>210|27=>211|28=>212|29=>213|30=>214|31=>215|32=>216|33=>217|34=>241|35=>242|36=>243|37=>244|38=>245|39=>258|n=>n,fun|20=>20|26=>273|35=>295|0=>0|37=>297|3=>3|41=>300|44=>303|49=>143|51=>324|4=>4|54=>327|53=>326|58=>288|5=>5|9=>9|60=>349|64=>353|66=>361|67=>305|17=>17|32=>292|33=>293|82=>378|12=>12|75=>371|76=>372|77=>373|78=>374|79=>375|80=>376|n=>n,fun|n=>n⟩
theorem Tryz.RY:Go.Proofs.LaysGg.n6 Tryz.prog Tryz.TT:= {
 mixed:=by kernel_rfl
 f6:=Tryz.func151.trans (congrArg some (by kernel_rfl))
 f10:=Tryz.func171.trans (congrArg some (by kernel_rfl))
 f11:=Tryz.func172.trans (congrArg some (by kernel_rfl))
 f12:=Tryz.func173.trans (congrArg some (by kernel_rfl))
 f13:=Tryz.func174.trans (congrArg some (by kernel_rfl))
 f14:=Tryz.func175.trans (congrArg some (by kernel_rfl))
 f24:=Tryz.func208.trans (congrArg some (by kernel_rfl))
 f25:=Tryz.func209.trans (congrArg some (by kernel_rfl))
 f26:=Tryz.func210.trans (congrArg some (by kernel_rfl))
 f27:=Tryz.func211.trans (congrArg some (by kernel_rfl))
 f28:=Tryz.func212.trans (congrArg some (by kernel_rfl))
 f29:=Tryz.func213.trans (congrArg some (by kernel_rfl))
 f30:=Tryz.func214.trans (congrArg some (by kernel_rfl))
 f31:=Tryz.func215.trans (congrArg some (by kernel_rfl))
 f32:=Tryz.func216.trans (congrArg some (by kernel_rfl))
 f33:=Tryz.func217.trans (congrArg some (by kernel_rfl))
 f34:=Tryz.func241.trans (congrArg some (by kernel_rfl))
 f35:=Tryz.func242.trans (congrArg some (by kernel_rfl))
 f36:=Tryz.func243.trans (congrArg some (by kernel_rfl))
 f37:=Tryz.func244.trans (congrArg some (by kernel_rfl))
 f38:=Tryz.func245.trans (congrArg some (by kernel_rfl))
 f39:=Tryz.func258.trans (congrArg some (by kernel_rfl))
 t0:=Tryz.underlying0
 a0:=Tryz.isAgg0
 z0:=Tryz.sizeOf0
 v0:=Tryz.zeroValue0
 i0:=by kernel_rfl
 t3:=Tryz.underlying3
 a3:=Tryz.isAgg3
 z3:=Tryz.sizeOf3
 v3:=Tryz.zeroValue3
 i3:=by kernel_rfl
 t4:=Tryz.underlying4
 a4:=Tryz.isAgg4
 z4:=Tryz.sizeOf4
 v4:=Tryz.zeroValue4
 i4:=by kernel_rfl
 t5:=Tryz.underlying5
 a5:=Tryz.isAgg5
 z5:=Tryz.sizeOf5
 v5:=Tryz.zeroValue5
 i5:=by kernel_rfl
 t9:=Tryz.underlying9
 a9:=Tryz.isAgg9
 z9:=Tryz.sizeOf9
 v9:=Tryz.zeroValue9
 i9:=by kernel_rfl
 t12:=Tryz.underlying12
 a12:=Tryz.isAgg12
 z12:=Tryz.sizeOf12
 v12:=Tryz.zeroValue12
 i12:=by kernel_rfl
 t17:=Tryz.underlying17
 a17:=Tryz.isAgg17
 z17:=Tryz.sizeOf17
 v17:=Tryz.zeroValue17
 i17:=by kernel_rfl
 t20:=Tryz.underlying20
 a20:=Tryz.isAgg20
 z20:=Tryz.sizeOf20
 v20:=Tryz.zeroValue20
 i20:=by kernel_rfl
 t26:=Tryz.underlying273
 a26:=Tryz.isAgg273
 z26:=Tryz.sizeOf273
 v26:=Tryz.zeroValue273
 i26:=by kernel_rfl
 t32:=Tryz.underlying292
 a32:=Tryz.isAgg292
 z32:=Tryz.sizeOf292
 v32:=Tryz.zeroValue292
 i32:=by kernel_rfl
 t33:=Tryz.underlying293
 a33:=Tryz.isAgg293
 z33:=Tryz.sizeOf293
 v33:=Tryz.zeroValue293
 i33:=by kernel_rfl
 t35:=Tryz.underlying295
 a35:=Tryz.isAgg295
 z35:=Tryz.sizeOf295
 v35:=Tryz.zeroValue295
 i35:=by kernel_rfl
 t37:=Tryz.underlying297
 a37:=Tryz.isAgg297
 z37:=Tryz.sizeOf297
 v37:=Tryz.zeroValue297
 i37:=by kernel_rfl
 t41:=Tryz.underlying300
 a41:=Tryz.isAgg300
 z41:=Tryz.sizeOf300
 v41:=Tryz.zeroValue300
 i41:=by kernel_rfl
 t44:=Tryz.underlying303
 a44:=Tryz.isAgg303
 z44:=Tryz.sizeOf303
 v44:=Tryz.zeroValue303
 i44:=by kernel_rfl
 t49:=Tryz.underlying143
 a49:=Tryz.isAgg143
 z49:=Tryz.sizeOf143
 v49:=Tryz.zeroValue143
 i49:=by kernel_rfl
 t51:=Tryz.underlying324
 a51:=Tryz.isAgg324
 z51:=Tryz.sizeOf324
 v51:=Tryz.zeroValue324
 i51:=by kernel_rfl
 t53:=Tryz.underlying326
 a53:=Tryz.isAgg326
 z53:=Tryz.sizeOf326
 v53:=Tryz.zeroValue326
 i53:=by kernel_rfl
 t54:=Tryz.underlying327
 a54:=Tryz.isAgg327
 z54:=Tryz.sizeOf327
 v54:=Tryz.zeroValue327
 i54:=by kernel_rfl
 t58:=Tryz.underlying288
 a58:=Tryz.isAgg288
 z58:=Tryz.sizeOf288
 v58:=Tryz.zeroValue288
 i58:=by kernel_rfl
 t60:=Tryz.underlying349
 a60:=Tryz.isAgg349
 z60:=Tryz.sizeOf349
 v60:=Tryz.zeroValue349
 i60:=by kernel_rfl
 t64:=Tryz.underlying353
 a64:=Tryz.isAgg353
 z64:=Tryz.sizeOf353
 v64:=Tryz.zeroValue353
 i64:=by kernel_rfl
 t66:=Tryz.underlying361
 a66:=Tryz.isAgg361
 z66:=Tryz.sizeOf361
 v66:=Tryz.zeroValue361
 i66:=by kernel_rfl
 t67:=Tryz.underlying305
 a67:=Tryz.isAgg305
 z67:=Tryz.sizeOf305
 v67:=Tryz.zeroValue305
 i67:=by kernel_rfl
 t75:=Tryz.underlying371
 a75:=Tryz.isAgg371
 z75:=Tryz.sizeOf371
 v75:=Tryz.zeroValue371
 i75:=by kernel_rfl
 t76:=Tryz.underlying372
 a76:=Tryz.isAgg372
 z76:=Tryz.sizeOf372
 v76:=Tryz.zeroValue372
 i76:=by kernel_rfl
 t77:=Tryz.underlying373
 a77:=Tryz.isAgg373
 z77:=Tryz.sizeOf373
 v77:=Tryz.zeroValue373
 i77:=by kernel_rfl
 t78:=Tryz.underlying374
 a78:=Tryz.isAgg374
 z78:=Tryz.sizeOf374
 v78:=Tryz.zeroValue374
 i78:=by kernel_rfl
 t79:=Tryz.underlying375
 a79:=Tryz.isAgg375
 z79:=Tryz.sizeOf375
 v79:=Tryz.zeroValue375
 i79:=by kernel_rfl
 t80:=Tryz.underlying376
 a80:=Tryz.isAgg376
 z80:=Tryz.sizeOf376
 v80:=Tryz.zeroValue376
 i80:=by kernel_rfl
 t82:=Tryz.underlying378
 a82:=Tryz.isAgg378
 z82:=Tryz.sizeOf378
 v82:=Tryz.zeroValue378
 i82:=by kernel_rfl }
open Go.RowKit Go.Sort in
theorem Tryz.sort_Ints_none(p:Option Addr)(cap:Nat)(w:World):
 Calls Tryz.prog 122 #[.slice p 0 cap] w fun e a=>e= .returned (.tuple #[])∧a=w:=Any.sort_Ints_none Tryz.XN p cap w
def Tryz.Qf:Go.Shelf.Ren:=⟨fun|13=>168|24=>196|25=>197|12=>198|31=>235|19=>236|20=>237|21=>238|22=>239|23=>240|29=>256|30=>257|n=>n,fun|22=>26|3=>3|4=>4|0=>0|5=>5|9=>9|33=>300|40=>359|39=>143|n=>n,fun|0=>0|n=>n⟩
theorem Tryz.QJ:Go.Proofs.SlLaysB.n13 Tryz.prog Tryz.Qf:= {
 mixed:=by kernel_rfl
 f13:=Tryz.func168.trans (congrArg some (by kernel_rfl))
 f25:=Tryz.func197.trans (congrArg some (by kernel_rfl))
 t0:=Tryz.underlying0
 a0:=Tryz.isAgg0
 z0:=Tryz.sizeOf0
 v0:=Tryz.zeroValue0
 t3:=Tryz.underlying3
 a3:=Tryz.isAgg3
 z3:=Tryz.sizeOf3
 v3:=Tryz.zeroValue3
 t4:=Tryz.underlying4
 a4:=Tryz.isAgg4
 z4:=Tryz.sizeOf4
 v4:=Tryz.zeroValue4
 t5:=Tryz.underlying5
 a5:=Tryz.isAgg5
 z5:=Tryz.sizeOf5
 v5:=Tryz.zeroValue5
 t22:=Tryz.underlying26
 a22:=Tryz.isAgg26
 z22:=Tryz.sizeOf26
 v22:=Tryz.zeroValue26 }
end Go.Proofs
namespace Go.Proofs.YtfhbmblbidcmmaaGreat
open Go.RowKit Go.Sl
def Df(zs:List Int):List Int:=zs.mergeSort fun x y=>decide (x≤y)
theorem Vh{α:Type}[Inhabited α](enc:α→Value){b e n:Nat}{xs ys:List α}{sp:List Value}{F:Ab}{w:World}{os:Array Obj}(hs:Sat (block b e (xs.map enc++sp)*F) w)(hl:ys.length=xs.length):
 Sat (block b e (ys.map enc++sp)*F) (Go.Sort.grow (Go.Sort.putRow enc (Go.Sort.ahead w n) b 0 ys.toArray) os):=by
 have hw:=hs.EC
 have c:=Gh hw
 have a:(Go.Sort.putRow enc (Go.Sort.ahead w n) b 0 ys.toArray).heap.size=w.heap.size:=by simp[Go.Sort.putRow,Go.Sort.mapBlock,Go.Sort.ahead]
 refine hs.fD (by simp[hl]) ?_ ?_ rfl rfl rfl
 ·rw[Go.Sort.heap_grow_old _ _ (by rw[a];exact c)]
  simp only[Go.Sort.putRow,Go.Sort.mapBlock,Go.Sort.ahead,Array.getElem?_modify,if_true,hw,Option.map_some,Go.Sort.onCells]
  congr 2
  apply Array.ext
  ·simp[Go.Sort.putCells,hl]
  intro i h1 g
  simp only[Go.Sort.putCells,Array.getElem_mapIdx,Nat.zero_le,true_and,Nat.zero_add,List.size_toArray,Nat.sub_zero,List.getElem_toArray]
  grind
 intro k d f
 rw[Go.Sort.heap_grow_old _ _ (by rw[a];exact d)]
 grind [Go.Sort.putRow,Go.Sort.mapBlock,Go.Sort.ahead]
theorem JM(a:Option Addr)(n c:Nat)(zs:List Int)(F:Ab)(w:World)(hs:Sat (rw 3 1 (.slice a n c) (zs.map (Value.int .i64))*F) w)(hm:zs.length<4611686018427387904):
 Calls Tryz.prog 122 #[.slice a n c] w fun e k=>e= .returned (.tuple #[])∧Sat (rw 3 1 (.slice a n c) ((Df zs).map (Value.int .i64))*F) k:=by
 rcases hs.Cr with ⟨h1,d,m⟩|⟨g,n',l,sp,h1,d,m,o,p,f⟩
 · cases h1
   have:zs= []:=by simpa using d
   subst this
   refine (Tryz.sort_Ints_none none 0 w).mono fun e k ⟨h,b⟩=>⟨h,?_⟩
   subst b
   simpa[Df] using hs
 cases h1
 have t:n=zs.length:=by simpa using d.symm
 subst t
 have hw:=f.EC
 have s:Go.Sort.Holds (Value.int .i64) w g 0 zs.toArray:=by
  intro j i
  simp only[List.size_toArray] at i
  have q:Sat (cells g 0 (zs.map (Value.int .i64))*(Ev g 3 (zs.map (Value.int .i64)++sp).length*(cells g (zs.map (Value.int .i64)).length sp*F))) w:=f.eq (by rw[D3];ac_rfl)
  refine ⟨?_,by simp[World.frozen?,hw]⟩
  rw[q.DV j (.int .i64 zs[j]) (by simp[i])]
  simp[i]
 refine (Tryz.sort_Ints g 0 c zs w s (Gh hw) hm).mono fun e k ⟨h,u,os,b⟩=>⟨h,?_⟩
 subst b
 have hl:(Df zs).length=zs.length:=List.length_mergeSort zs
 have r:=Vh (Value.int .i64) (n:=u) (os:=os) (ys:=Df zs) f hl
 refine Sat.EA (sp:=sp) ?_ ?_ o p r
 · simp[hl]
 have:((zs.map (Value.int .i64))++sp).length=c*1:=m
 simp only[List.length_append,List.length_map,hl] at this⊢
 exact this
open Go.PS
def GH(ns:List Nd):List Int:=(ns.filter (·.J1)).map (·.key)
theorem Xa{l l':List Int}(h:l.Perm l'):Df l=Df l':=by
 have g: ∀a b c:Int,decide (a≤b)=true→decide (b≤c)=true→decide (a≤c)=true:=by intro a b c;simp;omega
 have d: ∀a b:Int,(decide (a≤b)||decide (b≤a))=true:=by intro a b;simp;omega
 have h1:=List.pairwise_mergeSort g d l
 have i:=List.pairwise_mergeSort g d l'
 have hp:(Df l).Perm (Df l'):=(List.mergeSort_perm l _).trans (h.trans (List.mergeSort_perm l' _).symm)
 exact hp.eq_of_pairwise (fun a b _ _ e f=>by simp at e f;omega) h1 i
theorem Zt{a:List (Int×Value)}{b:List Nd}(h:a.Perm (b.map kv)){i:Nat}{p:Int×Value}(hi:a[i]?=some p):
 ∃l1 n l2,b=l1++n::l2∧kv n=p∧(a.eraseIdx i).Perm ((l1++l2).map kv):=by
 have hm:=h.mem_iff.1 (List.mem_of_getElem? hi)
 obtain ⟨n,d,rfl⟩:=List.mem_map.1 hm
 obtain ⟨l1,l2,rfl⟩:=List.append_of_mem d
 refine ⟨l1,n,l2,rfl,rfl,?_⟩
 have h1:=F1 a i _ hi
 have c:((l1++n::l2).map kv).Perm (kv n::(l1++l2).map kv):=by simp
 exact (List.perm_cons _).1 (h1.symm.trans (h.trans c))
def JT(ns:List Nd)(b:List (Int×Value))(ks:List Int):Prop:= ∃a:List Nd,b.Perm (a.map kv)∧(∀n∈a,n∈ns)∧(ks++GH a).Perm (GH ns)∧ks.length+a.length≤ns.length
theorem JT.step{ns:List Nd}{c:List (Int×Value)}{ks:List Int}(h:JT ns c ks){i:Nat}{k:Int}{v:Value}(hi:c[i]?=some (k,v)):
 ∃n∈ns,k=n.key∧v= .pointer (some ⟨n.b,0,none⟩)∧ks.length<ns.length∧JT ns (c.eraseIdx i) (if n.J1 then ks++ [n.key] else ks):=by
 obtain ⟨g,h1,d,e,f⟩:=h
 obtain ⟨l1,n,l2,rfl,a,hp⟩:=Zt h1 hi
 simp only[kv,Prod.mk.injEq] at a
 simp only[List.length_append,List.length_cons] at f
 refine ⟨n,d n (by simp),a.1.symm,a.2.symm,by omega,l1++l2,hp,fun m hm=>d m (by simp only[List.mem_append,List.mem_cons] at hm⊢;rcases hm with h|h<;>simp[h]),?_,?_⟩
 ·refine List.Perm.trans ?_ e
  unfold GH
  grind
 grind
theorem p7{L M:Nat}{cap:Int}{ns:List Nd}{n:Nd}(a:n∈ns){o e:Obj}{d:Nat}{F:Ab}{w:World}(hs:Sat (raw M o*(raw d e*(core TL L M cap*(chain (ring L ns)*items TI ns)*F))) w):
 w.cell? ⟨n.b,2,none⟩=some (.bool n.J1):=by
 obtain ⟨l1,l2,rfl⟩:=List.append_of_mem a
 rw[DA,items] at hs
 unfold item at hs
 exact hs.c n.b 2
theorem Wo(L M:Nat)(cap:Int)(ns:List Nd)(F:Ab)(w:World)(hs:Sat (CP TL TI L M cap ns*F) w)(hn:ns.length≤4096):
 Calls Tryz.prog 100 #[.pointer (some ⟨L,0,none⟩)] w fun e w'=> ∃a n c,e= .returned (.slice a n c)∧Sat (rw 3 1 (.slice a n c) ((Df (GH ns)).map (Value.int .i64))*(CP TL TI L M cap ns*F)) w':=by
 obtain ⟨i0,E⟩:=XC
 have u:Sat (core TL L M cap*(J9 M ns*(chain (ring L ns)*items TI ns))*F) w:=hs
 have h6:=u.c L 6
 obtain ⟨ms,o,hp,ho,x⟩:=Sat.Gm (u.take (J9 M ns))
 obtain ⟨Z,hI,p⟩:=IV (P:=Tryz.prog) Tryz.underlying267 x.obj ho
 have U:=x.CW Z
 have q:Sat (raw M o*(raw w.heap.size Z*(core TL L M cap*(chain (ring L ns)*items TI ns)*F))) (w.alloc Z):=U.eq (by ac_rfl)
 clear U x u hs
 go_enter Tryz.func100,Tryz.ntmps100
 go_wp2
 go_loopg [3] ns.length (fun k out wr=> ∃(a:Option Addr)(ks:List Int)(c:Nat)(l:Obj)(b:List (Int×Value)),out= .slice a ks.length c∧Aside (k=b.length∧Iter A9 M o l ms b∧JT ns b ks)∧
  Sat (rw 3 1 (.slice a ks.length c) (ks.map (Value.int .i64))*(raw M o*(raw w.heap.size l*(core TL L M cap*(chain (ring L ns)*items TI ns)*F)))) wr)
 case atStart=>exact ⟨none,[],0,Z,ms,rfl,⟨by simpa using hp.length_eq.symm,hI,ns,hp,fun _ h=>h,by simp,by simp⟩,q.AG⟩
 obtain ⟨a,ks,c,l,b,rfl,A,r⟩:=hrel
 obtain ⟨G,m,hR⟩:=A.out
 have z:=r.eq (B:=raw M o*(raw w.heap.size l*(rw 3 1 (.slice a ks.length c) (ks.map (Value.int .i64))*(core TL L M cap*(chain (ring L ns)*items TI ns)*F)))) (by ac_rfl)
 clear hI q p h6
 rcases JI (P:=Tryz.prog) z m with ⟨T,t⟩|⟨i,k,v,W,w2,hi,t,D,y,Y⟩
 · subst T
   obtain ⟨a4,Q,_,R,I⟩:=hR
   have O:a4= []:=by have:=Q.length_eq;simpa using this.symm
   subst O
   have H:ks.Perm (GH ns):=by simpa[GH] using R
   have s:ks.length<4611686018427387904:=by simp at I;omega
   have j:=JM a ks.length c ks _ wr r s
   rw[Xa H] at j
   have X:=As m
   clear z m A Q R I H s r
   go_wp2_with (go_at_call 122;refine j.mono ?_;rintro e w3 ⟨rfl,q⟩)
   go_ret
   refine ⟨a,ks.length,c,rfl,?_⟩
   have g:=Sat.JA hp X.out.gQ (q.take (raw M o))
   refine Sat.Dx (B:=raw w.heap.size l) (g.eq ?_)
   unfold CP
   ac_rfl
 obtain ⟨n,a2,rfl,rfl,s,d⟩:=hR.step hi
 have c2:=p7 (F:=rw 3 1 (.slice a ks.length c) (ks.map (Value.int .i64))*F) a2 (y.eq (by ac_rfl))
 have J:(b.eraseIdx i).length<b.length:=by
  have:=(List.getElem?_eq_some_iff.1 hi).1
  rw[List.length_eraseIdx];split<;>omega
 have HL:Aside ((b.eraseIdx i).length<b.length∧gk=b.length):=⟨J,G⟩
 have X:=As D
 clear z m A r J G D hi hR
 cases hm:n.J1 with
 | false =>
   rw[hm] at c2 d
   have f:JT ns (b.eraseIdx i) ks:=by simpa using d
   have HR:=As f
   clear f
   clear hm d
   go_wp2
   go_roundg (b.eraseIdx i).length
   case measure=>have:=HL.out;omega
   case rel=>exact ⟨a,ks,c,W,_,rfl,⟨rfl,X.out,HR.out⟩,y.eq (by ac_rfl)⟩
 | true =>
   rw[hm] at c2 d
   have f:JT ns (b.eraseIdx i) (ks++ [n.key]):=by simpa using d
   have HR:=As f
   clear f
   clear hm d
   have g:=y.alloc #[.int .i64 n.key] 3
   have V:=g.take (rw 3 1 (.slice a ks.length c) (ks.map (Value.int .i64)))
   have hx:=Src.Oi (P:=Tryz.prog) g rfl
   clear g
   go_wp2_with (at_builtin;refine Af E rfl (.tmp 22) (.tmp 24) rfl rfl rfl V hx (by unfold maxLen;omega) (by omega) ?_;intro a' c' w' a3 K;clear K V hx)
   go_roundg (b.eraseIdx i).length
   case measure=>have:=HL.out;omega
   refine ⟨a',ks++ [n.key],c',W,_,by simp,⟨rfl,X.out,HR.out⟩,?_⟩
   simp only[List.length_append,List.length_cons,List.length_nil,List.map_append,List.map_cons,List.map_nil,Nat.zero_add]
   refine Sat.Dx (B:=block w2.heap.size 3 [.int .i64 n.key]) (a3.eq ?_)
   ac_rfl
structure It where
 key:Int
 pins:Int
 J1:Bool
def Fg(n:Nd):It:=⟨n.key,n.pins,n.J1⟩
def Bx(its:List It)(k:Int):Bool:=its.any fun n=>n.key==k
def Gk(its:List It)(k:Int):List It:=its.filter fun n=>n.key !=k
def Fe(its:List It)(k:Int):List It:=Gk its k++its.filter fun n=>n.key==k
def Ti(f:It→It)(its:List It)(k:Int):List It:=its.map fun n=>if n.key=k then f n else n
def NQ(its:List It):Option It:=its.find? fun n=>n.pins==0
def DB(its:List It)(k:Int):Bool:=its.any fun n=>n.key==k&&n.pins==0
def BJ(its:List It):List Int:=Df ((its.filter (·.J1)).map (·.key))
def D5(its:List It):List Int:=its.map (·.key)
def Bu(its:List It)(k:Int)(a:Bool):List It:=Ti (fun n=> { n with J1:=a }) its k
def C2(L:Nat)(cap:Int)(its:List It):Ab:=ex fun x:Nat×List Nd=>cZ (x.2.map Fg=its)*CP TL TI L x.1 cap x.2
theorem Sat.Ht{L:Nat}{cap:Int}{its:List It}{F:Ab}{w:World}(hs:Sat (C2 L cap its*F) w): ∃M ns,ns.map Fg=its∧Sat (CP TL TI L M cap ns*F) w:=by
 obtain ⟨⟨M,ns⟩,h⟩:=hs.Oa
 rw[Az] at h
 obtain ⟨h1,a⟩:=h.Ib
 grind
theorem Sat.Hu{L M:Nat}{cap:Int}{ns:List Nd}{its:List It}{F:Ab}{w:World}(h1:ns.map Fg=its)(hs:Sat (CP TL TI L M cap ns*F) w):Sat (C2 L cap its*F) w:=by
 refine Sat.Ob (M,ns) ?_
 rw[Az]
 exact Sat.LU h1 hs
theorem eL(ns:List Nd):(ns.map Fg).map (·.key)=ns.map (·.key):=by simp[Fg,Function.comp_def]
theorem Wd(ns:List Nd)(k:Int):Bx (ns.map Fg) k=hasB ns k:=by simp[Bx,hasB,Fg,List.any_map,Function.comp_def]
theorem aR(ns:List Nd)(k:Int):(Qg ns k).map Fg=Gk (ns.map Fg) k:=by simp[Gk,Qg,Fg,List.filter_map,Function.comp_def]
theorem jX(ns:List Nd)(k:Int):(Xn ns k).map Fg=Fe (ns.map Fg) k:=by simp[Xn,Fe,List.map_append,aR,Fg,List.filter_map,Function.comp_def]
theorem eQ(ns:List Nd)(k:Int)(a:Bool):(kA (fun n=> { n with J1:=a }) ns k).map Fg=Bu (ns.map Fg) k a:=by
 unfold kA Bu Ti
 rw[List.map_map,List.map_map]
 apply List.map_congr_left
 intro n _
 by_cases h:n.key=k<;>simp[Function.comp,Fg,h]
theorem jD(ns:List Nd):NQ (ns.map Fg)=(NR ns).map Fg:=by
 unfold NQ NR
 rw[List.find?_map];rfl
theorem dW(ns:List Nd)(k:Int):DB (ns.map Fg) k=ns.any fun n=>n.key==k&&n.pins==0:=by simp[DB,Fg,List.any_map,Function.comp_def]
theorem Zd(ns:List Nd):BJ (ns.map Fg)=Df (GH ns):=by simp[BJ,GH,Fg,List.filter_map,Function.comp_def]
structure Ey (its:List It):Prop where
 nd:(D5 its).Nodup
 pins: ∀n∈its,0≤n.pins
 len:its.length≤4096
theorem Ey.eK{ns:List Nd}(h:Ey (ns.map Fg)):Jj ns:=by
 have:=h.nd
 unfold D5 at this
 rw[eL] at this
 exact this
theorem Ey.kS{ns:List Nd}(h:Ey (ns.map Fg)): ∀n∈ns,0≤n.pins:=fun n a=>h.pins (Fg n) (List.mem_map.2 ⟨n,a,rfl⟩)
theorem jW(L:Nat)(cap:Int)(its:List It)(k:Int)(F:Ab)(w:World)(hs:Sat (C2 L cap its*F) w)(ok:Ey its):
 Calls Tryz.prog 180 #[.pointer (some ⟨L,0,none⟩),.int .i64 k] w fun e a=>e= .returned (.bool (Bx its k))∧Sat (C2 L cap (Fe its k)*F) a:=by
 obtain ⟨M,ns,rfl,h⟩:=Sat.Ht hs
 rw[Wd]
 exact (fZ L M cap ns k F w h ok.eK).mono fun e a ⟨h1,b⟩=>⟨h1,Sat.Hu (jX ns k) b⟩
theorem p'(L:Nat)(cap:Int)(its:List It)(k:Int)(a:Bool)(F:Ab)(w:World)(hs:Sat (C2 L cap its*F) w)(ok:Ey its):
 Calls Tryz.prog 148 #[.pointer (some ⟨L,0,none⟩),.int .i64 k,.bool a] w fun e b=>e= .returned (.bool (Bx its k))∧Sat (C2 L cap (Bu its k a)*F) b:=by
 obtain ⟨M,ns,rfl,h⟩:=Sat.Ht hs
 rw[Wd]
 exact (r8 L M cap ns k a F w h ok.eK).mono fun e b ⟨h1,c⟩=>⟨h1,Sat.Hu (eQ ns k a) c⟩
theorem gH(L:Nat)(cap:Int)(its:List It)(k:Int)(F:Ab)(w:World)(hs:Sat (C2 L cap its*F) w)(ok:Ey its):
 Calls Tryz.prog 164 #[.pointer (some ⟨L,0,none⟩),.int .i64 k] w fun e a=>e= .returned (.bool (DB its k))∧Sat (C2 L cap (if DB its k then Gk its k else its)*F) a:=by
 obtain ⟨M,ns,rfl,h⟩:=Sat.Ht hs
 rw[dW]
 refine (i6 L M cap ns k F w h ok.eK ok.kS).mono fun e a ⟨h1,b⟩=>⟨h1,Sat.Hu ?_ b⟩
 split
 ·exact aR ns k
 rfl
theorem XZ(L:Nat)(cap:Int)(its:List It)(F:Ab)(w:World)(hs:Sat (C2 L cap its*F) w):
 Calls Tryz.prog 252 #[.pointer (some ⟨L,0,none⟩)] w fun e a=>e= .returned (.tuple #[.int .i64 (((NQ its).map (·.key)).getD 0),.bool (NQ its).isSome])∧w=a:=by
 obtain ⟨M,ns,rfl,h⟩:=Sat.Ht hs
 have:=KN L M cap ns F w h
 unfold Zn Su at this
 rw[jD]
 simpa[Fg,Function.comp_def] using this
theorem XT(L:Nat)(cap:Int)(its:List It)(F:Ab)(w:World)(hs:Sat (C2 L cap its*F) w)(ok:Ey its):
 Calls Tryz.prog 100 #[.pointer (some ⟨L,0,none⟩)] w fun e b=> ∃a n c,e= .returned (.slice a n c)∧Sat (rw 3 1 (.slice a n c) ((BJ its).map (Value.int .i64))*(C2 L cap its*F)) b:=by
 obtain ⟨M,ns,rfl,h⟩:=Sat.Ht hs
 rw[Zd]
 refine (Wo L M cap ns F w h (by have:=ok.len;simpa using this)).mono ?_
 rintro e b ⟨a,n,c,rfl,d⟩
 refine ⟨a,n,c,rfl,?_⟩
 have f:=Sat.Hu (its:=ns.map Fg) rfl (d.eq (BD _ _ _))
 exact f.eq (BD _ _ _)
theorem lZ(L:Nat)(cap:Int)(its:List It)(k:Int)(F:Ab)(w:World)(hs:Sat (C2 L cap its*F) w)(ok:Ey its)(i:Bx its k=false)(d:(its.length:Int)≠cap):
 Calls Tryz.prog 230 #[.pointer (some ⟨L,0,none⟩),.int .i64 k] w fun e j=>e= .returned (.tuple #[.int .i64 0,.bool false,.int .i64 0])∧Sat (C2 L cap (its++ [⟨k,0,false⟩])*F) j:=by
 obtain ⟨M,ns,rfl,h⟩:=Sat.Ht hs
 rw[Wd] at i
 rw[List.length_map] at d
 refine (dM L M cap ns k F w h ok.eK).mono ?_
 rintro e j ⟨g,n,c,m,rfl,h1,l⟩
 rcases h1 with ⟨f,_⟩|⟨_,_,rfl,rfl,rfl,b,rfl⟩|⟨_,a,_⟩|⟨_,a,_⟩
 ·rw[i] at f;cases f
 ·exact ⟨rfl,Sat.Hu (by simp[Fg]) l⟩
 ·exact absurd a d
 exact absurd a d
