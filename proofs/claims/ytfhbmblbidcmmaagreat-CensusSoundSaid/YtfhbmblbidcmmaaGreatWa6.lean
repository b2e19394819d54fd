/- censusSound holds for every input. No condition. (part 6) -/
import Derived.Test.YtfhbmblbidcmmaaGreatWa5
import Derived.Deep.DeepCutAuto
import Derived.Deep.RegionLaw
set_option linter.all false
set_option maxRecDepth 100000
set_option maxHeartbeats 4000000
namespace Go.Proofs.YtfhbmblbidcmmaaGreat
open Go.RowKit Go.Sl Go.Dk
theorem Reads.from{B:Ab}{a:Option Addr}{n c:Nat}{l:List UInt8}(h:Reads B (.slice a n c) l)(lo:Nat)(h1:lo≤n):Reads B (.slice (AH a c lo 1) (n-lo) (c-lo)) (l.drop lo):=by
 intro F w hs
 have hb:=h F w hs
 obtain ⟨b,_⟩:=hb.n
 have:=hb.cut lo n h1 (Nat.le_refl _)
 rw[List.take_of_length_le (by simp;omega)] at this
 exact this
theorem Reads.to{B:Ab}{a:Option Addr}{n c:Nat}{l:List UInt8}(h:Reads B (.slice a n c) l)(hi:Nat)(h1:hi≤n):Reads B (.slice (AH a c 0 1) hi c) (l.take hi):=by
 intro F w hs
 have:=(h F w hs).cut 0 hi (by omega) h1
 simpa using this
def DP(nm:ByteArray)(k:Nat)(b:List UInt8)(j:Nat)(a:List Np):Prop:=DE a++FF nm (k+j) (b.drop j)=FF nm k b
theorem DP.zero(nm:ByteArray)(k:Nat)(b:List UInt8):DP nm k b 0 []:=by simp[DP,DE]
theorem DP.step{nm:ByteArray}{k:Nat}{b:List UInt8}{j:Nat}{a:List Np}(h:DP nm k b j a)(c:j<b.length)(v:Value):
 DP nm k b (j+Dk.part (k+j) (b.length-j)) (a++ [⟨v,⟨nm,k+j,some ((b.drop j).take (Dk.part (k+j) (b.length-j)))⟩⟩]):=by
 unfold DP at*
 rw[←h,MQ nm (k+j) (b.drop j) (by simp;omega)]
 simp[DE,Nat.add_assoc,List.drop_drop]
theorem DP.done{nm:ByteArray}{k:Nat}{b:List UInt8}{j:Nat}{a:List Np}(h:DP nm k b j a)(c:b.length≤j):DE a=FF nm k b:=by
 unfold DP at h
 rw[←h,List.drop_of_length_le c,JL,List.append_nil]
theorem Pz(v:Value)(nm:ByteArray)(k:Nat)(l:List UInt8)(a:notNil v):KQ ⟨v,⟨nm,k,some l⟩⟩=rw TB 1 v (A4 l):=by
 show cZ (notNil v)*rw TB 1 v (A4 l)=_
 have:cZ (notNil v)=1:=by
  funext h
  apply propext
  exact ⟨fun h=>h.2,fun h=>⟨a,h⟩⟩
 rw[this,Ay]
theorem Rw{e s:Nat}{a:Option Addr}{n c:Nat}{xs:List Value}{F:Ab}{w:World}(hs:Sat (rw e s (.slice a n c) xs*F) w)(ha:a≠none):notNil (.slice a n c):=by
 rcases hs.Cr with ⟨h1,_⟩|⟨g,n',b,sp,h1,_⟩
 ·cases h1;exact absurd rfl ha
 cases h1;exact ⟨g,_,_,rfl⟩
theorem V3(D M:Nat)(l1:List Nf)(x:Nf)(l2:List Nf)(pv:Value)(ps:List Np)(d:Dk)(k:Nat)(v:Value)(b:List UInt8)(B F:Ab)(w:World)(hB:Reads B v b)(hs:Sat (BC D M (l1++x::l2) pv ps d*(B*F)) w)
 (b0: ∀m∈l1,m.nm≠x.nm) (hf:Ct (l1++x::l2)=d.files) (W:lens (l1++x::l2)≤4611686018427387904)
 (b2:x.nm.size≤9223372036854775807) (hn:named x.nm=true) (hd:d.down=false) (hk:k≤x.f.now.length) (c2:0<b.length) (hb:b.length≤1099511627776) (hx:x.f.now.length≤1099511627776) (hp:ps.length≤1099511627776)
 (U:d.fits (some x.f) (max (x.f.now.length:Nat) (k+b.length:Nat))=0) (aj:d.stop=false) (h1: -4611686018427387904≤d.left) (a6:d.left≤9223372036854775807) (h2:0≤d.changes) (h3:d.changes≤4611686018427387904):
 Calls Tryz.prog 147 #[.pointer (some ⟨D,0,none⟩),.string x.nm,.int .i64 k,v] w fun e w'=> ∃nv an l,e= .returned (.int .i64 0)∧DE l=FF x.nm k b∧
  Sat (CE { x with f:= { x.f with now:=laid x.f.now k b },nv:=nv } *(AY D M an d.BV*(Dt an (ps++l)*(mp DO M ((l1++x::l2).map Gg)*(Bs l1*(Bs l2*(B*F))))))) w':=by
 obtain ⟨i0,E⟩:=Dp
 obtain ⟨i1,E1⟩:=j0
 obtain ⟨xa,xc,rfl,cd,ce⟩:=(hB _ _ (hs.take B)).len
 have X:=Fo D M l1 x l2 pv ps d false (B*F) w hs b0 b2 hn hd
 have y: ∀q:Int,q=max ((x.f.now.length:Nat):Int) ((k+b.length:Nat):Int)→Calls Tryz.prog 69 #[.pointer (some ⟨D,0,none⟩),.pointer (some ⟨x.b,0,none⟩),.int .i64 q] w fun e w'=>e= .returned (.int .i64 0)∧Sat (BC D M (l1++x::l2) pv ps d*(B*F)) w':=by
  rintro q rfl
  have:=Mz D M l1 x l2 pv ps d (max (x.f.now.length:Nat) (k+b.length:Nat)) (B*F) w hs hf W (by omega) (by omega)
  rw[U] at this
  exact this
 have HF:=As y
 clear y
 have c0:w.cell? ⟨x.b,0,none⟩=some x.nv:=by rw[CX] at hs;unfold CE at hs;exact hs.c x.b 0
 obtain ⟨va,vc,hv,cb,cc⟩: ∃a c,x.nv= .slice a x.f.now.length c∧x.f.now.length≤c∧c≤9223372036854775807:=by rw[CX] at hs;unfold CE at hs;exact GN (hs.take (rw TB 1 x.nv (A4 x.f.now)))
 rw[hv] at c0
 have HV:=As hv
 have bf:((b.length:Int)==0)=false:=by rw[beq_eq_false_iff_ne];omega
 have c7: ¬(x.f.now.length:Int)<k:=by omega
 clear hs hf W U hn hv
 go_enter Tryz.func147,Tryz.ntmps147
 go_wp2_with fail
 refine X.mono ?_
 rintro e w' ⟨rfl,rfl⟩
 go_upto_region 11 with (fail)
 go_cut [10] (fun b7 wx=>b7= .int .i64 0∧Sat (BC D M (l1++x::l2) pv ps d*(B*F)) wx)
 case first=>
  go_wp2_with (go_at_call 69;refine (HF.out _ ?_).mono ?_;omega;rintro e w1 ⟨rfl,Q⟩)
  all_goals
   go_meet
   exact ⟨rfl,Q⟩
 obtain ⟨rfl,Q⟩:=hcut
 clear HF X c0
 have a7:=Mr D M pv d _ _ (Q.eq (by rw[C1,Az])) aj h1 a6 h2 h3
 clear Q aj h1 a6 h2 h3
 go_wp2_with fail
 refine a7.mono ?_
 rintro e w2 ⟨rfl,ag⟩
 clear a7
 obtain ⟨R,HR⟩: ∃R,Aside (mp DO M ((l1++x::l2).map Gg)*(Bs l1*(Bs l2*F))=R):=⟨_,rfl⟩
 have a0:Sat (rw TB 1 (.slice va x.f.now.length vc) (A4 x.f.now)*(B*(Ev x.b TF 3*(Sl.cell x.b 0 (.slice va x.f.now.length vc)*(Sl.cell x.b 1 x.sv*(Sl.cell x.b 2 (.bool x.f.sure)*(rw TB 1 x.sv (A4 x.f.safe)*(AY D M pv d.BV*(Dt pv ps*R))))))))) w2:=by
  refine ag.eq ?_
  rw[←HR.out,CF,Bs]
  unfold CE
  rw[HV.out]
  ac_rfl
 have c0:=a0.c x.b 0
 have V:=XM _ x.f.now k (.slice xa b.length xc) b B _ hB w2 a0 (by omega) (by omega)
 clear ag
 go_wp2_with fail
 refine V.mono ?_
 rintro e w3 ⟨nv,rfl,z⟩
 obtain ⟨na,nc,ad,_,_⟩:=GN z
 obtain ⟨nl,aa⟩:=Aq ((laid x.f.now k b).length)
 rw[aa] at ad
 subst ad
 clear aa
 have k0:=z.c x.b 0
 have f0:=z.f x.b 0
 have t:=z.Kn x.b 0 (.slice na nl nc)
 unfold Dt at t
 rw[NZ] at t
 obtain ⟨pa,pn,pc,ae,Y,c8,c9⟩:=MP (t.take (rw TP 3 pv (Cg ps)))
 rw[MG] at Y
 obtain rfl:ps.length=pn:=by omega
 rw[ae] at t
 obtain ⟨R2,a5⟩: ∃R2,Aside (rw TB 1 (.slice na nl nc) (A4 (laid x.f.now k b))*(Ev x.b TF 3*(Sl.cell x.b 0 (.slice na nl nc)*(Sl.cell x.b 1 x.sv*(Sl.cell x.b 2 (.bool x.f.sure)*(rw TB 1 x.sv (A4 x.f.safe)*(X6 D M d.BV*R))))))=R2):=⟨_,rfl⟩
 have ah:Sat (Sl.cell D 6 (.slice pa ps.length pc)*(rw TP 3 (.slice pa ps.length pc) (Cg ps)*(B8 ps*(B*R2)))) (w3.setCell ⟨x.b,0,none⟩ (.slice na nl nc)):=t.eq (by rw[←a5.out];ac_rfl)
 clear a0 c0 V z t ae Y
 go_wp2_with fail
 go_loopg [2,3] b.length (fun g t2 t3 wr=> ∃(j:Nat)(ya:Option Addr)(L:Nat)(J:Option Addr)(K:Nat)(l:List Np),t2= .int .i64 (k+j:Nat)∧t3= .slice ya (b.length-j) L∧j≤b.length∧l.length≤j∧
  Aside (g=b.length-j∧Reads B (.slice ya (b.length-j) L) (b.drop j)∧DP x.nm k b j l)∧
  Sat (Sl.cell D 6 (.slice J (ps.length+l.length) K)*(rw TP 3 (.slice J (ps.length+l.length) K) (Cg (ps++l))*(B8 (ps++l)*(B*R2)))) wr)
 case atStart=>exact ⟨0,xa,xc,pa,pc,[],rfl,rfl,by omega,by simp,⟨rfl,hB,DP.zero _ _ _⟩,by simpa using ah⟩
 obtain ⟨j,ya,L,J,K,l,rfl,rfl,hj,hq,A,H⟩:=hrel
 clear ah k0 f0
 obtain ⟨hg,hY,i⟩:=A.out
 by_cases az:j<b.length
 · have cY:(0:Int)<((b.length-j:Nat):Int):=by omega
   obtain ⟨p,O⟩:=Aq (Dk.part (k+j) (b.length-j))
   have b1:=J5 (k:=k+j) (n:=b.length-j) (by omega)
   rw[O] at b1
   have HS:=i.step az
   rw[O] at HS
   have av:=As HS
   have HP:=As O
   have b4:b.length-j≤L∧L≤maxLen:=by have:=(hY _ _ (H.take B)).n;omega
   have HY:=As hY
   have HG:=As hg
   clear HS O hY i A hg
   have a8:(if 64-((k:Int)+(j:Int))%64<((b.length-j:Nat):Int) then 64-((k:Int)+(j:Int))%64 else ((b.length-j:Nat):Int))=(p:Nat):=by
    have h:=HP.out
    unfold Dk.part at h
    split<;>omega
   have HI:=As a8
   clear a8
   have T:=Reads.to HY.out p (by omega)
   have a9:((b.drop j).take p).length=p:=by simp;omega
   have q1:=(Dl (e:=TB) (s:=1) H).drew
   have o:=(T _ _ (q1.take B)).src (P:=Tryz.prog)
   rw[a9] at o
   have ca:=Ln (P:=Tryz.prog) E (a:=ya) (n:=b.length-j) (c:=L) p (by omega)
   have ax:=E6 (P:=Tryz.prog) E (a:=ya) (n:=b.length-j) (c:=L) p (by omega)
   have c6:=H.c D 6
   have hD:D<wr.heap.size:=World.block_lt_of_cell? _ _ c6
   have bk:p≤L:=by omega
   have bi:ps.length+l.length≤2199023255552:=by omega
   clear a9 b4 T
   go_upto_region 23 with (fail)
   rw[HI.out]
   go_region_law first
    |(refine A6 E rfl (.tmp 92) (.tmp 95) rfl rfl rfl q1 o (by unfold maxLen;omega) (by omega) ?_;intro Z c3 w3 G ab;have HN:Aside (notNil (.slice Z p c3)):=(by have hz:=Rw G (by intro e;exact absurd (ab.1 e).1 (by simp));simpa using hz:notNil (.slice Z p c3));simp only[Nat.zero_add,List.nil_append] at G;have d6:=G.c D 6;have c1:D<w3.heap.size:=World.block_lt_of_cell? _ _ d6;have a1:=G.alloc #[.string x.nm,.int .i64 ((k:Int)+(j:Int)),.slice Z p c3] TP;have I:=Src.new (P:=Tryz.prog) (s:=3) a1 rfl (by intro u hu;simp at hu;rcases hu with rfl|rfl|rfl<;>rfl);have ai:=a1.take (rw TP 3 (.slice J (ps.length+l.length) K) (Cg (ps++l)));clear ab a1)
    |(refine A6 E1 rfl (.tmp 89) (.tmp 98) rfl rfl rfl ai I (by unfold maxLen;omega) (by omega) ?_;intro a4 c4 w4 r ac;have e6:=r.c D 6;have f6:=r.f D 6;clear ac)
   all_goals
    have af:=r.Kn D 6 (.slice a4 (ps.length+l.length+1) c4)
    clear G ai r I o q1 d6 H
    go_wp2_with fail
    go_quiet (fail)
    go_wp2
    go_roundg (b.length-(j+p))
    case measure=>have:=HG.out;omega
    refine ⟨j+p,AH ya L p 1,L-p,a4,c4,l++ [⟨.slice Z p c3,⟨x.nm,k+j,some ((b.drop j).take p)⟩⟩],by go_num,by rw[Nat.sub_sub],by omega,by simp;omega,⟨rfl,?_,av.out _⟩,?_⟩
    ·have hz:=Reads.from HY.out p (by omega)
     rw[Nat.sub_sub,List.drop_drop] at hz
     exact hz
    rw[←List.append_assoc,IG,LS,Pz _ _ _ _ HN.out]
    have e7:Cg [(⟨.slice Z p c3,⟨x.nm,k+j,some ((b.drop j).take p)⟩⟩:Np)]= [.string x.nm,.int .i64 ((k:Int)+(j:Int)),.slice Z p c3]:=by simp[Cg,Sy]
    rw[e7,List.length_append]
    simp only[List.length_cons,List.length_nil,Nat.zero_add,←Nat.add_assoc]
    refine Sat.Dx (B:=block w3.heap.size TP [.string x.nm,.int .i64 ((k:Int)+(j:Int)),.slice Z p c3]) (Sat.drewN _ (af.eq ?_))
    ac_rfl
 have cY: ¬(0:Int)<((b.length-j:Nat):Int):=by omega
 have HD:Aside (DE l=FF x.nm k b):=i.done (by omega)
 clear A hg hY i
 go_wp2
 go_ret
 refine ⟨rfl,.slice na nl nc,.slice J (ps.length+l.length) K,l,HD.out,H.eq ?_⟩
 rw[←a5.out,←HR.out,NZ]
 unfold CE Dt
 dsimp only
 simp only[List.map_append,List.map_cons]
 ac_rfl
theorem ZK{M D:Nat}{ms:List (ByteArray×Value)}(nm:ByteArray){G:Ab}{w:World}(hs:Sat (mp DO M ms*G) w):
 ∃g,(Instr.mapUpdate jZ (.map (some M)) (.string nm) (.pointer (some ⟨w.heap.size,0,none⟩))).run Tryz.prog (w.alloc (.cells #[.slice none 0 0,.slice none 0 0,.bool false] TF))= .ok () g∧
  Sat (CE ⟨w.heap.size,nm,Dk.Jv,.slice none 0 0,.slice none 0 0⟩*(mp DO M (CT nm (.pointer (some ⟨w.heap.size,0,none⟩)) ms)*G)) g:=by
 have c:=(((hs.alloc #[.slice none 0 0,.slice none 0 0,.bool false] TF).AG (e:=TB) (s:=1)).AG (e:=TB) (s:=1))
 obtain ⟨o,i,a⟩:=(c.take (mp DO M ms)).Cx
 obtain ⟨o',b,f⟩:=CJ (P:=Tryz.prog) RW Tryz.underlying148 a.obj i nm (.pointer (some ⟨w.heap.size,0,none⟩))
 refine ⟨_,f,?_⟩
 have d:=Sat.Eo b (a.GZ o')
 refine d.eq ?_
 unfold CE Dk.Jv
 simp only[block,Sl.cells,Bg,List.length_cons,List.length_nil,Nat.zero_add,Nat.reduceAdd,A4,List.map_nil]
 ac_rfl
theorem Xt(D M:Nat)(ns:List Nf)(nm:ByteArray)(pv:Value)(ps:List Np)(d:Dk)(k:Nat)(v:Value)(b:List UInt8)(B F:Ab)(w:World)(hB:Reads B v b)(hs:Sat (BC D M ns pv ps d*(B*F)) w)
 (b2: ∀m∈ns,m.nm≠nm) (hf:Ct ns=d.files) (W:lens ns≤4611686018427387904)
 (b4:nm.size≤9223372036854775807) (hn:named nm=true) (hd:d.down=false) (hk:k≤0) (c1:0<b.length) (hb:b.length≤1099511627776) (hp:ps.length≤1099511627776)
 (U:d.fits none (max ((0:Nat):Int) ((k+b.length:Nat):Int))=0) (ak:d.stop=false) (h1: -4611686018427387904≤d.left) (a8:d.left≤9223372036854775807) (h2:0≤d.changes) (h3:d.changes≤4611686018427387904):
 Calls Tryz.prog 147 #[.pointer (some ⟨D,0,none⟩),.string nm,.int .i64 k,v] w fun e w'=> ∃xb nv ao l,e= .returned (.int .i64 0)∧DE l=FF nm k b∧
  Sat (CE ⟨xb,nm,⟨laid [] k b,[],false⟩,nv,.slice none 0 0⟩*(AY D M ao d.BV*(Dt ao (ps++l)*(mp DO M (CT nm (.pointer (some ⟨xb,0,none⟩)) (ns.map Gg))*(Bs ns*(B*F)))))) w':=by
 obtain ⟨i0,E⟩:=Dp
 obtain ⟨i1,E1⟩:=j0
 obtain ⟨xa,xc,rfl,cc,cd⟩:=(hB _ _ (hs.take B)).len
 have X:=LC D M ns pv ps d nm (B*F) w hs b2 b4 hn hd
 have HF:Aside (∀q:Int,q=max ((0:Nat):Int) ((k+b.length:Nat):Int)→Calls Tryz.prog 69 #[.pointer (some ⟨D,0,none⟩),.pointer none,.int .i64 q] w fun e w'=>e= .returned (.int .i64 0)∧Sat (BC D M ns pv ps d*(B*F)) w'):=by
  rintro q rfl
  have:=My D M ns pv ps d (max ((0:Nat):Int) ((k+b.length:Nat):Int)) (B*F) w hs hf W (by omega) (by omega)
  rw[U] at this
  exact this
 have bg:((b.length:Int)==0)=false:=by rw[beq_eq_false_iff_ne];omega
 have c7: ¬(0:Int)<k:=by omega
 clear hs hf W U hn
 go_enter Tryz.func147,Tryz.ntmps147
 go_wp2_with fail
 refine X.mono ?_
 rintro e w' ⟨rfl,rfl⟩
 go_upto_region 11 with (fail)
 go_cut [10] (fun b8 wx=>b8= .int .i64 0∧Sat (BC D M ns pv ps d*(B*F)) wx)
 case first=>
  go_wp2_with (go_at_call 69;refine (HF.out _ ?_).mono ?_;omega;rintro e w1 ⟨rfl,O⟩)
  all_goals
   go_meet
   exact ⟨rfl,O⟩
 obtain ⟨rfl,O⟩:=hcut
 clear HF X
 have a9:=Mr D M pv d _ _ (O.eq (by rw[C1,Az])) ak h1 a8 h2 h3
 clear O ak h1 a8 h2 h3
 go_wp2_with fail
 refine a9.mono ?_
 rintro e o ⟨rfl,Q⟩
 clear a9
 have Z:Sat (mp DO M (ns.map Gg)*(AY D M pv d.BV*(Bs ns*(Dt pv ps*(B*F))))) o:=Q.eq (by ac_rfl)
 obtain ⟨ap,cb,a0⟩:=ZK (D:=D) nm Z
 have c5:o.cell? ⟨D,5,none⟩=some (.map (some M)):=by unfold AY at Q;exact Q.c D 5
 have bx:D<o.heap.size:=World.block_lt_of_cell? _ _ c5
 clear Q Z
 obtain ⟨R,HR⟩: ∃R,Aside (mp DO M (CT nm (.pointer (some ⟨o.heap.size,0,none⟩)) (ns.map Gg))*(Bs ns*F)=R):=⟨_,rfl⟩
 have a2:Sat (rw TB 1 (.slice none 0 0) (A4 [])*(B*(Ev o.heap.size TF 3*(Sl.cell o.heap.size 0 (.slice none 0 0)*(Sl.cell o.heap.size 1 (.slice none 0 0)*(Sl.cell o.heap.size 2 (.bool false)*(rw TB 1 (.slice none 0 0) (A4 [])*(AY D M pv d.BV*(Dt pv ps*R))))))))) ap:=by
  refine a0.eq ?_
  rw[←HR.out]
  unfold CE Dk.Jv
  dsimp only
  ac_rfl
 have c0:=a2.c o.heap.size 0
 have V:=XM _ [] k (.slice xa b.length xc) b B _ hB ap a2 (by simp) (by omega)
 clear a0
 go_wp2_with fail
 refine V.mono ?_
 rintro e w3 ⟨nv,rfl,y⟩
 obtain ⟨na,nc,af,_,_⟩:=GN y
 obtain ⟨nl,ac⟩:=Aq ((laid [] k b).length)
 rw[ac] at af
 subst af
 clear ac
 have k0:=y.c o.heap.size 0
 have f0:=y.f o.heap.size 0
 have x:=y.Kn o.heap.size 0 (.slice na nl nc)
 unfold Dt at x
 rw[NZ] at x
 obtain ⟨pa,pn,pc,ag,Y,c8,c9⟩:=MP (x.take (rw TP 3 pv (Cg ps)))
 rw[MG] at Y
 obtain rfl:ps.length=pn:=by omega
 rw[ag] at x
 obtain ⟨R2,a7⟩: ∃R2,Aside (rw TB 1 (.slice na nl nc) (A4 (laid [] k b))*(Ev o.heap.size TF 3*(Sl.cell o.heap.size 0 (.slice na nl nc)*(Sl.cell o.heap.size 1 (.slice none 0 0)*(Sl.cell o.heap.size 2 (.bool false)*(rw TB 1 (.slice none 0 0) (A4 [])*(X6 D M d.BV*R))))))=R2):=⟨_,rfl⟩
 have ai:Sat (Sl.cell D 6 (.slice pa ps.length pc)*(rw TP 3 (.slice pa ps.length pc) (Cg ps)*(B8 ps*(B*R2)))) (w3.setCell ⟨o.heap.size,0,none⟩ (.slice na nl nc)):=x.eq (by rw[←a7.out];ac_rfl)
 clear a2 c0 V y x ag Y
 go_wp2_with fail
 go_loopg [2,3] b.length (fun g t2 t3 wr=> ∃(j:Nat)(ya:Option Addr)(K:Nat)(I:Option Addr)(J:Nat)(l:List Np),t2= .int .i64 (k+j:Nat)∧t3= .slice ya (b.length-j) K∧j≤b.length∧l.length≤j∧
  Aside (g=b.length-j∧Reads B (.slice ya (b.length-j) K) (b.drop j)∧DP nm k b j l)∧
  Sat (Sl.cell D 6 (.slice I (ps.length+l.length) J)*(rw TP 3 (.slice I (ps.length+l.length) J) (Cg (ps++l))*(B8 (ps++l)*(B*R2)))) wr)
 case atStart=>exact ⟨0,xa,xc,pa,pc,[],rfl,rfl,by omega,by simp,⟨rfl,hB,DP.zero _ _ _⟩,by simpa using ai⟩
 obtain ⟨j,ya,K,I,J,l,rfl,rfl,hj,hq,A,G⟩:=hrel
 clear ai k0 f0
 obtain ⟨hg,hY,i⟩:=A.out
 by_cases b1:j<b.length
 · have cY:(0:Int)<((b.length-j:Nat):Int):=by omega
   obtain ⟨p,L⟩:=Aq (Dk.part (k+j) (b.length-j))
   have b3:=J5 (k:=k+j) (n:=b.length-j) (by omega)
   rw[L] at b3
   have HS:=i.step b1
   rw[L] at HS
   have ax:=As HS
   have HP:=As L
   have b5:b.length-j≤K∧K≤maxLen:=by have:=(hY _ _ (G.take B)).n;omega
   have HY:=As hY
   have HG:=As hg
   clear HS L hY i A hg
   have aa:(if 64-((k:Int)+(j:Int))%64<((b.length-j:Nat):Int) then 64-((k:Int)+(j:Int))%64 else ((b.length-j:Nat):Int))=(p:Nat):=by
    have h:=HP.out
    unfold Dk.part at h
    split<;>omega
   have HI:=As aa
   clear aa
   have T:=Reads.to HY.out p (by omega)
   have ab:((b.drop j).take p).length=p:=by simp;omega
   have q1:=(Dl (e:=TB) (s:=1) G).drew
   have r:=(T _ _ (q1.take B)).src (P:=Tryz.prog)
   rw[ab] at r
   have ca:=Ln (P:=Tryz.prog) E (a:=ya) (n:=b.length-j) (c:=K) p (by omega)
   have az:=E6 (P:=Tryz.prog) E (a:=ya) (n:=b.length-j) (c:=K) p (by omega)
   have c6:=G.c D 6
   have hD:D<wr.heap.size:=World.block_lt_of_cell? _ _ c6
   have bl:p≤K:=by omega
   have bj:ps.length+l.length≤2199023255552:=by omega
   clear ab b5 T
   go_upto_region 23 with (fail)
   rw[HI.out]
   go_region_law first
    |(refine A6 E rfl (.tmp 92) (.tmp 95) rfl rfl rfl q1 r (by unfold maxLen;omega) (by omega) ?_;intro a3 c3 w3 z ad;have HN:Aside (notNil (.slice a3 p c3)):=(by have hz:=Rw z (by intro e;exact absurd (ad.1 e).1 (by simp));simpa using hz:notNil (.slice a3 p c3));simp only[Nat.zero_add,List.nil_append] at z;have d6:=z.c D 6;have bz:D<w3.heap.size:=World.block_lt_of_cell? _ _ d6;have a5:=z.alloc #[.string nm,.int .i64 ((k:Int)+(j:Int)),.slice a3 p c3] TP;have H:=Src.new (P:=Tryz.prog) (s:=3) a5 rfl (by intro u hu;simp at hu;rcases hu with rfl|rfl|rfl<;>rfl);have aj:=a5.take (rw TP 3 (.slice I (ps.length+l.length) J) (Cg (ps++l)));clear ad a5)
    |(refine A6 E1 rfl (.tmp 89) (.tmp 98) rfl rfl rfl aj H (by unfold maxLen;omega) (by omega) ?_;intro a4 c4 w4 t ae;have e6:=t.c D 6;have f6:=t.f D 6;clear ae)
   all_goals
    have ah:=t.Kn D 6 (.slice a4 (ps.length+l.length+1) c4)
    clear z aj t H r q1 d6 G
    go_wp2_with fail
    go_quiet (fail)
    go_wp2
    go_roundg (b.length-(j+p))
    case measure=>have:=HG.out;omega
    refine ⟨j+p,AH ya K p 1,K-p,a4,c4,l++ [⟨.slice a3 p c3,⟨nm,k+j,some ((b.drop j).take p)⟩⟩],by go_num,by rw[Nat.sub_sub],by omega,by simp;omega,⟨rfl,?_,ax.out _⟩,?_⟩
    ·have hz:=Reads.from HY.out p (by omega)
     rw[Nat.sub_sub,List.drop_drop] at hz
     exact hz
    rw[←List.append_assoc,IG,LS,Pz _ _ _ _ HN.out]
    have e7:Cg [(⟨.slice a3 p c3,⟨nm,k+j,some ((b.drop j).take p)⟩⟩:Np)]= [.string nm,.int .i64 ((k:Int)+(j:Int)),.slice a3 p c3]:=by simp[Cg,Sy]
    rw[e7,List.length_append]
    simp only[List.length_cons,List.length_nil,Nat.zero_add,←Nat.add_assoc]
    refine Sat.Dx (B:=block w3.heap.size TP [.string nm,.int .i64 ((k:Int)+(j:Int)),.slice a3 p c3]) (Sat.drewN _ (ah.eq ?_))
    ac_rfl
 have cY: ¬(0:Int)<((b.length-j:Nat):Int):=by omega
 have HD:Aside (DE l=FF nm k b):=i.done (by omega)
 clear A hg hY i
 go_wp2
 go_ret
 refine ⟨rfl,o.heap.size,.slice na nl nc,.slice I (ps.length+l.length) J,l,HD.out,G.eq ?_⟩
 rw[←a7.out,←HR.out,NZ]
 unfold CE Dt
 dsimp only
 ac_rfl
theorem V2(D:Nat)(d:Dk)(nm:ByteArray)(k:Int)(v:Option Addr)(n y:Nat)(F:Ab)(w:World)(hs:Sat (Bv D d*F) w)(o:nm.size≤9223372036854775807)(hm:d.may nm false=0)(hr:k<0∨(Ff (d.get nm):Int)<k):
 Calls Tryz.prog 147 #[.pointer (some ⟨D,0,none⟩),.string nm,.int .i64 k,.slice v n y] w fun e p=>e= .returned (.int .i64 2)∧w=p:=by
 obtain ⟨M,ns,pv,ps,h1,q,g⟩:=Sat.DG hs
 rcases Hz d nm false with ⟨h,_⟩|⟨h,_⟩|⟨h,_⟩|⟨_,s,r,_⟩
 ·rw[h] at hm;cases hm
 ·rw[h] at hm;cases hm
 ·rw[h] at hm;cases hm
 rcases Gj ns nm with ⟨l1,x,l2,rfl,rfl,l⟩|l
 ·have m:Ff (d.get x.nm)=x.f.now.length:=by unfold Dk.get;rw[←h1,ED l];rfl
  rw[m] at hr
  have a:=Fo D M l1 x l2 pv ps d false F w g l o s r
  rw[CX] at g
  unfold CE at g
  have c0:=g.c x.b 0
  obtain ⟨z,B,t,_,_⟩:=GN (g.take (rw TB 1 x.nv (A4 x.f.now)))
  rw[t] at c0
  clear hs g h1 q m t hm
  by_cases j:k<0
  ·have i:decide (k<0)=true:=by simpa using j
   go_enter Tryz.func147,Tryz.ntmps147
   go_wp2_with (refine a.mono ?_;rintro e p ⟨rfl,rfl⟩)
   go_ret
   exact ⟨rfl,rfl⟩
  have i:decide (k<0)=false:=by simpa using j
  have u:(x.f.now.length:Int)<k:=by omega
  go_enter Tryz.func147,Tryz.ntmps147
  go_wp2_with (refine a.mono ?_;rintro e p ⟨rfl,rfl⟩)
  go_ret
  exact ⟨rfl,rfl⟩
 have m:Ff (d.get nm)=0:=by unfold Dk.get;rw[←h1,FQ l];rfl
 rw[m] at hr
 have a:=LC D M ns pv ps d nm F w g l o s r
 clear hs g h1 q m hm
 by_cases j:k<0
 ·have i:decide (k<0)=true:=by simpa using j
  go_enter Tryz.func147,Tryz.ntmps147
  go_wp2_with (refine a.mono ?_;rintro e p ⟨rfl,rfl⟩)
  go_ret
  exact ⟨rfl,rfl⟩
 have i:decide (k<0)=false:=by simpa using j
 have u:(0:Int)<k:=by omega
 go_enter Tryz.func147,Tryz.ntmps147
 go_wp2_with (refine a.mono ?_;rintro e p ⟨rfl,rfl⟩)
 go_ret
 exact ⟨rfl,rfl⟩
theorem V0(D:Nat)(d:Dk)(nm:ByteArray)(k:Nat)(s:Option Addr)(t:Nat)(F:Ab)(w:World)(hs:Sat (Bv D d*F) w)(l:nm.size≤9223372036854775807)(hm:d.may nm false=0)(hr:k≤Ff (d.get nm)):
 Calls Tryz.prog 147 #[.pointer (some ⟨D,0,none⟩),.string nm,.int .i64 k,.slice s 0 t] w fun e m=>e= .returned (.int .i64 0)∧w=m:=by
 obtain ⟨M,ns,pv,ps,h1,n,g⟩:=Sat.DG hs
 rcases Hz d nm false with ⟨h,_⟩|⟨h,_⟩|⟨h,_⟩|⟨_,p,o,_⟩
 ·rw[h] at hm;cases hm
 ·rw[h] at hm;cases hm
 ·rw[h] at hm;cases hm
 rcases Gj ns nm with ⟨l1,x,l2,rfl,rfl,i⟩|i
 ·have j:Ff (d.get x.nm)=x.f.now.length:=by unfold Dk.get;rw[←h1,ED i];rfl
  rw[j] at hr
  have a:=Fo D M l1 x l2 pv ps d false F w g i l p o
  rw[CX] at g
  unfold CE at g
  have c0:=g.c x.b 0
  obtain ⟨u,v,q,_,_⟩:=GN (g.take (rw TB 1 x.nv (A4 x.f.now)))
  rw[q] at c0
  clear hs g h1 n j q hm
  have r: ¬(x.f.now.length:Int)<k:=by omega
  go_enter Tryz.func147,Tryz.ntmps147
  go_wp2_with (refine a.mono ?_;rintro e m ⟨rfl,rfl⟩)
  go_ret
  exact ⟨rfl,rfl⟩
 have j:Ff (d.get nm)=0:=by unfold Dk.get;rw[←h1,FQ i];rfl
 rw[j] at hr
 have a:=LC D M ns pv ps d nm F w g i l p o
 clear hs g h1 n j hm
 have r: ¬(0:Int)<k:=by omega
 go_enter Tryz.func147,Tryz.ntmps147
 go_wp2_with (refine a.mono ?_;rintro e m ⟨rfl,rfl⟩)
 go_ret
 exact ⟨rfl,rfl⟩
theorem Qn(D M:Nat)(ns:List Nf)(pv:Value)(ps:List Np)(d:Dk)(nm:ByteArray)(k:Nat)(L:Option Addr)(n O:Nat)(F:Ab)(w:World)(hs:Sat (BC D M ns pv ps d*F) w)(t:Ct ns=d.files)(l:lens ns≤17592186044416)
 (y:nm.size≤9223372036854775807) (B:named nm=true) (J:d.down=false) (hr:k≤Ff (d.get nm)) (Q:0<n) (hb:n≤1099511627776) (q:Int) (hq:d.fits (d.get nm) (max (Ff (d.get nm)) (k+n))=q):
 (q≠0→Calls Tryz.prog 147 #[.pointer (some ⟨D,0,none⟩),.string nm,.int .i64 k,.slice L n O] w fun e o=>e= .returned (.int .i64 q)∧Sat (BC D M ns pv ps d*F) o)∧
 (q=0→d.stop=true→Calls Tryz.prog 147 #[.pointer (some ⟨D,0,none⟩),.string nm,.int .i64 k,.slice L n O] w fun e o=>e= .returned (.int .i64 8)∧Sat (BC D M ns pv ps { d with down:=true } *F) o):=by
 have I:((n:Int)==0)=false:=by rw[beq_eq_false_iff_ne];omega
 rcases Gj ns nm with ⟨l1,x,l2,rfl,rfl,v⟩|v
 · have p:d.get x.nm=some x.f:=by unfold Dk.get;rw[←t,ED v]
   have R:x.f.now.length≤17592186044416:=by
    have:lens (l1++x::l2)=lens (x::(l1++l2)):=Kb List.perm_middle
    rw[this,Hr] at l;omega
   have j:Ff (d.get x.nm)=x.f.now.length:=by rw[p];rfl
   rw[j] at hr hq
   rw[p] at hq
   have u:Aside (∀z:Int,z=max (x.f.now.length:Int) ((k:Int)+(n:Int))→Calls Tryz.prog 69 #[.pointer (some ⟨D,0,none⟩),.pointer (some ⟨x.b,0,none⟩),.int .i64 z] w fun e o=>e= .returned (.int .i64 q)∧Sat (BC D M (l1++x::l2) pv ps d*F) o):=by
    rintro z rfl
    have:=Mz D M l1 x l2 pv ps d (max (x.f.now.length:Int) ((k:Int)+(n:Int))) F w hs t (by omega) (by omega) (by omega)
    rw[hq] at this
    exact this
   have g:=Fo D M l1 x l2 pv ps d false F w hs v y B J
   have c0:w.cell? ⟨x.b,0,none⟩=some x.nv:=by rw[CX] at hs;unfold CE at hs;exact hs.c x.b 0
   obtain ⟨W,X,K,T,U⟩: ∃a c,x.nv= .slice a x.f.now.length c∧x.f.now.length≤c∧c≤9223372036854775807:=by rw[CX] at hs;unfold CE at hs;exact GN (hs.take (rw TB 1 x.nv (A4 x.f.now)))
   rw[K] at c0
   have P: ¬(x.f.now.length:Int)<k:=by omega
   clear hs t l B K hq j p
   constructor
   · intro m
     have G:(q !=0)=true:=by simpa using m
     clear m
     go_enter Tryz.func147,Tryz.ntmps147
     go_wp2_with fail
     refine g.mono ?_
     rintro e o ⟨rfl,rfl⟩
     go_wp2_with (go_at_call 69;refine (u.out _ ?_).mono ?_;omega;rintro e H ⟨rfl,i⟩)
     all_goals
      go_ret
      exact ⟨rfl,i⟩
   rintro rfl s
   go_enter Tryz.func147,Tryz.ntmps147
   go_wp2_with fail
   refine g.mono ?_
   rintro e o ⟨rfl,rfl⟩
   go_wp2_with first
    |(go_at_call 69;refine (u.out _ ?_).mono ?_;omega;rintro e H ⟨rfl,i⟩)
    |(go_at_call 149;refine (Jp D M pv d _ _ (i.eq (by rw[C1,Az])) s).mono ?_;rintro e V ⟨rfl,r⟩)
   all_goals
    go_ret
    exact ⟨rfl,r.eq (by rw[C1];ac_rfl)⟩
 have p:d.get nm=none:=by unfold Dk.get;rw[←t,FQ v]
 have j:Ff (d.get nm)=0:=by rw[p];rfl
 rw[j] at hr hq
 rw[p] at hq
 have u:Aside (∀z:Int,z=max ((0:Nat):Int) ((k:Int)+(n:Int))→Calls Tryz.prog 69 #[.pointer (some ⟨D,0,none⟩),.pointer none,.int .i64 z] w fun e o=>e= .returned (.int .i64 q)∧Sat (BC D M ns pv ps d*F) o):=by
  rintro z rfl
  have:=My D M ns pv ps d (max ((0:Nat):Int) ((k:Int)+(n:Int))) F w hs t (by omega) (by omega) (by omega)
  rw[hq] at this
  exact this
 have g:=LC D M ns pv ps d nm F w hs v y B J
 have P: ¬(0:Int)<k:=by omega
 clear hs t l B hq j p
 constructor
 · intro m
   have G:(q !=0)=true:=by simpa using m
   clear m
   go_enter Tryz.func147,Tryz.ntmps147
   go_wp2_with fail
   refine g.mono ?_
   rintro e o ⟨rfl,rfl⟩
   go_wp2_with (go_at_call 69;refine (u.out _ ?_).mono ?_;omega;rintro e H ⟨rfl,i⟩)
   all_goals
    go_ret
    exact ⟨rfl,i⟩
 rintro rfl s
 go_enter Tryz.func147,Tryz.ntmps147
 go_wp2_with fail
 refine g.mono ?_
 rintro e o ⟨rfl,rfl⟩
 go_wp2_with first
  |(go_at_call 69;refine (u.out _ ?_).mono ?_;omega;rintro e H ⟨rfl,i⟩)
  |(go_at_call 149;refine (Jp D M pv d _ _ (i.eq (by rw[C1,Az])) s).mono ?_;rintro e V ⟨rfl,r⟩)
 all_goals
  go_ret
  exact ⟨rfl,r.eq (by rw[C1];ac_rfl)⟩
theorem Ko(D:Nat)(d:Dk)(m:Nat)(nm:ByteArray)(k:Int)(v:Value)(b:List UInt8)(B F:Ab)(w:World)(P:Reads B v b)(hs:Sat (Bv D d*(B*F)) w)(g:nm.size≤9223372036854775807)(hb:b.length≤1099511627776)(ok:Ok m d)(R:m≤Mo):
 Calls Tryz.prog 147 #[.pointer (some ⟨D,0,none⟩),.string nm,.int .i64 k,v] w fun e r=>e= .returned (.int .i64 (d.write nm k b).1)∧Sat (Bv D (d.write nm k b).2*(B*F)) r:=by
 have W:m≤1099511627776:=R
 obtain ⟨U,V,rfl,a1,a2⟩:=(P _ _ (hs.take B)).len
 by_cases hm:d.may nm false=0
 ·by_cases hr:k<0∨(Ff (d.get nm):Int)<k
  ·have i:d.write nm k b=(2,d):=by unfold Dk.write;rw[if_neg (by simp[hm]),if_pos hr]
   rw[i]
   exact (V2 D d nm k U b.length V _ w hs g hm hr).mono fun e r ⟨h1,l⟩=>⟨h1,l▸hs⟩
  obtain ⟨k,rfl⟩:=Int.eq_ofNat_of_zero_le (show 0≤k by omega)
  have c:k≤Ff (d.get nm):=by omega
  by_cases n:b.length=0
  ·have i:d.write nm k b=(0,d):=by unfold Dk.write;rw[if_neg (by simp[hm]),if_neg hr,if_pos n]
   rw[i]
   have:=V0 D d nm k U V _ w hs g hm c
   rw[n]
   exact this.mono fun e r ⟨h1,l⟩=>⟨h1,l▸hs⟩
  rcases Hz d nm false with ⟨h,_⟩|⟨h,_⟩|⟨h,_⟩|⟨_,T,Q,_⟩
  ·rw[h] at hm;cases hm
  ·rw[h] at hm;cases hm
  ·rw[h] at hm;cases hm
  obtain ⟨M,ns,pv,ps,h1,l,u⟩:=Sat.DG hs
  have y:=XP ok h1
  have G:ps.length≤1099511627776:=by have:=ok.BN;rw[←l] at this;simp[DE] at this;omega
  have p:=Qn D M ns pv ps d nm k U b.length V (B*F) w u h1 y g T Q c (by omega) hb _ rfl
  by_cases hq:d.fits (d.get nm) (max (Ff (d.get nm)) ((k:Int)+b.length))=0
  ·cases o : d.stop with
   | true =>
    have i:d.write nm k b=(8, { d with down:=true }):=by unfold Dk.write;rw[if_neg (by simp[hm]),if_neg hr,if_neg n,if_neg (by simp[hq]),if_pos o]
    rw[i]
    exact (p.2 hq o).mono fun e r ⟨L,j⟩=>⟨L,Sat.CY (d:= { d with down:=true }) h1 l j⟩
   | false =>
    have i:d.write nm k b=(0,d.written nm k b):=by unfold Dk.write;rw[if_neg (by simp[hm]),if_neg hr,if_neg n,if_neg (by simp[hq]),if_neg (by simp[o])];rfl
    rw[i]
    rcases Gj ns nm with ⟨l1,x,l2,rfl,rfl,j⟩|j
    ·have s:d.get x.nm=some x.f:=by unfold Dk.get;rw[←h1,ED j]
     have t:Ff (d.get x.nm)=x.f.now.length:=by rw[s];rfl
     rw[t] at c hq
     rw[s] at hq
     have hx:x.f.now.length≤1099511627776:=(ok.sz (x.nm,x.f) (by rw[←h1];simp[Ct])).1
     refine (V3 D M l1 x l2 pv ps d k _ b B F w P u j h1 (by omega) g T Q c (by omega) hb hx G hq o (by have:=ok.left;omega) ok.left.2 ok.changes.1 (by have:=ok.changes;omega)).mono ?_
     rintro e r ⟨nv,a,H,rfl,O,I⟩
     refine ⟨rfl,?_⟩
     have J:(d.written x.nm k b).files=D9 x.nm { x.f with now:=laid x.f.now k b } d.files:=by unfold Dk.written;rw[s];rfl
     refine Sat.CY (M:=M) (ns:=l1++ { x with f:= { x.f with now:=laid x.f.now k b },nv:=nv } ::l2) (pv:=a) (ps:=ps++H) ?_ ?_ ?_
     ·rw[J,←h1,KE _ j];simp[Ct]
     ·show DE (ps++H)=d.BN++FF x.nm k b
      rw[←l,←O];simp[DE]
     refine I.eq ?_
     have K:AY D M a (d.written x.nm k b)=AY D M a d.BV:=rfl
     rw[C1,K,CF,Bs]
     have Y:(l1++ { x with f:= { x.f with now:=laid x.f.now k b },nv:=nv } ::l2).map Gg=(l1++x::l2).map Gg:=by simp[Gg]
     rw[Y]
     ac_rfl
    have s:d.get nm=none:=by unfold Dk.get;rw[←h1,FQ j]
    have t:Ff (d.get nm)=0:=by rw[s];rfl
    rw[t] at c hq
    rw[s] at hq
    refine (Xt D M ns nm pv ps d k _ b B F w P u j h1 (by omega) g T Q c (by omega) hb G hq o (by have:=ok.left;omega) ok.left.2 ok.changes.1 (by have:=ok.changes;omega)).mono ?_
    rintro e r ⟨X,nv,a,H,rfl,O,I⟩
    refine ⟨rfl,?_⟩
    have J:(d.written nm k b).files=D9 nm ⟨laid [] k b,[],false⟩ d.files:=by unfold Dk.written;rw[s];rfl
    refine Sat.CY (M:=M) (ns:=ns++ [⟨X,nm,⟨laid [] k b,[],false⟩,nv,.slice none 0 0⟩]) (pv:=a) (ps:=ps++H) ?_ ?_ ?_
    ·rw[J,←h1,Q9 _ j];simp[Ct]
    ·show DE (ps++H)=d.BN++FF nm k b
     rw[←l,←O];simp[DE]
    have Z:=Pk (n':=⟨X,nm,⟨laid [] k b,[],false⟩,nv,.slice none 0 0⟩) j
    rw[Z] at I
    refine I.eq ?_
    have K:AY D M a (d.written nm k b)=AY D M a d.BV:=rfl
    rw[C1,K,CF,Bs,Bs,Bg]
    ac_rfl
  have i:d.write nm k b=(d.fits (d.get nm) (max (Ff (d.get nm)) ((k:Int)+b.length)),d):=by unfold Dk.write;rw[if_neg (by simp[hm]),if_neg hr,if_neg n,if_pos hq]
  rw[i]
  exact (p.1 hq).mono fun e r ⟨L,j⟩=>⟨L,Sat.CY h1 l j⟩
 have i:d.write nm k b=(d.may nm false,d):=by unfold Dk.write;rw[if_pos hm]
 rw[i]
 obtain ⟨M,ns,pv,ps,h1,l,u⟩:=Sat.DG hs
 have z:=Og D M ns pv ps d nm false (B*F) w u h1 g hm
 have a0:(d.may nm false !=0)=true:=by simpa using hm
 clear u h1 l i hm ok
 generalize d.may nm false=q at*
 go_enter Tryz.func147,Tryz.ntmps147
 go_wp2_with (refine z.mono ?_;rintro e r ⟨rfl,rfl⟩)
 go_ret
 exact ⟨rfl,hs⟩
end Go.Proofs.YtfhbmblbidcmmaaGreat
namespace Go.Proofs.YtfhbmblbidcmmaaGreat
open Go.RowKit Go.Sl
theorem LR(x n:Int)(w:World)(h1:1≤n)(g:n≤4611686018427387904):
 Calls Tryz.prog 21 #[.int .i64 x,.int .i64 n] w fun e f=>e= .returned (.int .i64 (x%n))∧w=f:=by
 have hb:=Int.tmod_lt_of_pos x (show 0<n by omega)
 have b:=Int.lt_tmod_of_pos x (show 0<n by omega)
 have d:(n==0)=false:=by simp;omega
 by_cases h:x.tmod n<0
 · have e:x%n=x.tmod n+n:=by
    rw[Int.emod_eq_tmod]
    have hx: ¬0≤x:=fun a=>by have:=Int.tmod_nonneg n a;omega
    have c: ¬n∣x:=fun a=>by rw[Int.tmod_eq_zero_of_dvd a] at h;omega
    rw[if_neg (by simp[c];omega)]
    omega
   rw[e]
   clear e
   go_enter Tryz.func21,Tryz.ntmps21
   go_wp2
   go_ret
   exact ⟨rfl,rfl⟩
 have e:x%n=x.tmod n:=by
  rw[Int.emod_eq_tmod]
  rw[if_pos]
  · omega
  by_cases hx:0≤x
  · exact .inl hx
  right
  have i:(-x).tmod n= -x.tmod n:=Int.neg_tmod _ _
  have j:=Int.tmod_nonneg n (show 0≤ -x by omega)
  exact Int.dvd_of_tmod_eq_zero (by omega)
 rw[e]
 clear e
 go_enter Tryz.func21,Tryz.ntmps21
 go_wp2
 go_ret
 exact ⟨rfl,rfl⟩
def Ints(w:World)(v:Value)(zs:List Int):Prop:= ∃a c,v= .slice a zs.length c∧ ∀i z,zs[i]?=some z→ ∃b o,a=some ⟨b,o,none⟩∧w.cell? ⟨b,o+i,none⟩=some (.int .i64 z)
theorem Ints.len{w:World}{v:Value}{zs:List Int}(h:Ints w v zs): ∃a c,v= .slice a zs.length c:=by
 obtain ⟨a,c,h,_⟩:=h
 simp_all
theorem Ints.at{w:World}{a:Option Addr}{n c q:Nat}{zs:List Int}{z:Int}(h:Ints w (.slice a n c) zs)(hq:zs[q]?=some z): ∃b o,a=some ⟨b,o,none⟩∧w.cell? ⟨b,o+q,none⟩=some (.int .i64 z):=by
 obtain ⟨a',d,h1,e⟩:=h
 cases h1
 simp_all
theorem Ints.gR{w:World}{v:Value}{zs:List Int}{F:Ab}{e:Nat}(hs:Sat (rw e 1 v (zs.map (Value.int .i64))*F) w):Ints w v zs:=by
 rcases hs.Cr with ⟨h1,b,d⟩|⟨g,n',a,sp,h1,b,d,k,l,f⟩
 ·have:zs= []:=by simpa using b
  subst this
  exact ⟨none,0,h1,fun i z c=>by simp at c⟩
 have:n'=zs.length:=by simpa using b.symm
 subst this
 refine ⟨_,a,h1,fun i z c=>⟨g,0,rfl,?_⟩⟩
 have j:Sat (cells g 0 (zs.map (Value.int .i64))*(Ev g e (zs.map (Value.int .i64)++sp).length*(cells g (zs.map (Value.int .i64)).length sp*F))) w:=f.eq (by rw[D3];ac_rfl)
 exact j.DV i (.int .i64 z) (by simp[c])
open Go.Dk
theorem Nv(nm:ByteArray)(L:List Pc)(p:Pc):ofName nm (L++ [p])=if p.nm=nm then ofName nm L++ [p] else ofName nm L:=by
 unfold ofName
 have e:(p.nm==nm)=decide (p.nm=nm):=bytes_beq _ _
 grind
def OQ(L:List Pc)(s:ByteArray):Bool:=(ofName s L).any fun p=>p.b.isSome
def Mk(L:List Pc)(a:List (ByteArray×Value)):Prop:= ∀s,Cq s a=if OQ L s then some (.bool true) else none
theorem Zg[DecidableEq ByteArray](k s:ByteArray)(v:Value)(l:List (ByteArray×Value)):Cq s (CT k v l)=if s=k then some v else Cq s l:=by induction l with
 |nil=>simp only[CT,Cq]
 | cons p l b =>
  unfold CT
  by_cases a:k=p.1
  ·rw[if_pos a]
   simp only[Cq]
   simp_all
  rw[if_neg a]
  simp only[Cq,b]
  grind
theorem Mk.cut{L:List Pc}{a:List (ByteArray×Value)}(h:Mk L a){p:Pc}(hp:p.b=none):Mk (L++ [p]) a:=by
 intro s
 rw[h s]
 have:OQ (L++ [p]) s=OQ L s:=by
  unfold OQ
  rw[Nv]
  grind
 simp_all
theorem Mk.put{L:List Pc}{a:List (ByteArray×Value)}(h:Mk L a){p:Pc}(hp:p.b.isSome=true):Mk (L++ [p]) (CT p.nm (.bool true) a):=by
 intro s
 rw[Zg,h s]
 have:OQ (L++ [p]) s=if s=p.nm then true else OQ L s:=by
  unfold OQ
  rw[Nv]
  grind
 grind
end Go.Proofs.YtfhbmblbidcmmaaGreat
namespace Go.Proofs.YtfhbmblbidcmmaaGreat
open Go.Dk
theorem Lx{nm:ByteArray}{f:Fl}{p:ByteArray×Fl} : ∀{fs:List (ByteArray×Fl)},p∈D9 nm f fs→p=(nm,f)∨p∈fs
 | [],h=>by simp[D9] at h;exact .inl h
 | q :: l, h => by
  unfold D9 at h
  split at h
  ·grind
  rcases List.mem_cons.1 h with h|h
  ·simp_all
  rcases Lx h with h|h
  ·simp_all
  simp_all
theorem KF{nm:ByteArray}{f:Fl} : ∀{fs:List (ByteArray×Fl)},(fs.map (·.1)).Nodup→((D9 nm f fs).map (·.1)).Nodup
 | [],_=>by simp[D9]
 | q :: l, h => by
  simp only[List.map_cons,List.nodup_cons] at h
  unfold D9
  by_cases a:nm=q.1
  ·simp_all
  rw[if_neg a]
  simp only[List.map_cons,List.nodup_cons]
  refine ⟨?_,KF h.2⟩
  intro hm
  obtain ⟨p,hp,e⟩:=List.mem_map.1 hm
  rcases Lx hp with rfl|hp
  ·simp_all
  grind
theorem Hn{nm:ByteArray}{f:Fl} : ∀{fs:List (ByteArray×Fl)},(D9 nm f fs).length=if (D7 nm fs).isSome then fs.length else fs.length+1
 | []=>by simp[D9,D7]
 | q :: l => by
  unfold D9 D7
  by_cases a:nm=q.1
  ·simp_all
  rw[if_neg a,if_neg a]
  have:=Hn (nm:=nm) (f:=f) (fs:=l)
  grind
theorem CH{nm k:ByteArray}{f:Fl} : ∀{fs:List (ByteArray×Fl)},D7 k (D9 nm f fs)=if k=nm then some f else D7 k fs
 | []=>by simp[D9,D7]
 | q :: l => by
  unfold D9
  by_cases a:nm=q.1
  ·rw[if_pos a]
   unfold D7
   simp_all
  rw[if_neg a]
  unfold D7
  rw[CH (fs:=l)]
  grind
theorem Hk{k:ByteArray}{f:Fl} : ∀{fs:List (ByteArray×Fl)},D7 k fs=some f→(k,f)∈fs
 | [],h=>by simp[D7] at h
 | q :: l, h => by
  unfold D7 at h
  split at h
  ·grind
  exact List.mem_cons_of_mem _ (Hk h)
theorem OA{nm:ByteArray} : ∀{fs:List (ByteArray×Fl)},Ff (D7 nm fs)≤sum fs
 | []=>by simp[D7,Ff]
 | q :: l => by
  have a:=OA (nm:=nm) (fs:=l)
  unfold D7
  split
  ·simp[Ff,Dk.sum]
  simp only[Dk.sum,List.map_cons,List.sum_cons] at a⊢;omega
theorem Q4{m:Nat}{d:Dk}(ok:Ok m d){nm:ByteArray}{n:Int}(h:d.fits (d.get nm) n=0)(h0:0≤n):n≤Mo∧((d.get nm).isSome=false→d.files.length<16):=by
 unfold Dk.fits at h
 by_cases h1:((d.get nm).isNone&&decide (16≤d.files.length))=true
 ·simp_all
 by_cases b:(decide ((Ff (d.get nm):Int)<n)&&decide (d.room<(sum d.files:Int)-Ff (d.get nm)+n))=true
 ·simp_all
 refine ⟨?_,?_⟩
 ·have hs:Ff (d.get nm)≤sum d.files:=OA
  have hr:=ok.room
  by_cases c:(Ff (d.get nm):Int)<n
  · grind
  have e:Ff (d.get nm)≤Mo:=by cases a:d.get nm with
   |none=>simp[Ff]
   |some f=>exact (ok.sz (nm,f) (Hk a)).1
  omega
 simp_all
theorem E8{m m':Nat}{d:Dk}(ok:Ok m d)(h:m≤m'):Ok m' d:=
 ⟨ok.nd,ok.room,by have:=ok.left;omega,by have:=ok.changes;omega,by have:=ok.BN;omega,ok.nf,ok.sz,ok.pc,ok.pn⟩
theorem XW{m:Nat}{d:Dk}(ok:Ok m d):Ok m { d with down:=true } :=⟨ok.nd,ok.room,ok.left,ok.changes,ok.BN,ok.nf,ok.sz,ok.pc,ok.pn⟩
theorem aH(room:Int)(h1:0≤room)(a:room≤Mo):Ok 0 (Dk.new room):=
 ⟨by simp[Dk.new],⟨h1,a⟩,by simp[Dk.new],by simp[Dk.new],by simp[Dk.new],by simp[Dk.new],by simp[Dk.new],by simp[Dk.new],by simp[Dk.new]⟩
theorem Pq{m:Nat}{d:Dk}(ok:Ok m d)(nm:ByteArray)(k:Int)(b:List UInt8):Ok (m+1+b.length) (d.write nm k b).2:=by
 unfold Dk.write
 split
 · exact E8 ok (by omega)
 split
 · exact E8 ok (by omega)
 split
 · exact E8 ok (by omega)
 split
 · exact E8 ok (by omega)
 split
 · exact XW (E8 ok (by omega))
 rename_i hm hr hb e j
 have a:d.fits (d.get nm) (max (Ff (d.get nm)) (k+b.length))=0:=by simpa using e
 obtain ⟨k,rfl⟩:=Int.eq_ofNat_of_zero_le (show 0≤k by omega)
 obtain ⟨n,o⟩:=Q4 ok a (by omega)
 have g:(((d.get nm).getD Dk.Jv).now.length≤Mo)∧(((d.get nm).getD Dk.Jv).safe.length≤Mo):=by cases i:d.get nm with
  |none=>simp[Dk.Jv]
  |some f=>exact ok.sz (nm,f) (Hk i)
 refine ⟨KF ok.nd,ok.room,?_,?_,?_,?_,?_,?_,?_⟩
 · have:=ok.left;show-((m+1+b.length:Nat):Int)≤d.left-1∧d.left-1≤_;omega
 · have:=ok.changes;show 0≤d.changes+1∧d.changes+1≤((m+1+b.length:Nat):Int);omega
 · show (d.BN++FF nm k b).length≤_
   rw[List.length_append]
   have:=ok.BN
   have:=PB nm b.length k b (Nat.le_refl _)
   omega
 · show (D9 nm _ d.files).length≤16
   rw[Hn]
   have:=ok.nf
   grind [Dk.get]
 · intro p hp
   rcases Lx hp with rfl|hp
   ·grind [De]
   exact ok.sz p hp
 · intro p hp
   rcases List.mem_append.1 hp with hp|hp
   ·exact ok.pc p hp
   obtain ⟨_,l,h1,q,_⟩:=JK nm b.length k b (Nat.le_refl _) p hp
   grind
 intro p hp
 show (D7 p.nm (D9 nm _ d.files)).isSome=true
 rw[CH]
 split
 · rfl
 rename_i c
 rcases List.mem_append.1 hp with hp|hp
 · exact ok.pn p hp
 exact absurd (JK nm b.length k b (Nat.le_refl _) p hp).1 c
theorem aJ{m:Nat}{d:Dk}(ok:Ok m d){nm:ByteArray}{f:Fl}(h1:f.now.length≤Mo)(a:f.safe.length≤Mo)(b:(d.get nm).isSome=false→d.files.length<16):Ok m (d.put nm f):=by
 refine ⟨KF ok.nd,ok.room,ok.left,ok.changes,ok.BN,?_,?_,ok.pc,?_⟩
 ·show (D9 nm f d.files).length≤16
  rw[Hn]
  have:=ok.nf
  grind [Dk.get]
 ·intro p hp
  rcases Lx hp with rfl|hp
  ·simp_all
  exact ok.sz p hp
 intro p hp
 show (D7 p.nm (D9 nm f d.files)).isSome=true
 rw[CH]
 split
 ·rfl
 exact ok.pn p hp
theorem Pp{m:Nat}{d:Dk}(ok:Ok m d)(nm:ByteArray):Ok m (d.settled nm):=by
 refine ⟨ok.nd,ok.room,ok.left,ok.changes,?_,ok.nf,ok.sz,fun p hp=>ok.pc p (List.mem_filter.1 hp).1,fun p hp=>ok.pn p (List.mem_filter.1 hp).1⟩
 have:=ok.BN
 have a:(d.settled nm).BN.length≤d.BN.length:=List.length_filter_le _ _
 omega
theorem Zm{m:Nat}{d:Dk}(ok:Ok m d):Ok (m+1) d.BV:=by
 refine ⟨ok.nd,ok.room,?_,?_,?_,ok.nf,ok.sz,ok.pc,ok.pn⟩
 ·have:=ok.left;show-((m+1:Nat):Int)≤d.left-1∧d.left-1≤_;omega
 ·have:=ok.changes;show 0≤d.changes+1∧d.changes+1≤((m+1:Nat):Int);omega
 have:=ok.BN;show d.BN.length≤m+1;omega
theorem XX{m:Nat}{d:Dk}(ok:Ok m d)(nm:ByteArray)(b:List UInt8):Ok m (d.load nm b).2:=by
 unfold Dk.load
 split
 ·omega
 split
 ·omega
 rename_i h
 have c:d.fits (d.get nm) (b.length:Nat)=0:=by simpa using h
 obtain ⟨e,a⟩:=Q4 ok c (by omega)
 exact aJ (Pp ok nm) (by show b.length≤Mo;omega) (by show b.length≤Mo;omega) a
theorem eX{m:Nat}{d:Dk}(ok:Ok m d)(nm:ByteArray):Ok (m+1) (d.sync nm).2:=by
 unfold Dk.sync
 split
 ·exact E8 ok (by omega)
 split
 ·exact XW (E8 ok (by omega))
 rename_i h _
 have hm:d.may nm true=0:=by simpa using h
 have c:=LD hm
 obtain ⟨f,b⟩:=Option.isSome_iff_exists.1 c
 have g:=ok.sz (nm,f) (Hk b)
 have e:(d.get nm).getD Dk.Jv=f:=by rw[b];rfl
 simp only[e]
 exact Pp (aJ (f:= { f with safe:=f.now,sure:=true }) (Zm ok) g.1 g.1 (fun h=>by have a:(d.get nm).isSome=false:=h;rw[c] at a;cases a)) nm
