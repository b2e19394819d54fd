/- treeFails holds for every input. No condition. (part 8) -/
import Derived.Test.YtfhbmblbidcmmaaGreatYa7
import Derived.Deep.DeepCutAuto
import Derived.Deep.RegionLaw
set_option linter.all false
set_option maxRecDepth 100000
set_option maxHeartbeats 4000000
namespace Go.Proofs.YtfhbmblbidcmmaaGreat
open Go.RowKit Go.Sl Go.Dk
theorem Reads.from{B:Ac}{a:Option Addr}{n c:Nat}{l:List UInt8}(h:Reads B (.slice a n c) l)(lo:Nat)(b:lo≤n):Reads B (.slice (BP a c lo 1) (n-lo) (c-lo)) (l.drop lo):=by
 intro F w hs
 have hb:=h F w hs
 obtain ⟨d,_⟩:=hb.n
 have:=hb.cut lo n b (Nat.le_refl _)
 rw[List.take_of_length_le (by simp;omega)] at this
 exact this
theorem Reads.to{B:Ac}{a:Option Addr}{n c:Nat}{l:List UInt8}(h:Reads B (.slice a n c) l)(hi:Nat)(b:hi≤n):Reads B (.slice (BP a c 0 1) hi c) (l.take hi):=by
 intro F w hs
 have:=(h F w hs).cut 0 hi (by omega) b
 simpa using this
def CW(nm:ByteArray)(k:Nat)(b:List UInt8)(j:Nat)(a:List Np):Prop:=B4 a++Fz nm (k+j) (b.drop j)=Fz nm k b
theorem CW.zero(nm:ByteArray)(k:Nat)(b:List UInt8):CW nm k b 0 []:=by simp[CW,B4]
theorem CW.step{nm:ByteArray}{k:Nat}{b:List UInt8}{j:Nat}{a:List Np}(h:CW nm k b j a)(c:j<b.length)(v:Value):
 CW nm k b (j+Dk.part (k+j) (b.length-j)) (a++ [⟨v,⟨nm,k+j,some ((b.drop j).take (Dk.part (k+j) (b.length-j)))⟩⟩]):=by
 unfold CW at*
 rw[←h,LI nm (k+j) (b.drop j) (by simp;omega)]
 simp[B4,Nat.add_assoc,List.drop_drop]
theorem CW.done{nm:ByteArray}{k:Nat}{b:List UInt8}{j:Nat}{a:List Np}(h:CW nm k b j a)(c:b.length≤j):B4 a=Fz nm k b:=by
 unfold CW at h
 rw[←h,List.drop_of_length_le c,IU,List.append_nil]
theorem JX(v:Value)(nm:ByteArray)(k:Nat)(l:List UInt8)(a:notNil v):EX ⟨v,⟨nm,k,some l⟩⟩=rw TB 1 v (A4 l):=by
 show Yb (notNil v)*rw TB 1 v (A4 l)=_
 have:Yb (notNil v)=1:=by
  funext h
  apply propext
  exact ⟨fun h=>h.2,fun h=>⟨a,h⟩⟩
 rw[this,Am]
theorem Pz{e s:Nat}{a:Option Addr}{n c:Nat}{xs:List Value}{F:Ac}{w:World}(hs:Sat (rw e s (.slice a n c) xs*F) w)(ha:a≠none):notNil (.slice a n c):=by
 rcases hs.Cm with ⟨b,_⟩|⟨g,n',d,sp,b,_⟩
 ·cases b;exact absurd rfl ha
 cases b;exact ⟨g,_,_,rfl⟩
theorem Ss(D M:Nat)(l1:List Nf)(x:Nf)(l2:List Nf)(pv:Value)(ps:List Np)(d:Dk)(k:Nat)(v:Value)(b:List UInt8)(B F:Ac)(w:World)(hB:Reads B v b)(hs:Sat (AS D M (l1++x::l2) pv ps d*(B*F)) w)
 (b3: ∀m∈l1,m.nm≠x.nm) (hf:BE (l1++x::l2)=d.files) (W:lens (l1++x::l2)≤4611686018427387904)
 (b5:x.nm.size≤9223372036854775807) (hn:named x.nm=true) (hd:d.down=false) (hk:k≤x.f.now.length) (cb:0<b.length) (hb:b.length≤1099511627776) (hx:x.f.now.length≤1099511627776) (hp:ps.length≤1099511627776)
 (U:d.fits (some x.f) (max (x.f.now.length:Nat) (k+b.length:Nat))=0) (al:d.stop=false) (h1: -4611686018427387904≤d.left) (a8:d.left≤9223372036854775807) (h2:0≤d.changes) (h3:d.changes≤4611686018427387904):
 Calls Tryz.prog 147 #[.pointer (some ⟨D,0,none⟩),.string x.nm,.int .i64 k,v] w fun e w'=> ∃nv ap l,e= .returned (.int .i64 0)∧B4 l=Fz x.nm k b∧
  Sat (Bv { x with f:= { x.f with now:=laid x.f.now k b },nv:=nv } *(Ax D M ap d.Bz*(Cp ap (ps++l)*(mp B9 M ((l1++x::l2).map CA)*(A0 l1*(A0 l2*(B*F))))))) w':=by
 obtain ⟨i0,E⟩:=Ez
 obtain ⟨i1,E1⟩:=W3
 obtain ⟨xa,xc,rfl,cj,ck⟩:=(hB _ _ (hs.take B)).len
 have X:=ET D M l1 x l2 pv ps d false (B*F) w hs b3 b5 hn hd
 have y: ∀q:Int,q=max ((x.f.now.length:Nat):Int) ((k+b.length:Nat):Int)→Calls Tryz.prog 69 #[.pointer (some ⟨D,0,none⟩),.pointer (some ⟨x.b,0,none⟩),.int .i64 q] w fun e w'=>e= .returned (.int .i64 0)∧Sat (AS D M (l1++x::l2) pv ps d*(B*F)) w':=by
  rintro q rfl
  have:=Lu D M l1 x l2 pv ps d (max (x.f.now.length:Nat) (k+b.length:Nat)) (B*F) w hs hf W (by omega) (by omega)
  rw[U] at this
  exact this
 have HF:Aside (∀q:Int,q=max ((x.f.now.length:Nat):Int) ((k+b.length:Nat):Int)→Calls Tryz.prog 69 #[.pointer (some ⟨D,0,none⟩),.pointer (some ⟨x.b,0,none⟩),.int .i64 q] w fun e w'=>e= .returned (.int .i64 0)∧Sat (AS D M (l1++x::l2) pv ps d*(B*F)) w'):=y
 clear y
 have c0:w.cell? ⟨x.b,0,none⟩=some x.nv:=by rw[CI] at hs;unfold Bv at hs;exact hs.c x.b 0
 obtain ⟨va,vc,hv,ch,ci⟩: ∃a c,x.nv= .slice a x.f.now.length c∧x.f.now.length≤c∧c≤9223372036854775807:=by rw[CI] at hs;unfold Bv at hs;exact E7 (hs.take (rw TB 1 x.nv (A4 x.f.now)))
 rw[hv] at c0
 have HV:Aside (x.nv= .slice va x.f.now.length vc):=hv
 have bm:((b.length:Int)==0)=false:=by rw[beq_eq_false_iff_ne];omega
 have cd: ¬(x.f.now.length:Int)<k:=by omega
 clear hs hf W U hn hv
 go_enter Tryz.func147,Tryz.ntmps147
 go_wp2_with fail
 refine X.mono ?_
 rintro e w' ⟨rfl,rfl⟩
 go_upto_region 11 with (fail)
 go_cut [10] (fun ba wx=>ba= .int .i64 0∧Sat (AS D M (l1++x::l2) pv ps d*(B*F)) wx)
 case first=>
  go_wp2_with (go_at_call 69;refine (HF.out _ ?_).mono ?_;omega;rintro e w1 ⟨rfl,Q⟩)
  all_goals
   go_meet
   exact ⟨rfl,Q⟩
 obtain ⟨rfl,Q⟩:=hcut
 clear HF X c0
 have a9:=Lo D M pv d _ _ (Q.eq (by rw[Cr,Ar])) al h1 a8 h2 h3
 clear Q al h1 a8 h2 h3
 go_wp2_with fail
 refine a9.mono ?_
 rintro e w2 ⟨rfl,ai⟩
 clear a9
 obtain ⟨R,HR⟩: ∃R,Aside (mp B9 M ((l1++x::l2).map CA)*(A0 l1*(A0 l2*F))=R):=⟨_,rfl⟩
 have a1:Sat (rw TB 1 (.slice va x.f.now.length vc) (A4 x.f.now)*(B*(Dl x.b TF 3*(Sl.cell x.b 0 (.slice va x.f.now.length vc)*(Sl.cell x.b 1 x.sv*(Sl.cell x.b 2 (.bool x.f.sure)*(rw TB 1 x.sv (A4 x.f.safe)*(Ax D M pv d.Bz*(Cp pv ps*R))))))))) w2:=by
  refine ai.eq ?_
  rw[←HR.out,Ba,A0]
  unfold Bv
  rw[HV.out]
  ac_rfl
 have c0:=a1.c x.b 0
 have V:=PO _ x.f.now k (.slice xa b.length xc) b B _ hB w2 a1 (by omega) (by omega)
 clear ai
 go_wp2_with fail
 refine V.mono ?_
 rintro e w3 ⟨nv,rfl,z⟩
 obtain ⟨na,nc,af,_,_⟩:=E7 z
 obtain ⟨nl,ac⟩: ∃n,(laid x.f.now k b).length=n:=⟨_,rfl⟩
 rw[ac] at af
 subst af
 clear ac
 have k0:=z.c x.b 0
 have f0:=z.f x.b 0
 have t:=z.Et x.b 0 (.slice na nl nc)
 unfold Cp at t
 rw[Ms] at t
 obtain ⟨pa,pn,pc,ag,Y,ce,cf⟩:=Oo (t.take (rw TP 3 pv (B6 ps)))
 rw[Jo] at Y
 obtain rfl:ps.length=pn:=by omega
 rw[ag] at t
 obtain ⟨R2,a7⟩: ∃R2,Aside (rw TB 1 (.slice na nl nc) (A4 (laid x.f.now k b))*(Dl x.b TF 3*(Sl.cell x.b 0 (.slice na nl nc)*(Sl.cell x.b 1 x.sv*(Sl.cell x.b 2 (.bool x.f.sure)*(rw TB 1 x.sv (A4 x.f.safe)*(TZ D M d.Bz*R))))))=R2):=⟨_,rfl⟩
 have aj:Sat (Sl.cell D 6 (.slice pa ps.length pc)*(rw TP 3 (.slice pa ps.length pc) (B6 ps)*(AM ps*(B*R2)))) (w3.setCell ⟨x.b,0,none⟩ (.slice na nl nc)):=t.eq (by rw[←a7.out];ac_rfl)
 clear a1 c0 V z t ag Y
 go_wp2_with fail
 go_loopg [2,3] b.length (fun g t2 t3 wr=> ∃(j:Nat)(ya:Option Addr)(L:Nat)(J:Option Addr)(K:Nat)(l:List Np),t2= .int .i64 (k+j:Nat)∧t3= .slice ya (b.length-j) L∧j≤b.length∧l.length≤j∧
  Aside (g=b.length-j∧Reads B (.slice ya (b.length-j) L) (b.drop j)∧CW x.nm k b j l)∧
  Sat (Sl.cell D 6 (.slice J (ps.length+l.length) K)*(rw TP 3 (.slice J (ps.length+l.length) K) (B6 (ps++l))*(AM (ps++l)*(B*R2)))) wr)
 case atStart=>exact ⟨0,xa,xc,pa,pc,[],rfl,rfl,by omega,by simp,⟨rfl,hB,CW.zero _ _ _⟩,by simpa using aj⟩
 obtain ⟨j,ya,L,J,K,l,rfl,rfl,hj,hq,A,H⟩:=hrel
 clear aj k0 f0
 obtain ⟨hg,hY,i⟩:=A.out
 by_cases b2:j<b.length
 · have b1:(0:Int)<((b.length-j:Nat):Int):=by omega
   obtain ⟨p,O⟩: ∃p,Dk.part (k+j) (b.length-j)=p:=⟨_,rfl⟩
   have b4:=IB (k:=k+j) (n:=b.length-j) (by omega)
   rw[O] at b4
   have HS:=i.step b2
   rw[O] at HS
   have ax:Aside (∀v,CW x.nm k b (j+p) (l++ [⟨v,⟨x.nm,k+j,some ((b.drop j).take p)⟩⟩])):=HS
   have HP:Aside (Dk.part (k+j) (b.length-j)=p):=O
   have b7:b.length-j≤L∧L≤maxLen:=by have:=(hY _ _ (H.take B)).n;omega
   have HY:Aside (Reads B (.slice ya (b.length-j) L) (b.drop j)):=hY
   have HG:Aside (gk=b.length-j):=hg
   clear HS O hY i A hg
   have aa:(if 64-((k:Int)+(j:Int))%64<((b.length-j:Nat):Int) then 64-((k:Int)+(j:Int))%64 else ((b.length-j:Nat):Int))=(p:Nat):=by
    have h:=HP.out
    unfold Dk.part at h
    split<;>omega
   have HI:Aside ((if 64-((k:Int)+(j:Int))%64<((b.length-j:Nat):Int) then 64-((k:Int)+(j:Int))%64 else ((b.length-j:Nat):Int))=(p:Nat)):=aa
   clear aa
   have T:=Reads.to HY.out p (by omega)
   have ab:((b.drop j).take p).length=p:=by simp;omega
   have q1:=(Cy (e:=TB) (s:=1) H).drew
   have o:=(T _ _ (q1.take B)).src (P:=Tryz.prog)
   rw[ab] at o
   have cg:=LP (P:=Tryz.prog) E (a:=ya) (n:=b.length-j) (c:=L) p (by omega)
   have az:=Gb (P:=Tryz.prog) E (a:=ya) (n:=b.length-j) (c:=L) p (by omega)
   have c6:=H.c D 6
   have hD:D<wr.heap.size:=World.block_lt_of_cell? _ _ c6
   have br:p≤L:=by omega
   have bp:ps.length+l.length≤2199023255552:=by omega
   clear ab b7 T
   go_upto_region 23 with (fail)
   rw[HI.out]
   go_region_law first
    |(refine A1 E rfl (.tmp 92) (.tmp 95) rfl rfl rfl q1 o (by unfold maxLen;omega) (by omega) ?_;intro Z c3 w3 G ad;have HN:Aside (notNil (.slice Z p c3)):=(by have hz:=Pz G (by intro e;exact absurd (ad.1 e).1 (by simp));simpa using hz:notNil (.slice Z p c3));simp only[Nat.zero_add,List.nil_append] at G;have d6:=G.c D 6;have ca:D<w3.heap.size:=World.block_lt_of_cell? _ _ d6;have a2:=G.alloc #[.string x.nm,.int .i64 ((k:Int)+(j:Int)),.slice Z p c3] TP;have I:=Src.new (P:=Tryz.prog) (s:=3) a2 rfl (by intro u hu;simp at hu;rcases hu with rfl|rfl|rfl<;>rfl);have ak:=a2.take (rw TP 3 (.slice J (ps.length+l.length) K) (B6 (ps++l)));clear ad a2)
    |(refine A1 E1 rfl (.tmp 89) (.tmp 98) rfl rfl rfl ak I (by unfold maxLen;omega) (by omega) ?_;intro a4 c4 w4 r ae;have e6:=r.c D 6;have f6:=r.f D 6;clear ae)
   all_goals
    have ah:=r.Et D 6 (.slice a4 (ps.length+l.length+1) c4)
    clear G ak r I o q1 d6 H
    go_wp2_with fail
    go_quiet (fail)
    go_wp2
    go_roundg (b.length-(j+p))
    case measure=>have:=HG.out;omega
    refine ⟨j+p,BP ya L p 1,L-p,a4,c4,l++ [⟨.slice Z p c3,⟨x.nm,k+j,some ((b.drop j).take p)⟩⟩],by go_num,by rw[Nat.sub_sub],by omega,by simp;omega,⟨rfl,?_,ax.out _⟩,?_⟩
    ·have hz:=Reads.from HY.out p (by omega)
     rw[Nat.sub_sub,List.drop_drop] at hz
     exact hz
    rw[←List.append_assoc,Hx,KT,JX _ _ _ _ HN.out]
    have e7:B6 [(⟨.slice Z p c3,⟨x.nm,k+j,some ((b.drop j).take p)⟩⟩:Np)]= [.string x.nm,.int .i64 ((k:Int)+(j:Int)),.slice Z p c3]:=by simp[B6,Qe]
    rw[e7,List.length_append]
    simp only[List.length_cons,List.length_nil,Nat.zero_add,←Nat.add_assoc]
    refine Sat.CR (B:=block w3.heap.size TP [.string x.nm,.int .i64 ((k:Int)+(j:Int)),.slice Z p c3]) (Sat.drewN _ (ah.eq ?_))
    ac_rfl
 have b1: ¬(0:Int)<((b.length-j:Nat):Int):=by omega
 have HD:Aside (B4 l=Fz x.nm k b):=i.done (by omega)
 clear A hg hY i
 go_wp2
 go_ret
 refine ⟨rfl,.slice na nl nc,.slice J (ps.length+l.length) K,l,HD.out,H.eq ?_⟩
 rw[←a7.out,←HR.out,Ms]
 unfold Bv Cp
 dsimp only
 simp only[List.map_append,List.map_cons]
 ac_rfl
theorem VQ{M D:Nat}{ms:List (ByteArray×Value)}(nm:ByteArray){G:Ac}{w:World}(hs:Sat (mp B9 M ms*G) w):
 ∃g,(Instr.mapUpdate Zx (.map (some M)) (.string nm) (.pointer (some ⟨w.heap.size,0,none⟩))).run Tryz.prog (w.alloc (.cells #[.slice none 0 0,.slice none 0 0,.bool false] TF))= .ok () g∧
  Sat (Bv ⟨w.heap.size,nm,Dk.Io,.slice none 0 0,.slice none 0 0⟩*(mp B9 M (Er nm (.pointer (some ⟨w.heap.size,0,none⟩)) ms)*G)) g:=by
 have c:=(((hs.alloc #[.slice none 0 0,.slice none 0 0,.bool false] TF).Bj (e:=TB) (s:=1)).Bj (e:=TB) (s:=1))
 obtain ⟨o,i,a⟩:=(c.take (mp B9 M ms)).Ct
 obtain ⟨o',b,f⟩:=Ch (P:=Tryz.prog) JO Tryz.underlying148 a.obj i nm (.pointer (some ⟨w.heap.size,0,none⟩))
 refine ⟨_,f,?_⟩
 have d:=Sat.Dn b (a.Gy o')
 refine d.eq ?_
 unfold Bv Dk.Io
 simp only[block,Sl.cells,Bd,List.length_cons,List.length_nil,Nat.zero_add,Nat.reduceAdd,A4,List.map_nil]
 ac_rfl
theorem TO(D M:Nat)(ns:List Nf)(nm:ByteArray)(pv:Value)(ps:List Np)(d:Dk)(k:Nat)(v:Value)(b:List UInt8)(B F:Ac)(w:World)(hB:Reads B v b)(hs:Sat (AS D M ns pv ps d*(B*F)) w)
 (b4: ∀m∈ns,m.nm≠nm) (hf:BE ns=d.files) (W:lens ns≤4611686018427387904)
 (b6:nm.size≤9223372036854775807) (hn:named nm=true) (hd:d.down=false) (hk:k≤0) (cc:0<b.length) (hb:b.length≤1099511627776) (hp:ps.length≤1099511627776)
 (U:d.fits none (max ((0:Nat):Int) ((k+b.length:Nat):Int))=0) (al:d.stop=false) (h1: -4611686018427387904≤d.left) (a9:d.left≤9223372036854775807) (h2:0≤d.changes) (h3:d.changes≤4611686018427387904):
 Calls Tryz.prog 147 #[.pointer (some ⟨D,0,none⟩),.string nm,.int .i64 k,v] w fun e w'=> ∃xb nv ap l,e= .returned (.int .i64 0)∧B4 l=Fz nm k b∧
  Sat (Bv ⟨xb,nm,⟨laid [] k b,[],false⟩,nv,.slice none 0 0⟩*(Ax D M ap d.Bz*(Cp ap (ps++l)*(mp B9 M (Er nm (.pointer (some ⟨xb,0,none⟩)) (ns.map CA))*(A0 ns*(B*F)))))) w':=by
 obtain ⟨i0,E⟩:=Ez
 obtain ⟨i1,E1⟩:=W3
 obtain ⟨xa,xc,rfl,cj,ck⟩:=(hB _ _ (hs.take B)).len
 have X:=KH D M ns pv ps d nm (B*F) w hs b4 b6 hn hd
 have HF:Aside (∀q:Int,q=max ((0:Nat):Int) ((k+b.length:Nat):Int)→Calls Tryz.prog 69 #[.pointer (some ⟨D,0,none⟩),.pointer none,.int .i64 q] w fun e w'=>e= .returned (.int .i64 0)∧Sat (AS D M ns pv ps d*(B*F)) w'):=by
  rintro q rfl
  have:=Lt D M ns pv ps d (max ((0:Nat):Int) ((k+b.length:Nat):Int)) (B*F) w hs hf W (by omega) (by omega)
  rw[U] at this
  exact this
 have bk:((b.length:Int)==0)=false:=by rw[beq_eq_false_iff_ne];omega
 have ce: ¬(0:Int)<k:=by omega
 clear hs hf W U hn
 go_enter Tryz.func147,Tryz.ntmps147
 go_wp2_with fail
 refine X.mono ?_
 rintro e w' ⟨rfl,rfl⟩
 go_upto_region 11 with (fail)
 go_cut [10] (fun ba wx=>ba= .int .i64 0∧Sat (AS D M ns pv ps d*(B*F)) wx)
 case first=>
  go_wp2_with (go_at_call 69;refine (HF.out _ ?_).mono ?_;omega;rintro e w1 ⟨rfl,O⟩)
  all_goals
   go_meet
   exact ⟨rfl,O⟩
 obtain ⟨rfl,O⟩:=hcut
 clear HF X
 have aa:=Lo D M pv d _ _ (O.eq (by rw[Cr,Ar])) al h1 a9 h2 h3
 clear O al h1 a9 h2 h3
 go_wp2_with fail
 refine aa.mono ?_
 rintro e o ⟨rfl,Q⟩
 clear aa
 have Z:Sat (mp B9 M (ns.map CA)*(Ax D M pv d.Bz*(A0 ns*(Cp pv ps*(B*F))))) o:=Q.eq (by ac_rfl)
 obtain ⟨aq,ci,a0⟩:=VQ (D:=D) nm Z
 have c5:o.cell? ⟨D,5,none⟩=some (.map (some M)):=by unfold Ax at Q;exact Q.c D 5
 have ca:D<o.heap.size:=World.block_lt_of_cell? _ _ c5
 clear Q Z
 obtain ⟨R,HR⟩: ∃R,Aside (mp B9 M (Er nm (.pointer (some ⟨o.heap.size,0,none⟩)) (ns.map CA))*(A0 ns*F)=R):=⟨_,rfl⟩
 have a5:Sat (rw TB 1 (.slice none 0 0) (A4 [])*(B*(Dl o.heap.size TF 3*(Sl.cell o.heap.size 0 (.slice none 0 0)*(Sl.cell o.heap.size 1 (.slice none 0 0)*(Sl.cell o.heap.size 2 (.bool false)*(rw TB 1 (.slice none 0 0) (A4 [])*(Ax D M pv d.Bz*(Cp pv ps*R))))))))) aq:=by
  refine a0.eq ?_
  rw[←HR.out]
  unfold Bv Dk.Io
  dsimp only
  ac_rfl
 have c0:=a5.c o.heap.size 0
 have V:=PO _ [] k (.slice xa b.length xc) b B _ hB aq a5 (by simp) (by omega)
 clear a0
 go_wp2_with fail
 refine V.mono ?_
 rintro e w3 ⟨nv,rfl,y⟩
 obtain ⟨na,nc,ag,_,_⟩:=E7 y
 obtain ⟨nl,ad⟩: ∃n,(laid [] k b).length=n:=⟨_,rfl⟩
 rw[ad] at ag
 subst ag
 clear ad
 have k0:=y.c o.heap.size 0
 have f0:=y.f o.heap.size 0
 have x:=y.Et o.heap.size 0 (.slice na nl nc)
 unfold Cp at x
 rw[Ms] at x
 obtain ⟨pa,pn,pc,ah,Y,cf,cg⟩:=Oo (x.take (rw TP 3 pv (B6 ps)))
 rw[Jo] at Y
 obtain rfl:ps.length=pn:=by omega
 rw[ah] at x
 obtain ⟨R2,a8⟩: ∃R2,Aside (rw TB 1 (.slice na nl nc) (A4 (laid [] k b))*(Dl o.heap.size TF 3*(Sl.cell o.heap.size 0 (.slice na nl nc)*(Sl.cell o.heap.size 1 (.slice none 0 0)*(Sl.cell o.heap.size 2 (.bool false)*(rw TB 1 (.slice none 0 0) (A4 [])*(TZ D M d.Bz*R))))))=R2):=⟨_,rfl⟩
 have aj:Sat (Sl.cell D 6 (.slice pa ps.length pc)*(rw TP 3 (.slice pa ps.length pc) (B6 ps)*(AM ps*(B*R2)))) (w3.setCell ⟨o.heap.size,0,none⟩ (.slice na nl nc)):=x.eq (by rw[←a8.out];ac_rfl)
 clear a5 c0 V y x ah Y
 go_wp2_with fail
 go_loopg [2,3] b.length (fun g t2 t3 wr=> ∃(j:Nat)(ya:Option Addr)(K:Nat)(I:Option Addr)(J:Nat)(l:List Np),t2= .int .i64 (k+j:Nat)∧t3= .slice ya (b.length-j) K∧j≤b.length∧l.length≤j∧
  Aside (g=b.length-j∧Reads B (.slice ya (b.length-j) K) (b.drop j)∧CW nm k b j l)∧
  Sat (Sl.cell D 6 (.slice I (ps.length+l.length) J)*(rw TP 3 (.slice I (ps.length+l.length) J) (B6 (ps++l))*(AM (ps++l)*(B*R2)))) wr)
 case atStart=>exact ⟨0,xa,xc,pa,pc,[],rfl,rfl,by omega,by simp,⟨rfl,hB,CW.zero _ _ _⟩,by simpa using aj⟩
 obtain ⟨j,ya,K,I,J,l,rfl,rfl,hj,hq,A,G⟩:=hrel
 clear aj k0 f0
 obtain ⟨hg,hY,i⟩:=A.out
 by_cases b3:j<b.length
 · have b2:(0:Int)<((b.length-j:Nat):Int):=by omega
   obtain ⟨p,L⟩: ∃p,Dk.part (k+j) (b.length-j)=p:=⟨_,rfl⟩
   have b5:=IB (k:=k+j) (n:=b.length-j) (by omega)
   rw[L] at b5
   have HS:=i.step b3
   rw[L] at HS
   have ay:Aside (∀v,CW nm k b (j+p) (l++ [⟨v,⟨nm,k+j,some ((b.drop j).take p)⟩⟩])):=HS
   have HP:Aside (Dk.part (k+j) (b.length-j)=p):=L
   have b7:b.length-j≤K∧K≤maxLen:=by have:=(hY _ _ (G.take B)).n;omega
   have HY:Aside (Reads B (.slice ya (b.length-j) K) (b.drop j)):=hY
   have HG:Aside (gk=b.length-j):=hg
   clear HS L hY i A hg
   have ab:(if 64-((k:Int)+(j:Int))%64<((b.length-j:Nat):Int) then 64-((k:Int)+(j:Int))%64 else ((b.length-j:Nat):Int))=(p:Nat):=by
    have h:=HP.out
    unfold Dk.part at h
    split<;>omega
   have HI:Aside ((if 64-((k:Int)+(j:Int))%64<((b.length-j:Nat):Int) then 64-((k:Int)+(j:Int))%64 else ((b.length-j:Nat):Int))=(p:Nat)):=ab
   clear ab
   have T:=Reads.to HY.out p (by omega)
   have ac:((b.drop j).take p).length=p:=by simp;omega
   have q1:=(Cy (e:=TB) (s:=1) G).drew
   have r:=(T _ _ (q1.take B)).src (P:=Tryz.prog)
   rw[ac] at r
   have ch:=LP (P:=Tryz.prog) E (a:=ya) (n:=b.length-j) (c:=K) p (by omega)
   have b0:=Gb (P:=Tryz.prog) E (a:=ya) (n:=b.length-j) (c:=K) p (by omega)
   have c6:=G.c D 6
   have hD:D<wr.heap.size:=World.block_lt_of_cell? _ _ c6
   have bp:p≤K:=by omega
   have bn:ps.length+l.length≤2199023255552:=by omega
   clear ac b7 T
   go_upto_region 23 with (fail)
   rw[HI.out]
   go_region_law first
    |(refine A1 E rfl (.tmp 92) (.tmp 95) rfl rfl rfl q1 r (by unfold maxLen;omega) (by omega) ?_;intro a3 c3 w3 z ae;have HN:Aside (notNil (.slice a3 p c3)):=(by have hz:=Pz z (by intro e;exact absurd (ae.1 e).1 (by simp));simpa using hz:notNil (.slice a3 p c3));simp only[Nat.zero_add,List.nil_append] at z;have d6:=z.c D 6;have cb:D<w3.heap.size:=World.block_lt_of_cell? _ _ d6;have a6:=z.alloc #[.string nm,.int .i64 ((k:Int)+(j:Int)),.slice a3 p c3] TP;have H:=Src.new (P:=Tryz.prog) (s:=3) a6 rfl (by intro u hu;simp at hu;rcases hu with rfl|rfl|rfl<;>rfl);have ak:=a6.take (rw TP 3 (.slice I (ps.length+l.length) J) (B6 (ps++l)));clear ae a6)
    |(refine A1 E1 rfl (.tmp 89) (.tmp 98) rfl rfl rfl ak H (by unfold maxLen;omega) (by omega) ?_;intro a4 c4 w4 t af;have e6:=t.c D 6;have f6:=t.f D 6;clear af)
   all_goals
    have ai:=t.Et D 6 (.slice a4 (ps.length+l.length+1) c4)
    clear z ak t H r q1 d6 G
    go_wp2_with fail
    go_quiet (fail)
    go_wp2
    go_roundg (b.length-(j+p))
    case measure=>have:=HG.out;omega
    refine ⟨j+p,BP ya K p 1,K-p,a4,c4,l++ [⟨.slice a3 p c3,⟨nm,k+j,some ((b.drop j).take p)⟩⟩],by go_num,by rw[Nat.sub_sub],by omega,by simp;omega,⟨rfl,?_,ay.out _⟩,?_⟩
    ·have hz:=Reads.from HY.out p (by omega)
     rw[Nat.sub_sub,List.drop_drop] at hz
     exact hz
    rw[←List.append_assoc,Hx,KT,JX _ _ _ _ HN.out]
    have e7:B6 [(⟨.slice a3 p c3,⟨nm,k+j,some ((b.drop j).take p)⟩⟩:Np)]= [.string nm,.int .i64 ((k:Int)+(j:Int)),.slice a3 p c3]:=by simp[B6,Qe]
    rw[e7,List.length_append]
    simp only[List.length_cons,List.length_nil,Nat.zero_add,←Nat.add_assoc]
    refine Sat.CR (B:=block w3.heap.size TP [.string nm,.int .i64 ((k:Int)+(j:Int)),.slice a3 p c3]) (Sat.drewN _ (ai.eq ?_))
    ac_rfl
 have b2: ¬(0:Int)<((b.length-j:Nat):Int):=by omega
 have HD:Aside (B4 l=Fz nm k b):=i.done (by omega)
 clear A hg hY i
 go_wp2
 go_ret
 refine ⟨rfl,o.heap.size,.slice na nl nc,.slice I (ps.length+l.length) J,l,HD.out,G.eq ?_⟩
 rw[←a8.out,←HR.out,Ms]
 unfold Bv Cp
 dsimp only
 ac_rfl
theorem Sr(D:Nat)(d:Dk)(nm:ByteArray)(k:Int)(z:Option Addr)(n B:Nat)(F:Ac)(w:World)(hs:Sat (Bh D d*F) w)(o:nm.size≤9223372036854775807)(hm:d.may nm false=0)(hr:k<0∨(EN (d.get nm):Int)<k):
 Calls Tryz.prog 147 #[.pointer (some ⟨D,0,none⟩),.string nm,.int .i64 k,.slice z n B] w fun e p=>e= .returned (.int .i64 2)∧w=p:=by
 obtain ⟨M,ns,pv,ps,q,r,g⟩:=Sat.C5 hs
 rcases GN d nm false with ⟨h,_⟩|⟨h,_⟩|⟨h,_⟩|⟨_,t,s,_⟩
 ·rw[h] at hm;cases hm
 ·rw[h] at hm;cases hm
 ·rw[h] at hm;cases hm
 rcases Fo ns nm with ⟨l1,x,l2,rfl,rfl,l⟩|l
 ·have m:EN (d.get x.nm)=x.f.now.length:=by unfold Dk.get;rw[←q,Ef l];rfl
  rw[m] at hr
  have a:=ET D M l1 x l2 pv ps d false F w g l o t s
  rw[CI] at g
  unfold Bv at g
  have v:=g.c x.b 0
  obtain ⟨G,H,u,_,_⟩:=E7 (g.take (rw TB 1 x.nv (A4 x.f.now)))
  rw[u] at v
  clear hs g q r m u hm
  by_cases j:k<0
  ·have i:decide (k<0)=true:=by simpa using j
   go_enter Tryz.func147,Tryz.ntmps147
   go_wp2_with (refine a.mono ?_;rintro e p ⟨rfl,rfl⟩)
   go_ret
   exact ⟨rfl,rfl⟩
  have i:decide (k<0)=false:=by simpa using j
  have y:(x.f.now.length:Int)<k:=by omega
  go_enter Tryz.func147,Tryz.ntmps147
  go_wp2_with (refine a.mono ?_;rintro e p ⟨rfl,rfl⟩)
  go_ret
  exact ⟨rfl,rfl⟩
 have m:EN (d.get nm)=0:=by unfold Dk.get;rw[←q,EM l];rfl
 rw[m] at hr
 have a:=KH D M ns pv ps d nm F w g l o t s
 clear hs g q r m hm
 by_cases j:k<0
 ·have i:decide (k<0)=true:=by simpa using j
  go_enter Tryz.func147,Tryz.ntmps147
  go_wp2_with (refine a.mono ?_;rintro e p ⟨rfl,rfl⟩)
  go_ret
  exact ⟨rfl,rfl⟩
 have i:decide (k<0)=false:=by simpa using j
 have y:(0:Int)<k:=by omega
 go_enter Tryz.func147,Tryz.ntmps147
 go_wp2_with (refine a.mono ?_;rintro e p ⟨rfl,rfl⟩)
 go_ret
 exact ⟨rfl,rfl⟩
theorem Sm(D:Nat)(d:Dk)(nm:ByteArray)(k:Nat)(u:Option Addr)(v:Nat)(F:Ac)(w:World)(hs:Sat (Bh D d*F) w)(l:nm.size≤9223372036854775807)(hm:d.may nm false=0)(hr:k≤EN (d.get nm)):
 Calls Tryz.prog 147 #[.pointer (some ⟨D,0,none⟩),.string nm,.int .i64 k,.slice u 0 v] w fun e n=>e= .returned (.int .i64 0)∧w=n:=by
 obtain ⟨M,ns,pv,ps,m,o,g⟩:=Sat.C5 hs
 rcases GN d nm false with ⟨h,_⟩|⟨h,_⟩|⟨h,_⟩|⟨_,q,p,_⟩
 ·rw[h] at hm;cases hm
 ·rw[h] at hm;cases hm
 ·rw[h] at hm;cases hm
 rcases Fo ns nm with ⟨l1,x,l2,rfl,rfl,i⟩|i
 ·have j:EN (d.get x.nm)=x.f.now.length:=by unfold Dk.get;rw[←m,Ef i];rfl
  rw[j] at hr
  have a:=ET D M l1 x l2 pv ps d false F w g i l q p
  rw[CI] at g
  unfold Bv at g
  have s:=g.c x.b 0
  obtain ⟨y,z,r,_,_⟩:=E7 (g.take (rw TB 1 x.nv (A4 x.f.now)))
  rw[r] at s
  clear hs g m o j r hm
  have t: ¬(x.f.now.length:Int)<k:=by omega
  go_enter Tryz.func147,Tryz.ntmps147
  go_wp2_with (refine a.mono ?_;rintro e n ⟨rfl,rfl⟩)
  go_ret
  exact ⟨rfl,rfl⟩
 have j:EN (d.get nm)=0:=by unfold Dk.get;rw[←m,EM i];rfl
 rw[j] at hr
 have a:=KH D M ns pv ps d nm F w g i l q p
 clear hs g m o j hm
 have t: ¬(0:Int)<k:=by omega
 go_enter Tryz.func147,Tryz.ntmps147
 go_wp2_with (refine a.mono ?_;rintro e n ⟨rfl,rfl⟩)
 go_ret
 exact ⟨rfl,rfl⟩
theorem Ot(D M:Nat)(ns:List Nf)(pv:Value)(ps:List Np)(d:Dk)(nm:ByteArray)(k:Nat)(L:Option Addr)(n O:Nat)(F:Ac)(w:World)(hs:Sat (AS D M ns pv ps d*F) w)(t:BE ns=d.files)(l:lens ns≤17592186044416)
 (y:nm.size≤9223372036854775807) (B:named nm=true) (J:d.down=false) (hr:k≤EN (d.get nm)) (R:0<n) (hb:n≤1099511627776) (q:Int) (hq:d.fits (d.get nm) (max (EN (d.get nm)) (k+n))=q):
 (q≠0→Calls Tryz.prog 147 #[.pointer (some ⟨D,0,none⟩),.string nm,.int .i64 k,.slice L n O] w fun e o=>e= .returned (.int .i64 q)∧Sat (AS D M ns pv ps d*F) o)∧
 (q=0→d.stop=true→Calls Tryz.prog 147 #[.pointer (some ⟨D,0,none⟩),.string nm,.int .i64 k,.slice L n O] w fun e o=>e= .returned (.int .i64 8)∧Sat (AS D M ns pv ps { d with down:=true } *F) o):=by
 have I:((n:Int)==0)=false:=by rw[beq_eq_false_iff_ne];omega
 rcases Fo ns nm with ⟨l1,x,l2,rfl,rfl,v⟩|v
 · have p:d.get x.nm=some x.f:=by unfold Dk.get;rw[←t,Ef v]
   have T:x.f.now.length≤17592186044416:=by
    have:lens (l1++x::l2)=lens (x::(l1++l2)):=Jj List.perm_middle
    rw[this,FB] at l;omega
   have j:EN (d.get x.nm)=x.f.now.length:=by rw[p];rfl
   rw[j] at hr hq
   rw[p] at hq
   have u:Aside (∀z:Int,z=max (x.f.now.length:Int) ((k:Int)+(n:Int))→Calls Tryz.prog 69 #[.pointer (some ⟨D,0,none⟩),.pointer (some ⟨x.b,0,none⟩),.int .i64 z] w fun e o=>e= .returned (.int .i64 q)∧Sat (AS D M (l1++x::l2) pv ps d*F) o):=by
    rintro z rfl
    have:=Lu D M l1 x l2 pv ps d (max (x.f.now.length:Int) ((k:Int)+(n:Int))) F w hs t (by omega) (by omega) (by omega)
    rw[hq] at this
    exact this
   have g:=ET D M l1 x l2 pv ps d false F w hs v y B J
   have P:w.cell? ⟨x.b,0,none⟩=some x.nv:=by rw[CI] at hs;unfold Bv at hs;exact hs.c x.b 0
   obtain ⟨X,Y,K,U,V⟩: ∃a c,x.nv= .slice a x.f.now.length c∧x.f.now.length≤c∧c≤9223372036854775807:=by rw[CI] at hs;unfold Bv at hs;exact E7 (hs.take (rw TB 1 x.nv (A4 x.f.now)))
   rw[K] at P
   have Q: ¬(x.f.now.length:Int)<k:=by omega
   clear hs t l B K hq j p
   constructor
   · intro m
     have G:(q !=0)=true:=by simpa using m
     clear m
     go_enter Tryz.func147,Tryz.ntmps147
     go_wp2_with fail
     refine g.mono ?_
     rintro e o ⟨rfl,rfl⟩
     go_wp2_with (go_at_call 69;refine (u.out _ ?_).mono ?_;omega;rintro e H ⟨rfl,i⟩)
     all_goals
      go_ret
      exact ⟨rfl,i⟩
   rintro rfl s
   go_enter Tryz.func147,Tryz.ntmps147
   go_wp2_with fail
   refine g.mono ?_
   rintro e o ⟨rfl,rfl⟩
   go_wp2_with first
    |(go_at_call 69;refine (u.out _ ?_).mono ?_;omega;rintro e H ⟨rfl,i⟩)
    |(go_at_call 149;refine (Ir D M pv d _ _ (i.eq (by rw[Cr,Ar])) s).mono ?_;rintro e W ⟨rfl,r⟩)
   all_goals
    go_ret
    exact ⟨rfl,r.eq (by rw[Cr];ac_rfl)⟩
 have p:d.get nm=none:=by unfold Dk.get;rw[←t,EM v]
 have j:EN (d.get nm)=0:=by rw[p];rfl
 rw[j] at hr hq
 rw[p] at hq
 have u:Aside (∀z:Int,z=max ((0:Nat):Int) ((k:Int)+(n:Int))→Calls Tryz.prog 69 #[.pointer (some ⟨D,0,none⟩),.pointer none,.int .i64 z] w fun e o=>e= .returned (.int .i64 q)∧Sat (AS D M ns pv ps d*F) o):=by
  rintro z rfl
  have:=Lt D M ns pv ps d (max ((0:Nat):Int) ((k:Int)+(n:Int))) F w hs t (by omega) (by omega) (by omega)
  rw[hq] at this
  exact this
 have g:=KH D M ns pv ps d nm F w hs v y B J
 have Q: ¬(0:Int)<k:=by omega
 clear hs t l B hq j p
 constructor
 · intro m
   have G:(q !=0)=true:=by simpa using m
   clear m
   go_enter Tryz.func147,Tryz.ntmps147
   go_wp2_with fail
   refine g.mono ?_
   rintro e o ⟨rfl,rfl⟩
   go_wp2_with (go_at_call 69;refine (u.out _ ?_).mono ?_;omega;rintro e H ⟨rfl,i⟩)
   all_goals
    go_ret
    exact ⟨rfl,i⟩
 rintro rfl s
 go_enter Tryz.func147,Tryz.ntmps147
 go_wp2_with fail
 refine g.mono ?_
 rintro e o ⟨rfl,rfl⟩
 go_wp2_with first
  |(go_at_call 69;refine (u.out _ ?_).mono ?_;omega;rintro e H ⟨rfl,i⟩)
  |(go_at_call 149;refine (Ir D M pv d _ _ (i.eq (by rw[Cr,Ar])) s).mono ?_;rintro e W ⟨rfl,r⟩)
 all_goals
  go_ret
  exact ⟨rfl,r.eq (by rw[Cr];ac_rfl)⟩
theorem Ju(D:Nat)(d:Dk)(m:Nat)(nm:ByteArray)(k:Int)(v:Value)(b:List UInt8)(B F:Ac)(w:World)(Q:Reads B v b)(hs:Sat (Bh D d*(B*F)) w)(i:nm.size≤9223372036854775807)(hb:b.length≤1099511627776)(ok:Ok m d)(T:m≤Iq):
 Calls Tryz.prog 147 #[.pointer (some ⟨D,0,none⟩),.string nm,.int .i64 k,v] w fun e s=>e= .returned (.int .i64 (d.write nm k b).1)∧Sat (Bh D (d.write nm k b).2*(B*F)) s:=by
 have X:m≤1099511627776:=T
 obtain ⟨V,W,rfl,a2,a3⟩:=(Q _ _ (hs.take B)).len
 by_cases hm:d.may nm false=0
 ·by_cases hr:k<0∨(EN (d.get nm):Int)<k
  ·have j:d.write nm k b=(2,d):=by unfold Dk.write;rw[if_neg (by simp[hm]),if_pos hr]
   rw[j]
   exact (Sr D d nm k V b.length W _ w hs i hm hr).mono fun e s ⟨a,n⟩=>⟨a,n▸hs⟩
  obtain ⟨k,rfl⟩:=Int.eq_ofNat_of_zero_le (show 0≤k by omega)
  have g:k≤EN (d.get nm):=by omega
  by_cases o:b.length=0
  ·have j:d.write nm k b=(0,d):=by unfold Dk.write;rw[if_neg (by simp[hm]),if_neg hr,if_pos o]
   rw[j]
   have:=Sm D d nm k V W _ w hs i hm g
   rw[o]
   exact this.mono fun e s ⟨a,n⟩=>⟨a,n▸hs⟩
  rcases GN d nm false with ⟨h,_⟩|⟨h,_⟩|⟨h,_⟩|⟨_,U,R,_⟩
  ·rw[h] at hm;cases hm
  ·rw[h] at hm;cases hm
  ·rw[h] at hm;cases hm
  obtain ⟨M,ns,pv,ps,a,n,y⟩:=Sat.C5 hs
  have z:=Ul ok a
  have H:ps.length≤1099511627776:=by have:=ok.AO;rw[←n] at this;simp[B4] at this;omega
  have r:=Ot D M ns pv ps d nm k V b.length W (B*F) w y a z i U R g (by omega) hb _ rfl
  by_cases hq:d.fits (d.get nm) (max (EN (d.get nm)) ((k:Int)+b.length))=0
  ·cases p : d.stop with
   | true =>
    have j:d.write nm k b=(8, { d with down:=true }):=by unfold Dk.write;rw[if_neg (by simp[hm]),if_neg hr,if_neg o,if_neg (by simp[hq]),if_pos p]
    rw[j]
    exact (r.2 hq p).mono fun e s ⟨O,l⟩=>⟨O,Sat.Ce (d:= { d with down:=true }) a n l⟩
   | false =>
    have j:d.write nm k b=(0,d.written nm k b):=by unfold Dk.write;rw[if_neg (by simp[hm]),if_neg hr,if_neg o,if_neg (by simp[hq]),if_neg (by simp[p])];rfl
    rw[j]
    rcases Fo ns nm with ⟨l1,x,l2,rfl,rfl,l⟩|l
    ·have t:d.get x.nm=some x.f:=by unfold Dk.get;rw[←a,Ef l]
     have u:EN (d.get x.nm)=x.f.now.length:=by rw[t];rfl
     rw[u] at g hq
     rw[t] at hq
     have hx:x.f.now.length≤1099511627776:=(ok.sz (x.nm,x.f) (by rw[←a];simp[BE])).1
     refine (Ss D M l1 x l2 pv ps d k _ b B F w Q y l a (by omega) i U R g (by omega) hb hx H hq p (by have:=ok.left;omega) ok.left.2 ok.changes.1 (by have:=ok.changes;omega)).mono ?_
     rintro e s ⟨nv,c,I,rfl,P,J⟩
     refine ⟨rfl,?_⟩
     have K:(d.written x.nm k b).files=Dj x.nm { x.f with now:=laid x.f.now k b } d.files:=by unfold Dk.written;rw[t];rfl
     refine Sat.Ce (M:=M) (ns:=l1++ { x with f:= { x.f with now:=laid x.f.now k b },nv:=nv } ::l2) (pv:=c) (ps:=ps++I) ?_ ?_ ?_
     ·rw[K,←a,JJ _ l];simp[BE]
     ·show B4 (ps++I)=d.AO++Fz x.nm k b
      rw[←n,←P];simp[B4]
     refine J.eq ?_
     have L:Ax D M c (d.written x.nm k b)=Ax D M c d.Bz:=rfl
     rw[Cr,L,Ba,A0]
     have Z:(l1++ { x with f:= { x.f with now:=laid x.f.now k b },nv:=nv } ::l2).map CA=(l1++x::l2).map CA:=by simp[CA]
     rw[Z]
     ac_rfl
    have t:d.get nm=none:=by unfold Dk.get;rw[←a,EM l]
    have u:EN (d.get nm)=0:=by rw[t];rfl
    rw[u] at g hq
    rw[t] at hq
    refine (TO D M ns nm pv ps d k _ b B F w Q y l a (by omega) i U R g (by omega) hb H hq p (by have:=ok.left;omega) ok.left.2 ok.changes.1 (by have:=ok.changes;omega)).mono ?_
    rintro e s ⟨Y,nv,c,I,rfl,P,J⟩
    refine ⟨rfl,?_⟩
    have K:(d.written nm k b).files=Dj nm ⟨laid [] k b,[],false⟩ d.files:=by unfold Dk.written;rw[t];rfl
    refine Sat.Ce (M:=M) (ns:=ns++ [⟨Y,nm,⟨laid [] k b,[],false⟩,nv,.slice none 0 0⟩]) (pv:=c) (ps:=ps++I) ?_ ?_ ?_
    ·rw[K,←a,OJ _ l];simp[BE]
    ·show B4 (ps++I)=d.AO++Fz nm k b
     rw[←n,←P];simp[B4]
    have e5:=Nn (n':=⟨Y,nm,⟨laid [] k b,[],false⟩,nv,.slice none 0 0⟩) l
    rw[e5] at J
    refine J.eq ?_
    have L:Ax D M c (d.written nm k b)=Ax D M c d.Bz:=rfl
    rw[Cr,L,Ba,A0,A0,Bd]
    ac_rfl
  have j:d.write nm k b=(d.fits (d.get nm) (max (EN (d.get nm)) ((k:Int)+b.length)),d):=by unfold Dk.write;rw[if_neg (by simp[hm]),if_neg hr,if_neg o,if_pos hq]
  rw[j]
  exact (r.1 hq).mono fun e s ⟨O,l⟩=>⟨O,Sat.Ce a n l⟩
 have j:d.write nm k b=(d.may nm false,d):=by unfold Dk.write;rw[if_pos hm]
 rw[j]
 obtain ⟨M,ns,pv,ps,a,n,y⟩:=Sat.C5 hs
 have G:=Mz D M ns pv ps d nm false (B*F) w y a i hm
 have a1:(d.may nm false !=0)=true:=by simpa using hm
 clear y a n j hm ok
 generalize d.may nm false=q at*
 go_enter Tryz.func147,Tryz.ntmps147
 go_wp2_with (refine G.mono ?_;rintro e s ⟨rfl,rfl⟩)
 go_ret
 exact ⟨rfl,hs⟩
end Go.Proofs.YtfhbmblbidcmmaaGreat
namespace Go.Proofs.YtfhbmblbidcmmaaGreat
open Go.RowKit Go.Sl
theorem ID(x n:Int)(w:World)(g:1≤n)(i:n≤4611686018427387904):
 Calls Tryz.prog 21 #[.int .i64 x,.int .i64 n] w fun e f=>e= .returned (.int .i64 (x%n))∧w=f:=by
 have hb:=Int.tmod_lt_of_pos x (show 0<n by omega)
 have b:=Int.lt_tmod_of_pos x (show 0<n by omega)
 have d:(n==0)=false:=by simp;omega
 by_cases h:x.tmod n<0
 · have e:x%n=x.tmod n+n:=by
    rw[Int.emod_eq_tmod]
    have hx: ¬0≤x:=fun a=>by have:=Int.tmod_nonneg n a;omega
    have c: ¬n∣x:=fun a=>by rw[Int.tmod_eq_zero_of_dvd a] at h;omega
    rw[if_neg (by simp[c];omega)]
    omega
   rw[e]
   clear e
   go_enter Tryz.func21,Tryz.ntmps21
   go_wp2
   go_ret
   exact ⟨rfl,rfl⟩
 have e:x%n=x.tmod n:=by
  rw[Int.emod_eq_tmod]
  rw[if_pos]
  · omega
  by_cases hx:0≤x
  · exact .inl hx
  right
  have j:(-x).tmod n= -x.tmod n:=Int.neg_tmod _ _
  have k:=Int.tmod_nonneg n (show 0≤ -x by omega)
  exact Int.dvd_of_tmod_eq_zero (by omega)
 rw[e]
 clear e
 go_enter Tryz.func21,Tryz.ntmps21
 go_wp2
 go_ret
 exact ⟨rfl,rfl⟩
def Ints(w:World)(v:Value)(zs:List Int):Prop:= ∃a c,v= .slice a zs.length c∧ ∀i z,zs[i]?=some z→ ∃b o,a=some ⟨b,o,none⟩∧w.cell? ⟨b,o+i,none⟩=some (.int .i64 z)
theorem Ints.len{w:World}{v:Value}{zs:List Int}(h:Ints w v zs): ∃a c,v= .slice a zs.length c:=by
 obtain ⟨a,c,h,_⟩:=h
 exact ⟨a,c,h⟩
theorem Ints.at{w:World}{a:Option Addr}{n c q:Nat}{zs:List Int}{z:Int}(h:Ints w (.slice a n c) zs)(hq:zs[q]?=some z): ∃b o,a=some ⟨b,o,none⟩∧w.cell? ⟨b,o+q,none⟩=some (.int .i64 z):=by
 obtain ⟨a',f,d,e⟩:=h
 cases d
 exact e q z hq
theorem Ints.Zm{w:World}{v:Value}{zs:List Int}{F:Ac}{e:Nat}(hs:Sat (rw e 1 v (zs.map (Value.int .i64))*F) w):Ints w v zs:=by
 rcases hs.Cm with ⟨b,c,f⟩|⟨g,n',a,sp,b,c,f,l,m,j⟩
 ·have:zs= []:=by simpa using c
  subst this
  exact ⟨none,0,b,fun i z d=>by simp at d⟩
 have:n'=zs.length:=by simpa using c.symm
 subst this
 refine ⟨_,a,b,fun i z d=>⟨g,0,rfl,?_⟩⟩
 have k:Sat (cells g 0 (zs.map (Value.int .i64))*(Dl g e (zs.map (Value.int .i64)++sp).length*(cells g (zs.map (Value.int .i64)).length sp*F))) w:=j.eq (by rw[De];ac_rfl)
 exact k.DC i (.int .i64 z) (by simp[d])
open Go.Dk
def Ya(a:List ByteArray)(s:ByteArray):Bool:=a.any fun x=>decide (x=s)
theorem Gf{a:List ByteArray}{s:ByteArray} :Ya a s=true↔s∈a:=by
 unfold Ya
 simp only[List.any_eq_true,decide_eq_true_eq]
 exact ⟨fun ⟨x,h,e⟩=>e▸h,fun h=>⟨s,h,rfl⟩⟩
theorem QI{b a:List ByteArray}{k s:ByteArray}(c: ∀s,s≠k→(s∈b↔s∈a))(hs:s≠k):Ya b s=Ya a s:=by
 rw[Bool.eq_iff_iff,Gf,Gf];exact c s hs
def RZ(a:List ByteArray)(b:ByteArray→Value)(n:Nf):Nf:=if Ya a n.nm then n else { n with f:=⟨n.f.safe,n.f.safe,n.f.sure⟩,nv:=b n.nm }
def Et(a:ByteArray→Value)(k:ByteArray)(v:Value):ByteArray→Value:=fun s=>if s=k then v else a s
theorem P2{b a:List ByteArray}{d:ByteArray→Value}{k:ByteArray}{v:Value}{l:List Nf}(h: ∀n∈l,n.nm≠k)(f: ∀s,s≠k→(s∈b↔s∈a)):l.map (RZ b d)=l.map (RZ a (Et d k v)):=by
 apply List.map_congr_left
 intro n e
 have c:=h n e
 unfold RZ
 rw[QI f c]
 simp[Et,c]
theorem YZ{b:ByteArray→Value}{ns:List Nf} :ns.map (RZ (ns.map (·.nm)) b)=ns:=by
 conv=>rhs;rw[←List.map_id ns]
 apply List.map_congr_left
 intro n a
 unfold RZ
 rw[if_pos (Gf.2 (List.mem_map.2 ⟨n,a,rfl⟩))];rfl
theorem I8{l1:List Nf}{n:Nf}{l2:List Nf}(h:((l1++n::l2).map (·.nm)).Nodup):(∀m∈l1,m.nm≠n.nm)∧(∀m∈l2,m.nm≠n.nm):=by
 simp only[List.map_append,List.map_cons,List.nodup_append,List.nodup_cons,List.mem_cons,List.mem_map] at h
 obtain ⟨_,⟨a,_⟩,b⟩:=h
 exact ⟨fun m hm e=>b m.nm ⟨m,hm,rfl⟩ n.nm (.inl rfl) e,fun m hm e=>a ⟨m,hm,e⟩⟩
theorem I4(ns:List Nf):(ns.map CA).map (·.1)=ns.map (·.nm):=by simp[CA,Function.comp_def]
def Kj(L:List Pc)(a:ByteArray→Value)(n:Nf):Nf:= { n with f:=⟨(ofName n.nm L).foldl Gu n.f.safe,n.f.safe,n.f.sure⟩,nv:=a n.nm }
theorem o7(a:ByteArray→Value):RZ [] a=Kj [] a:=by funext n;simp[RZ,Kj,ofName,Ya]
theorem ZK(L:List Pc)(a:ByteArray→Value)(ns:List Nf):(ns.map (Kj L a)).map CA=ns.map CA:=by
 rw[List.map_map]
 apply List.map_congr_left
 intro n _
 simp[CA,Kj]
theorem Gn(nm:ByteArray)(L:List Pc)(p:Pc):ofName nm (L++ [p])=if p.nm=nm then ofName nm L++ [p] else ofName nm L:=by
 unfold ofName
 rw[List.filter_append]
 have e:(p.nm==nm)=decide (p.nm=nm):=bytes_beq _ _
 by_cases h:p.nm=nm
 ·have e':(p.nm==nm)=true:=by rw[e];simpa using h
  rw[if_pos h]
  simp[List.filter_cons,e']
 have e':(p.nm==nm)=false:=by rw[e];simpa using h
 rw[if_neg h]
 simp[List.filter_cons,e']
theorem P3{L:List Pc}{p:Pc}{b:ByteArray→Value}{v:Value}{l:List Nf}(h: ∀n∈l,n.nm≠p.nm):l.map (Kj L b)=l.map (Kj (L++ [p]) (Et b p.nm v)):=by
 apply List.map_congr_left
 intro n c
 have a:=h n c
 unfold Kj
 rw[Gn,if_neg (fun e=>a e.symm)]
 simp[Et,a]
theorem OP(a:List Int): ∀(l:List Pc)(i:Nat)(p:Pc),DJ a i (l++ [p])=DJ a i l++if IE a (i+l.length) then [p] else []
 | [],i,p=>by simp[DJ]
 | x :: l, i, p => by
  have:=OP a l (i+1) p
  have e:i+1+l.length=i+(x::l).length:=by simp;omega
  rw[e] at this
  simp only[List.cons_append,DJ,this]
  split<;>simp
def E2(L:List Pc)(s:ByteArray):Bool:=(ofName s L).any fun p=>p.b.isSome
def Hf(L:List Pc)(a:List (ByteArray×Value)):Prop:= ∀s,Dx s a=if E2 L s then some (.bool true) else none
theorem Vr[DecidableEq ByteArray](k s:ByteArray)(v:Value)(l:List (ByteArray×Value)):Dx s (Er k v l)=if s=k then some v else Dx s l:=by
 induction l with
 |nil=>simp only[Er,Dx]
 | cons p l b =>
  unfold Er
  by_cases a:k=p.1
  ·rw[if_pos a]
   simp only[Dx]
   by_cases hs:s=k
   ·simp[hs]
   have: ¬s=p.1:=fun e=>hs (e.trans a.symm)
   simp[hs,this]
  rw[if_neg a]
  simp only[Dx,b]
  by_cases hs:s=p.1
  ·have: ¬s=k:=fun e=>a (e.symm.trans hs)
   simp[hs,this]
   intro e;exact absurd e.symm a
  simp[hs]
theorem Hf.cut{L:List Pc}{a:List (ByteArray×Value)}(h:Hf L a){p:Pc}(hp:p.b=none):Hf (L++ [p]) a:=by
 intro s
 rw[h s]
 have:E2 (L++ [p]) s=E2 L s:=by
  unfold E2
  rw[Gn]
  split<;>simp[hp]
 rw[this]
theorem Hf.put{L:List Pc}{a:List (ByteArray×Value)}(h:Hf L a){p:Pc}(hp:p.b.isSome=true):Hf (L++ [p]) (Er p.nm (.bool true) a):=by
 intro s
 rw[Vr,h s]
 have:E2 (L++ [p]) s=if s=p.nm then true else E2 L s:=by
  unfold E2
  rw[Gn]
  by_cases e:s=p.nm
  ·simp[e,hp]
  rw[if_neg (fun h:p.nm=s=>e h.symm),if_neg e]
 rw[this]
 by_cases e:s=p.nm<;>simp[e]
def Kk(L:List Pc)(a:List ByteArray)(b:ByteArray→Value)(n:Nf):Option Nf:=
 if Ya a n.nm then some n else if n.f.sure||E2 L n.nm then some { n with f:=⟨n.f.now,n.f.now,true⟩,sv:=b n.nm } else none
theorem P4{L:List Pc}{b a:List ByteArray}{c:ByteArray→Value}{k:ByteArray}{v:Value}{l:List Nf}(h: ∀n∈l,n.nm≠k)(f: ∀s,s≠k→(s∈b↔s∈a)):l.filterMap (Kk L b c)=l.filterMap (Kk L a (Et c k v)):=by
 induction l with
 |nil=>rfl
 | cons n l g =>
  have d:=h n (by simp)
  have e:Kk L b c n=Kk L a (Et c k v) n:=by
   unfold Kk
   rw[QI f d]
   simp[Et,d]
  rw[List.filterMap_cons,List.filterMap_cons,e,g fun m hm=>h m (by simp[hm])]
theorem ZL{L:List Pc}{a:List ByteArray}{c:ByteArray→Value}{n n':Nf}(h:Kk L a c n=some n'):n'.nm=n.nm∧n'.b=n.b:=by
 unfold Kk at h
 split at h
 ·cases h;exact ⟨rfl,rfl⟩
 split at h
 ·cases h;exact ⟨rfl,rfl⟩
 cases h
theorem U3{L:List Pc}{a:ByteArray→Value}{ns:List Nf} :ns.filterMap (Kk L (ns.map (·.nm)) a)=ns:=by
 have: ∀l:List Nf,(∀n∈l,n∈ns)→l.filterMap (Kk L (ns.map (·.nm)) a)=l:=by
  intro l
  induction l with
  |nil=>intro _;rfl
  | cons n l b =>
   intro h
   have e:Kk L (ns.map (·.nm)) a n=some n:=by unfold Kk;rw[if_pos (Gf.2 (List.mem_map.2 ⟨n,h n (by simp),rfl⟩))]
   rw[List.filterMap_cons,e,b fun m hm=>h m (by simp[hm])]
 exact this ns fun _ h=>h
theorem QZ{l1:List Nf}{n:Nf}{l2:List Nf}(h: ∀m∈l1,m.nm≠n.nm):EU n.nm ((l1++n::l2).map CA)=(l1++l2).map CA:=by
 induction l1 with
 |nil=>simp[CA,EU]
 | cons m l a =>
  show (if n.nm=m.nm then _ else _)=_
  rw[if_neg (fun e=>h m (by simp) e.symm)]
  have:=a fun m hm=>h m (by simp[hm])
  simp only[List.map_cons,List.cons_append]
  exact congrArg _ this
theorem Q1(ns:List Nf)(L:List Pc)(a c:ByteArray→Value):BE ((ns.map (Kj L a)).filterMap (Kk L [] c))=(BE ns).filterMap (crashed L):=by
 induction ns with
 |nil=>rfl
 | cons n l b =>
  simp only[List.map_cons,BE,List.filterMap_cons] at b⊢
  have d:(Kk L [] c (Kj L a n))=if n.f.sure||E2 L n.nm then some { Kj L a n with f:=⟨(Kj L a n).f.now,(Kj L a n).f.now,true⟩,sv:=c n.nm } else none:=by
   unfold Kk;simp[Kj,Ya]
  have e:crashed L (n.nm,n.f)=if n.f.sure||E2 L n.nm then some (n.nm,⟨(ofName n.nm L).foldl Gu n.f.safe,(ofName n.nm L).foldl Gu n.f.safe,true⟩) else none:=rfl
  rw[d,e]
  cases hb:(n.f.sure||E2 L n.nm)
  · simp only[Bool.false_eq_true,if_false];exact b
  simp only[if_true,List.map_cons]
  rw[←b];rfl
theorem Kq(z:Int):bits .and .i64 z 1=z%2:=by
 show IntKind.i64.wrap (((BitVec.ofInt 64 z&&&BitVec.ofInt 64 1).toNat:Nat):Int)=_
 have b:(BitVec.ofInt 64 z&&&BitVec.ofInt 64 1).toNat=(z%2).toNat:=by
  rw[BitVec.toNat_and]
  have a:(BitVec.ofInt 64 1).toNat=1:=by decide
  rw[a,Nat.and_one_is_mod,BitVec.toNat_ofInt]
  omega
 rw[b,IntKind.wrap_i64]
 omega
theorem WS(b:List UInt8)(p:Pc)(n:Nat)(hb:b.length≤n)(hp:p.pos+(p.b.getD []).length≤n):(Gu b p).length≤n:=by
 unfold Gu
 cases a:p.b with
 |none=>simp;omega
 |some x=>rw[a] at hp;simp only[Option.getD_some] at hp;rw[C8];omega
theorem Jh(n:Nat): ∀(L:List Pc)(b:List UInt8),b.length≤n→(∀p∈L,p.pos+(p.b.getD []).length≤n)→(L.foldl Gu b).length≤n
 | [],b,hb,_=>hb
 | p :: L, b, hb, h => by
  rw[List.foldl_cons]
  exact Jh n L _ (WS b p n hb (h p (by simp))) fun q hq=>h q (by simp[hq])
theorem I2(a:List Int): ∀(l:List Pc)(i:Nat),∀p∈DJ a i l,p∈l
 | [],_,p,h=>by simp[DJ] at h
 | x :: l, i, p, h => by
  unfold DJ at h
  split at h
  ·rcases List.mem_cons.1 h with rfl|h
   ·simp
   exact List.mem_cons_of_mem _ (I2 a l _ p h)
  exact List.mem_cons_of_mem _ (I2 a l _ p h)
theorem R7{x:Np}{l:List UInt8}(h:x.p.b=some l)(a:notNil x.v):EX x=rw TB 1 x.v (A4 l):=by
 obtain ⟨v,⟨nm,k,b⟩⟩:=x
 dsimp only at h a⊢
 subst h
 exact JX v nm k l a
end Go.Proofs.YtfhbmblbidcmmaaGreat
namespace Go.Proofs.YtfhbmblbidcmmaaGreat
open Go.Dk
theorem K3{nm:ByteArray}{f:Fl}{p:ByteArray×Fl} : ∀{fs:List (ByteArray×Fl)},p∈Dj nm f fs→p=(nm,f)∨p∈fs
 | [],h=>by simp[Dj] at h;exact .inl h
 | q :: l, h => by
  unfold Dj at h
  split at h
  ·rcases List.mem_cons.1 h with h|h
   ·exact .inl h
   exact .inr (List.mem_cons_of_mem _ h)
  rcases List.mem_cons.1 h with h|h
  ·exact .inr (by simp[h])
  rcases K3 h with h|h
  ·exact .inl h
  exact .inr (List.mem_cons_of_mem _ h)
theorem JK{nm:ByteArray}{f:Fl} : ∀{fs:List (ByteArray×Fl)},(fs.map (·.1)).Nodup→((Dj nm f fs).map (·.1)).Nodup
 | [],_=>by simp[Dj]
 | q :: l, h => by
  simp only[List.map_cons,List.nodup_cons] at h
  unfold Dj
  by_cases a:nm=q.1
  ·rw[if_pos a];simp only[List.map_cons,List.nodup_cons,a];exact h
  rw[if_neg a]
  simp only[List.map_cons,List.nodup_cons]
  refine ⟨?_,JK h.2⟩
  intro hm
  obtain ⟨p,hp,e⟩:=List.mem_map.1 hm
  rcases K3 hp with rfl|hp
  ·exact a e
  exact h.1 (List.mem_map.2 ⟨p,hp,e⟩)
theorem FP{nm:ByteArray}{f:Fl} : ∀{fs:List (ByteArray×Fl)},(Dj nm f fs).length=if (Cb nm fs).isSome then fs.length else fs.length+1
 | []=>by simp[Dj,Cb]
 | q :: l => by
  unfold Dj Cb
  by_cases a:nm=q.1
  ·rw[if_pos a,if_pos a];simp
  rw[if_neg a,if_neg a]
  have:=FP (nm:=nm) (f:=f) (fs:=l)
  simp only[List.length_cons,this]
  split<;>rfl
theorem Cs{nm k:ByteArray}{f:Fl} : ∀{fs:List (ByteArray×Fl)},Cb k (Dj nm f fs)=if k=nm then some f else Cb k fs
 | []=>by simp[Dj,Cb]
 | q :: l => by
  unfold Dj
  by_cases a:nm=q.1
  ·rw[if_pos a]
   unfold Cb
   by_cases h:k=nm
   ·simp[h]
   have: ¬k=q.1:=fun e=>h (e.trans a.symm)
   simp[h,this]
  rw[if_neg a]
  unfold Cb
  rw[Cs (fs:=l)]
  by_cases h:k=q.1
  ·have: ¬k=nm:=fun e=>a (e.symm.trans h)
   rw[if_pos h,if_neg this,if_pos h]
  simp[h]
theorem Kz{k:ByteArray}{f:Fl} : ∀{fs:List (ByteArray×Fl)},Cb k fs=some f→(k,f)∈fs
 | [],h=>by simp[Cb] at h
 | q :: l, h => by
  unfold Cb at h
  split at h
  ·rename_i e;cases h;simp[e]
  exact List.mem_cons_of_mem _ (Kz h)
theorem MM{nm:ByteArray} : ∀{fs:List (ByteArray×Fl)},EN (Cb nm fs)≤sum fs
 | []=>by simp[Cb,EN]
 | q :: l => by
  have a:=MM (nm:=nm) (fs:=l)
  unfold Cb
  split
  ·simp[EN,Dk.sum]
  simp only[Dk.sum,List.map_cons,List.sum_cons] at a⊢;omega
theorem OC{m:Nat}{d:Dk}(ok:Ok m d){nm:ByteArray}{n:Int}(h:d.fits (d.get nm) n=0)(j:0≤n):n≤Iq∧((d.get nm).isSome=false→d.files.length<16):=by
 unfold Dk.fits at h
 by_cases a:((d.get nm).isNone&&decide (16≤d.files.length))=true
 ·rw[if_pos a] at h;cases h
 rw[if_neg a] at h
 by_cases c:(decide ((EN (d.get nm):Int)<n)&&decide (d.room<(sum d.files:Int)-EN (d.get nm)+n))=true
 ·rw[if_pos c] at h;cases h
 refine ⟨?_,?_⟩
 ·have hs:EN (d.get nm)≤sum d.files:=MM
  have hr:=ok.room
  by_cases i:(EN (d.get nm):Int)<n
  · have e: ¬(d.room<(sum d.files:Int)-EN (d.get nm)+n):=fun e=>c (by simp[i,e])
    omega
  have k:EN (d.get nm)≤Iq:=by
   cases g:d.get nm with
   |none=>simp[EN]
   |some f=>exact (ok.sz (nm,f) (Kz g)).1
  omega
 intro l
 have b:(d.get nm).isNone=true:=by cases g:d.get nm<;>simp_all
 rw[b] at a
 simpa using a
theorem Ed{m m':Nat}{d:Dk}(ok:Ok m d)(h:m≤m'):Ok m' d:=
 ⟨ok.nd,ok.room,by have:=ok.left;omega,by have:=ok.changes;omega,by have:=ok.AO;omega,ok.nf,ok.sz,ok.pc,ok.pn⟩
theorem Uq{m:Nat}{d:Dk}(ok:Ok m d):Ok m { d with down:=true } :=⟨ok.nd,ok.room,ok.left,ok.changes,ok.AO,ok.nf,ok.sz,ok.pc,ok.pn⟩
theorem ZA(room:Int)(a:0≤room)(b:room≤Iq):Ok 0 (Dk.new room):=
 ⟨by simp[Dk.new],⟨a,b⟩,by simp[Dk.new],by simp[Dk.new],by simp[Dk.new],by simp[Dk.new],by simp[Dk.new],by simp[Dk.new],by simp[Dk.new]⟩
theorem Xg{m:Nat}{d:Dk}(ok:Ok m d)(n:Int)(a:n≤9223372036854775807):Ok m (d.arm n).2:=by
 unfold Dk.arm
 split
 ·exact ok
 exact ⟨ok.nd,ok.room,⟨by have:=ok.left;show-(m:Int)≤n;omega,a⟩,ok.changes,ok.AO,ok.nf,ok.sz,ok.pc,ok.pn⟩
theorem Nv{m:Nat}{d:Dk}(ok:Ok m d)(nm:ByteArray)(k:Int)(b:List UInt8):Ok (m+1+b.length) (d.write nm k b).2:=by
 unfold Dk.write
 split
 · exact Ed ok (by omega)
 split
 · exact Ed ok (by omega)
 split
 · exact Ed ok (by omega)
 split
 · exact Ed ok (by omega)
 split
 · exact Uq (Ed ok (by omega))
 rename_i hm hr hb j q
 have a:d.fits (d.get nm) (max (EN (d.get nm)) (k+b.length))=0:=by simpa using j
 obtain ⟨k,rfl⟩:=Int.eq_ofNat_of_zero_le (show 0≤k by omega)
 obtain ⟨r,g⟩:=OC ok a (by omega)
 have o:k+b.length≤Iq:=by omega
 simp only[Int.toNat_natCast] at*
 show Ok _ (d.written nm k b)
 have c:(((d.get nm).getD Dk.Io).now.length≤Iq)∧(((d.get nm).getD Dk.Io).safe.length≤Iq):=by
  cases n:d.get nm with
  |none=>simp[Dk.Io]
  |some f=>exact ok.sz (nm,f) (Kz n)
 refine ⟨JK ok.nd,ok.room,?_,?_,?_,?_,?_,?_,?_⟩
 · have:=ok.left;show-((m+1+b.length:Nat):Int)≤d.left-1∧d.left-1≤_;omega
 · have:=ok.changes;show 0≤d.changes+1∧d.changes+1≤((m+1+b.length:Nat):Int);omega
 · show (d.AO++Fz nm k b).length≤_
   rw[List.length_append]
   have:=ok.AO
   have:=NL nm b.length k b (Nat.le_refl _)
   omega
 · show (Dj nm _ d.files).length≤16
   rw[FP]
   have:=ok.nf
   split
   ·exact this
   rename_i h
   have:=g (by simpa[Dk.get] using h)
   omega
 · intro p hp
   rcases K3 hp with rfl|hp
   ·refine ⟨?_,c.2⟩
    show (laid _ k b).length≤Iq
    rw[C8];omega
   exact ok.sz p hp
 · intro p hp
   rcases List.mem_append.1 hp with hp|hp
   ·exact ok.pc p hp
   obtain ⟨_,l,i,s,_⟩:=IQ nm b.length k b (Nat.le_refl _) p hp
   rw[i];simp only[Option.getD_some];omega
 intro p hp
 show (Cb p.nm (Dj nm _ d.files)).isSome=true
 rw[Cs]
 split
 · rfl
 rename_i e
 rcases List.mem_append.1 hp with hp|hp
 · exact ok.pn p hp
 exact absurd (IQ nm b.length k b (Nat.le_refl _) p hp).1 e
theorem Xi{m:Nat}{d:Dk}(ok:Ok m d){nm:ByteArray}{f:Fl}(a:f.now.length≤Iq)(b:f.safe.length≤Iq)(c:(d.get nm).isSome=false→d.files.length<16):Ok m (d.put nm f):=by
 refine ⟨JK ok.nd,ok.room,ok.left,ok.changes,ok.AO,?_,?_,ok.pc,?_⟩
 ·show (Dj nm f d.files).length≤16
  rw[FP]
  have:=ok.nf
  split
  ·exact this
  rename_i h
  have:=c (by simpa[Dk.get] using h)
  omega
 ·intro p hp
  rcases K3 hp with rfl|hp
  ·exact ⟨a,b⟩
  exact ok.sz p hp
 intro p hp
 show (Cb p.nm (Dj nm f d.files)).isSome=true
 rw[Cs]
 split
 ·rfl
 exact ok.pn p hp
theorem Nu{m:Nat}{d:Dk}(ok:Ok m d)(nm:ByteArray):Ok m (d.settled nm):=by
 refine ⟨ok.nd,ok.room,ok.left,ok.changes,?_,ok.nf,ok.sz,fun p hp=>ok.pc p (List.mem_filter.1 hp).1,fun p hp=>ok.pn p (List.mem_filter.1 hp).1⟩
 have:=ok.AO
 have a:(d.settled nm).AO.length≤d.AO.length:=List.length_filter_le _ _
 omega
theorem Vw{m:Nat}{d:Dk}(ok:Ok m d):Ok (m+1) d.Bz:=by
 refine ⟨ok.nd,ok.room,?_,?_,?_,ok.nf,ok.sz,ok.pc,ok.pn⟩
 ·have:=ok.left;show-((m+1:Nat):Int)≤d.left-1∧d.left-1≤_;omega
 ·have:=ok.changes;show 0≤d.changes+1∧d.changes+1≤((m+1:Nat):Int);omega
 have:=ok.AO;show d.AO.length≤m+1;omega
theorem YF{m:Nat}{d:Dk}(ok:Ok m d)(nm:ByteArray)(b:List UInt8):Ok m (d.load nm b).2:=by
 unfold Dk.load
 split
 ·exact ok
 split
 ·exact ok
 rename_i h
 have c:d.fits (d.get nm) (b.length:Nat)=0:=by simpa using h
 obtain ⟨e,a⟩:=OC ok c (by omega)
 exact Xi (Nu ok nm) (by show b.length≤Iq;omega) (by show b.length≤Iq;omega) a
theorem YH{m:Nat}{d:Dk}(ok:Ok m d)(nm:ByteArray):Ok (m+1) (d.sync nm).2:=by
 unfold Dk.sync
 split
 ·exact Ed ok (by omega)
 split
 ·exact Uq (Ed ok (by omega))
 rename_i h _
 have hm:d.may nm true=0:=by simpa using h
 have c:=KI hm
 obtain ⟨f,b⟩:=Option.isSome_iff_exists.1 c
 have g:=ok.sz (nm,f) (Kz b)
 have e:(d.get nm).getD Dk.Io=f:=by rw[b];rfl
 simp only[e]
 exact Nu (Xi (f:= { f with safe:=f.now,sure:=true }) (Vw ok) g.1 g.1 (fun h=>by have a:(d.get nm).isSome=false:=h;rw[c] at a;cases a)) nm
theorem Rv{m:Nat}{d:Dk}(ok:Ok m d)(a:List Int):Ok m (d.J3 a):=by
 have b: ∀(fs:List (ByteArray×Fl))(L:List Pc),((fs.filterMap (crashed L)).map (·.1)).Sublist (fs.map (·.1)):=by
  intro fs L
  induction fs with
  |nil=>simp
  | cons p l e =>
    rw[List.filterMap_cons]
    unfold crashed
    split
    ·exact e.cons _
    rename_i q hq
    split at hq
    ·cases hq;exact e.cons_cons _
    cases hq
 refine ⟨ok.nd.sublist (b _ _),ok.room,ok.left,ok.changes,by show ([]:List Pc).length≤m;simp,?_,?_,by simp[Dk.J3],by simp[Dk.J3]⟩
 · have:=(b d.files (DJ a 0 d.AO)).length_le
   have f:=ok.nf
   simp only[List.length_map] at this
   show (d.files.filterMap _).length≤16
   omega
 intro p hp
 obtain ⟨q,hq,c⟩:=List.mem_filterMap.1 hp
 unfold crashed at c
 split at c
 · cases c
   have:((ofName q.1 (DJ a 0 d.AO)).foldl Gu q.2.safe).length≤Iq:=Jh _ _ _ (ok.sz q hq).2 fun x hx=>ok.pc x (I2 a _ 0 x (List.mem_filter.1 hx).1)
   exact ⟨this,this⟩
 cases c
