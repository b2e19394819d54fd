/- treeShape holds for every input. No condition. (part 55) -/
import Derived.Test.YtfhbmblbidcmmaaGreatSk50
import Derived.Test.YtfhbmblbidcmmaaGreatSk54
set_option linter.all false
set_option maxRecDepth 100000
set_option maxHeartbeats 6400000
namespace Go.Proofs.YtfhbmblbidcmmaaGreat
open Go.RowKit Go.Sl Go.Dk Go.Tr
variable [EZ]
theorem Ja{A R1 R2 k l m n o p q a b c:Ac}{w:World}[h:Bg A w](g i j r s t u v x d e f:Ac)[t1:Take A g R1][t2:Take R1 i R2][t3:Take R2 j k][t4:Take k r l][t5:Take l s m][t6:Take m t n][t7:Take n u o][t8:Take o v p][t9:Take p x q][t10:Take q d a][t11:Take a e b][t12:Take b f c]:Sat (g*(i*(j*(r*(s*(t*(u*(v*(x*(d*(e*f))))))))))) w:=Sat.Dq (B:=c) ((h.out.IC g i j).eq (by rw[t4.out,t5.out,t6.out,t7.out,t8.out,t9.out,t10.out,t11.out,t12.out];ac_rfl))
theorem UI{l:List Int}{i:Nat}{z:Int}(h:l[i]?=some z)(y:Int):(l.take (i+1)).count y=(l.take i).count y+if z=y then 1 else 0:=by simp[List.take_add_one,h,List.count_append,List.count_singleton]
theorem Tu{l:List Int}(h:l.Pairwise (· < ·)){i j:Nat}{x y:Int}(hx:l[i]?=some x)(hy:l[j]?=some y)(a:i<j):x<y:=by
 obtain ⟨h1,b⟩:=List.getElem?_eq_some_iff.1 hx
 obtain ⟨c,d⟩:=List.getElem?_eq_some_iff.1 hy
 rw[←b,←d]
 exact List.pairwise_iff_getElem.1 h i j h1 c a
theorem Uu{V:Int→Option Nd}(c: ∀p n,V p=some n→may n=true∧1≤p∧p<1048576){m:Nat}{s:TS}(b:GC V (m+1037) s){r:Int}(a:(CM V r).ok=true):
 ∃l' s',Mo Ai r s= .ok l' s'∧GC V m s'∧s'.sp=s.sp∧s'.ck.d=s.ck.d∧ ∀x,x∈l'↔x∈(CM V r).A7:=by
 by_cases h0:r=0
 ·subst h0
  refine ⟨[],s,rfl,b.less (by omega),rfl,rfl,fun x=>?_⟩
  rfl
 obtain ⟨g,h1,f,i⟩:=bL (fun p n h=>(c p n h).1) h0 a
 obtain ⟨l',s',e,o⟩:=O3 (fun p n h=>(c p n h).2) 21 g r (CM V r).A7 [] m s (by omega) f (b.less (by omega)) (bS.nil _) (by simp;omega)
 refine ⟨l',s',by unfold Mo;rw[if_neg h0];exact e,o.i7,o.sp,o.dk,fun x=>⟨fun h=>?_,o.all x⟩⟩
 rcases o.Zl x h with h|h
 ·grind
 omega
structure j' (V:Int→Option Nd) (used:List Int) (r:Int) (l:List Au):Prop where
 ok:(CM V r).ok=true
 Ag:(CM V r).Ag=l
 used: ∀p∈(CM V r).A7,p∈used
theorem F'{V:Int→Option Nd}{s:TS}(e:Le (nodeAt s) V){r:Int}{l:List Au}(hr:Rt (nodeAt s) r l)(c:DB l):j' V s.sp.used r l:=by
 obtain ⟨h1,a,b⟩:=bD e hr c.2
 refine ⟨h1,a,fun p hp=>?_⟩
 obtain ⟨n,d⟩:=Option.isSome_iff_exists.1 (b p hp)
 exact (Fi.1 d).1
theorem aH{ns l a:List Int}(hs:ns.Pairwise (· < ·))(h1: ∀x,x∈ns↔x∈l)(b: ∀x,x∈l↔x∈a):ns.length≤a.length∧(0<a.length→0<ns.length):=by
 refine ⟨List.Nodup.length_le_of_subset (hs.imp fun h=>by omega) fun x hx=>(b x).1 ((h1 x).1 hx),fun h=>?_⟩
 obtain ⟨x,hx⟩:=List.exists_mem_of_length_pos h
 exact List.length_pos_of_mem ((h1 x).2 ((b x).2 hx))
end Go.Proofs.YtfhbmblbidcmmaaGreat
namespace Go.Proofs.YtfhbmblbidcmmaaGreat
open Go.RowKit Go.Sl Go.Dk Go.Tr
instance gV:EZ:=⟨120000,by omega⟩
theorem WT:Wf=120000:=rfl
structure We (s:TS) (ms:List (Int×List Au)) (vs:List Value) (G:Ac) (i:Nat):Prop where
 pl:CQ s ms vs G
 inv:Fs true s
 pos:0<ms.length
 len:ms.length≤i+1
 ops:50000000+(20-i)*5600≤AL s
 room:20000+(20-i)*2600≤Cn s.sp
 nm:s.ck.nm=JW
 cap:s.ck.cap≤1000
theorem OT(va : Value)(cs : List Yz)(w : World)(hv : j9 w va 5 (cs.map PD))(hl : cs.length ≤ 9223372036854775807)(d7 : ∀ c ∈ cs, An (Kc w) (.slice c.a c.put.length c.c) c.put ∧ c.put.length ≤ 9223372036854775807) :
 Calls Tryz.prog 8 #[va] w fun e u=>e= .returned (.bool true)∧Below w.heap.size w u:=by
 obtain ⟨va,vc,ds⟩:=hv.len
 rw[List.length_map] at ds
 subst ds
 have e8:Aside (∀c∈cs,An (Kc w) (.slice c.a c.put.length c.c) c.put∧c.put.length≤9223372036854775807):=d7
 have HV:Aside (j9 w (.slice va cs.length vc) 5 (cs.map PD)):=hv
 clear d7 hv
 go_enter Tryz.func8,Tryz.ntmps8
 go_wp2_with fail
 with_reducible refine Calls.mono (WM 1073741824 9 (Kc w) w (Sat.ZA w) (by omega) (by omega) (by omega) (by omega)) ?_
 rintro e w1 ⟨b,h,rfl,q1⟩
 have bm:=WU 1073741824 9 (by omega) (by omega) (by omega) (by omega) true (fun _=>by omega)
 have ad:=X' 1073741824 9
 have ab:(Nl 1073741824 9).ck.nm=JW:=rfl
 have an:(Nl 1073741824 9).ck.cap≤1000:=by show (9:Int)≤1000;omega
 have dp:=WT
 obtain ⟨s0,bx⟩:=Aq (Nl 1073741824 9)
 have es:AL s0=67108850:=by rw[←bx];exact W' _ _
 rw[bx] at q1 bm ad ab an
 have cn:Aside (We s0 [(0,[])] [.slice none 0 0] 1 0):=⟨T3 s0 0,bm,by simp,by simp,by omega,by omega,ab,an⟩
 haveI:=q1.i
 clear bx bm ad es ab an dp
 go_wp2_with fail
 with_reducible refine Calls.mono (Xe _ _ q1) ?_
 rintro e w2 ⟨rfl,q2⟩
 haveI:=q2.i
 clear q1
 obtain ⟨N,hN⟩:=Aq w2.heap.size
 go_wp2_with fail
 have q3:Sat (Sl.block (N+1) DS [.slice none 0 0]*(Sl.block N B3 [.int .i64 0]*(Sl.block (N+2) IF [.slice (some ⟨N,0,none⟩) 1 1,.slice (some ⟨N+1,0,none⟩) 1 1]*(Ae h s0*(Sl.block b I8 [.pointer (some ⟨h.D,0,none⟩),.pointer (some ⟨h.C,0,none⟩),.pointer (some ⟨h.S,0,none⟩),.pointer (some ⟨h.t,0,none⟩)]*Kc w))))) (((w2.alloc (.cells #[.int .i64 0] B3)).alloc (.cells #[.slice none 0 0] DS)).alloc (.cells #[.slice (some ⟨N,0,none⟩) 1 1,.slice (some ⟨N+1,0,none⟩) 1 1] IF)):=by
  rw[←hN]
  exact Av (by ac_rfl)
 try rw[hN]
 generalize (((w2.alloc (.cells #[.int .i64 0] B3)).alloc (.cells #[.slice none 0 0] DS)).alloc (.cells #[.slice (some ⟨N,0,none⟩) 1 1,.slice (some ⟨N+1,0,none⟩) 1 1] IF))=w3 at q3⊢
 have q4:=Sj (s:=1) (n:=1) rfl (by omega) q3
 have q5:=Sj (s:=1) (n:=1) rfl (by omega) (q4.eq (L6 _ _ _))
 have q6:Sat (Ae h s0*(1*(EV (N+2) (some ⟨N,0,none⟩) 1 (some ⟨N+1,0,none⟩) 1 1 [.int .i64 0] [.slice none 0 0]*(D9 b h*(Kc w*1))))) w3:=by
  rw[Aw,Br]
  unfold EV D9
  exact q5.eq (by ac_rfl)
 obtain ⟨Z,di⟩:=Aq (N+2)
 rw[di] at q6⊢
 clear q2 q3 q4 q5 hN di this
 go_wp2_with fail
 go_loopg [5] 20 (fun g t5 wr=> ∃(i:Nat)(s:TS)(a1:Option Addr)(c1:Nat)(a2:Option Addr)(c2:Nat)(ms:List (Int×List Au))(vs:List Value)(G:Ac),t5= .int .i64 i∧i≤20∧Aside (g=20-i)∧Aside (We s ms vs G i)∧
  Sat (Ae h s*(G*(EV Z a1 c1 a2 c2 ms.length (D4 ms) vs*(D9 b h*(Kc w*1))))) wr)
 case atStart=>exact ⟨0,s0,some ⟨N,0,none⟩,1,some ⟨N+1,0,none⟩,1,[(0,[])],[.slice none 0 0],1,rfl,by omega,rfl,cn,q6⟩
 as_aux_lemma =>
  clear q6 cn
  obtain ⟨i,s,a1,c1,a2,c2,ms,vs,G,rfl,hi,A,P,hs⟩:=hrel
  by_cases db:i<cs.length∧i<20
  · obtain ⟨em,ek⟩:=db
    have g6:(i:Int)<cs.length:=by omega
    have g7:(i:Int)<20:=by omega
    obtain ⟨⟨k,f,pos,n,ap,Y,put⟩,hx⟩: ∃x,cs[i]?=some x:=⟨cs[i],by simp[em]⟩
    obtain ⟨rb,ro,e1,I⟩:=HV.out.at (show (cs.map PD)[i]?=some (PD ⟨k,f,pos,n,ap,Y,put⟩) by simp[hx])
    subst e1
    obtain ⟨hE,ey⟩:=e8.out _ (List.mem_of_getElem? hx)
    simp only at hE ey
    haveI:Ns w rb (ro+i*5) (.int .i64 k):=⟨by have:=I 0 _ rfl;simpa using this⟩
    haveI:Ns w rb (ro+i*5+1) (.int .i64 f):=⟨I 1 _ rfl⟩
    haveI:Ns w rb (ro+i*5+2) (.int .i64 pos):=⟨I 2 _ rfl⟩
    haveI:Ns w rb (ro+i*5+3) (.int .i64 n):=⟨I 3 _ rfl⟩
    haveI:Ns w rb (ro+i*5+4) (.slice ap put.length Y):=⟨I 4 _ rfl⟩
    clear I hx
    by_cases hp:60<put.length
    · have ev:(60:Int)<put.length:=by omega
      haveI:=hs.i
      clear A P hE
      go_wp2
      go_ret
      exact ⟨rfl,Sh⟩
    have ev: ¬(60:Int)<put.length:=by omega
    have d9:=YT h s Z b a1 c1 a2 c2 ms vs G k f pos n put (.slice ap put.length Y) (Kc w) 1 wr P.out.pl P.out.pos (by have:=P.out.len;omega) P.out.inv (by have:=P.out.ops;omega) (by have:=P.out.room;omega) hE (by omega) hs
    haveI:=hs.i
    have HI:Aside (We s ms vs G i):=P.out
    clear P hE
    go_wp2_with fail
    with_reducible refine Calls.mono d9 ?_
    rintro e w5 ⟨s',a3,c3,a4,c4,ms',e0,G',rfl,q7,d3,eu,dh,nx⟩
    clear d9 hs
    have e9:Aside (We s' ms' e0 G' (i+1)):=by
     have p:=HI.out
     have h1:=p.ops
     have h2:=p.room
     have h3:=p.pos
     have h4:=p.len
     have h5:=nx.left
     have h6:=nx.room
     exact ⟨d3,nx.inv,by omega,by omega,by omega,by omega,nx.cap.nm.trans p.nm,by rw[nx.cap.cap];exact p.cap⟩
    clear d3 nx
    go_wp2
    go_roundg (20-(i+1))
    case measure=>have:=A.out;omega
    case rel=>exact ⟨i+1,s',a3,c3,a4,c4,ms',e0,G',by go_num,by omega,rfl,e9,q7⟩
  have av:(¬(i:Int)<cs.length)∨((i:Int)<cs.length∧ ¬(i:Int)<20):=by omega
  obtain ⟨nm,br⟩:=Aq ms.length
  obtain ⟨K,bw⟩:=Aq (D4 ms)
  have U:=S5 P.out.inv (by have:=P.out.ops;unfold AL B8 at this;unfold B8;omega)
  have bn:=fun F w q=>UQ h s F w P.out.inv (by have:=P.out.ops;unfold AL B8 at this;unfold B8;omega) P.out.cap q
  obtain ⟨B,dn⟩:=Aq s.QX
  rw[dn] at U bn
  have d5:CQ B ms vs G:=P.out.pl.same U.le
  have a5:F4 B.ck.d JW:=by have:=U.inv.Bk.Cp;rwa [U.cap.nm,P.out.nm] at this
  have O:=fun F w q=>VR h B F w q a5
  have a7:=fun F w q=>VS h B JW F w q (by decide)
  have ar:max 0 (B.ck.d.size JW)=((A0 B.ck.d JW).length:Int):=QA a5
  have ae:0<Cn B.sp:=by rw[U.sp];have:=P.out.room;omega
  have bf:=fun F w q=>Yr h B F w q U.inv ae
  have da:fileOf B=A0 B.ck.d JW:=by unfold fileOf;rw[U.cap.nm,P.out.nm]
  have ac:=Xh U.inv U.clean
  have V:=YN U.inv U.clean
  have dg:(A0 B.ck.d JW).length≤30720000:=by
   have:=U.inv.Bk.top.1
   rw[U.cap.nm,P.out.nm,WT] at this
   omega
  rw[da] at ac V
  obtain ⟨o,ao⟩:=Aq (A0 B.ck.d JW)
  rw[ao] at O ar ac V dg
  obtain ⟨nf,bo⟩:=Aq o.length
  rw[bo] at O ar dg
  obtain ⟨z,hz⟩:=Aq (B.ck.d.size JW)
  rw[hz] at a7 ar
  have HF:Aside (CQ B ms vs G∧ms.length=nm∧D4 ms=K∧nm≤31∧GC (Ax o) 49000000 B∧Le (nodeAt B) (Ax o)∧o.length=nf∧ ∀p∈B.sp.used,0≤p):=⟨d5,br,bw,by have:=P.out.len;omega,ac.less (by have:=U.left;have:=P.out.ops;omega),V,bo,fun p hp=>by have h1:=U.inv.used p hp;have h2:=U.inv.res;omega⟩
  have ch:Aside (∀F w,Sat (Ae h s*F) w→Calls Tryz.prog 36 #[.pointer (some ⟨h.C,0,none⟩)] w fun e u=>e= .returned (.int .i64 0)∧Sat (Ae h B*F) u):=bn
  have cm:Aside (∀F w,Sat (Ae h B*F) w→Calls Tryz.prog 49 #[.pointer (some ⟨h.D,0,none⟩),.string ⟨#[115,116,111,114,101]⟩,.int .i64 0,.int .i64 nf] w fun e u=> ∃(a:Option Addr)(c:Nat)(er:Int),e= .returned (.tuple #[.slice a nf c,.int .i64 er])∧Sat (rw TB 1 (.slice a nf c) (A1 o)*(Ae h B*F)) u):=O
  have cq:Aside (∀F w,Sat (Ae h B*F) w→Calls Tryz.prog 50 #[.pointer (some ⟨h.D,0,none⟩),.string ⟨#[115,116,111,114,101]⟩] w fun e u=>e= .returned (.int .i64 z)∧w=u):=a7
  have ct:Aside (∀F w,Sat (Ae h B*F) w→Calls Tryz.prog 38 #[.pointer (some ⟨h.S,0,none⟩)] w fun e u=> ∃K:List (Int×Int),F7 K∧(∀x,Gm K x↔x∈B.sp.used)∧K.length≤1048576∧ ∃(a':Option Addr)(c':Nat),e= .returned (.slice a' K.length c')∧
   Sat (rw Cc 2 (.slice a' K.length c') (Cf K)*(Ae h B*F)) u):=bf
  have ab:0<nm:=by have:=P.out.pos;omega
  have fn:nm≤31:=HF.out.2.2.2.1
  rw[br,bw] at hs
  unfold EV D9 at hs
  have q0:Sat (Ae h s*(G*(Sl.block Z IF [.slice a1 nm c1,.slice a2 nm c2]*(rw B3 1 (.slice a1 nm c1) K*(rw DS 1 (.slice a2 nm c2) vs*(Sl.block b I8 [.pointer (some ⟨h.D,0,none⟩),.pointer (some ⟨h.C,0,none⟩),.pointer (some ⟨h.S,0,none⟩),.pointer (some ⟨h.t,0,none⟩)]*Kc w)))))) wr:=hs.eq (by rw[Br];ac_rfl)
  obtain ⟨H,rfl⟩:=BN (hs:=q0.take (rw B3 1 (.slice a1 nm c1) K)) (by omega)
  obtain ⟨J,rfl⟩:=BN (hs:=q0.take (rw DS 1 (.slice a2 nm c2) vs)) (by omega)
  clear A P br bw hs db U bn dn d5 a5 O a7 ae bf da ac V ao bo hz
  haveI:=q0.i
  have eb:Aside (∀(j:Nat) w,(j:Int)<nm→(Sem.run Tryz.prog (Instr.indexAt 45 (Value.slice (some ⟨H,0,none⟩) nm c1) (Value.int IntKind.i64 j)) w)= .ok (.pointer (some ⟨H,j,none⟩)) w):=by
   intro j w hj
   have g9:(0:Int)≤j:=by omega
   simp[go_sem, *]
  go_upto_region 6 with (fail)
  go_cut [34] (fun fb wx=>fb= .bool false∧Sat (Ae h s*(G*(Sl.block Z IF [.slice (some ⟨H,0,none⟩) nm c1,.slice (some ⟨J,0,none⟩) nm c2]*(rw B3 1 (.slice (some ⟨H,0,none⟩) nm c1) K*(rw DS 1 (.slice (some ⟨J,0,none⟩) nm c2) vs*(Sl.block b I8 [.pointer (some ⟨h.D,0,none⟩),.pointer (some ⟨h.C,0,none⟩),.pointer (some ⟨h.S,0,none⟩),.pointer (some ⟨h.t,0,none⟩)]*Kc w)))))) wx)
  case first=>
   rcases av with h1|⟨h1,h2⟩
   all_goals
    go_wp2
    go_meet
    exact ⟨rfl,Fx _ _ _ _ _ _⟩
  as_aux_lemma =>
   obtain ⟨rfl,q1⟩:=hcut
   clear q0 av this
   haveI:=q1.i
   go_wp2_with fail
   with_reducible refine Calls.mono (ch.out _ _ (Af (Ae h s))) ?_
   rintro e w3 ⟨rfl,q2⟩
   haveI:=q2.i
   clear q1 ch
   go_wp2_with fail
   go_cut [6] (fun t6 wx=> ∃(L:Option Addr)(M:Nat),t6= .slice L nf M∧Sat (Ae h B*(rw TB 1 (.slice L nf M) (A1 o)*(G*(Sl.block Z IF [.slice (some ⟨H,0,none⟩) nm c1,.slice (some ⟨J,0,none⟩) nm c2]*(rw B3 1 (.slice (some ⟨H,0,none⟩) nm c1) K*(rw DS 1 (.slice (some ⟨J,0,none⟩) nm c2) vs*(Sl.block b I8 [.pointer (some ⟨h.D,0,none⟩),.pointer (some ⟨h.C,0,none⟩),.pointer (some ⟨h.S,0,none⟩),.pointer (some ⟨h.t,0,none⟩)]*Kc w))))))) wx)
   case first=>
    go_region_held3 (fun u=>u.cell? ⟨b,0,none⟩=some (.pointer (some ⟨h.D,0,none⟩))) (exact Ab _ _ _) (first
     |(go_at_call 50;with_reducible refine Calls.mono (cq.out _ _ (Af (Ae h B))) ?_;rintro e w4 ⟨rfl,rfl⟩)
     |(go_at_call 49;with_reducible refine Calls.mono (cm.out _ _ (Af (Ae h B))) ?_;rintro e w5 ⟨L,M,er,rfl,q5⟩;haveI:=q5.i))
    all_goals
     go_wp2_with fail
     go_meet
     exact ⟨L,M,rfl,SF _ _ _ _ _ _ _ _⟩
   as_aux_lemma =>
    obtain ⟨L,M,rfl,q3⟩:=hcut
    clear q2 cq cm
    haveI:=q3.i
    go_wp2_with fail
    with_reducible refine Calls.mono (ct.out _ _ (Af (Ae h B))) ?_
    rintro e w6 ⟨X,f0,dq,dr,au,cu,rfl,q4⟩
    obtain ⟨nu,bs⟩:=Aq X.length
    have HU:Aside ((∀x,Gm X x↔x∈B.sp.used)∧X.length≤1048576∧X.length=nu):=⟨dq,dr,bs⟩
    rw[bs] at q4⊢
    have q5:Sat (Ae h B*(rw TB 1 (.slice L nf M) (A1 o)*(rw Cc 2 (.slice au nu cu) (Cf X)*(G*(Sl.block Z IF [.slice (some ⟨H,0,none⟩) nm c1,.slice (some ⟨J,0,none⟩) nm c2]*(rw B3 1 (.slice (some ⟨H,0,none⟩) nm c1) K*(rw DS 1 (.slice (some ⟨J,0,none⟩) nm c2) vs*(Sl.block b I8 [.pointer (some ⟨h.D,0,none⟩),.pointer (some ⟨h.C,0,none⟩),.pointer (some ⟨h.S,0,none⟩),.pointer (some ⟨h.t,0,none⟩)]*Kc w)))))))) w6:=q4.eq (by ac_rfl)
    haveI:=q5.i
    clear q3 q4 f0 dq dr bs ct
    have ea:Aside (∀(j:Nat) w,(j:Int)<nm→(Sem.run Tryz.prog (Instr.indexAt 45 (Value.slice (some ⟨H,0,none⟩) nm c1) (Value.int IntKind.i64 j)) w)= .ok (.pointer (some ⟨H,j,none⟩)) w):=eb.out
    clear this
    haveI:=q5.i
    go_wp2_with fail
    go_loopg [9] nm (fun g t9 wr=> ∃(j:Nat)(s2:TS)(m2:Nat),t9= .int .i64 j∧j≤nm∧Aside (g=nm-j)∧Aside (GC (Ax o) m2 s2∧1570000*(31-j)≤m2)∧Sat (Ae h s2*(rw TB 1 (.slice L nf M) (A1 o)*(rw Cc 2 (.slice au nu cu) (Cf X)*(G*(Sl.block Z IF [.slice (some ⟨H,0,none⟩) nm c1,.slice (some ⟨J,0,none⟩) nm c2]*(rw B3 1 (.slice (some ⟨H,0,none⟩) nm c1) K*(rw DS 1 (.slice (some ⟨J,0,none⟩) nm c2) vs*(Sl.block b I8 [.pointer (some ⟨h.D,0,none⟩),.pointer (some ⟨h.C,0,none⟩),.pointer (some ⟨h.S,0,none⟩),.pointer (some ⟨h.t,0,none⟩)]*Kc w)))))))) wr)
    case atStart=>exact ⟨0,B,49000000,rfl,by omega,rfl,⟨HF.out.2.2.2.2.1,by omega⟩,q5⟩
    as_aux_lemma =>
     clear q5
     obtain ⟨j,s2,m2,rfl,hj,A,P,q7⟩:=hrel
     haveI:=q7.i
     by_cases en:j<nm
     · have be : (j : Int) < nm := by omega
       obtain ⟨v,r,l,hv,hr,V,dm,hg,-⟩:=HF.out.1.at (i:=j) (by rw[HF.out.2.1];exact en)
       rw[HF.out.2.2.1] at hr
       obtain ⟨al,cl,rfl,et,gf⟩:=V.v
       haveI:At K j (.int .i64 r):=⟨hr⟩
       have df:=hg.1.2.2
       have a6:=F' HF.out.2.2.2.2.2.1 dm hg
       have hV: ∀p n,Ax o p=some n→may n=true∧1≤p∧p<1048576:=fun p n hp=>⟨FE hp,(IV hp).1,(IV hp).2.1⟩
       obtain ⟨lp,s3,bt,dk,ew,ex,dl⟩:=Uu hV (m:=m2-1037) (s:=s2) (P.out.1.less (by have:=P.out.2;omega)) a6.ok
       have bu:=fun F w q=>Vt h s2 r F w q (by rw[bt];simp)
       rw[bt] at bu
       have d6:=fun F w q=>Xg (Ax o) 120000 h (m2-1037) s3 r F w (fun p n hp=>⟨FE hp,by have:=(IV hp).2.2;have:=HF.out.2.2.2.2.2.2.1;omega⟩) dk (by have:=P.out.2;omega) q
       have aq:Pe true 13 (CM (Ax o) r):=ZR (fun p n h=>(hV p n h).1) r
       have bz:=fun F w q=>T8 o (.slice L nf M) (rw TB 1 (.slice L nf M) (A1 o)) r F w (by have:=HF.out.2.2.2.2.2.2.1;subst this;exact Reads.rw) (by have:=HF.out.2.2.2.2.2.2.1;omega) q
       obtain ⟨x,hx⟩:=Aq (CM (Ax o) r)
       have ce:Aside (∀(F:Ac) w,Sat (Ae h s3*F) w→Calls Tryz.prog 17 #[.pointer (some ⟨h.t,0,none⟩),.int .i64 r] w fun e u=> ∃(s4:TS)(m4:Nat),e= .returned (.int .i64 0)∧GC (Ax o) m4 s4∧1570000*(31-(j+1))≤m4∧Sat (Ae h s4*F) u):=fun F w q=>(d6 F w q).mono fun e u ⟨s4,m4,k1,k2,k3,k4,k5,k6⟩=>⟨s4,m4,by rw[k5,a6.ok];rfl,k4,by have:=k6 a6.ok;have:=P.out.2;omega,k1⟩
       have ci:Aside (∀(F:Ac) w,Sat (Ae h s2*F) w→Calls Tryz.prog 51 #[.pointer (some ⟨h.t,0,none⟩),.int .i64 r] w fun e u=> ∃(ns:List Int)(kn:Nat),Aside (ns.Pairwise (· < ·)∧(∀y,y∈ns↔y∈x.A7)∧ns.length=kn)∧ ∃(a:Option Addr)(c:Nat),e= .returned (.tuple #[.slice a kn c,.int .i64 0])∧Sat (rw B3 1 (.slice a kn c) (ints ns)*(Ae h s3*F)) u):=fun F w q=>(bu F w q).mono fun e u ⟨ns,k1,k2,k3⟩=>⟨ns,ns.length,⟨k1,fun y=>by rw[k2,dl,hx],rfl⟩,k3⟩
       have e1:=a6.ok
       have e2:=a6.Ag
       have e3:=a6.used
       rw[hx] at bz aq e1 e2 e3
       obtain ⟨xo,xh,xe,R⟩:=x
       simp only at e1 e2 e3
       have e4:R.length≤1+xe.length:=aq.A7
       subst e1 e2
       have cr:Aside (∀F w,Sat (rw TB 1 (.slice L nf M) (A1 o)*F) w→Calls Tryz.prog 16 #[.slice L nf M,.int .i64 r] w (P5 (rw TB 1 (.slice L nf M) (A1 o)) F ⟨true,xh,xe,R⟩)):=bz
       obtain ⟨W,bq⟩:=Aq xe.length
       rw[bq] at et df hv e4
       haveI:At vs j (.slice al W cl):=⟨hv⟩
       have ez:=fun w=>ea.out j w be
       have HE:Aside (An G (.slice al xe.length cl) xe∧xe.length=W∧(∀p∈R,p∈B.sp.used)∧(∀p∈R,0≤p)):=⟨V,bq,e3,fun p hp=>HF.out.2.2.2.2.2.2.2 p (e3 p hp)⟩
       clear hv hr V dm hg bq P a6 aq bt dk ew ex dl bu d6 bz hx hV e3
       go_wp2_with fail
       with_reducible refine Calls.mono (cr.out _ _ (Af (rw TB 1 (.slice L nf M) (A1 o)))) ?_
       rintro e w8 ⟨v6,G6,rfl,ee,q8⟩
       obtain ⟨vE,vP,rfl,b3,b4⟩:=ee
       obtain ⟨xE,dE,rfl,d2,g4⟩:=b3.v
       obtain ⟨xP,dP,rfl,d4,g5⟩:=b4.v
       simp only at b3 b4 d2 d4
       obtain ⟨np,b5⟩:=Aq R.length
       have HX:Aside (An G6 (.slice xE xe.length dE) xe∧GD G6 (.slice xP R.length dP) R∧R.length=np):=⟨b3,b4,b5⟩
       rw[HE.out.2.1,b5]
       rw[b5] at d4 e4
       rw[HE.out.2.1] at d2
       obtain ⟨T,hT⟩:=Aq w8.heap.size
       haveI:=q8.i
       clear b3 b4 b5 cr
       go_wp2_with fail
       have q9:Sat (Sl.block T KI [.bool true,.int .i64 xh,.slice xE W dE,.slice xP np dP]*(G6*(Ae h s2*(rw TB 1 (.slice L nf M) (A1 o)*(rw Cc 2 (.slice au nu cu) (Cf X)*(G*(Sl.block Z IF [.slice (some ⟨H,0,none⟩) nm c1,.slice (some ⟨J,0,none⟩) nm c2]*(rw B3 1 (.slice (some ⟨H,0,none⟩) nm c1) K*(rw DS 1 (.slice (some ⟨J,0,none⟩) nm c2) vs*(Sl.block b I8 [.pointer (some ⟨h.D,0,none⟩),.pointer (some ⟨h.C,0,none⟩),.pointer (some ⟨h.S,0,none⟩),.pointer (some ⟨h.t,0,none⟩)]*Kc w)))))))))) (w8.alloc (.cells #[.bool true,.int .i64 xh,.slice xE W dE,.slice xP np dP] KI)):=by
        rw[←hT]
        exact Av (by ac_rfl)
       try rw[hT]
       clear hT q8 this
       haveI:=q9.i
       go_cut [11,12] (fun f6 f7 wx=> ∃(ns:List Int)(kn:Nat)(ap:Option Addr)(Y:Nat),f6= .slice ap kn Y∧f7= .int .i64 0∧Aside (ns.Pairwise (· < ·)∧(∀y,y∈ns↔y∈R)∧ns.length=kn)∧Sat (Ae h s3*(rw B3 1 (.slice ap kn Y) (ints ns)*(Sl.block T KI [.bool true,.int .i64 xh,.slice xE W dE,.slice xP np dP]*(G6*(rw TB 1 (.slice L nf M) (A1 o)*(rw Cc 2 (.slice au nu cu) (Cf X)*(G*(Sl.block Z IF [.slice (some ⟨H,0,none⟩) nm c1,.slice (some ⟨J,0,none⟩) nm c2]*(rw B3 1 (.slice (some ⟨H,0,none⟩) nm c1) K*(rw DS 1 (.slice (some ⟨J,0,none⟩) nm c2) vs*(Sl.block b I8 [.pointer (some ⟨h.D,0,none⟩),.pointer (some ⟨h.C,0,none⟩),.pointer (some ⟨h.S,0,none⟩),.pointer (some ⟨h.t,0,none⟩)]*Kc w))))))))))) wx)
       case first=>
        go_region_held3 (fun u=>u.cell? ⟨b,3,none⟩=some (.pointer (some ⟨h.t,0,none⟩))∧u.cell? ⟨Z,0,none⟩=some (.slice (some ⟨H,0,none⟩) nm c1)∧u.cell? ⟨H,j,none⟩=some (.int .i64 r)) (first|exact ⟨Ab _ _ _,Ab _ _ _,Ab _ _ _⟩) (first
         |(go_at_call 51;with_reducible refine Calls.mono (ci.out _ _ (Af (Ae h s2))) ?_;rintro e gr ⟨ns,kn,HN,ap,Y,rfl,b9⟩;haveI:=b9.i))
        all_goals
         go_wp2_with fail
         go_meet
         exact ⟨ns,kn,ap,Y,rfl,rfl,HN,Ja _ _ _ _ _ _ _ _ _ _ _ _⟩
       as_aux_lemma=>
        obtain ⟨ns,kn,ap,Y,rfl,rfl,HN,b9⟩:=hcut
        clear q9 ci
        haveI:=b9.i
        have co:Aside (∀F w,Sat (G6*(G*F)) w→Calls Tryz.prog 45 #[.slice xE W dE,.slice al W cl] w fun e u=>e= .returned (.bool true)∧Sat (G6*(G*F)) u):=fun F w q=>by
         have h1:=HX.out.1
         have h2:=HE.out.1
         rw[HE.out.2.1] at h1 h2
         refine (Q6 xe xe (.slice xE W dE) (.slice al W cl) (G6*G) F w (Al.left h1) (Al.right h2) (q.eq (Az _ _ _).symm) (by rw[HE.out.2.1];omega) (by rw[HE.out.2.1];omega)).mono ?_
         rintro e u ⟨rfl,q'⟩
         exact ⟨by simp,q'.eq (Az _ _ _)⟩
        go_wp2_with fail
        go_cut [144] (fun dy wx=> ∃(s4:TS)(m4:Nat),dy= .bool false∧Aside (GC (Ax o) m4 s4∧1570000*(31-(j+1))≤m4)∧Sat (Ae h s4*(rw B3 1 (.slice ap kn Y) (ints ns)*(Sl.block T KI [.bool true,.int .i64 xh,.slice xE W dE,.slice xP np dP]*(G6*(rw TB 1 (.slice L nf M) (A1 o)*(rw Cc 2 (.slice au nu cu) (Cf X)*(G*(Sl.block Z IF [.slice (some ⟨H,0,none⟩) nm c1,.slice (some ⟨J,0,none⟩) nm c2]*(rw B3 1 (.slice (some ⟨H,0,none⟩) nm c1) K*(rw DS 1 (.slice (some ⟨J,0,none⟩) nm c2) vs*(Sl.block b I8 [.pointer (some ⟨h.D,0,none⟩),.pointer (some ⟨h.C,0,none⟩),.pointer (some ⟨h.S,0,none⟩),.pointer (some ⟨h.t,0,none⟩)]*Kc w))))))))))) wx)
        case first=>
         go_region_held3 (fun u=>u.cell? ⟨T,0,none⟩=some (.bool true)∧u.cell? ⟨T,2,none⟩=some (.slice xE W dE)∧u.cell? ⟨b,3,none⟩=some (.pointer (some ⟨h.t,0,none⟩))∧u.cell? ⟨Z,0,none⟩=some (.slice (some ⟨H,0,none⟩) nm c1)∧u.cell? ⟨Z,1,none⟩=some (.slice (some ⟨J,0,none⟩) nm c2)∧u.cell? ⟨H,j,none⟩=some (.int .i64 r)∧u.cell? ⟨J,j,none⟩=some (.slice al W cl)) (first|exact ⟨Ab _ _ _,Ab _ _ _,Ab _ _ _,Ab _ _ _,Ab _ _ _,Ab _ _ _,Ab _ _ _⟩) (first
          |(go_at_call 45;with_reducible refine Calls.mono (co.out _ _ (AP G6 G)) ?_;rintro e gs ⟨rfl,f3⟩;haveI:=f3.i)
          |(go_at_call 17;with_reducible refine Calls.mono (ce.out _ _ (Af (Ae h s3))) ?_;rintro e gt ⟨s4,m4,rfl,r4,h4,aw⟩;haveI:=aw.i))
         all_goals
          go_wp2_with fail
          go_meet
          exact ⟨s4,m4,rfl,⟨r4,h4⟩,Ja _ _ _ _ _ _ _ _ _ _ _ _⟩
        as_aux_lemma=>
         obtain ⟨s4,m4,rfl,cj,aw⟩:=hcut
         clear b9 co ce this ez
         haveI:=aw.i
         obtain ⟨Wx,ga⟩:kn≤np∧(0<np→0<kn):=by
          have:=aH (l:=R) HN.out.1 HN.out.2.1 (fun _=>Iff.rfl)
          rwa [HN.out.2.2,HX.out.2.2] at this
         go_wp2_with fail
         go_loopg [13] kn (fun g f8 wr=> ∃(k:Nat),f8= .int .i64 k∧k≤kn∧Aside (g=kn-k)∧Sat (Ae h s4*(rw B3 1 (.slice ap kn Y) (ints ns)*(Sl.block T KI [.bool true,.int .i64 xh,.slice xE W dE,.slice xP np dP]*(G6*(rw TB 1 (.slice L nf M) (A1 o)*(rw Cc 2 (.slice au nu cu) (Cf X)*(G*(Sl.block Z IF [.slice (some ⟨H,0,none⟩) nm c1,.slice (some ⟨J,0,none⟩) nm c2]*(rw B3 1 (.slice (some ⟨H,0,none⟩) nm c1) K*(rw DS 1 (.slice (some ⟨J,0,none⟩) nm c2) vs*(Sl.block b I8 [.pointer (some ⟨h.D,0,none⟩),.pointer (some ⟨h.C,0,none⟩),.pointer (some ⟨h.S,0,none⟩),.pointer (some ⟨h.t,0,none⟩)]*Kc w))))))))))) wr)
         case atStart=>exact ⟨0,rfl,by omega,rfl,aw⟩
         as_aux_lemma=>
          obtain ⟨k,rfl,hk,A2,ba⟩:=hrel
          clear aw
          haveI:=ba.i
          by_cases ep:k<kn
          ·have de : (k : Int) < kn := by omega
           obtain ⟨y,hy⟩: ∃y,ns[k]?=some y:=⟨_,List.getElem?_eq_getElem (by rw[HN.out.2.2];exact ep)⟩
           obtain ⟨gp,rfl⟩:=BN (hs:=ba.take (rw B3 1 (.slice ap kn Y) (ints ns))) (by omega)
           haveI:=ba.i
           haveI:At (ints ns) k (.int .i64 y):=⟨by unfold ints;rw[List.getElem?_map,hy];rfl⟩
           have b6:y∈R:=(HN.out.2.1 y).1 (List.mem_of_getElem? hy)
           have hy0:0≤y:=HE.out.2.2.2 y b6
           have bi:Aside (∀F w,Sat (rw Cc 2 (.slice au nu cu) (Cf X)*F) w→Calls Tryz.prog 52 #[.slice au nu cu,.int .i64 y] w fun e u=>e= .returned (.bool true)∧Sat (rw Cc 2 (.slice au nu cu) (Cf X)*F) u):=fun F w q=>by
            have h1:=HU.out.2.2
            subst h1
            refine (ZV au cu X y F w HU.out.2.1 hy0 q).mono ?_
            rintro e u ⟨rfl,q'⟩
            exact ⟨by rw[SA ((HU.out.1 y).2 (HE.out.2.2.1 y b6))],q'⟩
           have HY:Aside (ns[k]?=some y∧y∈R):=⟨hy,b6⟩
           clear hy b6
           go_wp2_with fail
           go_loopg [15,14] np (fun g fa f9 fe=> ∃(Q mt:Nat),fa= .int .i64 Q∧f9= .int .i64 mt∧Q≤np∧mt≤Q∧Aside (g=np-Q∧mt=(R.take Q).count y)∧Sat (Ae h s4*(rw B3 1 (.slice (some ⟨gp,0,none⟩) kn Y) (ints ns)*(Sl.block T KI [.bool true,.int .i64 xh,.slice xE W dE,.slice xP np dP]*(G6*(rw TB 1 (.slice L nf M) (A1 o)*(rw Cc 2 (.slice au nu cu) (Cf X)*(G*(Sl.block Z IF [.slice (some ⟨H,0,none⟩) nm c1,.slice (some ⟨J,0,none⟩) nm c2]*(rw B3 1 (.slice (some ⟨H,0,none⟩) nm c1) K*(rw DS 1 (.slice (some ⟨J,0,none⟩) nm c2) vs*(Sl.block b I8 [.pointer (some ⟨h.D,0,none⟩),.pointer (some ⟨h.C,0,none⟩),.pointer (some ⟨h.S,0,none⟩),.pointer (some ⟨h.t,0,none⟩)]*Kc w))))))))))) fe)
           case atStart=>exact ⟨0,0,rfl,rfl,by omega,by omega,⟨rfl,by simp⟩,Ja _ _ _ _ _ _ _ _ _ _ _ _⟩
           as_aux_lemma=>
            obtain ⟨Q,mt,rfl,rfl,ek,gg,A3,du⟩:=hrel
            clear ba
            haveI:=du.i
            by_cases el:Q<np
            · have dc:(Q:Int)<np:=by omega
              obtain ⟨z2,b7⟩: ∃z,R[Q]?=some z:=⟨_,List.getElem?_eq_getElem (by rw[HX.out.2.2];exact el)⟩
              have bv:=HX.out.2.1
              rw[HX.out.2.2] at bv
              obtain ⟨bp,op,ei,rp⟩:=Al.at (show Al 1 G6 (.slice xP np dP) np (PV R) by have:=bv;unfold GD at this;rwa [HX.out.2.2] at this) Q (.int .i64 z2) (by unfold PV;rw[List.getElem?_map,b7];rfl)
              subst ei
              have fz:Aside (R[Q]?=some z2):=b7
              have d8:=UI b7 y
              have cg:Aside ((R.take (Q+1)).count y=(R.take Q).count y+if z2=y then 1 else 0):=d8
              clear b7 bv d8
              cases cz:((z2:Int)==y) with
              | true =>
                have bk:Aside (z2=y):=(by simpa using cz:z2=y)
                go_wp2_with fail
                go_region
                go_wp2_with fail
                go_roundg (np-(Q+1))
                case measure=>have:=A3.out.1;omega
                case rel=>exact ⟨Q+1,mt+1,by go_num,by go_num,by omega,by omega,⟨rfl,by rw[cg.out,if_pos bk.out,A3.out.2]⟩,Ja _ _ _ _ _ _ _ _ _ _ _ _⟩
              | false =>
                have bk:Aside (¬z2=y):=(by simpa using cz: ¬z2=y)
                go_wp2_with fail
                go_region
                go_wp2_with fail
                go_roundg (np-(Q+1))
                case measure=>have:=A3.out.1;omega
                case rel=>exact ⟨Q+1,mt,by go_num,rfl,by omega,by omega,⟨rfl,by rw[cg.out,if_neg bk.out,A3.out.2];rfl⟩,Ja _ _ _ _ _ _ _ _ _ _ _ _⟩
            have dc: ¬(Q:Int)<np:=by omega
            obtain rfl:np=Q:=by omega
            have eu: ¬(mt:Int)<1:=by
             have h1:=A3.out.2
             rw[List.take_of_length_le (by rw[HX.out.2.2];exact Nat.le_refl _)] at h1
             have:=List.count_pos_iff.2 HY.out.2
             omega
            clear A3
            go_wp2_with fail
            go_cut [196] (fun dz wx=>dz= .bool false∧Sat (Ae h s4*(rw B3 1 (.slice (some ⟨gp,0,none⟩) kn Y) (ints ns)*(Sl.block T KI [.bool true,.int .i64 xh,.slice xE W dE,.slice xP np dP]*(G6*(rw TB 1 (.slice L nf M) (A1 o)*(rw Cc 2 (.slice au nu cu) (Cf X)*(G*(Sl.block Z IF [.slice (some ⟨H,0,none⟩) nm c1,.slice (some ⟨J,0,none⟩) nm c2]*(rw B3 1 (.slice (some ⟨H,0,none⟩) nm c1) K*(rw DS 1 (.slice (some ⟨J,0,none⟩) nm c2) vs*(Sl.block b I8 [.pointer (some ⟨h.D,0,none⟩),.pointer (some ⟨h.C,0,none⟩),.pointer (some ⟨h.S,0,none⟩),.pointer (some ⟨h.t,0,none⟩)]*Kc w))))))))))) wx)
            case first=>
             by_cases bY:k=0
             · have dd: ¬(0:Int)<(k:Int):=by omega
               have dh: ¬(mt:Int)<1:=by omega
               have gd: ¬0<k:=by omega
               clear bY
               refine Dr.E9 (fun u=>u.cell? ⟨gp,k,none⟩=some (.int .i64 y)) [] (by kernel_rfl) (Ab _ _ _) (fun bl=>?_)
               refine Dr.Ar 0 (v:=?v0) (by simp only[List.getElem?_toArray,List.getElem?_cons_succ,List.getElem?_cons_zero];rfl) (by kernel_rfl) ?hQ0 (.inl ⟨?hw0,fun u=>?hy0⟩) ?_
               case hy0=>go_simp;try (with_reducible rfl)
               case hQ0=>exact fun _ _ _ h=>h
               case hw0=>rfl
               simp only[Act.put,List.setIfInBounds_toArray,List.set_cons_zero,List.set_cons_succ]
               refine Dr.Ar 1 (v:=?v1) (by simp only[List.getElem?_toArray,List.getElem?_cons_succ,List.getElem?_cons_zero];rfl) (by kernel_rfl) ?hQ1 (.inl ⟨?hw1,fun u=>?hy1⟩) ?_
               case hy1=>go_simp;try (with_reducible rfl)
               case hQ1=>exact fun _ _ _ h=>h
               case hw1=>rfl
               simp only[Act.put,List.setIfInBounds_toArray,List.set_cons_zero,List.set_cons_succ]
               refine Dr.Ar 2 (v:=?v2) (by simp only[List.getElem?_toArray,List.getElem?_cons_succ,List.getElem?_cons_zero];rfl) (by kernel_rfl) ?hQ2 (.inl ⟨?hw2,fun u=>?hy2⟩) ?_
               case hy2=>go_simp;try (with_reducible rfl)
               case hQ2=>exact fun _ _ _ h=>h
               case hw2=>rfl
               simp only[Act.put,List.setIfInBounds_toArray,List.set_cons_zero,List.set_cons_succ]
               refine Dr.Ar 3 (v:=?v3) (by simp only[List.getElem?_toArray,List.getElem?_cons_succ,List.getElem?_cons_zero];rfl) (by kernel_rfl) ?hQ3 (.inl ⟨?hw3,fun u=>?hy3⟩) ?_
               case hy3=>go_simp;try (with_reducible rfl)
               case hQ3=>exact fun _ _ _ h=>h
               case hw3=>rfl
               simp only[Act.put,List.setIfInBounds_toArray,List.set_cons_zero,List.set_cons_succ]
               refine Dr.Ar 4 (v:=?v4) (by simp only[List.getElem?_toArray,List.getElem?_cons_succ,List.getElem?_cons_zero];rfl) (by kernel_rfl) ?hQ4 (.inl ⟨?hw4,fun u=>?hy4⟩) ?_
               case hy4=>go_simp;try (with_reducible rfl)
               case hQ4=>exact fun _ _ _ h=>h
               case hw4=>rfl
               simp only[Act.put,List.setIfInBounds_toArray,List.set_cons_zero,List.set_cons_succ]
               refine Dr.Ar 5 (v:=?v5) (by simp only[List.getElem?_toArray,List.getElem?_cons_succ,List.getElem?_cons_zero];rfl) (by kernel_rfl) ?hQ5 (.inl ⟨?hw5,fun u=>?hy5⟩) ?_
               case hy5=>go_simp;try (with_reducible rfl)
               case hQ5=>exact fun _ _ _ h=>h
               case hw5=>rfl
               simp only[Act.put,List.setIfInBounds_toArray,List.set_cons_zero,List.set_cons_succ]
               refine Dr.Ar 6 (v:=undef) (by simp only[List.getElem?_toArray,List.getElem?_cons_succ,List.getElem?_cons_zero];rfl) (by kernel_rfl) ?hQ6 (.inr ⟨?hw6,rfl⟩) ?_
               case hQ6=>exact fun _ _ _ h=>h
               case hw6=>rfl
               simp only[Act.put,List.setIfInBounds_toArray,List.set_cons_zero,List.set_cons_succ]
               refine Dr.Ar 7 (v:=undef) (by simp only[List.getElem?_toArray,List.getElem?_cons_succ,List.getElem?_cons_zero];rfl) (by kernel_rfl) ?hQ7 (.inr ⟨?hw7,rfl⟩) ?_
               case hQ7=>exact fun _ _ _ h=>h
               case hw7=>rfl
               simp only[Act.put,List.setIfInBounds_toArray,List.set_cons_zero,List.set_cons_succ]
               refine Dr.Ar 8 (v:=undef) (by simp only[List.getElem?_toArray,List.getElem?_cons_succ,List.getElem?_cons_zero];rfl) (by kernel_rfl) ?hQ8 (.inr ⟨?hw8,rfl⟩) ?_
               case hQ8=>exact fun _ _ _ h=>h
               case hw8=>rfl
               simp only[Act.put,List.setIfInBounds_toArray,List.set_cons_zero,List.set_cons_succ]
               refine Dr.Ar 9 (v:=undef) (by simp only[List.getElem?_toArray,List.getElem?_cons_succ,List.getElem?_cons_zero];rfl) (by kernel_rfl) ?hQ9 (.inr ⟨?hw9,rfl⟩) ?_
               case hQ9=>exact fun _ _ _ h=>h
               case hw9=>rfl
               simp only[Act.put,List.setIfInBounds_toArray,List.set_cons_zero,List.set_cons_succ]
               refine Dr.Ar 10 (v:=undef) (by simp only[List.getElem?_toArray,List.getElem?_cons_succ,List.getElem?_cons_zero];rfl) (by kernel_rfl) ?hQ10 (.inr ⟨?hw10,rfl⟩) ?_
               case hQ10=>exact fun _ _ _ h=>h
               case hw10=>rfl
               simp only[Act.put,List.setIfInBounds_toArray,List.set_cons_zero,List.set_cons_succ]
               refine Dr.Ar 11 (v:=undef) (by simp only[List.getElem?_toArray,List.getElem?_cons_succ,List.getElem?_cons_zero];rfl) (by kernel_rfl) ?hQ11 (.inr ⟨?hw11,rfl⟩) ?_
               case hQ11=>exact fun _ _ _ h=>h
               case hw11=>rfl
               simp only[Act.put,List.setIfInBounds_toArray,List.set_cons_zero,List.set_cons_succ]
               refine Dr.Ar 12 (v:=undef) (by simp only[List.getElem?_toArray,List.getElem?_cons_succ,List.getElem?_cons_zero];rfl) (by kernel_rfl) ?hQ12 (.inr ⟨?hw12,rfl⟩) ?_
               case hQ12=>exact fun _ _ _ h=>h
               case hw12=>rfl
               simp only[Act.put,List.setIfInBounds_toArray,List.set_cons_zero,List.set_cons_succ]
               refine Dr.Ar 13 (v:=undef) (by simp only[List.getElem?_toArray,List.getElem?_cons_succ,List.getElem?_cons_zero];rfl) (by kernel_rfl) ?hQ13 (.inr ⟨?hw13,rfl⟩) ?_
               case hQ13=>exact fun _ _ _ h=>h
               case hw13=>rfl
               simp only[Act.put,List.setIfInBounds_toArray,List.set_cons_zero,List.set_cons_succ]
               refine Dr.Ar 14 (v:=undef) (by simp only[List.getElem?_toArray,List.getElem?_cons_succ,List.getElem?_cons_zero];rfl) (by kernel_rfl) ?hQ14 (.inr ⟨?hw14,rfl⟩) ?_
               case hQ14=>exact fun _ _ _ h=>h
               case hw14=>rfl
               simp only[Act.put,List.setIfInBounds_toArray,List.set_cons_zero,List.set_cons_succ]
               refine Dr.Ar 15 (v:=undef) (by simp only[List.getElem?_toArray,List.getElem?_cons_succ,List.getElem?_cons_zero];rfl) (by kernel_rfl) ?hQ15 (.inr ⟨?hw15,rfl⟩) ?_
               case hQ15=>exact fun _ _ _ h=>h
               case hw15=>rfl
               simp only[Act.put,List.setIfInBounds_toArray,List.set_cons_zero,List.set_cons_succ]
               refine Dr.Ar 16 (v:=?v16) (by simp only[List.getElem?_toArray,List.getElem?_cons_succ,List.getElem?_cons_zero];rfl) (by kernel_rfl) ?hQ16 (.inl ⟨?hw16,fun u=>?hy16⟩) ?_
               case hy16=>go_simp;try (with_reducible rfl)
               case hQ16=>exact fun _ _ _ h=>h
               case hw16=>rfl
               simp only[Act.put,List.setIfInBounds_toArray,List.set_cons_zero,List.set_cons_succ]
               refine Dr.Ar 17 (v:=?v17) (by simp only[List.getElem?_toArray,List.getElem?_cons_succ,List.getElem?_cons_zero];rfl) (by kernel_rfl) ?hQ17 (.inl ⟨?hw17,fun u=>?hy17⟩) ?_
               case hy17=>go_simp;try (with_reducible rfl)
               case hQ17=>exact fun _ _ _ h=>h
               case hw17=>rfl
               simp only[Act.put,List.setIfInBounds_toArray,List.set_cons_zero,List.set_cons_succ]
               refine Dr.Ar 18 (v:=?v18) (by simp only[List.getElem?_toArray,List.getElem?_cons_succ,List.getElem?_cons_zero];rfl) (by kernel_rfl) ?hQ18 (.inl ⟨?hw18,fun u=>?hy18⟩) ?_
               case hy18=>go_simp;try (with_reducible rfl)
               case hQ18=>exact fun _ _ _ h=>h
               case hw18=>rfl
               simp only[Act.put,List.setIfInBounds_toArray,List.set_cons_zero,List.set_cons_succ]
               refine Dr.Ar 19 (v:=?v19) (by simp only[List.getElem?_toArray,List.getElem?_cons_succ,List.getElem?_cons_zero];rfl) (by kernel_rfl) ?hQ19 (.inl ⟨?hw19,fun u=>?hy19⟩) ?_
               case hy19=>go_simp;try (with_reducible rfl)
               case hQ19=>exact fun _ _ _ h=>h
               case hw19=>rfl
               simp only[Act.put,List.setIfInBounds_toArray,List.set_cons_zero,List.set_cons_succ]
               refine Dr.Ar 20 (v:=?v20) (by simp only[List.getElem?_toArray,List.getElem?_cons_succ,List.getElem?_cons_zero];rfl) (by kernel_rfl) ?hQ20 (.inl ⟨?hw20,fun u=>?hy20⟩) ?_
               case hy20=>go_simp;try (with_reducible rfl)
               case hQ20=>exact fun _ _ _ h=>h
               case hw20=>rfl
               simp only[Act.put,List.setIfInBounds_toArray,List.set_cons_zero,List.set_cons_succ]
               refine Dr.Ar 21 (v:=?v21) (by simp only[List.getElem?_toArray,List.getElem?_cons_succ,List.getElem?_cons_zero];rfl) (by kernel_rfl) ?hQ21 (.inl ⟨?hw21,fun u=>?hy21⟩) ?_
               case hy21=>go_simp;try (with_reducible rfl)
               case hQ21=>exact fun _ _ _ h=>h
               case hw21=>rfl
               simp only[Act.put,List.setIfInBounds_toArray,List.set_cons_zero,List.set_cons_succ]
               refine Dr.Ar 22 (v:=?v22) (by simp only[List.getElem?_toArray,List.getElem?_cons_succ,List.getElem?_cons_zero];rfl) (by kernel_rfl) ?hQ22 (.inl ⟨?hw22,fun u=>?hy22⟩) ?_
               case hy22=>go_simp;try (with_reducible rfl)
               case hQ22=>exact fun _ _ _ h=>h
               case hw22=>rfl
               simp only[Act.put,List.setIfInBounds_toArray,List.set_cons_zero,List.set_cons_succ]
               refine Dr.CZ 23 (v:=?v23) (by simp only[List.getElem?_toArray,List.getElem?_cons_succ,List.getElem?_cons_zero];rfl) (by kernel_rfl) ?hQ23 (.inl ⟨?hw23,fun u hw=>?hy23⟩) bl ?_
               case hy23=>(try dsimp only at hw);go_simp;try (with_reducible rfl)
               case hQ23=>exact fun _ _ _ h=>h
               case hw23=>rfl
               simp only[Act.put,List.setIfInBounds_toArray,List.set_cons_zero,List.set_cons_succ]
               refine Dr.AQ 24 (by simp only[List.getElem?_toArray,List.getElem?_cons_succ,List.getElem?_cons_zero];rfl) (by kernel_rfl) ?_
               go_wp2_with (go_simp;go_at_call 52;with_reducible refine Calls.mono (bi.out _ _ (Af (rw Cc 2 (.slice au nu cu) (Cf X)))) ?_;rintro e fc ⟨rfl,ax⟩;haveI:=ax.i)
               refine Dr.AB ⟨(Ab _ _ _),?_⟩
               refine Dr.Ar 25 (v:=?v25) (by simp only[List.getElem?_toArray,List.getElem?_cons_succ,List.getElem?_cons_zero];rfl) (by kernel_rfl) ?hQ25 (.inl ⟨?hw25,fun u=>?hy25⟩) ?_
               case hy25=>go_simp;try (with_reducible rfl)
               case hQ25=>exact fun _ _ _ h=>h
               case hw25=>rfl
               simp only[Act.put,List.setIfInBounds_toArray,List.set_cons_zero,List.set_cons_succ]
               refine Dr.Ar 26 (v:=?v26) (by simp only[List.getElem?_toArray,List.getElem?_cons_succ,List.getElem?_cons_zero];rfl) (by kernel_rfl) ?hQ26 (.inl ⟨?hw26,fun u=>?hy26⟩) ?_
               case hy26=>go_simp;try (with_reducible rfl)
               case hQ26=>exact fun _ _ _ h=>h
               case hw26=>rfl
               simp only[Act.put,List.setIfInBounds_toArray,List.set_cons_zero,List.set_cons_succ]
               refine Dr.CY [] (os:= []) (by decide) rfl (by kernel_rfl) ?_
               all_goals
                go_wp2_with fail
                go_meet
                exact ⟨rfl,Ja _ _ _ _ _ _ _ _ _ _ _ _⟩
             have dh: ¬(mt:Int)<1:=by omega
             obtain ⟨k',eo⟩: ∃k',k=k'+1:=⟨k-1,by omega⟩
             obtain ⟨y',c5⟩: ∃y,ns[k']?=some y:=⟨_,List.getElem?_eq_getElem (by rw[HN.out.2.2];omega)⟩
             haveI:At (ints ns) k' (.int .i64 y'):=⟨by unfold ints;rw[List.getElem?_map,c5];rfl⟩
             have fm: ¬y≤y':=by
              have:=Tu HN.out.1 c5 HY.out.1 (by omega)
              omega
             have hw9:IntKind.i64.wrap ((k:Int)-1)=(k':Int):=by rw[show (k:Int)-1=(k':Int) by omega];exact IntWalk.i64_in _ (by omega)
             have gb:(k':Int)<kn:=by omega
             have gc:0<k:=by omega
             have dd:(0:Int)<(k:Int):=by omega
             clear c5 eo bY
             go_region_held3 (fun u=>u.cell? ⟨gp,k,none⟩=some (.int .i64 y)∧u.cell? ⟨gp,k',none⟩=some (.int .i64 y')) (exact ⟨Ab _ _ _,Ab _ _ _⟩) (first
              |(go_at_call 52;with_reducible refine Calls.mono (bi.out _ _ (Af (rw Cc 2 (.slice au nu cu) (Cf X)))) ?_;rintro e fc ⟨rfl,ax⟩;haveI:=ax.i))
             all_goals
              go_wp2_with fail
              go_meet
              exact ⟨rfl,Ja _ _ _ _ _ _ _ _ _ _ _ _⟩
            as_aux_lemma=>
             obtain ⟨rfl,ax⟩:=hcut
             clear du bi
             haveI:=ax.i
             go_wp2_with fail
             go_roundg (kn-(k+1))
             case measure=>have:=A2.out;omega
             case rel=>exact ⟨k+1,by go_num,by omega,rfl,Ja _ _ _ _ _ _ _ _ _ _ _ _⟩
          have de: ¬(k:Int)<kn:=by omega
          have Zh: ¬(np:Int)<kn:=by omega
          by_cases dj:np=0
          ·subst dj
           go_wp2_with fail
           go_roundg (nm-(j+1))
           case measure=>have:=A.out;omega
           case rel=>exact ⟨j+1,s4,m4,by go_num,by omega,rfl,cj,A6 (C:=rw B3 1 (.slice ap kn Y) (ints ns)*(Sl.block T KI [.bool true,.int .i64 xh,.slice xE W dE,.slice xP 0 dP]*G6)) (by ac_rfl)⟩
          have fo:(0:Int)<np:=by omega
          have ge:((kn:Int)==0)=false:=by simp;omega
          go_wp2_with fail
          go_roundg (nm-(j+1))
          case measure=>have:=A.out;omega
          case rel=>exact ⟨j+1,s4,m4,by go_num,by omega,rfl,cj,A6 (C:=rw B3 1 (.slice ap kn Y) (ints ns)*(Sl.block T KI [.bool true,.int .i64 xh,.slice xE W dE,.slice xP np dP]*G6)) (by ac_rfl)⟩
     have be: ¬(j:Int)<nm:=by omega
     clear A P
     go_wp2
     go_ret
     exact ⟨rfl,Sh⟩
open Go.ChangeShapes Go.WideShapes
theorem p6{r:List Value}(h:r.length=5): ∃a b c d e,r= [a,b,c,d,e]:=by
 match r,h with
 | [a,b,c,d,e],_=>exact ⟨a,b,c,d,e,rfl⟩
theorem Q5{α:Type}{f:α→List Value}{p:α→Prop} : ∀l:List (List Value),(∀r∈l,∃c,r=f c∧p c)→ ∃a:List α,l=a.map f∧ ∀c∈a,p c
 | [],_=>⟨[],rfl,fun _ h=>by cases h⟩
 | r :: l, hl => by
  obtain ⟨c,rfl,e⟩:=hl r (by simp)
  obtain ⟨a,rfl,b⟩:=Q5 l fun g d=>hl g (by simp[d])
  exact ⟨c::a,rfl,fun x hx=>by
   rcases List.mem_cons.1 hx with h|h
   ·rw[h];exact e
   exact b x h⟩
theorem UH{H:Type}{enc:TypeId×Value→H}{w:World}{e:Nat}{d:Nat→Bool}{i:Bool}{a:Option Addr}{len cap:Nat}
 (h: ∃b x,DataW.trod enc Tryz.prog w e d i b 101 [.slice a len cap]=some x):
 ∃g:List Yz,j9 w (.slice a len cap) 5 (g.map PD)∧g.length=len∧len≤9223372036854775807∧ ∀c∈g,An (Kc w) (.slice c.a c.put.length c.c) c.put∧c.put.length≤9223372036854775807:=by
 obtain ⟨b,x,hx⟩:=h
 obtain ⟨J,h1,B,D,G⟩:=Lz (s:=5) Tryz.underlying101 (by kernel_rfl) (by omega) hx
 obtain ⟨g,rfl,k⟩:=Q5 (f:=PD) (p:=fun c=>An (Kc w) (.slice c.a c.put.length c.c) c.put∧c.put.length≤9223372036854775807) J (by
  intro r hr
  obtain ⟨n,y,hy⟩:=G r hr
  obtain ⟨hl,n',Q⟩:=GF Tryz.underlying107 hy
  obtain ⟨v0,v1,v2,v3,v4,rfl⟩:=p6 (hl.trans (by kernel_rfl))
  have c0:Tryz.prog.cellsOf 3=1:=by kernel_rfl
  have c3:Tryz.prog.cellsOf 29=1:=by kernel_rfl
  obtain ⟨_,Y,e0⟩:=D6 Tryz.underlying107 hy 0 3 0 1 rfl c0
  obtain ⟨_,Z,t⟩:=D6 Tryz.underlying107 hy 1 3 1 1 rfl c0
  obtain ⟨_,y2,u⟩:=D6 Tryz.underlying107 hy 2 3 2 1 rfl c0
  obtain ⟨_,y3,z⟩:=D6 Tryz.underlying107 hy 3 3 3 1 rfl c0
  obtain ⟨n4,K,m⟩:=D6 Tryz.underlying107 hy 4 29 4 1 rfl c3
  obtain ⟨L,rfl,U⟩:=Dt Tryz.underlying3 e0
  obtain ⟨M,rfl,V⟩:=Dt Tryz.underlying3 t
  obtain ⟨O,rfl,W⟩:=Dt Tryz.underlying3 u
  obtain ⟨P,rfl,X⟩:=Dt Tryz.underlying3 z
  have hs: ∃a n c,v4= .slice a n c:=by
   rcases DataW.trod_slice Tryz.underlying29 m with ⟨h0,_⟩|⟨a,len,cap,j,rest,n,_,h1,_⟩
   ·exact ⟨none,0,0,by simpa using h0⟩
   exact ⟨some a,len,cap,by simpa using h1⟩
  obtain ⟨I,pn,pc,rfl⟩:=hs
  obtain ⟨l,hl,o⟩:=UN ⟨n4,K,m⟩
  subst hl
  obtain ⟨_,_,q,R,T⟩:=o.v
  cases q
  exact ⟨⟨L,M,O,P,I,pc,l⟩,rfl,o,by show l.length≤_;omega⟩)
 exact ⟨g,h1,by simpa using B,D,k⟩
