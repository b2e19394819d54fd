/- treeFails holds for every input. No condition. (part 55) -/
import Derived.Test.YtfhbmblbidcmmaaGreatYa50
import Derived.Test.YtfhbmblbidcmmaaGreatYa53
import Derived.Test.YtfhbmblbidcmmaaGreatYa54
set_option linter.all false
set_option maxRecDepth 100000
set_option maxHeartbeats 12800000
namespace Go.Proofs.YtfhbmblbidcmmaaGreat
open Go.RowKit Go.Sl Go.Dk Go.Tr
instance y5:G1:=Oq
def Td:ByteArray:=⟨#[111,116,104,101,114]⟩
theorem OB{d:Dk}(b:(d.files.map (·.1)).Nodup)(h: ∀n,n≠He→d.get n=none):d.files.length≤1:=by
 have key: ∀fs:List (ByteArray×Fl),(fs.map (·.1)).Nodup→(∀n,n≠He→Cb n fs=none)→fs.length≤1:=by
  intro fs b h
  match fs with
  | []=>simp
  | [_]=>simp
  | p :: q :: l =>
   exfalso
   simp only[List.map_cons,List.nodup_cons,List.mem_cons,not_or] at b
   have hp:p.1=He:=Decidable.byContradiction fun a=>by
    have:=h p.1 a
    unfold Cb at this
    rw[if_pos rfl] at this
    cases this
   have hq:q.1=He:=Decidable.byContradiction fun a=>by
    have:=h q.1 a
    unfold Cb at this
    rw[if_neg (fun e=>a (e.trans hp))] at this
    unfold Cb at this
    rw[if_pos rfl] at this
    cases this
   exact b.1.1 (hp.trans hq.symm)
 exact key d.files b h
def E4(d:Dk)(n:Nat):Dk:=(d.settled Td).put Td ⟨List.replicate n 0,List.replicate n 0,true⟩
def TS.D9(s:TS)(d:Dk):TS:=⟨{ s.ck with d:=d },s.sp,s.ops⟩
def FI(d:Dk)(n:Int):Dk:= { d with D5:=true,left:=n }
theorem OW{d:Dk}{n:Nat}(e:(n:Int)≤d.free)(c:d.get Td=none)(g:d.files.length≤1):d.load Td (List.replicate n 0)=(0,E4 d n):=by
 have hm:Dk.named Td=true:=by decide+kernel
 have a:d.fits (d.get Td) (List.replicate n (0:UInt8)).length=0:=by
  rw[c,List.length_replicate]
  unfold Dk.fits
  rw[if_neg (by simp;omega),if_neg]
  have b:EN none=0:=rfl
  unfold Dk.free at e
  rw[b]
  simp
  intro f
  omega
 unfold Dk.load
 rw[if_neg (by simp[hm]),a,if_neg (by simp)]
 rfl
theorem Kr{s:TS}{root:Int}{l:List As}(a:LN s root l){n:Nat}(g:(n:Int)≤s.ck.d.free):Ep (Jw s) (s.D9 (E4 s.ck.d n))∧Le (nodeAt s) (nodeAt (s.D9 (E4 s.ck.d n)))∧Gt (s.D9 (E4 s.ck.d n)):=by
 obtain ⟨m,hm⟩:=a.inv.ts.ck
 have b:Td≠He:=by decide+kernel
 have f:=OB hm.dk.nd a.others
 have c:=OW g (a.others Td b) f
 have h:=a.inv.X1 (d':=E4 s.ck.d n) (by
  rw[a.nm]
  show Cb He (Dj Td _ s.ck.d.files)=_
  rw[Cs,if_neg (Ne.symm b)]
  rfl)
  (fun p hp=>(List.mem_filter.1 hp).1) (List.length_filter_le _ _) ⟨a.inv.AG.BK.Mp,by
   have e:(Dj Td ⟨List.replicate n 0,List.replicate n 0,true⟩ s.ck.d.files).length≤s.ck.d.files.length+1:=by
    rw[FP]
    split<;>omega
   show (Dj Td _ s.ck.d.files).length+_≤8
   split<;>omega⟩
  (fun m hm=>by have:=YF hm Td (List.replicate n 0);rw[c] at this;exact this) (Int.le_refl _) a.inv.ts.num.left
 exact ⟨h.1,h.2,h.1.ts⟩
theorem Lm{P:Int→List UInt8→Prop}{s:TS}(h:Ep P s){n:Int}(b:0≤n)(a:n≤9223372036854775807):Ep P (s.D9 (FI s.ck.d n))∧Le (nodeAt s) (nodeAt (s.D9 (FI s.ck.d n))):=by
 refine h.X1 (d':=FI s.ck.d n) rfl (fun p hp=>hp) (Nat.le_refl _) ⟨h.AG.BK.Mp,h.AG.BK.nf⟩ (fun m hm=>?_) (Int.le_refl _) (by show _≤n;omega)
 have:=Xg hm n a
 unfold Dk.arm at this
 rw[if_neg (by omega)] at this
 exact this
theorem VK(h:Th)(s:TS)(root:Int)(l:List As)(a:LN s root l)(n:Nat)(i:(n:Int)≤s.ck.d.free)(o:n≤1099511627776)(v:Value)(B F:Ac)(w:World)(p:Reads B v (List.replicate n 0))(hs:Sat (Ad h s*(B*F)) w):
 Calls Tryz.prog 15 #[.pointer (some ⟨h.D,0,none⟩),.string Td,v] w fun e f=>e= .returned (.int .i64 0)∧Sat (Ad h (s.D9 (E4 s.ck.d n))*(B*F)) f:=by
 obtain ⟨hi,R,q,r⟩:=Fb hs
 obtain ⟨m,hm⟩:=a.inv.ts.ck
 have c:=hi.ok.dk
 have b:=OW i (a.others Td (by decide+kernel)) (OB hm.dk.nd a.others)
 have g:=WV h.D s.ck.d 137438953472 Td v (List.replicate n 0) B (BA h.S s.sp*(R*F)) w p (q.eq (by ac_rfl)) (by decide) (by rw[List.length_replicate];omega) c (by unfold Iq;omega)
 rw[b] at g
 refine g.mono ?_
 rintro e f ⟨j,k⟩
 exact ⟨j,r _ (B*F) f (Kr a i).2.2 (k.eq (by ac_rfl))⟩
theorem Qp(l put:List As)(x c:Int):(D8 l x c put).length≤2*l.length+put.length:=by
 unfold D8
 have a:=Hm ((first l x).1++put++(first (first l x).2 c).2)
 have b:=GC l x
 have d:=GC (first l x).2 c
 simp only[List.length_append] at a
 omega
theorem NK(l:List As)(a b:Value)(B F:Ac)(w:World)(g:Aq B a l)(i:Aq B b l)(hs:Sat (B*F) w)(hl:l.length≤65536):
 Calls Tryz.prog 45 #[a,b] w fun e c=>e= .returned (.bool true)∧Sat (B*F) c:=(V9 l l a b B F w g i hs hl hl).mono fun e c ⟨d,f⟩=>⟨by rw[d];simp,f⟩
theorem Qw{A R:Ac}{w a:World}[h:BG A a][t:Take A (Jm w) R]:Below w.heap.size w a:=(h.out.take (Jm w)).Pm
structure KD (sf sD:TS) (g:Int×List As) (r f:Int):Prop where
 ts:Gt sD
 left:50000000≤Ap sD
 no:f≠0→Sv sf sD.ops sD.ck.d
 ok:f=0→g.1=0∧Ep (Jw sf) sD∧Le (nodeAt sf) (nodeAt sD)∧sD.ck.nm=He∧sD.ck.d.down=false∧1000000≤sD.ck.d.left∧Rt (nodeAt sD) r g.2
theorem NU(a0 a1 a2 a3 a4 : Int)(put : List As)(al : Option Addr)(cap : Nat)(w : World)(hE : Aq (Jm w) (.slice al put.length cap) put) :
 Calls Tryz.prog 7 #[.int .i64 a0,.int .i64 a1,.int .i64 a2,.int .i64 a3,.int .i64 a4,.slice al put.length cap] w fun e V=>e= .returned (.bool true)∧Below w.heap.size w V:=by
 obtain ⟨np,c7⟩: ∃n,put.length=n:=⟨_,rfl⟩
 have HE:Aside (Aq (Jm w) (.slice al put.length cap) put∧put.length=np):=⟨hE,c7⟩
 rw[c7] at hE⊢
 clear hE c7
 obtain ⟨r6,ay⟩: ∃x,a3%60=x:=⟨_,rfl⟩
 have gm:0≤r6:=by rw[←ay];exact Int.emod_nonneg _ (by omega)
 have gn:r6<60:=by rw[←ay];exact Int.emod_lt_of_pos _ (by omega)
 have ca:=ID a3 60 w (by omega) (by omega)
 rw[ay] at ca
 have q1:Sat (Jm w*1) w:=by rw[Bd];exact Sat.Xl w
 haveI:=q1.i
 clear ay
 go_enter Tryz.func7,Tryz.ntmps7
 go_wp2_with fail
 refine Calls.mono ca ?_
 rintro e w1 ⟨rfl,rfl⟩
 go_wp2_with fail
 with_reducible refine Calls.mono (Oz _ _ q1) ?_
 rintro e w2 ⟨rfl,q2⟩
 haveI:=q2.i
 clear q1 ca
 by_cases fz:40<np
 · have bu:(40:Int)<np:=by omega
   go_wp2_with fail
   with_reducible refine Calls.mono (Oz _ _ q2) ?_
   rintro e w3 ⟨rfl,q3⟩
   haveI:=q3.i
   go_wp2
   go_ret
   exact ⟨rfl,Qw⟩
 have bu: ¬(40:Int)<np:=by omega
 obtain ⟨a,du,gi⟩: ∃a:Nat,a0%120=(a:Int)∧a<120:=⟨(a0%120).toNat,by omega,by omega⟩
 have ax:=fun F w q=>Vk a 1 F w q (by omega) (by omega)
 rw[show ((1:Nat):Int)=1 from rfl] at ax
 obtain ⟨m1,m2,m3⟩:=QV a 1 (by omega) (by omega)
 have c5:=Vm a 1 (by omega) (by omega)
 have c4:=OX a 1
 have c0:=QU a 1
 obtain ⟨l,hl⟩: ∃l,Dw a 1=l:=⟨_,rfl⟩
 rw[hl] at ax m1 m2 m3 c5 c4 c0
 obtain ⟨z,hz⟩: ∃z,Ab l=z:=⟨_,rfl⟩
 rw[hz] at m2 m3
 have I:Aside (l.length=a∧BI l∧(∀x∈l,Ai x=true)∧Ab l=z∧BD l=true∧Fit l):=⟨c4,c0,m1,hz,c5,m1,by omega,by omega⟩
 clear hl c4 c0 m1 hz c5
 have ac:=ID a0 120 w2 (by omega) (by omega)
 rw[du] at ac
 clear du
 go_wp2_with fail
 refine Calls.mono ac ?_
 rintro e w3 ⟨rfl,rfl⟩
 go_wp2_with fail
 with_reducible refine Calls.mono (ax _ _ q2) ?_
 rintro e w4 ⟨j,m,rfl,q4⟩
 haveI:=q4.i
 have hJ:Aq (rw A9 4 (.slice j a m) (AQ l)) (.slice j a m) l:=by
  have:=Al.rw q4 ⟨j,m,rfl⟩ (n:=a)
  rw[←I.out.1] at this⊢
  exact this
 have HJ:Aside (Aq (rw A9 4 (.slice j a m) (AQ l)) (.slice j a m) l):=hJ
 clear q2 ax ac hJ
 go_wp2_with fail
 with_reducible refine Calls.mono (U2 102400 4 _ _ q4 (by omega) (by omega) (by omega) (by omega)) ?_
 rintro e w5 ⟨b,h,rfl,q5⟩
 obtain ⟨r,s1,bt,bx,hB⟩:=Wj h l I.out.2.2.2.2.2 I.out.2.1 (by rw[I.out.1];omega) I.out.2.2.2.2.1
 obtain ⟨s0,dv⟩: ∃s,Jz 102400 4=s:=⟨_,rfl⟩
 obtain ⟨sf,dx⟩: ∃s,s1.E0=s:=⟨_,rfl⟩
 rw[dv] at q5 bt
 rw[dx] at bx hB
 haveI:=q5.i
 clear q4 dv dx
 go_wp2_with fail
 with_reducible refine Calls.mono (bt _ _ _ _ HJ.out (AY (Ad h s0) (rw A9 4 (.slice j a m) (AQ l)))) ?_
 rintro e w6 ⟨rfl,q6⟩
 unfold Ki
 haveI:=q6.i
 clear q5 bt
 go_wp2_with fail
 with_reducible refine Calls.mono (bx _ _ (Ae (Ad h s1))) ?_
 rintro e w7 ⟨rfl,q7⟩
 haveI:=q7.i
 have q8:Sat (Ad h sf*(rw A9 4 (.slice j a m) (AQ l)*(Sl.block b TU [.pointer (some ⟨h.D,0,none⟩),.pointer (some ⟨h.C,0,none⟩),.pointer (some ⟨h.S,0,none⟩),.pointer (some ⟨h.t,0,none⟩)]*(Jm w*1)))) w7:=Dv _ _ _ _
 haveI:=q8.i
 clear q6 q7 bx
 obtain ⟨z0,ae⟩: ∃x,sf.ck.d.free=x:=⟨_,rfl⟩
 have bz:=fun F w q=>VJ h sf F w q
 rw[ae] at bz
 have gt:0≤z0∧z0≤1099511627776:=by
  have h1:=hB.inv.ts.ok.dk.room
  rw[←ae]
  unfold Dk.free
  unfold Iq at h1
  omega
 obtain ⟨U,gj,b5⟩: ∃U:Nat,max 0 (z0-256*r6)=(U:Int)∧(U:Int)≤z0:=⟨(max 0 (z0-256*r6)).toNat,by omega,by omega⟩
 have b6:U≤1099511627776:=by omega
 have c2:=fun v B F w hv q=>VK h sf r l hB U (by rw[ae];exact b5) b6 v B F w hv q
 obtain ⟨bh,bi,di⟩:=Kr hB (n:=U) (by rw[ae];exact b5)
 have a8:(sf.D9 (E4 sf.ck.d U)).ck.d.down=false:=hB.up
 have bj:Ap (sf.D9 (E4 sf.ck.d U))=Ap sf:=rfl
 have bl:Bm (sf.D9 (E4 sf.ck.d U)).sp=Bm sf.sp:=rfl
 have bk:(sf.D9 (E4 sf.ck.d U)).ck.nm=He:=hB.nm
 obtain ⟨o,dw⟩: ∃s,sf.D9 (E4 sf.ck.d U)=s:=⟨_,rfl⟩
 rw[dw] at c2 bh bi di a8 bj bl bk
 have fa:=Rf U b6
 have p:Aside (LN sf r l∧Ep (Jw sf) o∧Le (nodeAt sf) (nodeAt o)∧o.ck.d.down=false∧Ap o=Ap sf∧Bm o.sp=Bm sf.sp∧o.ck.nm=He):=⟨hB,bh,bi,a8,bj,bl,bk⟩
 have e5:IntKind.i64.wrap (256*r6)=256*r6:=IntWalk.i64_in _ (by omega)
 have e7:IntKind.i64.wrap (z0-256*r6)=z0-256*r6:=IntWalk.i64_in _ (by omega)
 clear hB bh bi di a8 bj bl bk dw ae
 go_upto_region 11 with (fail)
 go_cut [81] (fun fn wx=>fn= .bool false∧Sat (Ad h o*(rw A9 4 (.slice j a m) (AQ l)*(Sl.block b TU [.pointer (some ⟨h.D,0,none⟩),.pointer (some ⟨h.C,0,none⟩),.pointer (some ⟨h.S,0,none⟩),.pointer (some ⟨h.t,0,none⟩)]*(Jm w*1)))) wx)
 case first=>
  go_region_held3 (fun V=>V.cell? ⟨b,0,none⟩=some (.pointer (some ⟨h.D,0,none⟩))) (first|exact Aa _ _ _) (first
   |(go_at_call 37;with_reducible refine Calls.mono (bz _ _ (Ae (Ad h sf))) ?_;rintro e w8 ⟨rfl,q9⟩;haveI:=q9.i)
   |(go_at_call 15;refine (c2 _ (Sl.block w8.heap.size TB (A4 (List.replicate U 0))) _ _ (by have hz:=Reads.MC (b:=w8.heap.size) (e:=TB) (l:=List.replicate U 0) (by rw[List.length_replicate];unfold maxLen;omega);rw[List.length_replicate] at hz;exact hz) (AY (Ad h sf) (Sl.block w8.heap.size TB (A4 (List.replicate U 0))))).mono ?_;rintro e w9 ⟨rfl,b1⟩;haveI:=b1.i))
  all_goals
   go_wp2
   go_meet
   exact ⟨rfl,Dv _ _ _ _⟩
 case rest => as_aux_lemma =>
  obtain ⟨rfl,q9⟩:=hcut
  clear q8 bz c2 fa e5 e7
  haveI:=q9.i
  have cj:=fun F w q=>LG l _ _ F w HJ.out q (by rw[I.out.1];omega) (fun x hx=>by have:=BS.1 (I.out.2.2.1 x hx);omega)
  rw[I.out.2.2.2.1] at cj
  go_wp2_with fail
  with_reducible refine Calls.mono (cj _ _ (Ae (rw A9 4 (.slice j a m) (AQ l)))) ?_
  rintro e ct ⟨rfl,b1⟩
  haveI:=b1.i
  have e5:IntKind.i64.wrap (z+1)=z+1:=IntWalk.i64_in _ (by omega)
  obtain ⟨x,hx⟩: ∃x,a1%(z+1)=x:=⟨_,rfl⟩
  have fg:0≤x:=by rw[←hx];exact Int.emod_nonneg _ (by omega)
  have gr:x<z+1:=by rw[←hx];exact Int.emod_lt_of_pos _ (by omega)
  have cc:=ID a1 (z+1) ct (by omega) (by omega)
  rw[hx] at cc
  clear q9 cj hx
  go_wp2_with fail
  refine Calls.mono cc ?_
  rintro e gx ⟨rfl,rfl⟩
  have e7:IntKind.i64.wrap (z-x)=z-x:=IntWalk.i64_in _ (by omega)
  have gq:IntKind.i64.wrap (z-x+1)=z-x+1:=IntWalk.i64_in _ (by omega)
  obtain ⟨c,hc⟩: ∃c,a2%(z-x+1)=c:=⟨_,rfl⟩
  have f4:0≤c:=by rw[←hc];exact Int.emod_nonneg _ (by omega)
  have gf:c<z-x+1:=by rw[←hc];exact Int.emod_lt_of_pos _ (by omega)
  have cb:=ID a2 (z-x+1) ct (by omega) (by omega)
  rw[hc] at cb
  clear hc cc
  go_wp2_with fail
  refine Calls.mono cb ?_
  rintro e gy ⟨rfl,rfl⟩
  have co:Sat (Ad h o*(rw A9 4 (.slice j a m) (AQ l)*(Sl.block b TU [.pointer (some ⟨h.D,0,none⟩),.pointer (some ⟨h.C,0,none⟩),.pointer (some ⟨h.S,0,none⟩),.pointer (some ⟨h.t,0,none⟩)]*(Jm w*1)))) ct:=Dv _ _ _ _
  haveI:=co.i
  have e3:=fun s' (e:s'.sp.used=o.sp.used) F w q=>UT h s' F w q (fun k hk=>by have h1:=p.out.2.1.used k (e▸hk);have h2:=p.out.2.1.res;have e2:Oe=1048576:=rfl;omega) (by
   rw[e]
   have h1:=p.out.2.1.nd
   have hs:o.sp.used⊆(List.range 1048576).map fun i:Nat=>(i:Int):=fun k hk=>by
    have h1:=p.out.2.1.used k hk
    have h2:=p.out.2.1.res
    have e2:Oe=1048576:=rfl
    exact List.mem_map.2 ⟨k.toNat,List.mem_range.2 (by omega),by omega⟩
   have h3:=List.Nodup.length_le_of_subset h1 hs
   rwa [List.length_map,List.length_range] at h3)
  have bc:Aside (∀s':TS,s'.sp.used=o.sp.used→ ∀F w,Sat (Ad h s'*F) w→Calls Tryz.prog 38 #[.pointer (some ⟨h.S,0,none⟩)] w fun e V=> ∃rs:List (Int×Int),Fj rs∧(∀x,Gs rs x↔x∈s'.sp.used)∧rs.length≤1048576∧ ∃(a':Option Addr)(c':Nat),e= .returned (.slice a' rs.length c')∧Sat (rw CB 2 (.slice a' rs.length c') (C9 rs)*(Ad h s'*F)) V):=e3
  clear b1 cb e3
  go_wp2_with fail
  with_reducible refine Calls.mono (bc.out o rfl _ _ co) ?_
  rintro e gz ⟨ru,dz,e0,fd,au,cu,rfl,cp⟩
  obtain ⟨nu,c8⟩: ∃x,ru.length=x:=⟨_,rfl⟩
  rw[c8] at cp⊢
  have HU:Aside (Fj ru∧(∀x,Gs ru x↔x∈o.sp.used)∧ru.length=nu∧nu≤1048576):=⟨dz,e0,c8,by omega⟩
  obtain ⟨y,hy⟩: ∃y,a4%40=y:=⟨_,rfl⟩
  have ea:0≤y:=by rw[←hy];exact Int.emod_nonneg _ (by omega)
  have gs:y<40:=by rw[←hy];exact Int.emod_lt_of_pos _ (by omega)
  have cd:=fun w=>ID a4 40 w (by omega) (by omega)
  rw[hy] at cd
  have bs:=fun F w q=>Sf h o y ea (by omega) F w q
  obtain ⟨bm,bn⟩:=Lm p.out.2.1 ea (by omega)
  have ar:(o.D9 (FI o.ck.d y)).sp=o.sp:=rfl
  have bo:(o.D9 (FI o.ck.d y)).ck.d.down=o.ck.d.down:=rfl
  have bp:(o.D9 (FI o.ck.d y)).ck.nm=o.ck.nm:=rfl
  have bq:Ap (o.D9 (FI o.ck.d y))=Ap o:=rfl
  obtain ⟨Z,cf⟩: ∃s,o.D9 (FI o.ck.d y)=s:=⟨_,rfl⟩
  have b7:(⟨{ o.ck with d:= { o.ck.d with D5:=true,left:=y } },o.sp,o.ops⟩:TS)=Z:=cf
  rw[b7] at bs
  rw[cf] at bm bn ar bo bp bq
  have u:Aside (Ep (Jw sf) Z∧Le (nodeAt sf) (nodeAt Z)∧Z.ck.d.down=false∧Z.ck.nm=He∧60000000≤Ap Z∧1000000≤Bm Z.sp∧Z.sp.used=o.sp.used):=by
   obtain ⟨k1,k2,L,k4,k5,k6,k7⟩:=p.out
   exact ⟨bm,L.trans bn,by rw[bo];exact k4,by rw[bp];exact k7,by rw[bq,k5];exact k1.left,by rw[ar,k6];exact k1.room,by rw[ar]⟩
  clear hy dz e0 fd c8 co bm bn ar bo bp bq cf b7
  haveI:=cp.i
  go_upto_region 17 with (fail)
  go_cut [105] (fun gb wx=>Sat (Ad h Z*(rw CB 2 (.slice au nu cu) (C9 ru)*(rw A9 4 (.slice j a m) (AQ l)*(Sl.block b TU [.pointer (some ⟨h.D,0,none⟩),.pointer (some ⟨h.C,0,none⟩),.pointer (some ⟨h.S,0,none⟩),.pointer (some ⟨h.t,0,none⟩)]*(Jm w*1))))) wx)
  case first=>
   go_region_held3 (fun V=>V.cell? ⟨b,0,none⟩=some (.pointer (some ⟨h.D,0,none⟩))) (first|exact Aa _ _ _) (first
    |(go_at_call 21;with_reducible refine Calls.mono (cd _) ?_;rintro e h0 ⟨rfl,e6⟩;subst e6)
    |(go_at_call 39;with_reducible refine Calls.mono (bs _ _ (Ae (Ad h o))) ?_;rintro e h4 ⟨rfl,b2⟩;haveI:=b2.i))
   all_goals
    go_wp2
    go_meet
    exact BL _ _ _ _ _
  case rest => as_aux_lemma =>
   have b2:=hcut
   clear cp bs cd
   haveI:=b2.i
   have br:Aq (Jm w*1) (.slice al np cap) put:=by have:=HE.out.1;rw[HE.out.2] at this;exact Al.left this
   have dt:(D8 l x c put).length≤1024:=by
    have h1:=Qp l put x c
    rw[I.out.1,HE.out.2] at h1
    omega
   have ci:=fun F V q=>Qo (Jw sf) h Z r x c l put _ (Jm w*1) F V br q u.out.1 u.out.2.2.1 (p.out.1.rt.le u.out.2.1) I.out.2.1 (by rw[I.out.1];omega) (by rw[HE.out.2];omega) fg f4 (by rw[I.out.2.2.2.1];omega) (by have:=u.out.2.2.2.2.2.1;omega) (by have:=u.out.2.2.2.2.1;omega) dt
   have ce:=fun F V (q:Sat (rw A9 4 (.slice j a m) (AQ l)*((Jm w*1)*F)) V)=>RO l put x c (.slice j a m) (.slice al np cap) (rw A9 4 (.slice j a m) (AQ l)) (rw A9 4 (.slice j a m) (AQ l)*(Jm w*1)) F V HJ.out (Al.left HJ.out) (Al.right br) (q.eq (Ar _ _ _).symm) ⟨I.out.2.2.2.2.2,I.out.2.1⟩ (by rw[HE.out.2];omega)
   obtain ⟨⟨P,Q⟩,hg⟩: ∃g,Ld l x c put=g:=⟨_,rfl⟩
   rw[hg] at ci
   simp only[hg] at ce
   have d9:Aside (∀F V,Sat (rw A9 4 (.slice j a m) (AQ l)*((Jm w*1)*F)) V→Calls Tryz.prog 40 #[.slice j a m,.int .i64 x,.int .i64 c,.slice al np cap] V (M6 (rw A9 4 (.slice j a m) (AQ l)) (rw A9 4 (.slice j a m) (AQ l)*(Jm w*1)) F (P,Q))):=ce
   clear br dt hg ce
   go_wp2_with fail
   with_reducible refine Calls.mono (ci _ _ (AY (Ad h Z) (Jm w*1))) ?_
   rintro e h5 ⟨r',f,s',rfl,ec,HS⟩
   have J:Aside (Zv (Jw sf) Z (P,Q) r' f s'):=HS
   unfold Ki
   haveI:=ec.i
   clear b2 ci HS
   go_wp2_with fail
   with_reducible refine Calls.mono (d9.out _ _ (AY (rw A9 4 (.slice j a m) (AQ l)) (Jm w*1))) ?_
   rintro e ej ⟨ag,cg,G,rfl,hG,ed⟩
   obtain ⟨ng,c6⟩: ∃n,Q.length=n:=⟨_,rfl⟩
   simp only[c6] at hG⊢
   have b9:Aside (Aq (G*rw A9 4 (.slice j a m) (AQ l)) (.slice ag ng cg) Q∧Q.length=ng):=⟨hG,c6⟩
   have ee:Sat (Ad h s'*(rw CB 2 (.slice au nu cu) (C9 ru)*(rw A9 4 (.slice j a m) (AQ l)*(G*(Sl.block b TU [.pointer (some ⟨h.D,0,none⟩),.pointer (some ⟨h.C,0,none⟩),.pointer (some ⟨h.S,0,none⟩),.pointer (some ⟨h.t,0,none⟩)]*(Jm w*1)))))) ej:=(ed.eq (by ac_rfl):Sat (Ad h s'*(rw CB 2 (.slice au nu cu) (C9 ru)*(rw A9 4 (.slice j a m) (AQ l)*(G*(Sl.block b TU [.pointer (some ⟨h.D,0,none⟩),.pointer (some ⟨h.C,0,none⟩),.pointer (some ⟨h.S,0,none⟩),.pointer (some ⟨h.t,0,none⟩)]*(Jm w*1)))))) ej)
   haveI:=ee.i
   clear ec ed hG c6 d9
   go_upto_if 127 with (fail)
   go_cut [] (fun wx=>Sat (Ad h s'*(rw CB 2 (.slice au nu cu) (C9 ru)*(rw A9 4 (.slice j a m) (AQ l)*(G*(Sl.block b TU [.pointer (some ⟨h.D,0,none⟩),.pointer (some ⟨h.C,0,none⟩),.pointer (some ⟨h.S,0,none⟩),.pointer (some ⟨h.t,0,none⟩)]*(Jm w*1)))))) wx)
   case first =>
    by_cases Y:f=0
    · obtain ⟨k1,-⟩:=J.out.ok Y
      simp only at k1
      subst Y
      subst k1
      go_wp2
      go_meet
      exact BL _ _ _ _ _
    obtain ⟨k1,k2,L⟩:=J.out.no Y
    have f6:((f:Int) !=0)=true:=by simpa using Y
    subst k1
    go_wp2_with fail
    with_reducible refine Calls.mono (bc.out s' (k2.trans u.out.2.2.2.2.2.2) _ _ (Ae (Ad h s'))) ?_
    rintro e h6 ⟨rv,fe,ff,gp,av,cv,rfl,ah⟩
    have fb:rv=ru:=Rq rv ru fe HU.out.1 fun x=>by rw[ff,k2,u.out.2.2.2.2.2.2,HU.out.2.1]
    subst fb
    rw[HU.out.2.2.1] at ah⊢
    have ad:=fun F w q=>RN av au cv cu nu rv HU.out.2.2.1 F w HU.out.2.2.2 q
    haveI:=ah.i
    go_wp2_with fail
    with_reducible refine Calls.mono (ad _ _ (AY (rw CB 2 (.slice av nu cv) (C9 rv)) (rw CB 2 (.slice au nu cu) (C9 rv)))) ?_
    rintro e h7 ⟨rfl,ai⟩
    haveI:=ai.i
    rcases L with L|L|⟨L,k4⟩
    · subst L
      by_cases T:P=0
      · subst T
        go_wp2
        go_meet
        exact BL _ _ _ _ _
      have f8:((P:Int) !=0)=true:=by simpa using T
      have dr:((P:Int)==0)=false:=by simpa using T
      by_cases ab:P=7
      · subst ab
        go_wp2
        go_meet
        exact BL _ _ _ _ _
      have ds:((7:Int) !=P)=true:=bne_iff_ne.2 fun e=>ab e.symm
      go_wp2
      go_meet
      exact BL _ _ _ _ _
    · subst L
      by_cases T:P=0
      · subst T
        go_wp2
        go_meet
        exact BL _ _ _ _ _
      have f8:((P:Int) !=0)=true:=by simpa using T
      have dr:((P:Int)==0)=false:=by simpa using T
      by_cases ab:P=8
      · subst ab
        go_wp2
        go_meet
        exact BL _ _ _ _ _
      have ds:((8:Int) !=P)=true:=bne_iff_ne.2 fun e=>ab e.symm
      go_wp2
      go_meet
      exact BL _ _ _ _ _
    have L:P≠0:=L
    have k4:f=P:=k4
    subst k4
    have dr:((f:Int)==0)=false:=by simpa using L
    have ds:((f:Int) !=f)=false:=by simp
    go_wp2
    go_meet
    exact BL _ _ _ _ _
   case rest => as_aux_lemma =>
    have ah:=hcut
    clear ee bc HU
    haveI:=ah.i
    have W:=fun F w q=>Sf h s' 1073741824 (by omega) (by omega) F w q
    have eC:(⟨{ s'.ck with d:= { s'.ck.d with D5:=true,left:=1073741824 } },s'.sp,s'.ops⟩:TS)=s'.D9 (FI s'.ck.d 1073741824):=rfl
    rw[eC] at W
    have aa:(s'.D9 (FI s'.ck.d 1073741824)).ck.d.down=s'.ck.d.down:=rfl
    obtain ⟨H,ch⟩: ∃s,s'.D9 (FI s'.ck.d 1073741824)=s:=⟨_,rfl⟩
    rw[ch] at W aa
    have O:Aside (s'.D9 (FI s'.ck.d 1073741824)=H):=ch
    clear eC ch
    go_wp2_with fail
    with_reducible refine Calls.mono (W _ _ (Ae (Ad h s'))) ?_
    rintro e fo ⟨rfl,ai⟩
    haveI:=ai.i
    clear ah W
    go_wp2_with fail
    with_reducible refine Calls.mono (P6 h H _ _ (Ae (Ad h H))) ?_
    rintro e h9 ⟨rfl,e8⟩
    subst e8
    rw[aa]
    obtain ⟨s2,dd,de,df,dg,dh⟩:=J.out.dk
    have b4:s2.ck.nm=He:=by rw[dg,J.out.nm];exact u.out.2.2.2.1
    obtain ⟨g1,g2⟩:=Lm dd (n:=1073741824) (by omega) (by omega)
    have dj:H.ck.d=(s2.D9 (FI s2.ck.d 1073741824)).ck.d:=by rw[←O.out];show FI s'.ck.d _=FI s2.ck.d _;rw[df]
    have dn:(s2.D9 (FI s2.ck.d 1073741824)).ck.nm=He:=b4
    have dp:(s2.D9 (FI s2.ck.d 1073741824)).ops=H.ops:=by rw[←O.out];exact dh
    have dm:H.ck.nm=He:=by rw[←O.out];show s'.ck.nm=He;rw[J.out.nm];exact u.out.2.2.2.1
    have dl:55000000≤Ap H:=by
      have e:Ap H=Ap s':=by rw[←O.out];rfl
      have:=J.out.left;have:=u.out.2.2.2.2.1;omega
    have dq:Gt H:=(Sat.LM (Ae (Ad h H):Sat (Ad h H*_) fo)).1
    have a6:Aside (Ep (Jw sf) (s2.D9 (FI s2.ck.d 1073741824))∧Le (nodeAt sf) (nodeAt (s2.D9 (FI s2.ck.d 1073741824)))):=⟨g1,u.out.2.1.trans (de.trans g2)⟩
    have M:Aside (H.ck.d=(s2.D9 (FI s2.ck.d 1073741824)).ck.d∧(s2.D9 (FI s2.ck.d 1073741824)).ck.nm=He∧(s2.D9 (FI s2.ck.d 1073741824)).ops=H.ops∧H.ck.nm=He∧55000000≤Ap H∧Gt H):=⟨dj,dn,dp,dm,dl,dq⟩
    clear dd de df dg dh b4 g1 g2 dj dn dp dm dl dq
    haveI:=ai.i
    go_upto_if 180 with (fail)
    go_cut [] (fun wx=> ∃sD:TS,Aside (KD sf sD (P,Q) r' f)∧Sat (Ad h sD*(rw A9 4 (.slice j a m) (AQ l)*(G*(Sl.block b TU [.pointer (some ⟨h.D,0,none⟩),.pointer (some ⟨h.C,0,none⟩),.pointer (some ⟨h.S,0,none⟩),.pointer (some ⟨h.t,0,none⟩)]*(Jm w*1))))) wx)
    case first =>
     cases bv:s'.ck.d.down with
     | true =>
       have aw:f≠0:=fun e=>by have:=(J.out.ok e).2.1;rw[bv] at this;cases this
       have f5:=fun F w q=>T9 (Jw sf) h H (s2.D9 (FI s2.ck.d 1073741824)) F w a6.out.1 M.out.1.symm (M.out.2.1.trans M.out.2.2.2.1.symm) q
       go_wp2_with fail
       with_reducible refine Calls.mono (f5 _ _ (Ae (Ad h H))) ?_
       rintro e fp ⟨rfl,aj⟩
       have fc:=(Sat.LM aj).1
       haveI:=aj.i
       go_wp2
       go_meet
       refine ⟨_,⟨fc,?_,fun _=>?_,fun e=>absurd e aw⟩,Dv _ _ _ _⟩
       · have:=M.out.2.2.2.2.1
         show 50000000≤Ap H
         omega
       have:=UJ p.out.1 a6.out.1 M.out.2.1
       rw[←M.out.1,M.out.2.2.1] at this
       exact this
     | false =>
       go_wp2
       go_meet
       refine ⟨H,⟨M.out.2.2.2.2.2,by have:=M.out.2.2.2.2.1;omega,fun aw=>?_,fun aw=>?_⟩,Dv _ _ _ _⟩
       · have:=W7 p.out.1 a6.out.1 a6.out.2 M.out.2.1 (by rw[←M.out.1,aa,bv])
         rw[←M.out.1,M.out.2.2.1] at this
         exact this
       obtain ⟨k1,k2,L,k4,k5⟩:=J.out.ok aw
       obtain ⟨g1,g2⟩:=Lm L (n:=1073741824) (by omega) (by omega)
       rw[O.out] at g1 g2
       have hl:H.ck.d.left=1073741824:=by rw[←O.out];rfl
       exact ⟨k1,g1,u.out.2.1.trans (k5.trans g2),M.out.2.2.2.1,by rw[aa,bv],by omega,k4.le g2⟩
    case rest => as_aux_lemma =>
     obtain ⟨sD,HK,aj⟩:=hcut
     clear ai a6 M O aa
     haveI:=aj.i
     go_upto_region 28 with (fail)
     go_cut [195] (fun ei wx=>ei= .bool (decide (f=0))∧Sat (Ad h sD*(rw A9 4 (.slice j a m) (AQ l)*(G*(Sl.block b TU [.pointer (some ⟨h.D,0,none⟩),.pointer (some ⟨h.C,0,none⟩),.pointer (some ⟨h.S,0,none⟩),.pointer (some ⟨h.t,0,none⟩)]*(Jm w*1))))) wx)
     case first=>
      by_cases Y:f=0
      · subst Y
        have e4:=(HK.out.ok rfl).2.2.2.2.1
        have dy:=fun F w q=>P6 h sD F w q
        rw[e4] at dy
        clear e4
        go_wp2_with fail
        with_reducible refine Calls.mono (dy _ _ (Ae (Ad h sD))) ?_
        rintro e fp ⟨rfl,e9⟩
        subst e9
        dsimp only
        go_wp2
        go_meet
        exact ⟨rfl,Dv _ _ _ _⟩
      have f6:((f:Int)==0)=false:=by simpa using Y
      go_wp2
      go_meet
      exact ⟨by simp[Y],Dv _ _ _ _⟩
     case rest=>as_aux_lemma=>
      obtain ⟨rfl,cq⟩:=hcut
      clear aj
      haveI:=cq.i
      go_upto_if 195 with (fail)
      go_cut [] (fun wx=> ∃K:TS,Aside (Sv sf K.ops K.ck.d∧40000000≤Ap K∧Gt K)∧Sat (Ad h K*(rw A9 4 (.slice j a m) (AQ l)*(Sl.block b TU [.pointer (some ⟨h.D,0,none⟩),.pointer (some ⟨h.C,0,none⟩),.pointer (some ⟨h.S,0,none⟩),.pointer (some ⟨h.t,0,none⟩)]*(Jm w*1)))) wx)
      case first =>
       by_cases Y:f=0
       · subst Y
         obtain ⟨k1,k2,L,k4,k5,k6,k7⟩:=HK.out.ok rfl
         have kl:=HK.out.left
         have gh:=k7.fit.2.2
         have X:=fun F w q=>SD (Jw sf) h sD r' Q F w q k2 k5 k6 k7 (by omega)
         have bb:Aside (Le (nodeAt sf) (nodeAt sD)∧sD.ck.nm=He∧50000000≤Ap sD):=⟨L,k4,kl⟩
         have hd:decide ((0:Int)=0)=true:=rfl
         rw[hd]
         clear k1 k2 L k4 k5 k6 k7 kl hd
         go_wp2_with fail
         with_reducible refine Calls.mono (X _ _ (Ae (Ad h sD))) ?_
         rintro e ha ⟨s3,f3,a3,n3,c3,es,rfl,e1,e2,ak,i1,i2,i3,i4,i5⟩
         have d7:Aside (Sv sf s3.ops s3.ck.d∧40000000≤Ap s3∧Gt s3):=⟨W7 p.out.1 i1 (bb.out.1.trans i2) (i4.trans bb.out.2.1) i3,by have:=bb.out.2.2;omega,i1.ts⟩
         have eu:Aside (f3=0→n3=Q.length∧es=AQ Q):=e1
         haveI:=ak.i
         clear cq X e1 e2 i1 i2 i3 i4 i5
         by_cases bw:f3=0
         ·obtain ⟨e1,e2⟩:=eu.out bw
          rw[b9.out.2] at e1
          subst e1
          subst e2
          subst bw
          have f1:Aq (rw A9 4 (.slice a3 n3 c3) (AQ Q)) (.slice a3 n3 c3) Q:=by
           have:=Al.rw ak ⟨a3,c3,rfl⟩ (n:=n3)
           rw[←b9.out.2] at this⊢
           exact this
          have ad:=fun F w (q:Sat (rw A9 4 (.slice a3 n3 c3) (AQ Q)*(G*(rw A9 4 (.slice j a m) (AQ l)*F))) w)=>NK Q (.slice a3 n3 c3) (.slice ag n3 cg) (rw A9 4 (.slice a3 n3 c3) (AQ Q)*(G*rw A9 4 (.slice j a m) (AQ l))) F w (Al.left f1) (Al.right b9.out.1) (q.eq (by ac_rfl)) (by omega)
          go_wp2_with fail
          with_reducible refine Calls.mono (ad _ _ (Qs (rw A9 4 (.slice a3 n3 c3) (AQ Q)) G (rw A9 4 (.slice j a m) (AQ l)))) ?_
          rintro e hb ⟨rfl,an⟩
          haveI:=an.i
          go_wp2
          go_meet
          exact ⟨s3,d7.out,Dv _ _ _ _⟩
         have gg:((f3:Int)==0)=false:=by simpa using bw
         go_wp2
         go_meet
         exact ⟨s3,d7.out,Dv _ _ _ _⟩
       have hd:decide (f=0)=false:=decide_eq_false Y
       rw[hd]
       go_wp2
       go_meet
       exact ⟨sD,⟨HK.out.no Y,by have:=HK.out.left;omega,HK.out.ts⟩,Dv _ _ _ _⟩
      case rest=>as_aux_lemma=>
       obtain ⟨K,a5,ak⟩:=hcut
       obtain ⟨-,R,an,-⟩:=Fb ak
       haveI:=an.i
       clear cq HK
       go_wp2_with fail
       refine Calls.mono (Rn h.D K.ck.d He 4 _ _ an (by decide+kernel) (by omega) (by omega)) ?_
       rintro e he ⟨C2,rfl,cr⟩
       haveI:=cr.i
       clear ak an
       go_wp2_with fail
       with_reducible refine Calls.mono (Ro C2 h.S _ _ cr) ?_
       rintro e hh ⟨t2,rfl,ef⟩
       have eg:=(CM (h:=⟨t2,C2,h.S,h.D⟩) (s:=⟨O4 K.ck.d,K.sp,K.ops⟩) (F:=R*(rw A9 4 (.slice j a m) (AQ l)*(Sl.block b TU [.pointer (some ⟨h.D,0,none⟩),.pointer (some ⟨h.C,0,none⟩),.pointer (some ⟨h.S,0,none⟩),.pointer (some ⟨h.t,0,none⟩)]*(Jm w*1)))) (W6 a5.out.1 a5.out.2.2) (ef.eq (by show _=AD C2 h.D (O4 K.ck.d)*_;unfold O4;ac_rfl)))
       obtain ⟨s9,c1⟩:=W5 p.out.1.rt a5.out.1 a5.out.2.2 (by have:=a5.out.2.1;omega)
       have X:=fun F w q=>L0 ⟨t2,C2,h.S,h.D⟩ ⟨O4 K.ck.d,K.sp,K.ops⟩ r F w q (by rw[c1];simp)
       rw[c1] at X
       haveI:=eg.i
       clear cr ef c1
       go_wp2_with fail
       with_reducible refine Calls.mono (X _ _ (Ae (Ad ⟨t2,C2,h.S,h.D⟩ ⟨O4 K.ck.d,K.sp,K.ops⟩))) ?_
       rintro e hi ⟨a9,c9,rfl,cs⟩
       rw[I.out.1] at cs⊢
       have f2:Aq (rw A9 4 (.slice a9 a c9) (AQ l)) (.slice a9 a c9) l:=by
        have:=Al.rw cs ⟨a9,c9,rfl⟩ (n:=a)
        rw[←I.out.1] at this⊢
        exact this
       have ad:=fun F w (q:Sat (rw A9 4 (.slice a9 a c9) (AQ l)*(rw A9 4 (.slice j a m) (AQ l)*F)) w)=>NK l (.slice a9 a c9) (.slice j a m) (rw A9 4 (.slice a9 a c9) (AQ l)*rw A9 4 (.slice j a m) (AQ l)) F w (Al.left f2) (Al.right HJ.out) (q.eq (Ar _ _ _).symm) (by rw[I.out.1];omega)
       haveI:=cs.i
       clear eg X
       go_wp2_with fail
       with_reducible refine Calls.mono (ad _ _ (AY (rw A9 4 (.slice a9 a c9) (AQ l)) (rw A9 4 (.slice j a m) (AQ l)))) ?_
       rintro e hj ⟨rfl,fj⟩
       haveI:=fj.i
       go_wp2
       go_ret
       exact ⟨rfl,Qw⟩
