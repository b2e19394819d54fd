/- censusSound holds for every input. No condition. (part 40) -/
import Derived.Test.YtfhbmblbidcmmaaGreatWa39
import Derived.Test.YtfhbmblbidcmmaaGreatWa38
set_option linter.all false
set_option maxRecDepth 100000
set_option maxHeartbeats 12800000
namespace Go.Proofs.YtfhbmblbidcmmaaGreat
open Go.RowKit Go.Sl Go.Dk Go.Tr
abbrev GQ:TypeId:=116
abbrev Hf:TypeId:=125
abbrev VC:TypeId:=75
def DQ(b:Nat)(h:Th):Ab:=Sl.block b Hf [.pointer (some ⟨h.D,0,none⟩),.pointer (some ⟨h.C,0,none⟩),.pointer (some ⟨h.t,0,none⟩)]
theorem Wj(c d:Option Addr)(a f b g:Nat)(F:Ab)(w:World)(hs:Sat F w):
 Calls Tryz.prog 54 #[.agg #[.slice c a f,.slice d b g]] w fun e m=>e= .returned (.bool (decide (3000<a∨3000<b)))∧Sat F m:=by
 haveI:=hs.i
 by_cases h1:3000<a
 ·have j:(3000:Int)<(a:Int):=by omega
  rw[decide_eq_true (.inl h1)]
  go_enter Tryz.func54,Tryz.ntmps54
  go_wp2
  go_ret
  exact ⟨rfl,Sat.Dx (B:=Sl.block w.heap.size GQ [.slice c a f,.slice d b g]) (Ap (by ac_rfl))⟩
 have j: ¬(3000:Int)<(a:Int):=by omega
 by_cases l:3000<b
 ·have k:(3000:Int)<(b:Int):=by omega
  rw[decide_eq_true (.inr l)]
  go_enter Tryz.func54,Tryz.ntmps54
  go_wp2
  go_ret
  exact ⟨rfl,Sat.Dx (B:=Sl.block w.heap.size GQ [.slice c a f,.slice d b g]) (Ap (by ac_rfl))⟩
 have k: ¬(3000:Int)<(b:Int):=by omega
 rw[decide_eq_false (by omega)]
 go_enter Tryz.func54,Tryz.ntmps54
 go_wp2
 go_ret
 exact ⟨rfl,Sat.Dx (B:=Sl.block w.heap.size GQ [.slice c a f,.slice d b g]) (Ap (by ac_rfl))⟩
theorem Ry(O T:List UInt8)(v1 v2:Value)(B F:Ab)(w:World)(f:Reads B v1 O)(g:Reads B v2 T)(hs:Sat (B*F) w)(j:O.length≤3000)(p:T.length≤3000):
 Calls Tryz.prog 55 #[v1,v2] w fun e x=> ∃(b:Nat)(h:Th),e= .returned (.pointer (some ⟨b,0,none⟩))∧Sat (DQ b h*(Ad h (Mj O T 7)*(B*F))) x:=by
 have l:=(SS O T 7 j p (by omega) (by omega)).ts
 have k:Dk.named FM=true:=by decide+kernel
 obtain ⟨z,c1,rfl,H,I⟩:=IL f hs
 obtain ⟨G,c2,rfl,J,K⟩:=IL g hs
 have a:=fun D F w q=>TW D (Dk.new 16777216) 0 EH _ O B F w f q (by decide+kernel) (by omega) (aH 16777216 (by omega) (by unfold Mo;omega)) (by unfold Mo;omega)
 have c:=fun D F w q=>TW D (V5 O) 0 E7 _ T B F w g q (by decide+kernel) (by omega) (Z' O j) (by unfold Mo;omega)
 rw[TX O j] at a
 rw[TY O T j p] at c
 have d:=fun D F w q=>aA D (Jr O T) FM 7 F w q k (by omega) (by omega)
 unfold EH at a
 unfold E7 at c
 unfold FM at d
 haveI:=hs.i
 go_enter Tryz.func55,Tryz.ntmps55
 go_wp2_with fail
 with_reducible refine Calls.mono (aB 16777216 _ _ hs (by omega) (by omega)) ?_
 rintro e L ⟨D,rfl,r⟩
 haveI:=r.i
 go_wp2_with fail
 refine (a D _ _ (Bh (Bv D (Dk.new 16777216)) B)).mono ?_
 rintro e M ⟨rfl,s⟩
 haveI:=s.i
 go_wp2_with fail
 refine (c D _ _ (Bh (Bv D (V5 O)) B)).mono ?_
 rintro e P ⟨rfl,u⟩
 haveI:=u.i
 clear a c
 go_wp2_with fail
 refine (d D _ _ (Ae (Bv D (Jr O T)))).mono ?_
 rintro e Q ⟨C,rfl,n⟩
 haveI:=n.i
 go_wp2_with fail
 with_reducible refine Calls.mono (ZA 1 _ _ (by omega) (by omega) n) ?_
 rintro e R ⟨S,rfl,o⟩
 haveI:=o.i
 go_wp2_with fail
 with_reducible refine Calls.mono (aC C S _ _ o) ?_
 rintro e y ⟨t,rfl,v⟩
 have m:Sat (Ad ⟨t,C,S,D⟩ (Mj O T 7)*(B*F)) y:=by
  refine Dw l (v.eq ?_)
  show _=Be C D (NY O T 7)*(Cf S (Sp.new 1)*(Sl.block t Tg [.pointer (some ⟨C,0,none⟩),.pointer (some ⟨S,0,none⟩)]*_))
  unfold NY FM
  ac_rfl
 haveI:=m.i
 clear r s u n o v d
 go_wp2
 go_ret
 exact ⟨_,⟨t,C,S,D⟩,rfl,by unfold DQ;exact Cz _ _ _ _⟩
def hH(B F:Ab)(e:Ending)(a:World):Prop:= ∃b c d f:Int,e= .returned (.agg #[.int .i64 b,.int .i64 c,.int .i64 d,.int .i64 f])∧Sat (B*F) a
theorem Y9(I g r y:Int)(K:Option Addr)(P L:Nat)(j:Option Addr)(b f:Nat)(T:List UInt8)(B F:Ab)(w:World)(t:Reads B (.slice j b f) T)(hs:Sat (B*F) w)(hl:b≤3000)(G:T.length=b):
 Calls Tryz.prog 121 #[.agg #[.int .i64 I,.int .i64 g,.int .i64 r,.int .i64 y],.agg #[.slice K P L,.slice j b f]] w (hH B F):=by
 obtain ⟨l,m⟩:b≤f∧f≤9223372036854775807:=by
  obtain ⟨_,_,e0,l,m⟩:=IL t hs
  cases e0
  exact ⟨l,m⟩
 haveI:=hs.i
 have z:Aside (Reads B (.slice j b f) T∧T.length=b):=⟨t,G⟩
 clear t G
 cases h1:((I:Int)==0) with
 | true =>
   go_enter Tryz.func121,Tryz.ntmps121
   go_upto_region 3 with (fail)
   go_region
   go_wp2
   go_returns
   exact ⟨_,_,_,_,rfl,Ar B F⟩
 | false =>
   by_cases R:y<0
   · go_enter Tryz.func121,Tryz.ntmps121
     go_upto_region 3 with (fail)
     go_region
     go_wp2
     go_returns
     exact ⟨_,_,_,_,rfl,Ar B F⟩
   by_cases U:g<0
   · go_enter Tryz.func121,Tryz.ntmps121
     go_upto_region 3 with (fail)
     go_region
     go_wp2
     go_returns
     exact ⟨_,_,_,_,rfl,Ar B F⟩
   by_cases V:r<1
   · go_enter Tryz.func121,Tryz.ntmps121
     go_upto_region 3 with (fail)
     go_region
     go_wp2
     go_returns
     exact ⟨_,_,_,_,rfl,Ar B F⟩
   by_cases D:(b:Int)<g
   · go_enter Tryz.func121,Tryz.ntmps121
     go_upto_region 3 with (fail)
     go_region
     go_wp2
     go_returns
     exact ⟨_,_,_,_,rfl,Ar B F⟩
   have hw1:=Bb ((b:Int)-g) (by omega)
   by_cases W:(b:Int)-g<r
   · go_enter Tryz.func121,Tryz.ntmps121
     go_upto_region 3 with (fail)
     go_region
     go_wp2
     go_returns
     exact ⟨_,_,_,_,rfl,Ar B F⟩
   obtain ⟨p,rfl⟩: ∃p:Nat,g=p:=⟨g.toNat,by omega⟩
   obtain ⟨q,rfl⟩: ∃q:Nat,r=q:=⟨r.toNat,by omega⟩
   have hw2:IntKind.i64.wrap ((p:Int)+(q:Int))=((p+q:Nat):Int):=by rw[IntWalk.i64_in _ (by omega)];omega
   have u:p+q≤b:=by omega
   have k:Aside (∀F w,Sat (B*F) w→Calls Tryz.prog 25 #[.slice (j.map fun x=>x.add p) q (f-p)] w fun e H=> ∃(a:Option Addr)(n c:Nat),e= .returned (.slice a n c)∧n≤3000∧Sat (B*F) H):=fun F w s=>by
    have d:((T.drop p).take (p+q-p)).length≤3000:=by rw[List.length_take,List.length_drop,z.out.2];omega
    have o:=Reads.cut z.out.1 p (p+q) (by omega) u
    have M:AH j f p 1=j.map fun x=>x.add p:=by unfold AH;rw[if_neg (by omega),Nat.mul_one]
    rw[M,show p+q-p=q by omega] at o
    rw[show p+q-p=q by omega] at d
    refine (O5 _ ((T.drop p).take q) B F w o s (by omega)).mono ?_
    rintro e H ⟨a,c,rfl,s'⟩
    refine ⟨a,_,c,rfl,Nat.le_trans (j7 _) d,s'⟩
   by_cases X:1000<y
   · go_enter Tryz.func121,Tryz.ntmps121
     go_upto_region 3 with (fail)
     go_region
     go_wp2_with fail
     with_reducible refine Calls.mono (k.out _ _ (Ae B)) ?_
     rintro e Q ⟨J,O,c5,rfl,D,v⟩
     haveI:=v.i
     go_wp2
     go_returns
     exact ⟨_,_,_,_,rfl,Ar B F⟩
   go_enter Tryz.func121,Tryz.ntmps121
   go_upto_region 3 with (fail)
   go_region
   go_wp2_with fail
   with_reducible refine Calls.mono (k.out _ _ (Ae B)) ?_
   rintro e Q ⟨J,O,c5,rfl,D,v⟩
   haveI:=v.i
   go_wp2
   go_returns
   exact ⟨_,_,_,_,rfl,Ar B F⟩
abbrev Qs:TypeId:=240
theorem Y5{d:Dk}{nm:ByteArray}{a:List UInt8}(h:A0 d nm=a)(h0:0<a.length):RB d nm a:=by cases b:d.get nm with
 | none =>
  unfold A0 at h
  simp_all[Dk.Jv]
 | some f =>
  refine ⟨f,b,?_⟩
  unfold A0 at h
  simp_all
theorem VX(h:Th)(s:TS)(nm:ByteArray)(b:List UInt8)(k n:Nat)(F:Ab)(w:World)(hs:Sat (Ad h s*F) w)(r:NP s)(t:s.ck.d.down=false)(u:RB s.ck.d nm b)(a:Dk.named nm=true)(x:k+n≤b.length):
 Calls Tryz.prog 49 #[.pointer (some ⟨h.D,0,none⟩),.string nm,.int .i64 (k:Int),.int .i64 (n:Int)] w fun e i=> ∃v,e= .returned (.tuple #[v,.int .i64 0])∧Sat (rw TB 1 v (A4 ((b.drop k).take n))*(Ad h s*F)) i:=by
 obtain ⟨G,h1,q⟩:=RQ hs
 have c:=r.ok.dk
 obtain ⟨f,m,o⟩:=u
 have g:nm.size≤9223372036854775807:=by
  unfold Dk.named at a
  simp only[Bool.and_eq_true,decide_eq_true_eq] at a
  omega
 have hr:s.ck.d.read nm k n=(0,(b.drop k).take n):=by
  have hm:s.ck.d.may nm true=0:=by
   unfold Dk.may
   rw[if_neg (by simp[a]),t,m]
   simp
  unfold Dk.read
  rw[if_neg (by simp[hm]),m]
  simp only[Option.getD_some,o]
  rw[if_neg (by omega)]
  simp
 refine (P5 h.D s.ck.d nm k n _ w h1 g (fun p hp=>(c.sz p hp).1)).mono fun e i hx=>?_
 obtain ⟨v,j,l⟩:=hx
 rw[hr] at j l
 exact ⟨v,j,(q (rw TB 1 v (A4 ((b.drop k).take n))*F) i (l.eq (by ac_rfl))).eq (by ac_rfl)⟩
theorem R5(D:Nat)(d:Dk)(F:Ab)(w:World)(hs:Sat (Bv D d*F) w):
 Calls Tryz.prog 42 #[.pointer (some ⟨D,0,none⟩)] w fun e f=>e= .returned (.bool d.down)∧w=f:=by
 obtain ⟨M,ns,pv,ps,h1,c,a⟩:=Sat.DG hs
 have b:=a.eq (by unfold BC;rw[Az])
 have i4:El (AY D M pv d) D 4 (.bool d.down):=by unfold AY;infer_instance
 haveI:=i4
 haveI:=b.i
 clear h1 c hs a
 go_enter Tryz.func42,Tryz.ntmps42
 go_wp2
 go_ret
 exact ⟨rfl,rfl⟩
def C5(d:Dk)(a b:Nat)(src:Int):List UInt8:=if src=0 then (A0 d EH).take a else (A0 d E7).take b
def BP(b:List UInt8)(x:Av):Bool:=decide (x.pos≤b.length∧x.len≤b.length-x.pos∧(0≤x.lines→(CL ((b.drop x.pos.toNat).take x.len.toNat):Int)=x.lines))
def PZ(L M:Nat)(h:Th)(a b:Nat)(kn:List Av):Ab:=Sl.block L Qs [.pointer (some ⟨h.t,0,none⟩),.pointer (some ⟨h.D,0,none⟩),.string EH,.string E7,.int .i64 a,.int .i64 b,.map (some M)]*mp DS M (FD kn)
theorem CK{L M:Nat}{h:Th}{s:TS}{a b:Nat}{kn:List Av}{F:Ab}{w:World}(hs:Sat (Ad h s*(Sl.block L Qs [.pointer (some ⟨h.t,0,none⟩),.pointer (some ⟨h.D,0,none⟩),.string EH,.string E7,.int .i64 a,.int .i64 b,.map (some M)]*(mp DS M (FD kn)*F))) w):Sat (Ad h s*(PZ L M h a b kn*F)) w:=hs.eq (by unfold PZ;rw[Az])
def Oq(L M:Nat)(h:Th)(s:TS)(x:Av)(a b:Nat)(kn:List Av)(F:Ab)(e:Ending)(c:World):Prop:=
 (x∈kn∧e= .returned (.int .i64 0)∧Sat (Ad h s*(PZ L M h a b kn*F)) c)∨
 (BP (C5 s.ck.d a b x.src) x=true∧e= .returned (.int .i64 0)∧Sat (Ad h s*(PZ L M h a b (VF kn x)*F)) c)∨
 (¬x∈kn∧BP (C5 s.ck.d a b x.src) x=false∧e= .returned (.int .i64 13)∧Sat (Ad h s*(PZ L M h a b kn*F)) c)
theorem VU[Em](L M:Nat)(h:Th)(s:TS)(l m g:Int)(b I:Nat)(kn:List Av)(F:Ab)(w:World)(hm:Ah ⟨0,l,m,g⟩=true)(hI:NP s)(ho:b≤1099511627776)(ht:I≤1099511627776)
 (W:Da s.ck.d EH∧Da s.ck.d E7) (hs:Sat (Ad h s*(Sl.block L Qs [.pointer (some ⟨h.t,0,none⟩),.pointer (some ⟨h.D,0,none⟩),.string EH,.string E7,.int .i64 b,.int .i64 I,.map (some M)]*(mp DS M (FD kn)*F))) w):
 Calls Tryz.prog 154 #[.pointer (some ⟨L,0,none⟩),.agg #[.int .i64 0,.int .i64 l,.int .i64 m,.int .i64 g]] w (Oq L M h s ⟨0,l,m,g⟩ b I kn F):=by
 have O:=Cb.1 hm
 simp only at O
 have l1: ∀(w:World){A:Ab}{ms:List (Av×Value)}[AR A w][DK A M DS ms],(Instr.lookup ZZ (.map (some M)) (.agg #[.int .i64 0,.int .i64 l,.int .i64 m,.int .i64 g]) false).run Tryz.prog w= .ok ((Cq ⟨0,l,m,g⟩ ms).getD (.bool false)) w:=fun w A ms i1 i2=>XS w M ⟨0,l,m,g⟩
 have Y: ∀(w:World){A:Ab}{ms:List (Av×Value)}[AR A w][DK A M DS ms],(Instr.mapUpdate ZZ (.map (some M)) (.agg #[.int .i64 0,.int .i64 l,.int .i64 m,.int .i64 g]) (.bool true)).run Tryz.prog w= .ok () (Gn Tryz.prog ZZ M (DS ⟨0,l,m,g⟩) (.bool true) w):=fun w A ms i1 i2=>bI w M ⟨0,l,m,g⟩ (.bool true)
 have X:=M9 ⟨0,l,m,g⟩ kn
 have x:=MB ⟨0,l,m,g⟩ kn
 obtain ⟨p,rfl⟩: ∃p:Nat,l=p:=⟨l.toNat,by omega⟩
 obtain ⟨q,rfl⟩: ∃q:Nat,m=q:=⟨m.toNat,by omega⟩
 obtain ⟨v,k⟩:=Aq (A0 s.ck.d EH)
 have hcut:C5 s.ck.d b I 0=v.take b:=by unfold C5;simp[k]
 obtain ⟨a,o⟩:=Aq ((v.take b).length)
 have J:a=min b v.length:=by rw[←o,List.length_take]
 have K:v.length≤1099511627776:=by
  rw[←k]
  cases r:s.ck.d.get EH with
  |none=>unfold A0;rw[r];simp[Dk.Jv]
  |some f=>unfold A0;rw[r];exact (hI.ok.dk.sz _ (Hk r)).1
 have H:Aside (∀F w,Sat (Ad h s*F) w→Calls Tryz.prog 50 #[.pointer (some ⟨h.D,0,none⟩),.string EH] w fun e c=> ∃z:Int,e= .returned (.int .i64 z)∧max 0 z=(v.length:Int)∧w=c):=fun F w q=>(Lg h s EH F w q (by decide)).mono fun e c ⟨h1,U⟩=>⟨_,h1,by rw[←k];exact Kj W.1,U⟩
 have B:Aside (∀F w,Sat (Ad h s*F) w→Calls Tryz.prog 42 #[.pointer (some ⟨h.D,0,none⟩)] w fun e c=>e= .returned (.bool false)∧w=c):=fun F w q=>by
  obtain ⟨G,g1,g2⟩:=RQ q
  have:=R5 h.D s.ck.d _ w g1
  rwa [W.1.down] at this
 have hw1:p≤a→IntKind.i64.wrap ((a:Int)-p)=(a:Int)-p:=fun _=>IntWalk.i64_in _ (by omega)
 haveI:=hs.i
 by_cases j:(⟨0,(p:Int),(q:Int),g⟩:Av)∈kn
 · rw[decide_eq_true j] at X
   have y:=As j
   clear j hs O hm hw1 o J hcut k K x Y
   go_enter Tryz.func154,Tryz.ntmps154
   go_upto_region 1 with (fail)
   go_region
   go_wp2
   go_ret
   exact .inl ⟨y.out,rfl,CK (Cz _ _ _ _)⟩
 rw[decide_eq_false j] at X
 have y:Aside (¬(⟨0,(p:Int),(q:Int),g⟩:Av)∈kn∧C5 s.ck.d b I 0=v.take b∧(v.take b).length=a):=⟨j,hcut,o⟩
 have a5:min (b:Int) (v.length:Int)=(a:Int):=by omega
 by_cases n:a<p∨a-p<q
 · have R:Aside (BP (C5 s.ck.d b I 0) ⟨0,p,q,g⟩=false):=by
    show _=_
    unfold BP
    rw[y.out.2.1]
    apply decide_eq_false
    rw[y.out.2.2]
    simp only
    omega
   clear j hs hm o hcut k x Y
   have u:p≤a→IntKind.i64.wrap ((a:Int)-p)=(a:Int)-p:=fun _=>IntWalk.i64_in _ (by omega)
   by_cases h1:(a:Int)<p
   · clear n hw1 u
     go_enter Tryz.func154,Tryz.ntmps154
     go_upto_region 1 with (fail)
     go_region
     go_wp2_with fail
     go_region
     go_wp2_with fail
     go_region_held3 (fun c=>c.cell? ⟨w.heap.size+1,0,none⟩=some (.int .i64 0)∧c.cell? ⟨L,1,none⟩=some (.pointer (some ⟨h.D,0,none⟩))∧c.cell? ⟨L,4,none⟩=some (.int .i64 b)) (first|exact ⟨Ac _ _ _,Ac _ _ _,Ac _ _ _⟩) (first
      |(go_at_call 50;with_reducible refine Calls.mono (H.out _ _ (Ae (Ad h s))) ?_;rintro e Z ⟨zz,rfl,P,hw5⟩;subst hw5))
     all_goals
      go_wp2_with fail
      with_reducible refine Calls.mono (B.out _ _ (Ae (Ad h s))) ?_
      rintro e w8 ⟨rfl,hw8⟩
      subst hw8
      go_wp2
      go_ret
      exact .inr (.inr ⟨y.out.1,R.out,rfl,CK (Cz _ _ _ _)⟩)
   have U:(a:Int)-p<q:=by omega
   have hw:=u (by omega)
   clear n hw1 u
   go_enter Tryz.func154,Tryz.ntmps154
   go_upto_region 1 with (fail)
   go_region
   go_wp2_with fail
   go_region
   go_wp2_with fail
   go_region_held3 (fun c=>c.cell? ⟨w.heap.size+1,0,none⟩=some (.int .i64 0)∧c.cell? ⟨L,1,none⟩=some (.pointer (some ⟨h.D,0,none⟩))∧c.cell? ⟨L,4,none⟩=some (.int .i64 b)) (first|exact ⟨Ac _ _ _,Ac _ _ _,Ac _ _ _⟩) (first
    |(go_at_call 50;with_reducible refine Calls.mono (H.out _ _ (Ae (Ad h s))) ?_;rintro e Z ⟨zz,rfl,P,hw5⟩;subst hw5))
   all_goals
    go_wp2_with fail
    with_reducible refine Calls.mono (B.out _ _ (Ae (Ad h s))) ?_
    rintro e w8 ⟨rfl,hw8⟩
    subst hw8
    go_wp2
    go_ret
    exact .inr (.inr ⟨y.out.1,R.out,rfl,CK (Cz _ _ _ _)⟩)
 have Q:p+q≤a:=by omega
 have h1: ¬(a:Int)<p:=by omega
 have hw:=hw1 (by omega)
 have U: ¬(a:Int)-p<q:=by omega
 have a2:Aside (p+q≤a∧a≤v.length∧a≤b):=⟨Q,by omega,by omega⟩
 have V: ¬(0:Int)≤g:=by omega
 have R:Aside (BP (C5 s.ck.d b I 0) ⟨0,p,q,g⟩=true):=by
  show _=_
  unfold BP
  rw[y.out.2.1]
  apply decide_eq_true
  rw[y.out.2.2]
  simp only
  exact ⟨by omega,by omega,fun h=>absurd h V⟩
 have T:=As x
 clear j hs hm o hcut k x Q n hw1
 go_enter Tryz.func154,Tryz.ntmps154
 go_upto_region 1 with (fail)
 go_region
 go_wp2_with fail
 go_region
 go_wp2_with fail
 go_region_held3 (fun c=>c.cell? ⟨w.heap.size+1,0,none⟩=some (.int .i64 0)∧c.cell? ⟨L,1,none⟩=some (.pointer (some ⟨h.D,0,none⟩))∧c.cell? ⟨L,4,none⟩=some (.int .i64 b)) (first|exact ⟨Ac _ _ _,Ac _ _ _,Ac _ _ _⟩) (first
  |(go_at_call 50;with_reducible refine Calls.mono (H.out _ _ (Ae (Ad h s))) ?_;rintro e Z ⟨zz,rfl,P,hw5⟩;subst hw5))
 all_goals
  go_wp2_with fail
  with_reducible refine Calls.mono (B.out _ _ (Ae (Ad h s))) ?_
  rintro e w8 ⟨rfl,hw8⟩
  subst hw8
  go_wp2_with fail
  go_region
  go_wp2
  go_ret
  refine .inr (.inl ⟨R.out,rfl,CK ?_⟩)
  rw[←T.out]
  exact Cz _ _ _ _
theorem VV[Em](L M : Nat)(h : Th)(s : TS)(y B j : Int)(V k : Nat)(kn : List Av)(F : Ab)(w : World)(hm : Ah ⟨1, y, B, j⟩ = true)(hI : NP s)(ho : V ≤ 1099511627776)(ht : k ≤ 1099511627776)
 (hf:Da s.ck.d EH∧Da s.ck.d E7) (hs:Sat (Ad h s*(Sl.block L Qs [.pointer (some ⟨h.t,0,none⟩),.pointer (some ⟨h.D,0,none⟩),.string EH,.string E7,.int .i64 V,.int .i64 k,.map (some M)]*(mp DS M (FD kn)*F))) w):
 Calls Tryz.prog 154 #[.pointer (some ⟨L,0,none⟩),.agg #[.int .i64 1,.int .i64 y,.int .i64 B,.int .i64 j]] w (Oq L M h s ⟨1,y,B,j⟩ V k kn F):=by
 have a7:=Cb.1 hm
 simp only at a7
 have l1: ∀(w:World){A:Ab}{ms:List (Av×Value)}[AR A w][DK A M DS ms],(Instr.lookup ZZ (.map (some M)) (.agg #[.int .i64 1,.int .i64 y,.int .i64 B,.int .i64 j]) false).run Tryz.prog w= .ok ((Cq ⟨1,y,B,j⟩ ms).getD (.bool false)) w:=fun w A ms i1 i2=>XS w M ⟨1,y,B,j⟩
 have p1: ∀(w:World){A:Ab}{ms:List (Av×Value)}[AR A w][DK A M DS ms],(Instr.mapUpdate ZZ (.map (some M)) (.agg #[.int .i64 1,.int .i64 y,.int .i64 B,.int .i64 j]) (.bool true)).run Tryz.prog w= .ok () (Gn Tryz.prog ZZ M (DS ⟨1,y,B,j⟩) (.bool true) w):=fun w A ms i1 i2=>bI w M ⟨1,y,B,j⟩ (.bool true)
 have hg:=M9 ⟨1,y,B,j⟩ kn
 have P:=MB ⟨1,y,B,j⟩ kn
 obtain ⟨p,rfl⟩: ∃p:Nat,y=p:=⟨y.toNat,by omega⟩
 obtain ⟨q,rfl⟩: ∃q:Nat,B=q:=⟨B.toNat,by omega⟩
 obtain ⟨r,m⟩:=Aq (A0 s.ck.d E7)
 have hcut:C5 s.ck.d V k 1=r.take k:=by unfold C5;simp[m]
 obtain ⟨l,x⟩:=Aq ((r.take k).length)
 have a4:l=min k r.length:=by rw[←x,List.length_take]
 have a5:r.length≤1099511627776:=by
  rw[←m]
  cases K:s.ck.d.get E7 with
  |none=>unfold A0;rw[K];simp[Dk.Jv]
  |some f=>unfold A0;rw[K];exact (hI.ok.dk.sz _ (Hk K)).1
 have J:Aside (∀F w,Sat (Ad h s*F) w→Calls Tryz.prog 50 #[.pointer (some ⟨h.D,0,none⟩),.string E7] w fun e b=> ∃z:Int,e= .returned (.int .i64 z)∧max 0 z=(r.length:Int)∧w=b):=fun F w q=>(Lg h s E7 F w q (by decide)).mono fun e b ⟨h1,h2⟩=>⟨_,h1,by rw[←m];exact Kj hf.2,h2⟩
 have H:Aside (∀F w,Sat (Ad h s*F) w→Calls Tryz.prog 42 #[.pointer (some ⟨h.D,0,none⟩)] w fun e b=>e= .returned (.bool false)∧w=b):=fun F w q=>by
  obtain ⟨G,g1,g2⟩:=RQ q
  have:=R5 h.D s.ck.d _ w g1
  rwa [hf.1.down] at this
 have hw1:p≤l→IntKind.i64.wrap ((l:Int)-p)=(l:Int)-p:=fun _=>IntWalk.i64_in _ (by omega)
 haveI:=hs.i
 by_cases o:(⟨1,(p:Int),(q:Int),j⟩:Av)∈kn
 · rw[decide_eq_true o] at hg
   have I:=As o
   clear o hs a7 hm hw1 x a4 hcut m a5 P p1
   go_enter Tryz.func154,Tryz.ntmps154
   go_upto_region 1 with (fail)
   go_region
   go_wp2
   go_ret
   exact .inl ⟨I.out,rfl,CK (Cz _ _ _ _)⟩
 rw[decide_eq_false o] at hg
 have I:Aside (¬(⟨1,(p:Int),(q:Int),j⟩:Av)∈kn∧C5 s.ck.d V k 1=r.take k∧(r.take k).length=l):=⟨o,hcut,x⟩
 have au:min (k:Int) (r.length:Int)=(l:Int):=by omega
 by_cases u:l<p∨l-p<q
 · have Q:Aside (BP (C5 s.ck.d V k 1) ⟨1,p,q,j⟩=false):=by
    show _=_
    unfold BP
    rw[I.out.2.1]
    apply decide_eq_false
    rw[I.out.2.2]
    simp only
    omega
   clear o hs hm x hcut m P p1
   have O:p≤l→IntKind.i64.wrap ((l:Int)-p)=(l:Int)-p:=fun _=>IntWalk.i64_in _ (by omega)
   by_cases h1:(l:Int)<p
   · clear u hw1 O
     go_enter Tryz.func154,Tryz.ntmps154
     go_upto_region 1 with (fail)
     go_region
     go_wp2_with fail
     go_region
     go_wp2_with fail
     go_region_held3 (fun b=>b.cell? ⟨w.heap.size+1,0,none⟩=some (.int .i64 1)∧b.cell? ⟨L,1,none⟩=some (.pointer (some ⟨h.D,0,none⟩))∧b.cell? ⟨L,5,none⟩=some (.int .i64 k)) (first|exact ⟨Ac _ _ _,Ac _ _ _,Ac _ _ _⟩) (first
      |(go_at_call 50;with_reducible refine Calls.mono (J.out _ _ (Ae (Ad h s))) ?_;rintro e w5 ⟨zz,rfl,U,hw5⟩;subst hw5))
     all_goals
      go_wp2_with fail
      with_reducible refine Calls.mono (H.out _ _ (Ae (Ad h s))) ?_
      rintro e w8 ⟨rfl,hw8⟩
      subst hw8
      go_wp2
      go_ret
      exact .inr (.inr ⟨I.out.1,Q.out,rfl,CK (Cz _ _ _ _)⟩)
   have h2:(l:Int)-p<q:=by omega
   have hw:=O (by omega)
   clear u hw1 O
   go_enter Tryz.func154,Tryz.ntmps154
   go_upto_region 1 with (fail)
   go_region
   go_wp2_with fail
   go_region
   go_wp2_with fail
   go_region_held3 (fun b=>b.cell? ⟨w.heap.size+1,0,none⟩=some (.int .i64 1)∧b.cell? ⟨L,1,none⟩=some (.pointer (some ⟨h.D,0,none⟩))∧b.cell? ⟨L,5,none⟩=some (.int .i64 k)) (first|exact ⟨Ac _ _ _,Ac _ _ _,Ac _ _ _⟩) (first
    |(go_at_call 50;with_reducible refine Calls.mono (J.out _ _ (Ae (Ad h s))) ?_;rintro e w5 ⟨zz,rfl,U,hw5⟩;subst hw5))
   all_goals
    go_wp2_with fail
    with_reducible refine Calls.mono (H.out _ _ (Ae (Ad h s))) ?_
    rintro e w8 ⟨rfl,hw8⟩
    subst hw8
    go_wp2
    go_ret
    exact .inr (.inr ⟨I.out.1,Q.out,rfl,CK (Cz _ _ _ _)⟩)
 have X:p+q≤l:=by omega
 have h1: ¬(l:Int)<p:=by omega
 have hw:=hw1 (by omega)
 have h2: ¬(l:Int)-p<q:=by omega
 have am:Aside (p+q≤l∧l≤r.length∧l≤k):=⟨X,by omega,by omega⟩
 have a0:Aside ((((r.take k).drop p).take q)=(r.drop p).take q):=by
  show _=_
  rw[List.drop_take,List.take_take,Nat.min_eq_left (by omega)]
 have a1:=As P
 by_cases a8:0≤j
 · have W : Aside (∀ F w, Sat (Ad h s * F) w → Calls Tryz.prog 49 #[.pointer (some ⟨h.D, 0, none⟩), .string E7, .int .i64 (p : Int), .int .i64 (q : Int)] w fun e b => ∃(a : Option Addr)(c : Nat), e = .returned (.tuple #[.slice a q c, .int .i64 0]) ∧ Sat (rw TB 1 (.slice a q c) (A4 ((r.drop p).take q)) * (Ad h s * F)) b) := fun F w g => by
    have ag:=Y5 m (by omega)
    have a6:((r.drop p).take q).length=q:=by rw[List.length_take,List.length_drop];omega
    refine (VX h s E7 r p q F w g hI hf.1.down ag QZ (by omega)).mono ?_
    rintro e b ⟨v,rfl,g2⟩
    obtain ⟨a,n,c,rfl,h3,_⟩:=MP g2
    have hn:q=n:=by rw[Cc,a6] at h3;omega
    subst hn
    exact ⟨a,c,rfl,g2⟩
   obtain ⟨cut,T⟩:=Aq ((r.drop p).take q)
   have a3:cut.length=q:=by rw[←T,List.length_take,List.length_drop];omega
   have Z:Aside (∀(a:Option Addr)(c:Nat) F w,Sat (rw TB 1 (.slice a q c) (A4 cut)*F) w→Calls Tryz.prog 142 #[.slice a q c] w fun e b=>e= .returned (.int .i64 (CL cut:Nat))∧Sat (rw TB 1 (.slice a q c) (A4 cut)*F) b):=fun a c F w g=>RT _ cut F w g
   rw[T] at W
   have Q:Aside (BP (C5 s.ck.d V k 1) ⟨1,p,q,j⟩=decide ((CL cut:Int)=j)):=by
    show _=_
    unfold BP
    rw[I.out.2.1]
    have e1:(⟨1,(p:Int),(q:Int),j⟩:Av).pos.toNat=p:=by simp
    have e2:(⟨1,(p:Int),(q:Int),j⟩:Av).len.toNat=q:=by simp
    rw[e1,e2,a0.out,T,I.out.2.2]
    by_cases R:(CL cut:Int)=j
    · rw[decide_eq_true R]
      exact decide_eq_true ⟨by simp only;omega,by simp only;omega,fun _=>R⟩
    rw[decide_eq_false R]
    exact decide_eq_false fun h=>R (h.2.2 a8)
   clear o hs hm x hcut m P X u hw1 T a3
   by_cases R:(CL cut:Int)=j
   · rw [decide_eq_true R] at Q
     subst R
     go_enter Tryz.func154,Tryz.ntmps154
     go_upto_region 1 with (fail)
     go_region
     go_wp2_with fail
     go_region
     go_wp2_with fail
     go_region_held3 (fun b=>b.cell? ⟨w.heap.size+1,0,none⟩=some (.int .i64 1)∧b.cell? ⟨L,1,none⟩=some (.pointer (some ⟨h.D,0,none⟩))∧b.cell? ⟨L,5,none⟩=some (.int .i64 k)) (first|exact ⟨Ac _ _ _,Ac _ _ _,Ac _ _ _⟩) (first
      |(go_at_call 50;with_reducible refine Calls.mono (J.out _ _ (Ae (Ad h s))) ?_;rintro e w5 ⟨zz,rfl,U,hw5⟩;subst hw5))
     all_goals
      go_wp2_with fail
      with_reducible refine Calls.mono (H.out _ _ (Ae (Ad h s))) ?_
      rintro e w8 ⟨rfl,hw8⟩
      subst hw8
      go_wp2_with fail
      go_region_held3 (fun b=>b.cell? ⟨L,1,none⟩=some (.pointer (some ⟨h.D,0,none⟩))∧b.cell? ⟨w.heap.size+1,1,none⟩=some (.int .i64 (p:Int))∧b.cell? ⟨w.heap.size+1,2,none⟩=some (.int .i64 (q:Int))) (first|exact ⟨Ac _ _ _,Ac _ _ _,Ac _ _ _⟩) (first
       |(go_at_call 49;with_reducible refine Calls.mono (W.out _ _ (Ae (Ad h s))) ?_;rintro e w9 ⟨a9,c9,rfl,q9⟩;haveI:=q9.i))
      all_goals
       go_wp2_with fail
       go_region_held3 (fun b=>b.cell? ⟨w.heap.size,3,none⟩=some (.int .i64 (CL cut:Nat))) (first|exact Ac _ _ _) (first
        |(go_at_call 142;with_reducible refine Calls.mono (Z.out a9 c9 _ _ (Ae (rw TB 1 (.slice a9 q c9) (A4 cut)))) ?_;rintro e ai ⟨rfl,Y⟩;haveI:=Y.i))
       all_goals
        go_wp2_with fail
        go_region
        go_wp2
        go_ret
        refine .inr (.inl ⟨Q.out,rfl,CK ?_⟩)
        rw[←a1.out]
        exact Cz _ _ _ _
   rw[decide_eq_false R] at Q
   have ar:((CL cut:Int) !=j)=true:=by simp[R]
   go_enter Tryz.func154,Tryz.ntmps154
   go_upto_region 1 with (fail)
   go_region
   go_wp2_with fail
   go_region
   go_wp2_with fail
   go_region_held3 (fun b=>b.cell? ⟨w.heap.size+1,0,none⟩=some (.int .i64 1)∧b.cell? ⟨L,1,none⟩=some (.pointer (some ⟨h.D,0,none⟩))∧b.cell? ⟨L,5,none⟩=some (.int .i64 k)) (first|exact ⟨Ac _ _ _,Ac _ _ _,Ac _ _ _⟩) (first
    |(go_at_call 50;with_reducible refine Calls.mono (J.out _ _ (Ae (Ad h s))) ?_;rintro e w5 ⟨zz,rfl,U,hw5⟩;subst hw5))
   all_goals
    go_wp2_with fail
    with_reducible refine Calls.mono (H.out _ _ (Ae (Ad h s))) ?_
    rintro e w8 ⟨rfl,hw8⟩
    subst hw8
    go_wp2_with fail
    go_region_held3 (fun b=>b.cell? ⟨L,1,none⟩=some (.pointer (some ⟨h.D,0,none⟩))∧b.cell? ⟨w.heap.size+1,1,none⟩=some (.int .i64 (p:Int))∧b.cell? ⟨w.heap.size+1,2,none⟩=some (.int .i64 (q:Int))) (first|exact ⟨Ac _ _ _,Ac _ _ _,Ac _ _ _⟩) (first
     |(go_at_call 49;with_reducible refine Calls.mono (W.out _ _ (Ae (Ad h s))) ?_;rintro e w9 ⟨a9,c9,rfl,q9⟩;haveI:=q9.i))
    all_goals
     go_wp2_with fail
     go_region_held3 (fun b=>b.cell? ⟨w.heap.size,3,none⟩=some (.int .i64 j)) (first|exact Ac _ _ _) (first
      |(go_at_call 142;with_reducible refine Calls.mono (Z.out a9 c9 _ _ (Ae (rw TB 1 (.slice a9 q c9) (A4 cut)))) ?_;rintro e ai ⟨rfl,Y⟩;haveI:=Y.i))
     all_goals
      go_wp2
      go_ret
      exact .inr (.inr ⟨I.out.1,Q.out,rfl,CK (Cz _ _ _ _)⟩)
 have Q:Aside (BP (C5 s.ck.d V k 1) ⟨1,p,q,j⟩=true):=by
  show _=_
  unfold BP
  rw[I.out.2.1]
  apply decide_eq_true
  rw[I.out.2.2]
  simp only
  exact ⟨by omega,by omega,fun h=>absurd h a8⟩
 clear o hs hm x hcut m P X u hw1
 go_enter Tryz.func154,Tryz.ntmps154
 go_upto_region 1 with (fail)
 go_region
 go_wp2_with fail
 go_region
 go_wp2_with fail
 go_region_held3 (fun b=>b.cell? ⟨w.heap.size+1,0,none⟩=some (.int .i64 1)∧b.cell? ⟨L,1,none⟩=some (.pointer (some ⟨h.D,0,none⟩))∧b.cell? ⟨L,5,none⟩=some (.int .i64 k)) (first|exact ⟨Ac _ _ _,Ac _ _ _,Ac _ _ _⟩) (first
  |(go_at_call 50;with_reducible refine Calls.mono (J.out _ _ (Ae (Ad h s))) ?_;rintro e w5 ⟨zz,rfl,U,hw5⟩;subst hw5))
 all_goals
  go_wp2_with fail
  with_reducible refine Calls.mono (H.out _ _ (Ae (Ad h s))) ?_
  rintro e w8 ⟨rfl,hw8⟩
  subst hw8
  go_wp2_with fail
  go_region
  go_wp2
  go_ret
  refine .inr (.inl ⟨Q.out,rfl,CK ?_⟩)
  rw[←a1.out]
  exact Cz _ _ _ _
end Go.Proofs.YtfhbmblbidcmmaaGreat
namespace Go.Tr
theorem VN{y x:Sn}{s:Int×Int×Int}{first:Bool}{k:Kd}(h:s.1≠k.bytes∨s.2.1≠k.lines∨s.2.2≠k.AA∨(first=false∧(y.h+1≠x.h∨meets x.last y.first=true))):Gw y s first k x=none:=by
 unfold Gw
 grind
theorem L'{y x:Sn}{s:Int×Int×Int}{first:Bool}{k:Kd}(h: ¬(s.1≠k.bytes∨s.2.1≠k.lines∨s.2.2≠k.AA∨(first=false∧(y.h+1≠x.h∨meets x.last y.first=true)))):(first=false→y.h+1=x.h)∧(1024<x.count+y.count→Gw y s first k x=none)∧(¬1024<x.count+y.count→Gw y s first k x=some ⟨y.h+1,x.count+y.count,if first then y.first else x.first,y.last⟩):=by
 simp only[not_or,Decidable.not_not,not_and] at h
 obtain ⟨h1,d,f,a⟩:=h
 have hs:s=(k.bytes,k.lines,k.AA):=by grind
 have b:first=false→y.h+1=x.h:=fun e=>(a e).1
 refine ⟨b,fun c=>?_,fun c=>?_⟩
 ·unfold Gw
  simp_all
 unfold Gw
 simp_all
end Go.Tr
namespace Go.Proofs.YtfhbmblbidcmmaaGreat
open Go.RowKit Go.Sl Go.Dk Go.Tr
open Go.PS (A9)
attribute [local go_sem] S1
theorem Kk{A R:Ab}{w:World}{b e:Nat}{c0 c1 c2 c3 c4 c5 c6 c7 c8 c9:Value}{v0 v1 v2 v3 v4 v5 v6 v7 v8 v9:Value}[AR A w][Take A (Sl.block b e [c0,c1,c2,c3,c4,c5,c6,c7,c8,c9]) R]:Sat (Sl.block b e [v0,v1,v2,v3,v4,v5,v6,v7,v8,v9]*R) ((((((((((w.setCell ⟨b,0,none⟩ v0).setCell ⟨b,1,none⟩ v1).setCell ⟨b,2,none⟩ v2).setCell ⟨b,3,none⟩ v3).setCell ⟨b,4,none⟩ v4).setCell ⟨b,5,none⟩ v5).setCell ⟨b,6,none⟩ v6).setCell ⟨b,7,none⟩ v7).setCell ⟨b,8,none⟩ v8).setCell ⟨b,9,none⟩ v9):=by
 have h0:Sat (Sl.block b e [c0,c1,c2,c3,c4,c5,c6,c7,c8,c9]*R) w:=Ae (Sl.block b e [c0,c1,c2,c3,c4,c5,c6,c7,c8,c9])
 have h1:=h0.Kn b 0 v0
 have c:=h1.Kn b 1 v1
 have d:=c.Kn b 2 v2
 have f:=d.Kn b 3 v3
 have g:=f.Kn b 4 v4
 have i:=g.Kn b 5 v5
 have j:=i.Kn b 6 v6
 have k:=j.Kn b 7 v7
 have l:=k.Kn b 8 v8
 have a:=l.Kn b 9 v9
 simp_all
theorem YQ(a b:Av):(join [a,b]).length=if meets a b then 1 else 2:=by cases h:meets a b<;>simp[join,A8,h]
theorem WG{b:Nat}(l:List Av)(hl:l.length≤1000):A1 (Sl.block b AK (AQ l)) (.slice (some ⟨b,0,none⟩) l.length l.length) l:=by
 refine ⟨JU l,_,_,rfl,Nat.le_refl _,by omega,fun j u a=>⟨b,0,rfl,?_⟩⟩
 haveI:At (AQ l) j u:=⟨a⟩
 rw[Nat.zero_add]
 exact inferInstance
theorem Qd(x y:Av)(b b2:Nat)(F:Ab)(w:World)(hx:Ah x=true)(hy:Ah y=true)(hs:Sat (Sl.block b2 29 [.slice (some ⟨b,0,none⟩) 2 2]*(Sl.block b AK [.int .i64 x.src,.int .i64 x.pos,.int .i64 x.len,.int .i64 x.lines,.int .i64 y.src,.int .i64 y.pos,.int .i64 y.len,.int .i64 y.lines]*F)) w):
 Calls Tryz.prog 80 #[.slice (some ⟨b2,0,none⟩) 1 1] w fun e g=> ∃a c G,e= .returned (.slice a (if meets x y then 1 else 2) c)∧Sat (G*F) g:=by
 have h1:A1 (Sl.block b AK (AQ [x,y])) (.slice (some ⟨b,0,none⟩) 2 2) [x,y]:=WG [x,y] (by simp)
 have k:=Cb.1 hx
 have l:=Cb.1 hy
 have d:=L0 [[x,y]] _ _ F w (JD b2 h1) (hs.eq (by rw[show AQ [x,y]= [.int .i64 x.src,.int .i64 x.pos,.int .i64 x.len,.int .i64 x.lines,.int .i64 y.src,.int .i64 y.pos,.int .i64 y.len,.int .i64 y.lines] from rfl];ac_rfl)) (by simp) (by simp) (by intro z f;simp at f;rcases f with rfl|rfl<;>assumption) (by simp[Aa];omega)
 rw[List.flatten_singleton,YQ] at d
 exact d.mono fun e g ⟨a,c,i,j⟩=>⟨a,c,_,i,j.eq (Az _ _ _).symm⟩
theorem Kc(h:Th)(s:TS)(a c b M:Nat)(K:List (Int×Sn))(F:Ab):Ad h s*(GF a c b M h K*F)=Ad h s*(Sl.block a Li [.map (some M)]*(Sl.block c Qt [.pointer (some ⟨h.t,0,none⟩)]*(Sl.block b Qr [.func (Fn.func 128) #[] #[.pointer (some ⟨a,0,none⟩),.pointer (some ⟨c,0,none⟩),.pointer (some ⟨b,0,none⟩)]]*(mp A9 M (kn K)*F)))):=by
 unfold GF
 ac_rfl
theorem QP{A R R1 R2 d e:Ab}{w:World}[q:AR A w](h:Th)(s:TS)(a c b M:Nat)(K:List (Int×Sn))[t:Take A (Ad h s) R][t1:Take R (Sl.block a Li [.map (some M)]) R1][t2:Take R1 (Sl.block c Qt [.pointer (some ⟨h.t,0,none⟩)]) R2][t3:Take R2 (Sl.block b Qr [.func (Fn.func 128) #[] #[.pointer (some ⟨a,0,none⟩),.pointer (some ⟨c,0,none⟩),.pointer (some ⟨b,0,none⟩)]]) d][t4:Take d (mp A9 M (kn K)) e]:Sat (Ad h s*(GF a c b M h K*e)) w:=
 q.out.eq (by rw[t.out,t1.out,t2.out,t3.out,t4.out];unfold GF;ac_rfl)
variable [Em]
def gB(f:Nat)(lf:Bool):Prop:= ∀(V:Int→Option Nd)(N:Nat)(h:Th)(s:TS)(m:Nat)(K:List (Int×Sn))(no:Int)(top:Bool)(a c b M:Nat)(F:Ab)(w:World),(∀n,V no=some n→n.leaf=lf)→f≤13→no≠0→Ml V K→(∀p n,V p=some n→may n=true∧p<N)→D2 V m s→13*fr N K+13*(f+1)≤m→
 Sat (Ad h s*(GF a c b M h K*F)) w→Calls Tryz.prog 128 #[.int .i64 no,.bool top,.int .i64 (13-(f:Int)),.pointer (some ⟨a,0,none⟩),.pointer (some ⟨c,0,none⟩),.pointer (some ⟨b,0,none⟩)] w (NW V N h a c b M f m s K no top F)
structure lE (V:Int→Option Nd) (N f g:Nat) (n:Nd) (lf:Bool) (m1:Nat) (s:TS) (K:List (Int×Sn)) (x0:Sn) (gg lk j m3:Nat) (s3:TS) (K3:List (Int×Sn)) (x:Sn):Prop where
 iZ:gg=lk-j
 Qi:D2 V m3 s3
 sp:s3.sp=s.sp
 d:s3.ck.d=s.ck.d
 kn:Ml V K3
 mA:m1+13*fr N K3≤m3+j+13*fr N K
 run:lf=false→V4 V g n j x
 k0:j=0→K3=K
 aD: ∀q∈K3,q∈K∨q.2.h+1≤x.h
 zero:j=0→x=x0
 nL:0≤x.count∧x.count≤1036
 cY:0≤x.h∧x.h≤1036
 low:0<j→Ah x.last=true∧(K= []→x.h<f)
end Go.Proofs.YtfhbmblbidcmmaaGreat
namespace Go.Proofs.YtfhbmblbidcmmaaGreat
open Go.RowKit Go.Sl Go.Dk Go.Tr
open Go.PS (A9)
attribute [local go_sem] S1
variable [Em]
theorem OV(f : Nat)(ih : ∀ g, f = g + 1 → Td g) : gB f false := by
 intro V N h s m K no top o u r M F w ec hf d2 hK hV hR hm hs
 have fn:=As ec
 clear ec
 by_cases ad:top=false∧ ∃y,Gx no K=some y
 · obtain ⟨rfl,y,hy⟩:=ad
   exact Ua f V N h s m K no o u r M F w hK hR y hy hs
 have HK:=As hK
 have HV:=As hV
 have a6:Aside (∀p n,V p=some n→may n=true):=fun p n h=>(hV p n h).1
 have HM:Aside (13*fr N K+13*(f+1)≤m∧no≠0):=⟨hm,d2⟩
 have fk:=As ih
 have HH:=As ad
 obtain ⟨m1,cy⟩: ∃m1,m=m1+1:=⟨m-1,by omega⟩
 have cr:=As cy
 have ew:=SA h V m1 s no
 have fs:Aside (∀F w,Sat (Ad h s*F) w→Calls Tryz.prog 129 #[.pointer (some ⟨h.t,0,none⟩),.int .i64 no] w (V8 h V m1 s no F)):=fun F w q=>ew F w (by rw[←cy];exact hR) d2 q
 obtain ⟨dp,b0⟩:=Aq ((13:Int)-(f:Int))
 have HD:Aside (dp=13-(f:Int)∧f≤13):=⟨b0.symm,hf⟩
 have ge:0≤dp∧dp≤13:=by omega
 rw[b0]
 obtain ⟨ia,ib⟩:=ge
 have ii:=Bb (dp+1) (by omega)
 unfold GF at hs
 have ex:Sat (Ad h s*(Sl.block o Li [.map (some M)]*(Sl.block u Qt [.pointer (some ⟨h.t,0,none⟩)]*(Sl.block r Qr [.func (Fn.func 128) #[] #[.pointer (some ⟨o,0,none⟩),.pointer (some ⟨u,0,none⟩),.pointer (some ⟨r,0,none⟩)]]*(mp A9 M (kn K)*F))))) w:=hs.eq (by ac_rfl)
 obtain ⟨z,ok,ez,f0,d4⟩: ∃(z:Sn)(ok:Bool),(Cq no (kn K)).getD Xu=WZ z∧(Cq no (kn K)).isSome=ok∧(ok=true→top=true)∧(top=false→Gx no K=none):=by
  rw[Oh]
  cases gf:Gx no K with
  |none=>exact ⟨Ks,false,rfl,rfl,fun e=>Bool.noConfusion e,fun _=>rfl⟩
  | some y =>
    have ht:top=true:=by
     cases top with
     |true=>rfl
     |false=>exact absurd ⟨rfl,y,gf⟩ ad
    exact ⟨y,true,rfl,rfl,fun _=>ht,fun e=>by rw[ht] at e;cases e⟩
 have HZ:=As d4.2
 have f5:=d4.1
 obtain ⟨R,yc,⟨a1,a2,a3,a4⟩,⟨b1,b2,b3,b4⟩⟩:=z
 haveI:=ex.i
 have an:(Instr.lookup Li (.map (some M)) (.int .i64 no) true).run Tryz.prog (w.alloc (.cells #[.int .i64 0,.int .i64 0,.int .i64 0,.int .i64 0,.int .i64 0,.int .i64 0,.int .i64 0,.int .i64 0,.int .i64 0,.int .i64 0] Io))= .ok (.tuple #[.agg #[.int .i64 R,.int .i64 yc,.int .i64 a1,.int .i64 a2,.int .i64 a3,.int .i64 a4,.int .i64 b1,.int .i64 b2,.int .i64 b3,.int .i64 b4],.bool ok]) (w.alloc (.cells #[.int .i64 0,.int .i64 0,.int .i64 0,.int .i64 0,.int .i64 0,.int .i64 0,.int .i64 0,.int .i64 0,.int .i64 0,.int .i64 0] Io)):=by
  rw[Se,ez,f0]
  rfl
 clear ez f0 d4 hK hV hR hm hs ad ih ew d2 hf cy b0 HH
 go_enter Tryz.func128,Tryz.ntmps128
 go_upto_region 2 with (fail)
 go_cut [30] (fun gp wx=>gp= .bool false∧Sat (Sl.block w.heap.size Io [.int .i64 0,.int .i64 0,.int .i64 0,.int .i64 0,.int .i64 0,.int .i64 0,.int .i64 0,.int .i64 0,.int .i64 0,.int .i64 0]*(Ad h s*(Sl.block o Li [.map (some M)]*(Sl.block u Qt [.pointer (some ⟨h.t,0,none⟩)]*(Sl.block r Qr [.func (Fn.func 128) #[] #[.pointer (some ⟨o,0,none⟩),.pointer (some ⟨u,0,none⟩),.pointer (some ⟨r,0,none⟩)]]*(mp A9 M (kn K)*F)))))) wx)
 case first=>
  cases ok with
  | false =>
    go_wp2_with fail
    go_meet
    exact ⟨rfl,Ax (C:=Sl.block (w.heap.size+1) Io [.int .i64 R,.int .i64 yc,.int .i64 a1,.int .i64 a2,.int .i64 a3,.int .i64 a4,.int .i64 b1,.int .i64 b2,.int .i64 b3,.int .i64 b4]) (by ac_rfl)⟩
  | true =>
    obtain rfl:=f5 rfl
    go_wp2_with fail
    go_meet
    exact ⟨rfl,Ax (C:=Sl.block (w.heap.size+1) Io [.int .i64 R,.int .i64 yc,.int .i64 a1,.int .i64 a2,.int .i64 a3,.int .i64 a4,.int .i64 b1,.int .i64 b2,.int .i64 b3,.int .i64 b4]) (by ac_rfl)⟩
 obtain ⟨rfl,q2⟩:=hcut
 obtain ⟨N9,ee⟩:=Aq w.heap.size
 rw[ee] at q2⊢
 clear ex this an ee f5
 haveI:=q2.i
 go_wp2_with fail
 with_reducible refine Calls.mono (fs.out _ _ (Ae (Ad h s))) ?_
 rintro e w1 ⟨s2,ef,co,ci,D⟩
 have B:Aside (D2 V m1 s2∧s2.sp=s.sp∧s2.ck.d=s.ck.d):=⟨ef,co,ci⟩
 clear ef co ci q2
 rcases D with ⟨n,v1,B1,b9,rfl,hN,q3⟩|⟨b9,rfl,q3⟩
 rotate_left
 · haveI:=q3.i
   exact ⟨rfl,s2,K,CI h s2 o u r M K F,B.out.2.1,B.out.2.2,.inr ⟨rfl,Tt b9,B.out.1.less (Nat.zero_le _)⟩⟩
 have ap:=a6.out no n b9
 have I:=As b9
 have bl:=As ap
 have a8:=fun F w q=>OY n v1 B1 F w hN q (by have:=(EM.of ap).e;omega) (by have:=(EM.of ap).k;omega)
 obtain ⟨vE,vK,rfl,hE,cs⟩:=hN
 obtain ⟨aE,cE,rfl,g9,i8⟩:=hE.v
 obtain ⟨aK,cK,rfl,ga,i9⟩:=Ai.v cs
 obtain ⟨le,b6⟩:=Aq n.Ag.length
 obtain ⟨lk,an⟩:=Aq n.kids.length
 obtain ⟨lf,am⟩:=Aq n.leaf
 have HE:Aside (A1 B1 (.slice aE le cE) n.Ag∧n.Ag.length=le):=⟨by rw[←b6];exact hE,b6⟩
 have ax:Aside (BE B1 (.slice aK n.kids.length cK) n.kids∧n.kids.length=lk):=⟨cs,an⟩
 have H:=As am
 have gx:le≤12:=by have:=(EM.of ap).e;omega
 have es:lk≤12:=by have:=(EM.of ap).k;omega
 rw[b6,an,am] at a8
 rw[b6] at g9⊢
 rw[an] at ga⊢
 rw[am]
 have bk:=As a8
 obtain ⟨mn,d0⟩: ∃z:Nat,many n=z:=⟨_,rfl⟩
 rw[d0] at bk
 have ds:=As d0
 haveI:=q3.i
 clear b9 ap a8 hE cs b6 an am d0
 by_cases cu:f=0
 · have b0:dp=13:=by have:=HD.out.1;omega
   have fj:Aside (DW V f no top=none):=(by rw[cu];rfl:_=_)
   have g7:decide ((12:Int)<dp)=true:=decide_eq_true (by omega)
   have e7:(12:Int)<dp:=by omega
   clear b0 cu
   go_wp2
   exact ⟨rfl,s2,K,CI h s2 o u r M K F,B.out.2.1,B.out.2.2,.inr ⟨rfl,fj.out,B.out.1.less (Nat.zero_le _)⟩⟩
 obtain ⟨g,hg⟩: ∃g,f=g+1:=⟨f-1,by omega⟩
 have HG:=As hg
 have g7:decide ((12:Int)<dp)=false:=decide_eq_false (by have:=HD.out.1;omega)
 have e7: ¬(12:Int)<dp:=by have:=HD.out.1;omega
 obtain ⟨fw,em⟩:=Aq (decide (top=false∧mn<4))
 have aj:=As em
 clear em hg cu
 go_upto_region 5 with (fail)
 go_cut [45] (fun gq wx=>gq= .bool fw∧Sat (Sl.block w1.heap.size Cy [.bool lf,.slice aE le cE,.slice aK lk cK]*(B1*(Sl.block N9 Io [.int .i64 0,.int .i64 0,.int .i64 0,.int .i64 0,.int .i64 0,.int .i64 0,.int .i64 0,.int .i64 0,.int .i64 0,.int .i64 0]*(Ad h s2*(Sl.block o Li [.map (some M)]*(Sl.block u Qt [.pointer (some ⟨h.t,0,none⟩)]*(Sl.block r Qr [.func (Fn.func 128) #[] #[.pointer (some ⟨o,0,none⟩),.pointer (some ⟨u,0,none⟩),.pointer (some ⟨r,0,none⟩)]]*(mp A9 M (kn K)*F)))))))) wx)
 case first =>
  cases top with
  | true =>
    have Q:fw=false:=by rw[←aj.out];simp
    subst Q
    go_wp2_with fail
    go_meet
    exact ⟨rfl,Ap (by ac_rfl)⟩
  | false =>
    by_cases h4:mn<4
    · have Q:fw=true:=by rw[←aj.out];simp[h4]
      subst Q
      have cv:(mn:Int)<4:=by omega
      have el:decide ((mn:Int)<4)=true:=decide_eq_true cv
      go_wp2_with (go_at_call 130;with_reducible refine Calls.mono (bk.out _ _ (Ae B1)) ?_;rintro e w4 ⟨rfl,q4⟩;haveI:=q4.i)
      go_meet
      exact ⟨rfl,Ap (by ac_rfl)⟩
    have Q:fw=false:=by rw[←aj.out];simp[h4]
    subst Q
    have cv: ¬(mn:Int)<4:=by omega
    have el:decide ((mn:Int)<4)=false:=decide_eq_false cv
    go_wp2_with (go_at_call 130;with_reducible refine Calls.mono (bk.out _ _ (Ae B1)) ?_;rintro e w4 ⟨rfl,q4⟩;haveI:=q4.i)
    go_meet
    exact ⟨rfl,Ap (by ac_rfl)⟩
 obtain ⟨rfl,q5⟩:=hcut
 obtain ⟨ay,ce⟩:=Aq w1.heap.size
 rw[ce] at q5⊢
 clear q3 this ce
 haveI:=q5.i
 cases fw with
 | true =>
   have a5:Aside (DW V f no top=none):=(by
    have l:=of_decide_eq_true aj.out
    rw[HG.out]
    exact X3 I.out ⟨l.1,by rw[ds.out];exact l.2⟩:_=_)
   go_wp2
   exact ⟨rfl,s2,K,CI h s2 o u r M K F,B.out.2.1,B.out.2.2,.inr ⟨rfl,a5.out,B.out.1.less (Nat.zero_le _)⟩⟩
 | false =>
   have H4:Aside (¬(top=false∧many n<4)):=(by
    have l:=of_decide_eq_false aj.out
    rw[ds.out]
    exact l: ¬_)
   clear bk aj
   obtain ⟨x0,ey⟩:=Aq (if lf then (⟨0,n.Ag.length,n.Ag.headD e0,n.Ag.getLastD e0⟩:Sn) else Ks)
   have ak:=As ey
   clear ey
   have fu:Aside (lf=true→AL n.Ag→MU V no top x0):=(fun h1 h2=>by
    refine ⟨g+1,?_⟩
    rw[O1 I.out (H.out.trans h1) H4.out,if_neg (by rw[Ge.2 h2];simp),←ak.out,if_pos h1]:_→_→_)
   obtain ⟨bp,cf⟩:=Aq wc.heap.size
   have bz:=As cf
   clear cf
   go_upto_if 49 with (fail)
   go_cut [49] (fun ip wx=>(lf=true→AL n.Ag)∧Sat (Sl.block wc.heap.size Io (bX x0)*(Sl.block ay Cy [.bool lf,.slice aE le cE,.slice aK lk cK]*(B1*(Sl.block N9 Io [.int .i64 0,.int .i64 0,.int .i64 0,.int .i64 0,.int .i64 0,.int .i64 0,.int .i64 0,.int .i64 0,.int .i64 0,.int .i64 0]*(Ad h s2*(Sl.block o Li [.map (some M)]*(Sl.block u Qt [.pointer (some ⟨h.t,0,none⟩)]*(Sl.block r Qr [.func (Fn.func 128) #[] #[.pointer (some ⟨o,0,none⟩),.pointer (some ⟨u,0,none⟩),.pointer (some ⟨r,0,none⟩)]]*(mp A9 M (kn K)*F))))))))) wx)
   case first=>
    cases lf with
    | false =>
      have hx:x0=Ks:=by rw[←ak.out];rfl
      subst hx
      go_wp2_with fail
      go_meet
      exact ⟨fun e=>Bool.noConfusion e,Ap (by unfold bX;ac_rfl)⟩
    | true =>
      have l:=fn.out n I.out
      rw[H.out] at l
      cases l
   obtain ⟨eo,q6⟩:=hcut
   have fl:=As eo
   rw[bz.out] at q6⊢
   clear q5 this eo bz
   obtain ⟨xh,xc,⟨x1,x2,x3,x4⟩,⟨x5,x6,x7,x8⟩⟩:=x0
   unfold bX Dq at q6
   simp only[List.cons_append,List.nil_append] at q6
   haveI:=q6.i
   go_wp2_with fail
   go_loopg [80] lk (fun gg gr wr=> ∃(j m3:Nat)(s3:TS)(K3:List (Int×Sn))(x:Sn),gr= .int .i64 j∧j≤lk∧Aside (lE V N f g n lf m1 s K ⟨xh,xc,⟨x1,x2,x3,x4⟩,⟨x5,x6,x7,x8⟩⟩ gg lk j m3 s3 K3 x)∧
    Sat (Sl.block bp Io (bX x)*(Sl.block ay Cy [.bool lf,.slice aE le cE,.slice aK lk cK]*(B1*(Sl.block N9 Io [.int .i64 0,.int .i64 0,.int .i64 0,.int .i64 0,.int .i64 0,.int .i64 0,.int .i64 0,.int .i64 0,.int .i64 0,.int .i64 0]*(Ad h s3*(Sl.block o Li [.map (some M)]*(Sl.block u Qt [.pointer (some ⟨h.t,0,none⟩)]*(Sl.block r Qr [.func (Fn.func 128) #[] #[.pointer (some ⟨o,0,none⟩),.pointer (some ⟨u,0,none⟩),.pointer (some ⟨r,0,none⟩)]]*(mp A9 M (kn K3)*F))))))))) wr)
   case atStart=>
    refine ⟨0,m1,s2,K,_,rfl,by omega,⟨rfl,B.out.1,B.out.2.1,B.out.2.2,HK.out,by omega,fun e=>?_,fun _=>rfl,fun q hq=> .inl hq,fun _=>rfl,?_,?_,fun e=>by omega⟩,q6⟩
    · rw[←ak.out,e]
      exact V4.zero g n
    · rw[←ak.out]
      cases lf with
      |true=>simp only[if_true];have:=HE.out.2;omega
      |false=>exact ⟨by simp[Ks],by simp[Ks]⟩
    rw[←ak.out]
    cases lf with
    |true=>exact ⟨by simp,by simp⟩
    |false=>exact ⟨by simp[Ks],by simp[Ks]⟩
   obtain ⟨j,m3,s3,K3,x,rfl,hj,A,q7⟩:=hrel
   clear q6
   obtain ⟨L,T,⟨z1,z2,z3,z4⟩,⟨W,X,Y,Z⟩⟩:=x
   unfold bX Dq at q7
   simp only[List.cons_append,List.nil_append] at q7
   haveI:=q7.i
   by_cases gh:j<lk
   · have et : (j : Int) < lk := by omega
     have am:lf=false:=by
      cases lf with
      |false=>rfl
      | true =>
        have:=(BS bl.out H.out).1
        have l:=ax.out.2
        rw[this] at l
        simp at l
        omega
     subst am
     obtain ⟨k,hk⟩: ∃k,n.kids[j]?=some k:=⟨_,List.getElem?_eq_getElem (by rw[ax.out.2];exact gh)⟩
     obtain ⟨kb,ko,e9,r1,r2,r3,r4⟩:=Cp (a:=aK) (c:=cK) (by have:=ax.out.1;exact this) hk
     subst e9
     have bj:=As hk
     have gi:=Ed ((B7 bl.out H.out).2.1 k (List.mem_of_getElem? hk))
     have fp:Aside (AE k=true):=(B7 bl.out H.out).2.1 k (List.mem_of_getElem? hk)
     have ch:=A.out.mA
     have cx:=HM.out.1
     have cn:=fk.out g HG.out V N h s3 m3 K3 k.Au false o u r M
     have ca:Aside (∀(F:Ab)(w:World),Sat (Ad h s3*(GF o u r M h K3*F)) w→Calls Tryz.prog 128 #[.int .i64 k.Au,.bool false,.int .i64 (dp+1),.pointer (some ⟨o,0,none⟩),.pointer (some ⟨u,0,none⟩),.pointer (some ⟨r,0,none⟩)] w (NW V N h o u r M g m3 s3 K3 k.Au false F)):=fun F w q=>by
      have l:=cn F w (by have:=HD.out.2;rw[HG.out] at this;omega) (by omega) A.out.kn HV.out A.out.Qi (by rw[cr.out,HG.out] at cx;omega) q
      have e8:dp+1=13-(g:Int):=by have:=HD.out.1;rw[HG.out] at this;omega
      rw[e8]
      exact l
     have bx:Aside (m1+13*fr N K3≤m3+j+13*fr N K∧13*fr N K+13*(f+1)≤m):=⟨ch,cx⟩
     obtain ⟨k1,k2,k3,k4⟩:=k
     simp only at r1 r2 r3 r4 ca
     clear hk gi ch cx cn
     go_wp2_with fail
     with_reducible refine Calls.mono (ca.out _ _ (QP h s3 o u r M K3)) ?_
     rintro e w4 ⟨s4,K4,q8,cp,ej,D⟩
     have bo:Aside (s4.sp=s.sp∧s4.ck.d=s.ck.d):=⟨cp.trans A.out.sp,ej.trans A.out.d⟩
     have q9:=q8.eq (Kc h s4 o u r M K4 _)
     haveI:=q9.i
     clear cp ej q7
     rcases D with ⟨y,m4,rfl,ab,en,er,eu,b8,eh⟩|⟨rfl,ct,b8⟩
     rotate_left
     · have a5:Aside (DW V f no top=none):=(by
        rw[HG.out]
        exact O2 I.out H.out ((A.out.run rfl).mE bj.out ct):_=_)
       exact ⟨rfl,s4,K4,CI h s4 o u r M K4 F,bo.out.1,bo.out.2,.inr ⟨rfl,a5.out,b8⟩⟩
     have ao:=ab.low a6.out
     have a0:Aside (MU V k1 false y∧(K3= []→y.h<g)∧Ml V K4∧D2 V m4 s4∧m3+13*fr N K4≤m4+13*fr N K3):=⟨ab,en,er,b8,by simpa using eh⟩
     have fq:=As eu
     obtain ⟨nk,ev⟩:=ab.is
     obtain ⟨m5,cz⟩: ∃m5,m4=m5+1:=⟨m4-1,by
      have:=bx.out
      have l:=a0.out.2.2.2.2
      have ie:=HG.out
      have J:=cr.out
      omega⟩
     have cj:k1≠0:=by have:=Ed fp.out;simp only at this;omega
     have cm:=fun F w q=>SA h V m5 s4 k1 F w (by rw[←cz];exact b8) cj q
     have dv:=As cm
     have fo:=As cz
     have bm:=As ev
     have dr:=As ao
     have hy1:=ao.c1
     have hy2:=ao.c2
     have hy3:=ao.h1
     have hy0:=ao.h0
     obtain ⟨R,yc,⟨y1,y2,y3,y4⟩,⟨y5,y6,y7,y8⟩⟩:=y
     simp only at hy1 hy2 hy3 hy0
     have ij:=Bb (R+1) (by omega)
     have ct:=A.out.nL
     have cY:=A.out.cY
     simp only at ct cY
     have ig:=Bb (T+yc) (by omega)
     unfold WZ
     simp only
     clear ab en er eu b8 eh ev cz cm ao cj q8
     go_wp2_with fail
     with_reducible refine Calls.mono (dv.out _ _ (Ae (Ad h s4))) ?_
     rintro e w5 ⟨s5,eg,cq,ek,D⟩
     rcases D with ⟨n5,v5,B5,aq,rfl,ed,d5⟩|⟨aq,rfl,d5⟩
     rotate_left
     · rw[bm.out] at aq
       cases aq
     have gj:n5=nk:=by rw[bm.out] at aq;cases aq;rfl
     subst gj
     have P:Aside (D2 V m5 s5∧s5.sp=s.sp∧s5.ck.d=s.ck.d):=⟨eg,cq.trans bo.out.1,ek.trans bo.out.2⟩
     have b7:=a6.out k1 n5 bm.out
     have bs:=fun F w q=>Kf n5 v5 B5 F w ed q (by have:=(EM.of b7).e;omega) (by have:=(EM.of b7).k;omega)
     obtain ⟨⟨t1,t2,t3⟩,d3⟩:=Aq (AZ n5)
     have dx:Aside (AZ (BA V k1)=(t1,t2,t3)):=(by unfold BA;rw[bm.out];exact d3:_=_)
     rw[d3] at bs
     simp only at bs
     have dw:=As bs
     haveI:=d5.i
     clear eg cq ek aq ed b7 bs d3 q9
     go_wp2_with fail
     with_reducible refine Calls.mono (dw.out _ _ (Ae B5)) ?_
     rintro e w6 ⟨rfl,f6⟩
     haveI:=f6.i
     clear d5 dw
     have ar:Sat (Sl.block bp Io [.int .i64 L,.int .i64 T,.int .i64 z1,.int .i64 z2,.int .i64 z3,.int .i64 z4,.int .i64 W,.int .i64 X,.int .i64 Y,.int .i64 Z]*(Sl.block w4.heap.size Io [.int .i64 R,.int .i64 yc,.int .i64 y1,.int .i64 y2,.int .i64 y3,.int .i64 y4,.int .i64 y5,.int .i64 y6,.int .i64 y7,.int .i64 y8]*(Sl.block ay Cy [.bool false,.slice aE le cE,.slice (some ⟨kb,ko,none⟩) lk cK]*(B1*(Sl.block N9 Io [.int .i64 0,.int .i64 0,.int .i64 0,.int .i64 0,.int .i64 0,.int .i64 0,.int .i64 0,.int .i64 0,.int .i64 0,.int .i64 0]*(Ad h s5*(Sl.block o Li [.map (some M)]*(Sl.block u Qt [.pointer (some ⟨h.t,0,none⟩)]*(Sl.block r Qr [.func (Fn.func 128) #[] #[.pointer (some ⟨o,0,none⟩),.pointer (some ⟨u,0,none⟩),.pointer (some ⟨r,0,none⟩)]]*(mp A9 M (kn K4)*F)))))))))) w6:=Ax (C:=B5*Sl.block wr.heap.size 141 [.int .i64 k1,.int .i64 k2,.int .i64 k3,.int .i64 k4]) (by ac_rfl)
     obtain ⟨ms,d1⟩:=Aq (meets ⟨W,X,Y,Z⟩ ⟨y1,y2,y3,y4⟩)
     have dt:=As d1
     obtain ⟨bd,ei⟩:=Aq (decide (t1≠k2∨t2≠k3∨t3≠k4∨((j==0)=false∧(R+1≠L∨ms=true))))
     have O:=As ei
     have aw:Aside (0<j→ ∀(b b2:Nat)(F:Ab)(w:World),Sat (Sl.block b2 29 [.slice (some ⟨b,0,none⟩) 2 2]*(Sl.block b AK [.int .i64 W,.int .i64 X,.int .i64 Y,.int .i64 Z,.int .i64 y1,.int .i64 y2,.int .i64 y3,.int .i64 y4]*F)) w→Calls Tryz.prog 80 #[.slice (some ⟨b2,0,none⟩) 1 1] w fun e w'=> ∃a c G,e= .returned (.slice a (if ms then 1 else 2) c)∧Sat (G*F) w'):=fun al b b2 F w q=>by
      have J:=(A.out.low al).1
      have h7:=dr.out.first
      rw[←d1]
      exact Qd _ _ b b2 F w J h7 q
     clear d1 ei
     go_upto_region 17 with (fail)
     go_cut [138] (fun f7 wx=>f7= .bool bd∧Sat (Sl.block bp Io [.int .i64 L,.int .i64 T,.int .i64 z1,.int .i64 z2,.int .i64 z3,.int .i64 z4,.int .i64 W,.int .i64 X,.int .i64 Y,.int .i64 Z]*(Sl.block w4.heap.size Io [.int .i64 R,.int .i64 yc,.int .i64 y1,.int .i64 y2,.int .i64 y3,.int .i64 y4,.int .i64 y5,.int .i64 y6,.int .i64 y7,.int .i64 y8]*(Sl.block ay Cy [.bool false,.slice aE le cE,.slice (some ⟨kb,ko,none⟩) lk cK]*(B1*(Sl.block N9 Io [.int .i64 0,.int .i64 0,.int .i64 0,.int .i64 0,.int .i64 0,.int .i64 0,.int .i64 0,.int .i64 0,.int .i64 0,.int .i64 0]*(Ad h s5*(Sl.block o Li [.map (some M)]*(Sl.block u Qt [.pointer (some ⟨h.t,0,none⟩)]*(Sl.block r Qr [.func (Fn.func 128) #[] #[.pointer (some ⟨o,0,none⟩),.pointer (some ⟨u,0,none⟩),.pointer (some ⟨r,0,none⟩)]]*(mp A9 M (kn K4)*F)))))))))) wx)
     case first =>
      cases e2:(t1 !=k2) with
      | true =>
        have Q:bd=true:=by
         have c2:t1≠k2:=by simpa using e2
         rw[←O.out]
         simp[*]
        subst Q
        go_wp2_with fail
        go_meet
        exact ⟨rfl,ar⟩
      | false =>
        cases e3:(t2 !=k3) with
        | true =>
          have Q:bd=true:=by
           have c3:t2≠k3:=by simpa using e3
           rw[←O.out]
           simp[*]
          subst Q
          go_wp2_with fail
          go_meet
          exact ⟨rfl,ar⟩
        | false =>
          cases e4:(t3 !=k4) with
          | true =>
            have Q:bd=true:=by
             have c4:t3≠k4:=by simpa using e4
             rw[←O.out]
             simp[*]
            subst Q
            go_wp2_with fail
            go_meet
            exact ⟨rfl,ar⟩
          | false =>
            by_cases c5:j=0
            · have al:(j:Int)=0:=by omega
              have b5:decide ((0:Int)<(j:Int))=false:=decide_eq_false (by omega)
              have Q:bd=false:=by
               clear al b5
               have c2:t1=k2:=by simpa using e2
               have c3:t2=k3:=by simpa using e3
               have c4:t3=k4:=by simpa using e4
               rw[←O.out]
               simp[*]
              subst Q
              go_wp2_with fail
              go_meet
              exact ⟨rfl,ar⟩
            have br:(0:Int)<j:=by omega
            have al:0<j:=by omega
            have b5:decide ((0:Int)<(j:Int))=true:=decide_eq_true br
            cases e6:(R+1 !=L) with
            | true =>
              have Q:bd=true:=by
               clear br b5
               have c6:R+1≠L:=by simpa using e6
               rw[←O.out]
               simp[*]
              subst Q
              go_wp2_with fail
              go_meet
              exact ⟨rfl,ar⟩
            | false =>
              cases ms with
              | true =>
                simp only[if_true] at aw
                have Q:bd=true:=by
                 clear br b5
                 have c6:R+1=L:=by simpa using e6
                 rw[←O.out]
                 simp[*]
                subst Q
                go_wp2_with (go_at_call 80;with_reducible refine Calls.mono (aw.out al w6.heap.size (w6.heap.size+1) _ _ (Bh (Sl.block (w6.heap.size+1) 29 [.slice (some ⟨w6.heap.size,0,none⟩) 2 2]) (Sl.block w6.heap.size AK [.int .i64 W,.int .i64 X,.int .i64 Y,.int .i64 Z,.int .i64 y1,.int .i64 y2,.int .i64 y3,.int .i64 y4]))) ?_;rintro e w7 ⟨a7,c7,G7,rfl,d6⟩;haveI:=d6.i)
                go_meet
                exact ⟨rfl,Ax (C:=G7*(B5*Sl.block wr.heap.size 141 [.int .i64 k1,.int .i64 k2,.int .i64 k3,.int .i64 k4])) (by ac_rfl)⟩
              | false =>
                simp only[Bool.false_eq_true,if_false] at aw
                have Q:bd=false:=by
                 clear br b5
                 have c2:t1=k2:=by simpa using e2
                 have c3:t2=k3:=by simpa using e3
                 have c4:t3=k4:=by simpa using e4
                 have c6:R+1=L:=by simpa using e6
                 rw[←O.out]
                 simp[*]
                subst Q
                go_wp2_with (go_at_call 80;with_reducible refine Calls.mono (aw.out al w6.heap.size (w6.heap.size+1) _ _ (Bh (Sl.block (w6.heap.size+1) 29 [.slice (some ⟨w6.heap.size,0,none⟩) 2 2]) (Sl.block w6.heap.size AK [.int .i64 W,.int .i64 X,.int .i64 Y,.int .i64 Z,.int .i64 y1,.int .i64 y2,.int .i64 y3,.int .i64 y4]))) ?_;rintro e w7 ⟨a7,c7,G7,rfl,d6⟩;haveI:=d6.i)
                go_meet
                exact ⟨rfl,Ax (C:=G7*(B5*Sl.block wr.heap.size 141 [.int .i64 k1,.int .i64 k2,.int .i64 k3,.int .i64 k4])) (by ac_rfl)⟩
     obtain ⟨rfl,d7⟩:=hcut
     obtain ⟨dy,cg⟩:=Aq w4.heap.size
     rw[cg] at d7⊢
     clear f6 ar this cg aw
     haveI:=d7.i
     cases bd with
     | true =>
       have a5:Aside (DW V f no top=none):=(by
        rw[HG.out]
        refine O2 I.out H.out ((A.out.run rfl).gX a6.out bj.out a0.out.1 (VN ?_))
        rw[dx.out]
        simp only
        rw[dt.out]
        exact of_decide_eq_true O.out:_=_)
       go_wp2
       exact ⟨rfl,s5,K4,CI h s5 o u r M K4 F,P.out.2.1,P.out.2.2,.inr ⟨rfl,a5.out,P.out.1.less (Nat.zero_le _)⟩⟩
     | false =>
       have ac:=L' (y:=⟨R,yc,⟨y1,y2,y3,y4⟩,⟨y5,y6,y7,y8⟩⟩) (x:=⟨L,T,⟨z1,z2,z3,z4⟩,⟨W,X,Y,Z⟩⟩) (s:=AZ (BA V k1)) (first:=j==0) (k:=⟨k1,k2,k3,k4⟩) (by
        rw[dx.out]
        simp only
        rw[dt.out]
        exact of_decide_eq_false O.out)
       simp only at ac
       obtain ⟨⟨f1,f2,f3,f4⟩,cw⟩: ∃e:Av,(if (j==0)=true then (⟨y1,y2,y3,y4⟩:Av) else ⟨z1,z2,z3,z4⟩)=e:=⟨_,rfl⟩
       rw[cw] at ac
       have U:=As ac
       have dn:=As cw
       clear ac cw
       go_upto_if 142 with (fail)
       go_cut [142] (fun ha wx=>Sat (Sl.block bp Io [.int .i64 (R+1),.int .i64 T,.int .i64 f1,.int .i64 f2,.int .i64 f3,.int .i64 f4,.int .i64 W,.int .i64 X,.int .i64 Y,.int .i64 Z]*(Sl.block dy Io [.int .i64 R,.int .i64 yc,.int .i64 y1,.int .i64 y2,.int .i64 y3,.int .i64 y4,.int .i64 y5,.int .i64 y6,.int .i64 y7,.int .i64 y8]*(Sl.block ay Cy [.bool false,.slice aE le cE,.slice (some ⟨kb,ko,none⟩) lk cK]*(B1*(Sl.block N9 Io [.int .i64 0,.int .i64 0,.int .i64 0,.int .i64 0,.int .i64 0,.int .i64 0,.int .i64 0,.int .i64 0,.int .i64 0,.int .i64 0]*(Ad h s5*(Sl.block o Li [.map (some M)]*(Sl.block u Qt [.pointer (some ⟨h.t,0,none⟩)]*(Sl.block r Qr [.func (Fn.func 128) #[] #[.pointer (some ⟨o,0,none⟩),.pointer (some ⟨u,0,none⟩),.pointer (some ⟨r,0,none⟩)]]*(mp A9 M (kn K4)*F)))))))))) wx)
       case first=>
        by_cases c5:j=0
        · have e5:((j:Int)==0)=true:=by simp[c5]
          have l:(⟨y1,y2,y3,y4⟩:Av)=⟨f1,f2,f3,f4⟩:=by rw[←dn.out,if_pos (by simp[c5])]
          cases l
          clear c5
          go_upto_region 20 with (fail)
          go_region
          go_wp2_with fail
          go_meet
          exact Ap (by ac_rfl)
        have e5:((j:Int)==0)=false:=by simp[c5]
        have l:(⟨z1,z2,z3,z4⟩:Av)=⟨f1,f2,f3,f4⟩:=by rw[←dn.out,if_neg (by simp[c5])]
        have J:R+1=L:=U.out.1 (by simp[c5])
        have H8:=As J
        cases l
        clear c5 J
        go_wp2_with fail
        go_meet
        rw[H8.out]
        exact Ap (by ac_rfl)
       have gm:=hcut
       clear d7 this
       haveI:=gm.i
       by_cases aa:1024<T+yc
       · have a5:Aside (DW V f no top=none):=(by
          rw[HG.out]
          exact O2 I.out H.out ((A.out.run rfl).gX a6.out bj.out a0.out.1 (U.out.2.1 aa)):_=_)
         have gd:decide ((1024:Int)<T+yc)=true:=decide_eq_true aa
         go_wp2
         exact ⟨rfl,s5,K4,CI h s5 o u r M K4 F,P.out.2.1,P.out.2.2,.inr ⟨rfl,a5.out,P.out.1.less (Nat.zero_le _)⟩⟩
       have gd:decide ((1024:Int)<T+yc)=false:=decide_eq_false aa
       have fm : Aside (lE V N f g n false m1 s K ⟨xh, xc, ⟨x1, x2, x3, x4⟩, ⟨x5, x6, x7, x8⟩⟩ (lk - (j + 1)) lk (j + 1) m5 s5 K4 ⟨R + 1, T + yc, ⟨f1, f2, f3, f4⟩, ⟨y5, y6, y7, y8⟩⟩) := (by
        have hB:=bx.out.1
        have hC:=a0.out.2.2.2.2
        have hM:=fo.out
        refine ⟨rfl,P.out.1,P.out.2.1,P.out.2.2,a0.out.2.2.1,by omega,fun _=>(A.out.run rfl).next a6.out bj.out a0.out.1 (U.out.2.2 aa),fun e=>by omega,fun q hq=>?_,fun e=>by omega,?_,?_,fun _=>⟨dr.out.last,fun e=>?_⟩⟩
        · rcases fq.out q hq with l|l
          · rcases A.out.aD q l with J|J
            · exact .inl J
            by_cases c5:j=0
            · rw[A.out.k0 c5] at l
              exact .inl l
            have h7:=U.out.1 (by simp[c5])
            simp only at J⊢
            exact .inr (by omega)
          simp only at l⊢
          exact .inr (by omega)
        · simp only;omega
        · simp only;omega
        by_cases c5:j=0
        · have l:=a0.out.2.1 (by rw[A.out.k0 c5];exact e)
          have:=HG.out
          simp only at l⊢
          omega
        have h7:=U.out.1 (by simp[c5])
        have l:=(A.out.low (by omega)).2 e
        simp only at l⊢
        omega:lE _ _ _ _ _ _ _ _ _ _ _ _ _ _ _ _ _)
       go_wp2_with fail
       go_roundg (lk-(j+1))
       case measure=>have:=A.out.iZ;omega
       exact ⟨j+1,m5,s5,K4,_,by go_num,by omega,fm,Ax (C:=Sl.block dy Io [.int .i64 R,.int .i64 yc,.int .i64 y1,.int .i64 y2,.int .i64 y3,.int .i64 y4,.int .i64 y5,.int .i64 y6,.int .i64 y7,.int .i64 y8]) (by unfold bX Dq;ac_rfl)⟩
   have et: ¬(j:Int)<lk:=by omega
   obtain rfl:j=lk:=by omega
   have HC:Aside (MU V no top ⟨L,T,⟨z1,z2,z3,z4⟩,⟨W,X,Y,Z⟩⟩):=(by
    cases lf with
    | true =>
      have l:=(BS bl.out H.out).1
      have J:=ax.out.2
      rw[l] at J
      rw[A.out.zero J.symm]
      exact fu.out rfl (fl.out rfl)
    | false =>
      have l:=A.out.run rfl
      rw[←ax.out.2] at l
      exact l.done I.out H.out H4.out:MU _ _ _ _)
   have cl:0≤no∧no<N:=⟨by
    have l:=(HV.out no n I.out).2
    rcases Int.lt_or_le no 0 with J|J
    · have:V no=none:=A.out.Qi.out (by omega)
      rw[I.out] at this
      cases this
    exact J,(HV.out no n I.out).2⟩
   have bn:=As cl
   clear cl
   have dq : Aside (K = [] → L < f) := (fun e => by
    by_cases c5:j=0
    · have l:=A.out.zero c5
      have hG:=HG.out
      have h7:=ak.out
      rw[←l] at h7
      cases lf with
      | true =>
        simp only[if_true] at h7
        have h6:=congrArg Sn.h h7
        simp only at h6
        omega
      | false =>
        have h6:=congrArg Sn.h h7
        have:(if false=true then (⟨0,n.Ag.length,n.Ag.headD e0,n.Ag.getLastD e0⟩:Sn) else Ks).h=0:=rfl
        rw[this] at h6
        simp only at h6
        omega
    exact (A.out.low (by omega)).2 e:_→_)
   have du : Aside (top = false → Gx no K3 = none) := (fun e => by
    cases hq:Gx no K3 with
    |none=>rfl
    | some z =>
      exfalso
      have l:=L1 hq
      rcases A.out.aD _ l with J|J
      · have h7:=HZ.out e
        have: ∀(K:List (Int×Sn)),(no,z)∈K→Gx no K≠none:=fun K hK h6=>by
         have h5:=Lz (i:=no.toNat) h6 (by have:=bn.out.1;omega)
         unfold Qc at h5
         rw[List.any_eq_false] at h5
         have:=h5 _ hK
         simp at this
         have:=bn.out.1
         omega
        exact this K J h7
      have h6:=A.out.kn.get hq
      obtain ⟨q1,q2⟩:=id HC.out
      rw[e] at q2
      have h5:=h6.of a6.out q2
      rw[←h5] at J
      simp only at J
      omega:_→_)
   have dl:Aside (m1+13*fr N K3≤m3+j+13*fr N K∧m=m1+1∧j≤12):=⟨A.out.mA,cr.out,es⟩
   have HA:Aside (Ml V K3∧D2 V m3 s3∧s3.sp=s.sp∧s3.ck.d=s.ck.d∧ ∀q∈K3,q∈K∨q.2.h+1≤L):=⟨A.out.kn,A.out.Qi,A.out.sp,A.out.d,A.out.aD⟩
   clear A
   cases top with
   | true =>
     go_wp2
     go_returns
     have q8:=Kk (w:=wr) (b:=N9) (e:=Io) (c0:= .int .i64 0) (c1:= .int .i64 0) (c2:= .int .i64 0) (c3:= .int .i64 0) (c4:= .int .i64 0) (c5:= .int .i64 0) (c6:= .int .i64 0) (c7:= .int .i64 0) (c8:= .int .i64 0) (c9:= .int .i64 0) (v0:= .int .i64 L) (v1:= .int .i64 T) (v2:= .int .i64 z1) (v3:= .int .i64 z2) (v4:= .int .i64 z3) (v5:= .int .i64 z4) (v6:= .int .i64 W) (v7:= .int .i64 X) (v8:= .int .i64 Y) (v9:= .int .i64 Z)
     haveI:=q8.i
     refine ⟨s3,K3,CI h s3 o u r M K3 F,HA.out.2.2.1,HA.out.2.2.2.1,.inl ⟨⟨L,T,⟨z1,z2,z3,z4⟩,⟨W,X,Y,Z⟩⟩,m3,rfl,HC.out,dq.out,HA.out.1,fun q hq=>(HA.out.2.2.2.2 q hq).imp id fun l=>?_,HA.out.2.1,?_⟩⟩
     · simp only;omega
     have:=dl.out;simp only[if_true];omega
   | false =>
     go_wp2
     go_returns
     have q8:=Kk (w:=Gn Tryz.prog Li M (A9 no) (.agg #[.int .i64 L,.int .i64 T,.int .i64 z1,.int .i64 z2,.int .i64 z3,.int .i64 z4,.int .i64 W,.int .i64 X,.int .i64 Y,.int .i64 Z]) wr) (b:=N9) (e:=Io) (c0:= .int .i64 0) (c1:= .int .i64 0) (c2:= .int .i64 0) (c3:= .int .i64 0) (c4:= .int .i64 0) (c5:= .int .i64 0) (c6:= .int .i64 0) (c7:= .int .i64 0) (c8:= .int .i64 0) (c9:= .int .i64 0) (v0:= .int .i64 L) (v1:= .int .i64 T) (v2:= .int .i64 z1) (v3:= .int .i64 z2) (v4:= .int .i64 z3) (v5:= .int .i64 z4) (v6:= .int .i64 W) (v7:= .int .i64 X) (v8:= .int .i64 Y) (v9:= .int .i64 Z)
     haveI:=q8.i
     have ic:=k' (y:=⟨L,T,⟨z1,z2,z3,z4⟩,⟨W,X,Y,Z⟩⟩) (du.out (by simp)) bn.out.1 bn.out.2
     refine ⟨s3,M7 no ⟨L,T,⟨z1,z2,z3,z4⟩,⟨W,X,Y,Z⟩⟩ K3,?_,HA.out.2.2.1,HA.out.2.2.2.1,.inl ⟨⟨L,T,⟨z1,z2,z3,z4⟩,⟨W,X,Y,Z⟩⟩,m3,rfl,HC.out,dq.out,HA.out.1.put HC.out,fun q hq=>?_,HA.out.2.1,?_⟩⟩
     · exact (DZ (Ad h s3) (Sl.block o Li [.map (some M)]) (Sl.block u Qt [.pointer (some ⟨h.t,0,none⟩)]) (Sl.block r Qr [.func (Fn.func 128) #[] #[.pointer (some ⟨o,0,none⟩),.pointer (some ⟨u,0,none⟩),.pointer (some ⟨r,0,none⟩)]]) (mp A9 M (CT no (.agg #[.int .i64 L,.int .i64 T,.int .i64 z1,.int .i64 z2,.int .i64 z3,.int .i64 z4,.int .i64 W,.int .i64 X,.int .i64 Y,.int .i64 Z]) (kn K3))) F).eq (by rw[Kc,←Sj];rfl)
     · rcases L2 hq with e|e
       · rw[e];simp only;exact .inr (Int.le_refl _)
       exact (HA.out.2.2.2.2 q e).imp id fun l=>by simp only;omega
     have:=dl.out;simp only[Bool.false_eq_true,if_false];omega
