/- censusPages holds for every input. No condition. (part 45) -/
import Derived.Test.YtfhbmblbidcmmaaGreatVa44
import Derived.Test.YtfhbmblbidcmmaaGreatVa43
set_option linter.all false
set_option maxRecDepth 100000
set_option maxHeartbeats 6400000
namespace Go.Proofs.YtfhbmblbidcmmaaGreat
open Go.RowKit Go.Sl Go.Dk Go.Tr
abbrev K5:TypeId:=116
abbrev K2:TypeId:=125
def DP(b:Nat)(h:Th):Ab:=Sl.block b K2 [.pointer (some ⟨h.D,0,none⟩),.pointer (some ⟨h.C,0,none⟩),.pointer (some ⟨h.t,0,none⟩)]
theorem Ws(c d:Option Addr)(a f b g:Nat)(F:Ab)(w:World)(hs:Sat F w):
 Calls Tryz.prog 54 #[.agg #[.slice c a f,.slice d b g]] w fun e m=>e= .returned (.bool (decide (3000<a∨3000<b)))∧Sat F m:=by
 haveI:=hs.i
 by_cases h1:3000<a
 ·have j:(3000:Int)<(a:Int):=by omega
  rw[decide_eq_true (.inl h1)]
  go_enter Tryz.func54,Tryz.ntmps54
  go_wp2
  go_ret
  exact ⟨rfl,Sat.Dn (B:=Sl.block w.heap.size K5 [.slice c a f,.slice d b g]) (Av (by ac_rfl))⟩
 have j: ¬(3000:Int)<(a:Int):=by omega
 by_cases l:3000<b
 ·have k:(3000:Int)<(b:Int):=by omega
  rw[decide_eq_true (.inr l)]
  go_enter Tryz.func54,Tryz.ntmps54
  go_wp2
  go_ret
  exact ⟨rfl,Sat.Dn (B:=Sl.block w.heap.size K5 [.slice c a f,.slice d b g]) (Av (by ac_rfl))⟩
 have k: ¬(3000:Int)<(b:Int):=by omega
 rw[decide_eq_false (by omega)]
 go_enter Tryz.func54,Tryz.ntmps54
 go_wp2
 go_ret
 exact ⟨rfl,Sat.Dn (B:=Sl.block w.heap.size K5 [.slice c a f,.slice d b g]) (Av (by ac_rfl))⟩
theorem R7(O T:List UInt8)(v1 v2:Value)(B F:Ab)(w:World)(f:Reads B v1 O)(g:Reads B v2 T)(hs:Sat (B*F) w)(j:O.length≤3000)(p:T.length≤3000):
 Calls Tryz.prog 55 #[v1,v2] w fun e x=> ∃(b:Nat)(h:Th),e= .returned (.pointer (some ⟨b,0,none⟩))∧Sat (DP b h*(Ad h (Mj O T 7)*(B*F))) x:=by
 have l:=(Tc O T 7 j p (by omega) (by omega)).ts
 have k:Dk.named FQ=true:=by decide+kernel
 obtain ⟨z,c1,rfl,H,I⟩:=P9 f hs
 obtain ⟨G,c2,rfl,J,K⟩:=P9 g hs
 have a:=fun D F w q=>Uf D (Dk.new 16777216) 0 EO _ O B F w f q (by decide+kernel) (by omega) (bJ 16777216 (by omega) (by unfold Mn;omega)) (by unfold Mn;omega)
 have c:=fun D F w q=>Uf D (VH O) 0 EJ _ T B F w g q (by decide+kernel) (by omega) (l9 O j) (by unfold Mn;omega)
 rw[Ug O j] at a
 rw[Uh O T j p] at c
 have d:=fun D F w q=>bC D (Jk O T) FQ 7 F w q k (by omega) (by omega)
 unfold EO at a
 unfold EJ at c
 unfold FQ at d
 haveI:=hs.i
 go_enter Tryz.func55,Tryz.ntmps55
 go_wp2_with fail
 with_reducible refine Calls.mono (bD 16777216 _ _ hs (by omega) (by omega)) ?_
 rintro e L ⟨D,rfl,r⟩
 haveI:=r.i
 go_wp2_with fail
 refine (a D _ _ (Bh (Bk D (Dk.new 16777216)) B)).mono ?_
 rintro e M ⟨rfl,s⟩
 haveI:=s.i
 go_wp2_with fail
 refine (c D _ _ (Bh (Bk D (VH O)) B)).mono ?_
 rintro e P ⟨rfl,u⟩
 haveI:=u.i
 clear a c
 go_wp2_with fail
 refine (d D _ _ (Ae (Bk D (Jk O T)))).mono ?_
 rintro e Q ⟨C,rfl,n⟩
 haveI:=n.i
 go_wp2_with fail
 with_reducible refine Calls.mono (ZQ 1 _ _ (by omega) (by omega) n) ?_
 rintro e R ⟨S,rfl,o⟩
 haveI:=o.i
 go_wp2_with fail
 with_reducible refine Calls.mono (bF C S _ _ o) ?_
 rintro e y ⟨t,rfl,v⟩
 have m:Sat (Ad ⟨t,C,S,D⟩ (Mj O T 7)*(B*F)) y:=by
  refine D0 l (v.eq ?_)
  show _=AU C D (NW O T 7)*(Cd S (Sp.new 1)*(Sl.block t Tn [.pointer (some ⟨C,0,none⟩),.pointer (some ⟨S,0,none⟩)]*_))
  unfold NW FQ
  ac_rfl
 haveI:=m.i
 clear r s u n o v d
 go_wp2
 go_ret
 exact ⟨_,⟨t,C,S,D⟩,rfl,by unfold DP;exact Cx _ _ _ _⟩
def iQ(B F:Ab)(e:Ending)(a:World):Prop:= ∃b c d f:Int,e= .returned (.agg #[.int .i64 b,.int .i64 c,.int .i64 d,.int .i64 f])∧Sat (B*F) a
theorem YM(I g r y:Int)(K:Option Addr)(P L:Nat)(j:Option Addr)(b f:Nat)(T:List UInt8)(B F:Ab)(w:World)(t:Reads B (.slice j b f) T)(hs:Sat (B*F) w)(hl:b≤3000)(G:T.length=b):
 Calls Tryz.prog 121 #[.agg #[.int .i64 I,.int .i64 g,.int .i64 r,.int .i64 y],.agg #[.slice K P L,.slice j b f]] w (iQ B F):=by
 obtain ⟨l,m⟩:b≤f∧f≤9223372036854775807:=by
  obtain ⟨_,_,e0,l,m⟩:=P9 t hs
  cases e0
  exact ⟨l,m⟩
 haveI:=hs.i
 have z:Aside (Reads B (.slice j b f) T∧T.length=b):=⟨t,G⟩
 clear t G
 cases h1:((I:Int)==0) with
 | true =>
   go_enter Tryz.func121,Tryz.ntmps121
   go_upto_region 3 with (fail)
   go_region
   go_wp2
   go_returns
   exact ⟨_,_,_,_,rfl,Ao B F⟩
 | false =>
   by_cases R:y<0
   · go_enter Tryz.func121,Tryz.ntmps121
     go_upto_region 3 with (fail)
     go_region
     go_wp2
     go_returns
     exact ⟨_,_,_,_,rfl,Ao B F⟩
   by_cases U:g<0
   · go_enter Tryz.func121,Tryz.ntmps121
     go_upto_region 3 with (fail)
     go_region
     go_wp2
     go_returns
     exact ⟨_,_,_,_,rfl,Ao B F⟩
   by_cases V:r<1
   · go_enter Tryz.func121,Tryz.ntmps121
     go_upto_region 3 with (fail)
     go_region
     go_wp2
     go_returns
     exact ⟨_,_,_,_,rfl,Ao B F⟩
   by_cases D:(b:Int)<g
   · go_enter Tryz.func121,Tryz.ntmps121
     go_upto_region 3 with (fail)
     go_region
     go_wp2
     go_returns
     exact ⟨_,_,_,_,rfl,Ao B F⟩
   have hw1:=Bg ((b:Int)-g) (by omega)
   by_cases W:(b:Int)-g<r
   · go_enter Tryz.func121,Tryz.ntmps121
     go_upto_region 3 with (fail)
     go_region
     go_wp2
     go_returns
     exact ⟨_,_,_,_,rfl,Ao B F⟩
   obtain ⟨p,rfl⟩: ∃p:Nat,g=p:=⟨g.toNat,by omega⟩
   obtain ⟨q,rfl⟩: ∃q:Nat,r=q:=⟨r.toNat,by omega⟩
   have hw2:IntKind.i64.wrap ((p:Int)+(q:Int))=((p+q:Nat):Int):=by rw[IntWalk.i64_in _ (by omega)];omega
   have u:p+q≤b:=by omega
   have k:Aside (∀F w,Sat (B*F) w→Calls Tryz.prog 25 #[.slice (j.map fun x=>x.add p) q (f-p)] w fun e H=> ∃(a:Option Addr)(n c:Nat),e= .returned (.slice a n c)∧n≤3000∧Sat (B*F) H):=fun F w s=>by
    have d:((T.drop p).take (p+q-p)).length≤3000:=by rw[List.length_take,List.length_drop,z.out.2];omega
    have o:=Reads.cut z.out.1 p (p+q) (by omega) u
    have M:AK j f p 1=j.map fun x=>x.add p:=by unfold AK;rw[if_neg (by omega),Nat.mul_one]
    rw[M,show p+q-p=q by omega] at o
    rw[show p+q-p=q by omega] at d
    refine (o8 _ ((T.drop p).take q) B F w o s (by omega)).mono ?_
    rintro e H ⟨a,c,rfl,s'⟩
    refine ⟨a,_,c,rfl,Nat.le_trans (o7 _) d,s'⟩
   by_cases X:1000<y
   · go_enter Tryz.func121,Tryz.ntmps121
     go_upto_region 3 with (fail)
     go_region
     go_wp2_with fail
     with_reducible refine Calls.mono (k.out _ _ (Ae B)) ?_
     rintro e Q ⟨J,O,c5,rfl,D,v⟩
     haveI:=v.i
     go_wp2
     go_returns
     exact ⟨_,_,_,_,rfl,Ao B F⟩
   go_enter Tryz.func121,Tryz.ntmps121
   go_upto_region 3 with (fail)
   go_region
   go_wp2_with fail
   with_reducible refine Calls.mono (k.out _ _ (Ae B)) ?_
   rintro e Q ⟨J,O,c5,rfl,D,v⟩
   haveI:=v.i
   go_wp2
   go_returns
   exact ⟨_,_,_,_,rfl,Ao B F⟩
abbrev Q1:TypeId:=240
theorem YH{d:Dk}{nm:ByteArray}{a:List UInt8}(h:Ay d nm=a)(h0:0<a.length):RI d nm a:=by cases b:d.get nm with
 | none =>
  unfold Ay at h
  simp_all[Dk.Jo]
 | some f =>
  refine ⟨f,b,?_⟩
  unfold Ay at h
  simp_all
theorem Wg(h:Th)(s:TS)(nm:ByteArray)(b:List UInt8)(k n:Nat)(F:Ab)(w:World)(hs:Sat (Ad h s*F) w)(r:NP s)(t:s.ck.d.down=false)(u:RI s.ck.d nm b)(a:Dk.named nm=true)(x:k+n≤b.length):
 Calls Tryz.prog 49 #[.pointer (some ⟨h.D,0,none⟩),.string nm,.int .i64 (k:Int),.int .i64 (n:Int)] w fun e i=> ∃v,e= .returned (.tuple #[v,.int .i64 0])∧Sat (rw TB 1 v (A0 ((b.drop k).take n))*(Ad h s*F)) i:=by
 obtain ⟨G,h1,q⟩:=RY hs
 have c:=r.ok.dk
 obtain ⟨f,m,o⟩:=u
 have g:nm.size≤9223372036854775807:=by
  unfold Dk.named at a
  simp only[Bool.and_eq_true,decide_eq_true_eq] at a
  omega
 have hr:s.ck.d.read nm k n=(0,(b.drop k).take n):=by
  have hm:s.ck.d.may nm true=0:=by
   unfold Dk.may
   rw[if_neg (by simp[a]),t,m]
   simp
  unfold Dk.read
  rw[if_neg (by simp[hm]),m]
  simp only[Option.getD_some,o]
  rw[if_neg (by omega)]
  simp
 refine (P7 h.D s.ck.d nm k n _ w h1 g (fun p hp=>(c.sz p hp).1)).mono fun e i hx=>?_
 obtain ⟨v,j,l⟩:=hx
 rw[hr] at j l
 exact ⟨v,j,(q (rw TB 1 v (A0 ((b.drop k).take n))*F) i (l.eq (by ac_rfl))).eq (by ac_rfl)⟩
theorem RB(D:Nat)(d:Dk)(F:Ab)(w:World)(hs:Sat (Bk D d*F) w):
 Calls Tryz.prog 42 #[.pointer (some ⟨D,0,none⟩)] w fun e f=>e= .returned (.bool d.down)∧w=f:=by
 obtain ⟨M,ns,pv,ps,h1,c,a⟩:=Sat.DI hs
 have b:=a.eq (by unfold BC;rw[Ax])
 have i4:Em (Bb D M pv d) D 4 (.bool d.down):=by unfold Bb;infer_instance
 haveI:=i4
 haveI:=b.i
 clear h1 c hs a
 go_enter Tryz.func42,Tryz.ntmps42
 go_wp2
 go_ret
 exact ⟨rfl,rfl⟩
def CJ(d:Dk)(a b:Nat)(src:Int):List UInt8:=if src=0 then (Ay d EO).take a else (Ay d EJ).take b
def D4(b:List UInt8)(x:Ar):Bool:=decide (x.pos≤b.length∧x.len≤b.length-x.pos∧(0≤x.lines→(DQ ((b.drop x.pos.toNat).take x.len.toNat):Int)=x.lines))
def Qf(L M:Nat)(h:Th)(a b:Nat)(kn:List Ar):Ab:=Sl.block L Q1 [.pointer (some ⟨h.t,0,none⟩),.pointer (some ⟨h.D,0,none⟩),.string EO,.string EJ,.int .i64 a,.int .i64 b,.map (some M)]*mp DS M (FE kn)
theorem CN{L M:Nat}{h:Th}{s:TS}{a b:Nat}{kn:List Ar}{F:Ab}{w:World}(hs:Sat (Ad h s*(Sl.block L Q1 [.pointer (some ⟨h.t,0,none⟩),.pointer (some ⟨h.D,0,none⟩),.string EO,.string EJ,.int .i64 a,.int .i64 b,.map (some M)]*(mp DS M (FE kn)*F))) w):Sat (Ad h s*(Qf L M h a b kn*F)) w:=hs.eq (by unfold Qf;rw[Ax])
def Oo(L M:Nat)(h:Th)(s:TS)(x:Ar)(a b:Nat)(kn:List Ar)(F:Ab)(e:Ending)(c:World):Prop:=
 (x∈kn∧e= .returned (.int .i64 0)∧Sat (Ad h s*(Qf L M h a b kn*F)) c)∨
 (D4 (CJ s.ck.d a b x.src) x=true∧e= .returned (.int .i64 0)∧Sat (Ad h s*(Qf L M h a b (VP kn x)*F)) c)∨
 (¬x∈kn∧D4 (CJ s.ck.d a b x.src) x=false∧e= .returned (.int .i64 13)∧Sat (Ad h s*(Qf L M h a b kn*F)) c)
theorem Wd[En](L M:Nat)(h:Th)(s:TS)(l m g:Int)(b I:Nat)(kn:List Ar)(F:Ab)(w:World)(hm:Ai ⟨0,l,m,g⟩=true)(hI:NP s)(ho:b≤1099511627776)(ht:I≤1099511627776)
 (W:Db s.ck.d EO∧Db s.ck.d EJ) (hs:Sat (Ad h s*(Sl.block L Q1 [.pointer (some ⟨h.t,0,none⟩),.pointer (some ⟨h.D,0,none⟩),.string EO,.string EJ,.int .i64 b,.int .i64 I,.map (some M)]*(mp DS M (FE kn)*F))) w):
 Calls Tryz.prog 154 #[.pointer (some ⟨L,0,none⟩),.agg #[.int .i64 0,.int .i64 l,.int .i64 m,.int .i64 g]] w (Oo L M h s ⟨0,l,m,g⟩ b I kn F):=by
 have O:=Cl.1 hm
 simp only at O
 have l1: ∀(w:World){A:Ab}{ms:List (Ar×Value)}[AV A w][DM A M DS ms],(Instr.lookup W' (.map (some M)) (.agg #[.int .i64 0,.int .i64 l,.int .i64 m,.int .i64 g]) false).run Tryz.prog w= .ok ((Cp ⟨0,l,m,g⟩ ms).getD (.bool false)) w:=fun w A ms i1 i2=>Yc w M ⟨0,l,m,g⟩
 have Y: ∀(w:World){A:Ab}{ms:List (Ar×Value)}[AV A w][DM A M DS ms],(Instr.mapUpdate W' (.map (some M)) (.agg #[.int .i64 0,.int .i64 l,.int .i64 m,.int .i64 g]) (.bool true)).run Tryz.prog w= .ok () (Gt Tryz.prog W' M (DS ⟨0,l,m,g⟩) (.bool true) w):=fun w A ms i1 i2=>cL w M ⟨0,l,m,g⟩ (.bool true)
 have X:=M7 ⟨0,l,m,g⟩ kn
 have x:=M9 ⟨0,l,m,g⟩ kn
 obtain ⟨p,rfl⟩: ∃p:Nat,l=p:=⟨l.toNat,by omega⟩
 obtain ⟨q,rfl⟩: ∃q:Nat,m=q:=⟨m.toNat,by omega⟩
 obtain ⟨v,k⟩:=Aq (Ay s.ck.d EO)
 have hcut:CJ s.ck.d b I 0=v.take b:=by unfold CJ;simp[k]
 obtain ⟨a,o⟩:=Aq ((v.take b).length)
 have J:a=min b v.length:=by rw[←o,List.length_take]
 have K:v.length≤1099511627776:=by
  rw[←k]
  cases r:s.ck.d.get EO with
  |none=>unfold Ay;rw[r];simp[Dk.Jo]
  |some f=>unfold Ay;rw[r];exact (hI.ok.dk.sz _ (He r)).1
 have H:Aside (∀F w,Sat (Ad h s*F) w→Calls Tryz.prog 50 #[.pointer (some ⟨h.D,0,none⟩),.string EO] w fun e c=> ∃z:Int,e= .returned (.int .i64 z)∧max 0 z=(v.length:Int)∧w=c):=fun F w q=>(Lg h s EO F w q (by decide)).mono fun e c ⟨h1,U⟩=>⟨_,h1,by rw[←k];exact Kg W.1,U⟩
 have B:Aside (∀F w,Sat (Ad h s*F) w→Calls Tryz.prog 42 #[.pointer (some ⟨h.D,0,none⟩)] w fun e c=>e= .returned (.bool false)∧w=c):=fun F w q=>by
  obtain ⟨G,g1,g2⟩:=RY q
  have:=RB h.D s.ck.d _ w g1
  rwa [W.1.down] at this
 have hw1:p≤a→IntKind.i64.wrap ((a:Int)-p)=(a:Int)-p:=fun _=>IntWalk.i64_in _ (by omega)
 haveI:=hs.i
 by_cases j:(⟨0,(p:Int),(q:Int),g⟩:Ar)∈kn
 · rw[decide_eq_true j] at X
   have y:=Ek j
   clear j hs O hm hw1 o J hcut k K x Y
   go_enter Tryz.func154,Tryz.ntmps154
   go_upto_region 1 with (fail)
   go_region
   go_wp2
   go_ret
   exact .inl ⟨y.out,rfl,CN (Cx _ _ _ _)⟩
 rw[decide_eq_false j] at X
 have y:Aside (¬(⟨0,(p:Int),(q:Int),g⟩:Ar)∈kn∧CJ s.ck.d b I 0=v.take b∧(v.take b).length=a):=⟨j,hcut,o⟩
 have a5:min (b:Int) (v.length:Int)=(a:Int):=by omega
 by_cases n:a<p∨a-p<q
 · have R:Aside (D4 (CJ s.ck.d b I 0) ⟨0,p,q,g⟩=false):=by
    show _=_
    unfold D4
    rw[y.out.2.1]
    apply decide_eq_false
    rw[y.out.2.2]
    simp only
    omega
   clear j hs hm o hcut k x Y
   have u:p≤a→IntKind.i64.wrap ((a:Int)-p)=(a:Int)-p:=fun _=>IntWalk.i64_in _ (by omega)
   by_cases h1:(a:Int)<p
   · clear n hw1 u
     go_enter Tryz.func154,Tryz.ntmps154
     go_upto_region 1 with (fail)
     go_region
     go_wp2_with fail
     go_region
     go_wp2_with fail
     go_region_held3 (fun c=>c.cell? ⟨w.heap.size+1,0,none⟩=some (.int .i64 0)∧c.cell? ⟨L,1,none⟩=some (.pointer (some ⟨h.D,0,none⟩))∧c.cell? ⟨L,4,none⟩=some (.int .i64 b)) (first|exact ⟨Ac _ _ _,Ac _ _ _,Ac _ _ _⟩) (first
      |(go_at_call 50;with_reducible refine Calls.mono (H.out _ _ (Ae (Ad h s))) ?_;rintro e Z ⟨zz,rfl,P,hw5⟩;subst hw5))
     all_goals
      go_wp2_with fail
      with_reducible refine Calls.mono (B.out _ _ (Ae (Ad h s))) ?_
      rintro e w8 ⟨rfl,hw8⟩
      subst hw8
      go_wp2
      go_ret
      exact .inr (.inr ⟨y.out.1,R.out,rfl,CN (Cx _ _ _ _)⟩)
   have U:(a:Int)-p<q:=by omega
   have hw:=u (by omega)
   clear n hw1 u
   go_enter Tryz.func154,Tryz.ntmps154
   go_upto_region 1 with (fail)
   go_region
   go_wp2_with fail
   go_region
   go_wp2_with fail
   go_region_held3 (fun c=>c.cell? ⟨w.heap.size+1,0,none⟩=some (.int .i64 0)∧c.cell? ⟨L,1,none⟩=some (.pointer (some ⟨h.D,0,none⟩))∧c.cell? ⟨L,4,none⟩=some (.int .i64 b)) (first|exact ⟨Ac _ _ _,Ac _ _ _,Ac _ _ _⟩) (first
    |(go_at_call 50;with_reducible refine Calls.mono (H.out _ _ (Ae (Ad h s))) ?_;rintro e Z ⟨zz,rfl,P,hw5⟩;subst hw5))
   all_goals
    go_wp2_with fail
    with_reducible refine Calls.mono (B.out _ _ (Ae (Ad h s))) ?_
    rintro e w8 ⟨rfl,hw8⟩
    subst hw8
    go_wp2
    go_ret
    exact .inr (.inr ⟨y.out.1,R.out,rfl,CN (Cx _ _ _ _)⟩)
 have Q:p+q≤a:=by omega
 have h1: ¬(a:Int)<p:=by omega
 have hw:=hw1 (by omega)
 have U: ¬(a:Int)-p<q:=by omega
 have a2:Aside (p+q≤a∧a≤v.length∧a≤b):=⟨Q,by omega,by omega⟩
 have V: ¬(0:Int)≤g:=by omega
 have R:Aside (D4 (CJ s.ck.d b I 0) ⟨0,p,q,g⟩=true):=by
  show _=_
  unfold D4
  rw[y.out.2.1]
  apply decide_eq_true
  rw[y.out.2.2]
  simp only
  exact ⟨by omega,by omega,fun h=>absurd h V⟩
 have T:=Ek x
 clear j hs hm o hcut k x Q n hw1
 go_enter Tryz.func154,Tryz.ntmps154
 go_upto_region 1 with (fail)
 go_region
 go_wp2_with fail
 go_region
 go_wp2_with fail
 go_region_held3 (fun c=>c.cell? ⟨w.heap.size+1,0,none⟩=some (.int .i64 0)∧c.cell? ⟨L,1,none⟩=some (.pointer (some ⟨h.D,0,none⟩))∧c.cell? ⟨L,4,none⟩=some (.int .i64 b)) (first|exact ⟨Ac _ _ _,Ac _ _ _,Ac _ _ _⟩) (first
  |(go_at_call 50;with_reducible refine Calls.mono (H.out _ _ (Ae (Ad h s))) ?_;rintro e Z ⟨zz,rfl,P,hw5⟩;subst hw5))
 all_goals
  go_wp2_with fail
  with_reducible refine Calls.mono (B.out _ _ (Ae (Ad h s))) ?_
  rintro e w8 ⟨rfl,hw8⟩
  subst hw8
  go_wp2_with fail
  go_region
  go_wp2
  go_ret
  refine .inr (.inl ⟨R.out,rfl,CN ?_⟩)
  rw[←T.out]
  exact Cx _ _ _ _
theorem We[En](L M : Nat)(h : Th)(s : TS)(y B j : Int)(V k : Nat)(kn : List Ar)(F : Ab)(w : World)(hm : Ai ⟨1, y, B, j⟩ = true)(hI : NP s)(ho : V ≤ 1099511627776)(ht : k ≤ 1099511627776)
 (hf:Db s.ck.d EO∧Db s.ck.d EJ) (hs:Sat (Ad h s*(Sl.block L Q1 [.pointer (some ⟨h.t,0,none⟩),.pointer (some ⟨h.D,0,none⟩),.string EO,.string EJ,.int .i64 V,.int .i64 k,.map (some M)]*(mp DS M (FE kn)*F))) w):
 Calls Tryz.prog 154 #[.pointer (some ⟨L,0,none⟩),.agg #[.int .i64 1,.int .i64 y,.int .i64 B,.int .i64 j]] w (Oo L M h s ⟨1,y,B,j⟩ V k kn F):=by
 have a7:=Cl.1 hm
 simp only at a7
 have l1: ∀(w:World){A:Ab}{ms:List (Ar×Value)}[AV A w][DM A M DS ms],(Instr.lookup W' (.map (some M)) (.agg #[.int .i64 1,.int .i64 y,.int .i64 B,.int .i64 j]) false).run Tryz.prog w= .ok ((Cp ⟨1,y,B,j⟩ ms).getD (.bool false)) w:=fun w A ms i1 i2=>Yc w M ⟨1,y,B,j⟩
 have p1: ∀(w:World){A:Ab}{ms:List (Ar×Value)}[AV A w][DM A M DS ms],(Instr.mapUpdate W' (.map (some M)) (.agg #[.int .i64 1,.int .i64 y,.int .i64 B,.int .i64 j]) (.bool true)).run Tryz.prog w= .ok () (Gt Tryz.prog W' M (DS ⟨1,y,B,j⟩) (.bool true) w):=fun w A ms i1 i2=>cL w M ⟨1,y,B,j⟩ (.bool true)
 have hg:=M7 ⟨1,y,B,j⟩ kn
 have P:=M9 ⟨1,y,B,j⟩ kn
 obtain ⟨p,rfl⟩: ∃p:Nat,y=p:=⟨y.toNat,by omega⟩
 obtain ⟨q,rfl⟩: ∃q:Nat,B=q:=⟨B.toNat,by omega⟩
 obtain ⟨r,m⟩:=Aq (Ay s.ck.d EJ)
 have hcut:CJ s.ck.d V k 1=r.take k:=by unfold CJ;simp[m]
 obtain ⟨l,x⟩:=Aq ((r.take k).length)
 have a4:l=min k r.length:=by rw[←x,List.length_take]
 have a5:r.length≤1099511627776:=by
  rw[←m]
  cases K:s.ck.d.get EJ with
  |none=>unfold Ay;rw[K];simp[Dk.Jo]
  |some f=>unfold Ay;rw[K];exact (hI.ok.dk.sz _ (He K)).1
 have J:Aside (∀F w,Sat (Ad h s*F) w→Calls Tryz.prog 50 #[.pointer (some ⟨h.D,0,none⟩),.string EJ] w fun e b=> ∃z:Int,e= .returned (.int .i64 z)∧max 0 z=(r.length:Int)∧w=b):=fun F w q=>(Lg h s EJ F w q (by decide)).mono fun e b ⟨h1,h2⟩=>⟨_,h1,by rw[←m];exact Kg hf.2,h2⟩
 have H:Aside (∀F w,Sat (Ad h s*F) w→Calls Tryz.prog 42 #[.pointer (some ⟨h.D,0,none⟩)] w fun e b=>e= .returned (.bool false)∧w=b):=fun F w q=>by
  obtain ⟨G,g1,g2⟩:=RY q
  have:=RB h.D s.ck.d _ w g1
  rwa [hf.1.down] at this
 have hw1:p≤l→IntKind.i64.wrap ((l:Int)-p)=(l:Int)-p:=fun _=>IntWalk.i64_in _ (by omega)
 haveI:=hs.i
 by_cases o:(⟨1,(p:Int),(q:Int),j⟩:Ar)∈kn
 · rw[decide_eq_true o] at hg
   have I:=Ek o
   clear o hs a7 hm hw1 x a4 hcut m a5 P p1
   go_enter Tryz.func154,Tryz.ntmps154
   go_upto_region 1 with (fail)
   go_region
   go_wp2
   go_ret
   exact .inl ⟨I.out,rfl,CN (Cx _ _ _ _)⟩
 rw[decide_eq_false o] at hg
 have I:Aside (¬(⟨1,(p:Int),(q:Int),j⟩:Ar)∈kn∧CJ s.ck.d V k 1=r.take k∧(r.take k).length=l):=⟨o,hcut,x⟩
 have au:min (k:Int) (r.length:Int)=(l:Int):=by omega
 by_cases u:l<p∨l-p<q
 · have Q:Aside (D4 (CJ s.ck.d V k 1) ⟨1,p,q,j⟩=false):=by
    show _=_
    unfold D4
    rw[I.out.2.1]
    apply decide_eq_false
    rw[I.out.2.2]
    simp only
    omega
   clear o hs hm x hcut m P p1
   have O:p≤l→IntKind.i64.wrap ((l:Int)-p)=(l:Int)-p:=fun _=>IntWalk.i64_in _ (by omega)
   by_cases h1:(l:Int)<p
   · clear u hw1 O
     go_enter Tryz.func154,Tryz.ntmps154
     go_upto_region 1 with (fail)
     go_region
     go_wp2_with fail
     go_region
     go_wp2_with fail
     go_region_held3 (fun b=>b.cell? ⟨w.heap.size+1,0,none⟩=some (.int .i64 1)∧b.cell? ⟨L,1,none⟩=some (.pointer (some ⟨h.D,0,none⟩))∧b.cell? ⟨L,5,none⟩=some (.int .i64 k)) (first|exact ⟨Ac _ _ _,Ac _ _ _,Ac _ _ _⟩) (first
      |(go_at_call 50;with_reducible refine Calls.mono (J.out _ _ (Ae (Ad h s))) ?_;rintro e w5 ⟨zz,rfl,U,hw5⟩;subst hw5))
     all_goals
      go_wp2_with fail
      with_reducible refine Calls.mono (H.out _ _ (Ae (Ad h s))) ?_
      rintro e w8 ⟨rfl,hw8⟩
      subst hw8
      go_wp2
      go_ret
      exact .inr (.inr ⟨I.out.1,Q.out,rfl,CN (Cx _ _ _ _)⟩)
   have h2:(l:Int)-p<q:=by omega
   have hw:=O (by omega)
   clear u hw1 O
   go_enter Tryz.func154,Tryz.ntmps154
   go_upto_region 1 with (fail)
   go_region
   go_wp2_with fail
   go_region
   go_wp2_with fail
   go_region_held3 (fun b=>b.cell? ⟨w.heap.size+1,0,none⟩=some (.int .i64 1)∧b.cell? ⟨L,1,none⟩=some (.pointer (some ⟨h.D,0,none⟩))∧b.cell? ⟨L,5,none⟩=some (.int .i64 k)) (first|exact ⟨Ac _ _ _,Ac _ _ _,Ac _ _ _⟩) (first
    |(go_at_call 50;with_reducible refine Calls.mono (J.out _ _ (Ae (Ad h s))) ?_;rintro e w5 ⟨zz,rfl,U,hw5⟩;subst hw5))
   all_goals
    go_wp2_with fail
    with_reducible refine Calls.mono (H.out _ _ (Ae (Ad h s))) ?_
    rintro e w8 ⟨rfl,hw8⟩
    subst hw8
    go_wp2
    go_ret
    exact .inr (.inr ⟨I.out.1,Q.out,rfl,CN (Cx _ _ _ _)⟩)
 have X:p+q≤l:=by omega
 have h1: ¬(l:Int)<p:=by omega
 have hw:=hw1 (by omega)
 have h2: ¬(l:Int)-p<q:=by omega
 have am:Aside (p+q≤l∧l≤r.length∧l≤k):=⟨X,by omega,by omega⟩
 have a0:Aside ((((r.take k).drop p).take q)=(r.drop p).take q):=by
  show _=_
  rw[List.drop_take,List.take_take,Nat.min_eq_left (by omega)]
 have a1:=Ek P
 by_cases a8:0≤j
 · have W : Aside (∀ F w, Sat (Ad h s * F) w → Calls Tryz.prog 49 #[.pointer (some ⟨h.D, 0, none⟩), .string EJ, .int .i64 (p : Int), .int .i64 (q : Int)] w fun e b => ∃(a : Option Addr)(c : Nat), e = .returned (.tuple #[.slice a q c, .int .i64 0]) ∧ Sat (rw TB 1 (.slice a q c) (A0 ((r.drop p).take q)) * (Ad h s * F)) b) := fun F w g => by
    have ag:=YH m (by omega)
    have a6:((r.drop p).take q).length=q:=by rw[List.length_take,List.length_drop];omega
    refine (Wg h s EJ r p q F w g hI hf.1.down ag Rh (by omega)).mono ?_
    rintro e b ⟨v,rfl,g2⟩
    obtain ⟨a,n,c,rfl,h3,_⟩:=MP g2
    have hn:q=n:=by rw[Ca,a6] at h3;omega
    subst hn
    exact ⟨a,c,rfl,g2⟩
   obtain ⟨cut,T⟩:=Aq ((r.drop p).take q)
   have a3:cut.length=q:=by rw[←T,List.length_take,List.length_drop];omega
   have Z:Aside (∀(a:Option Addr)(c:Nat) F w,Sat (rw TB 1 (.slice a q c) (A0 cut)*F) w→Calls Tryz.prog 142 #[.slice a q c] w fun e b=>e= .returned (.int .i64 (DQ cut:Nat))∧Sat (rw TB 1 (.slice a q c) (A0 cut)*F) b):=fun a c F w g=>Sa _ cut F w g
   rw[T] at W
   have Q:Aside (D4 (CJ s.ck.d V k 1) ⟨1,p,q,j⟩=decide ((DQ cut:Int)=j)):=by
    show _=_
    unfold D4
    rw[I.out.2.1]
    have e1:(⟨1,(p:Int),(q:Int),j⟩:Ar).pos.toNat=p:=by simp
    have e2:(⟨1,(p:Int),(q:Int),j⟩:Ar).len.toNat=q:=by simp
    rw[e1,e2,a0.out,T,I.out.2.2]
    by_cases R:(DQ cut:Int)=j
    · rw[decide_eq_true R]
      exact decide_eq_true ⟨by simp only;omega,by simp only;omega,fun _=>R⟩
    rw[decide_eq_false R]
    exact decide_eq_false fun h=>R (h.2.2 a8)
   clear o hs hm x hcut m P X u hw1 T a3
   by_cases R:(DQ cut:Int)=j
   · rw [decide_eq_true R] at Q
     subst R
     go_enter Tryz.func154,Tryz.ntmps154
     go_upto_region 1 with (fail)
     go_region
     go_wp2_with fail
     go_region
     go_wp2_with fail
     go_region_held3 (fun b=>b.cell? ⟨w.heap.size+1,0,none⟩=some (.int .i64 1)∧b.cell? ⟨L,1,none⟩=some (.pointer (some ⟨h.D,0,none⟩))∧b.cell? ⟨L,5,none⟩=some (.int .i64 k)) (first|exact ⟨Ac _ _ _,Ac _ _ _,Ac _ _ _⟩) (first
      |(go_at_call 50;with_reducible refine Calls.mono (J.out _ _ (Ae (Ad h s))) ?_;rintro e w5 ⟨zz,rfl,U,hw5⟩;subst hw5))
     all_goals
      go_wp2_with fail
      with_reducible refine Calls.mono (H.out _ _ (Ae (Ad h s))) ?_
      rintro e w8 ⟨rfl,hw8⟩
      subst hw8
      go_wp2_with fail
      go_region_held3 (fun b=>b.cell? ⟨L,1,none⟩=some (.pointer (some ⟨h.D,0,none⟩))∧b.cell? ⟨w.heap.size+1,1,none⟩=some (.int .i64 (p:Int))∧b.cell? ⟨w.heap.size+1,2,none⟩=some (.int .i64 (q:Int))) (first|exact ⟨Ac _ _ _,Ac _ _ _,Ac _ _ _⟩) (first
       |(go_at_call 49;with_reducible refine Calls.mono (W.out _ _ (Ae (Ad h s))) ?_;rintro e w9 ⟨a9,c9,rfl,q9⟩;haveI:=q9.i))
      all_goals
       go_wp2_with fail
       go_region_held3 (fun b=>b.cell? ⟨w.heap.size,3,none⟩=some (.int .i64 (DQ cut:Nat))) (first|exact Ac _ _ _) (first
        |(go_at_call 142;with_reducible refine Calls.mono (Z.out a9 c9 _ _ (Ae (rw TB 1 (.slice a9 q c9) (A0 cut)))) ?_;rintro e ai ⟨rfl,Y⟩;haveI:=Y.i))
       all_goals
        go_wp2_with fail
        go_region
        go_wp2
        go_ret
        refine .inr (.inl ⟨Q.out,rfl,CN ?_⟩)
        rw[←a1.out]
        exact Cx _ _ _ _
   rw[decide_eq_false R] at Q
   have ar:((DQ cut:Int) !=j)=true:=by simp[R]
   go_enter Tryz.func154,Tryz.ntmps154
   go_upto_region 1 with (fail)
   go_region
   go_wp2_with fail
   go_region
   go_wp2_with fail
   go_region_held3 (fun b=>b.cell? ⟨w.heap.size+1,0,none⟩=some (.int .i64 1)∧b.cell? ⟨L,1,none⟩=some (.pointer (some ⟨h.D,0,none⟩))∧b.cell? ⟨L,5,none⟩=some (.int .i64 k)) (first|exact ⟨Ac _ _ _,Ac _ _ _,Ac _ _ _⟩) (first
    |(go_at_call 50;with_reducible refine Calls.mono (J.out _ _ (Ae (Ad h s))) ?_;rintro e w5 ⟨zz,rfl,U,hw5⟩;subst hw5))
   all_goals
    go_wp2_with fail
    with_reducible refine Calls.mono (H.out _ _ (Ae (Ad h s))) ?_
    rintro e w8 ⟨rfl,hw8⟩
    subst hw8
    go_wp2_with fail
    go_region_held3 (fun b=>b.cell? ⟨L,1,none⟩=some (.pointer (some ⟨h.D,0,none⟩))∧b.cell? ⟨w.heap.size+1,1,none⟩=some (.int .i64 (p:Int))∧b.cell? ⟨w.heap.size+1,2,none⟩=some (.int .i64 (q:Int))) (first|exact ⟨Ac _ _ _,Ac _ _ _,Ac _ _ _⟩) (first
     |(go_at_call 49;with_reducible refine Calls.mono (W.out _ _ (Ae (Ad h s))) ?_;rintro e w9 ⟨a9,c9,rfl,q9⟩;haveI:=q9.i))
    all_goals
     go_wp2_with fail
     go_region_held3 (fun b=>b.cell? ⟨w.heap.size,3,none⟩=some (.int .i64 j)) (first|exact Ac _ _ _) (first
      |(go_at_call 142;with_reducible refine Calls.mono (Z.out a9 c9 _ _ (Ae (rw TB 1 (.slice a9 q c9) (A0 cut)))) ?_;rintro e ai ⟨rfl,Y⟩;haveI:=Y.i))
     all_goals
      go_wp2
      go_ret
      exact .inr (.inr ⟨I.out.1,Q.out,rfl,CN (Cx _ _ _ _)⟩)
 have Q:Aside (D4 (CJ s.ck.d V k 1) ⟨1,p,q,j⟩=true):=by
  show _=_
  unfold D4
  rw[I.out.2.1]
  apply decide_eq_true
  rw[I.out.2.2]
  simp only
  exact ⟨by omega,by omega,fun h=>absurd h a8⟩
 clear o hs hm x hcut m P X u hw1
 go_enter Tryz.func154,Tryz.ntmps154
 go_upto_region 1 with (fail)
 go_region
 go_wp2_with fail
 go_region
 go_wp2_with fail
 go_region_held3 (fun b=>b.cell? ⟨w.heap.size+1,0,none⟩=some (.int .i64 1)∧b.cell? ⟨L,1,none⟩=some (.pointer (some ⟨h.D,0,none⟩))∧b.cell? ⟨L,5,none⟩=some (.int .i64 k)) (first|exact ⟨Ac _ _ _,Ac _ _ _,Ac _ _ _⟩) (first
  |(go_at_call 50;with_reducible refine Calls.mono (J.out _ _ (Ae (Ad h s))) ?_;rintro e w5 ⟨zz,rfl,U,hw5⟩;subst hw5))
 all_goals
  go_wp2_with fail
  with_reducible refine Calls.mono (H.out _ _ (Ae (Ad h s))) ?_
  rintro e w8 ⟨rfl,hw8⟩
  subst hw8
  go_wp2_with fail
  go_region
  go_wp2
  go_ret
  refine .inr (.inl ⟨Q.out,rfl,CN ?_⟩)
  rw[←a1.out]
  exact Cx _ _ _ _
end Go.Proofs.YtfhbmblbidcmmaaGreat
namespace Go.Tr
theorem VX{y x:Sn}{s:Int×Int×Int}{first:Bool}{k:Kd}(h:s.1≠k.bytes∨s.2.1≠k.lines∨s.2.2≠k.A7∨(first=false∧(y.h+1≠x.h∨meets x.last y.first=true))):FL y s first k x=none:=by
 unfold FL
 grind
theorem j7{y x:Sn}{s:Int×Int×Int}{first:Bool}{k:Kd}(h: ¬(s.1≠k.bytes∨s.2.1≠k.lines∨s.2.2≠k.A7∨(first=false∧(y.h+1≠x.h∨meets x.last y.first=true)))):(first=false→y.h+1=x.h)∧(1024<x.count+y.count→FL y s first k x=none)∧(¬1024<x.count+y.count→FL y s first k x=some ⟨y.h+1,x.count+y.count,if first then y.first else x.first,y.last⟩):=by
 simp only[not_or,Decidable.not_not,not_and] at h
 obtain ⟨h1,d,f,a⟩:=h
 have hs:s=(k.bytes,k.lines,k.A7):=by grind
 have b:first=false→y.h+1=x.h:=fun e=>(a e).1
 refine ⟨b,fun c=>?_,fun c=>?_⟩
 ·unfold FL
  simp_all
 unfold FL
 simp_all
end Go.Tr
namespace Go.Proofs.YtfhbmblbidcmmaaGreat
open Go.RowKit Go.Sl Go.Dk Go.Tr
open Go.PW (A8)
attribute [local go_sem] S9
theorem Kh{A R:Ab}{w:World}{b e:Nat}{c0 c1 c2 c3 c4 c5 c6 c7 c8 c9:Value}{v0 v1 v2 v3 v4 v5 v6 v7 v8 v9:Value}[AV A w][Take A (Sl.block b e [c0,c1,c2,c3,c4,c5,c6,c7,c8,c9]) R]:Sat (Sl.block b e [v0,v1,v2,v3,v4,v5,v6,v7,v8,v9]*R) ((((((((((w.setCell ⟨b,0,none⟩ v0).setCell ⟨b,1,none⟩ v1).setCell ⟨b,2,none⟩ v2).setCell ⟨b,3,none⟩ v3).setCell ⟨b,4,none⟩ v4).setCell ⟨b,5,none⟩ v5).setCell ⟨b,6,none⟩ v6).setCell ⟨b,7,none⟩ v7).setCell ⟨b,8,none⟩ v8).setCell ⟨b,9,none⟩ v9):=by
 have h0:Sat (Sl.block b e [c0,c1,c2,c3,c4,c5,c6,c7,c8,c9]*R) w:=Ae (Sl.block b e [c0,c1,c2,c3,c4,c5,c6,c7,c8,c9])
 have h1:=h0.Kk b 0 v0
 have c:=h1.Kk b 1 v1
 have d:=c.Kk b 2 v2
 have f:=d.Kk b 3 v3
 have g:=f.Kk b 4 v4
 have i:=g.Kk b 5 v5
 have j:=i.Kk b 6 v6
 have k:=j.Kk b 7 v7
 have l:=k.Kk b 8 v8
 have a:=l.Kk b 9 v9
 simp_all
theorem Ze(a b:Ar):(join [a,b]).length=if meets a b then 1 else 2:=by cases h:meets a b<;>simp[join,A6,h]
theorem WQ{b:Nat}(l:List Ar)(hl:l.length≤1000):Au (Sl.block b AG (AO l)) (.slice (some ⟨b,0,none⟩) l.length l.length) l:=by
 refine ⟨JR l,_,_,rfl,Nat.le_refl _,by omega,fun j u a=>⟨b,0,rfl,?_⟩⟩
 haveI:At (AO l) j u:=⟨a⟩
 rw[Nat.zero_add]
 exact inferInstance
theorem Qk(x y:Ar)(b b2:Nat)(F:Ab)(w:World)(hx:Ai x=true)(hy:Ai y=true)(hs:Sat (Sl.block b2 29 [.slice (some ⟨b,0,none⟩) 2 2]*(Sl.block b AG [.int .i64 x.src,.int .i64 x.pos,.int .i64 x.len,.int .i64 x.lines,.int .i64 y.src,.int .i64 y.pos,.int .i64 y.len,.int .i64 y.lines]*F)) w):
 Calls Tryz.prog 80 #[.slice (some ⟨b2,0,none⟩) 1 1] w fun e g=> ∃a c G,e= .returned (.slice a (if meets x y then 1 else 2) c)∧Sat (G*F) g:=by
 have h1:Au (Sl.block b AG (AO [x,y])) (.slice (some ⟨b,0,none⟩) 2 2) [x,y]:=WQ [x,y] (by simp)
 have k:=Cl.1 hx
 have l:=Cl.1 hy
 have d:=Ly [[x,y]] _ _ F w (J8 b2 h1) (hs.eq (by rw[show AO [x,y]= [.int .i64 x.src,.int .i64 x.pos,.int .i64 x.len,.int .i64 x.lines,.int .i64 y.src,.int .i64 y.pos,.int .i64 y.len,.int .i64 y.lines] from rfl];ac_rfl)) (by simp) (by simp) (by intro z f;simp at f;rcases f with rfl|rfl<;>assumption) (by simp[Aa];omega)
 rw[List.flatten_singleton,Ze] at d
 exact d.mono fun e g ⟨a,c,i,j⟩=>⟨a,c,_,i,j.eq (Ax _ _ _).symm⟩
theorem JY(h:Th)(s:TS)(a c b M:Nat)(K:List (Int×Sn))(F:Ab):Ad h s*(Gl a c b M h K*F)=Ad h s*(Sl.block a Lh [.map (some M)]*(Sl.block c Q2 [.pointer (some ⟨h.t,0,none⟩)]*(Sl.block b Q0 [.func (Fn.func 128) #[] #[.pointer (some ⟨a,0,none⟩),.pointer (some ⟨c,0,none⟩),.pointer (some ⟨b,0,none⟩)]]*(mp A8 M (kn K)*F)))):=by
 unfold Gl
 ac_rfl
theorem QX{A R R1 R2 d e:Ab}{w:World}[q:AV A w](h:Th)(s:TS)(a c b M:Nat)(K:List (Int×Sn))[t:Take A (Ad h s) R][t1:Take R (Sl.block a Lh [.map (some M)]) R1][t2:Take R1 (Sl.block c Q2 [.pointer (some ⟨h.t,0,none⟩)]) R2][t3:Take R2 (Sl.block b Q0 [.func (Fn.func 128) #[] #[.pointer (some ⟨a,0,none⟩),.pointer (some ⟨c,0,none⟩),.pointer (some ⟨b,0,none⟩)]]) d][t4:Take d (mp A8 M (kn K)) e]:Sat (Ad h s*(Gl a c b M h K*e)) w:=
 q.out.eq (by rw[t.out,t1.out,t2.out,t3.out,t4.out];unfold Gl;ac_rfl)
variable [En]
def gU(f:Nat)(lf:Bool):Prop:= ∀(V:Int→Option Nd)(N:Nat)(h:Th)(s:TS)(m:Nat)(K:List (Int×Sn))(no:Int)(top:Bool)(a c b M:Nat)(F:Ab)(w:World),(∀n,V no=some n→n.leaf=lf)→f≤13→no≠0→Kn V K→(∀p n,V p=some n→may n=true∧p<N)→Dp V m s→13*fr N K+13*(f+1)≤m→
 Sat (Ad h s*(Gl a c b M h K*F)) w→Calls Tryz.prog 128 #[.int .i64 no,.bool top,.int .i64 (13-(f:Int)),.pointer (some ⟨a,0,none⟩),.pointer (some ⟨c,0,none⟩),.pointer (some ⟨b,0,none⟩)] w (Li V N h a c b M f m s K no top F)
structure lS (V:Int→Option Nd) (N f g:Nat) (n:Nd) (lf:Bool) (m1:Nat) (s:TS) (K:List (Int×Sn)) (x0:Sn) (gg lk j m3:Nat) (s3:TS) (K3:List (Int×Sn)) (x:Sn):Prop where
 jN:gg=lk-j
 Qq:Dp V m3 s3
 sp:s3.sp=s.sp
 d:s3.ck.d=s.ck.d
 kn:Kn V K3
 mO:m1+13*fr N K3≤m3+j+13*fr N K
 run:lf=false→VG V g n j x
 k0:j=0→K3=K
 bG: ∀q∈K3,q∈K∨q.2.h+1≤x.h
 zero:j=0→x=x0
 oA:0≤x.count∧x.count≤1036
 dW:0≤x.h∧x.h≤1036
 low:0<j→Ai x.last=true∧(K= []→x.h<f)
