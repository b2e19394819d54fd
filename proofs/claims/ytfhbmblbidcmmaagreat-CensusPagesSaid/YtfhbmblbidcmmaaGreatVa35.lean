/- censusPages holds for every input. No condition. (part 35) -/
import Derived.Test.YtfhbmblbidcmmaaGreatVa33
import Derived.Test.YtfhbmblbidcmmaaGreatVa34
set_option linter.all false
set_option maxRecDepth 100000
set_option maxHeartbeats 3200000
namespace Go.Proofs.YtfhbmblbidcmmaaGreat
open Go.RowKit Go.Sl Go.Dk Go.Tr
theorem Zf{l:List Kd}(h: ∀x∈l,AB x=true):0≤Bd l∧0≤Bl l:=by induction l with
 |nil=>exact ⟨by simp[Bd],by simp[Bl]⟩
 | cons a l c =>
  have b:=Ec (h a (List.mem_cons_self ..))
  grind [Bd,Bl]
theorem R9(n:Nd):0≤(AR n).1∧(AR n).1≤1048576∧0≤(AR n).2.2∧(AR n).2.2≤1036:=by
 unfold AR
 by_cases hm:may n=true
 ·rw[if_pos hm]
  obtain ⟨a,b⟩:=Dx hm
  obtain ⟨l1,l2⟩:=Cm hm
  have c:=Bq fun x hx=>(a x hx).2
  obtain ⟨d,e⟩:=Zf fun x hx=>(b x hx).2
  unfold may at hm
  grind
 simp_all
theorem JA{σ:Type}{rd:Int→M σ Nd} : ∀(f:Nat)(n:Nd)(h:Int)(s:σ)(r:Int)(s':σ),C7 rd f n h s= .ok r s'→h≤r∧r≤h+f
 | 0, n, h, s, r, s', e => by
  unfold C7 at e
  split at e
  ·cases e;omega
  cases e
 | f + 1, n, h, s, r, s', e => by
  unfold C7 at e
  split at e
  ·cases e;omega
  cases a:n.kids with
  |nil=>rw[a] at e;cases e
  | cons k l =>
   rw[a] at e
   obtain ⟨m,s1,c,b⟩:=A1 e
   have:=JA f m (h+1) s1 r s' b
   omega
theorem SM{root:Int}{s s':TS}{x:BJ}(e:EC Ah root s= .ok x s'): -1≤x.Am∧x.Am≤20∧0≤x.E8.A7∧x.E8.A7≤1036:=by
 unfold EC at e
 split at e
 ·cases e
  simp[C2,kQ]
 obtain ⟨n,s1,d,a⟩:=A1 e
 obtain ⟨h,s2,b,c⟩:=A1 a
 cases c
 have h1:=JA _ _ _ _ _ _ b
 have f:=R9 n
 grind [Js]
theorem OG: ∀(l:List Ar)(n a:Int),0≤a→a≤n→(∀x∈l,Ai x=true)→(match KG l n a with
 | .inl (.here x a')=>Ai x=true∧0≤a'∧a'≤n∧n<a'+x.len
 | .inl _=>False
 | .inr a'=>0≤a'∧a'≤n)
 | [],n,a,h1,c,b=>⟨h1,c⟩
 | x :: l, n, a, h1, c, b => by
  unfold KG
  have hx:=b x (List.mem_cons_self ..)
  have hl:=Eb hx
  by_cases d:n<a+x.len
  ·simp_all
  rw[if_neg d]
  exact OG l n (a+x.len) (by omega) (by omega) fun y hy=>b y (List.mem_cons_of_mem _ hy)
theorem OH: ∀(l:List Kd)(n a:Int),0≤a→a≤n→(∀x∈l,AB x=true)→(match M0 l n a with
 | .here _ _=>False
 | .below _ a'=>0≤a'∧a'≤n
 | .Z6=>True)
 | [],n,a,h1,c,b=>trivial
 | x :: l, n, a, h1, c, b => by
  unfold M0
  have hx:=Ec (b x (List.mem_cons_self ..))
  by_cases d:n<a+x.bytes
  ·simp_all
  rw[if_neg d]
  exact OH l n (a+x.bytes) (by omega) (by omega) fun y hy=>b y (List.mem_cons_of_mem _ hy)
theorem LY{σ:Type}{rd:Int→M σ Nd}(c: ∀p s n s',rd p s= .ok n s'→may n=true): ∀(f:Nat)(m:Nd)(n a:Int)(s:σ)(z:Ar×Int)(s':σ),may m=true→0≤a→a≤n→Eg rd f m n a s= .ok z s'→Ai z.1=true∧0≤z.2∧z.2≤n∧n<z.2+z.1.len
 |0,m,n,a,s,z,s',hm,h1,i,e=>by cases e
 | f + 1, m, n, a, s, z, s', hm, h1, i, e => by
  obtain ⟨o,q⟩:=Dx hm
  have b:=OG m.Ag n a h1 i fun x hx=>(o x hx).2
  unfold Eg YX at e
  cases j:KG m.Ag n a with
  | inl r =>
   rw[j] at b e
   cases r with
   |here x a'=>simp only at e b;cases e;exact b
   |below p a'=>exact b.elim
   |Z6=>exact b.elim
  | inr a' =>
   rw[j] at b e
   simp only at b e
   have b2:=OH m.kids n a' b.1 b.2 fun x hx=>(q x hx).2
   cases d:M0 m.kids n a' with
   |here x g=>rw[d] at b2;exact b2.elim
   |Z6=>rw[d] at e;cases e
   | below p g =>
    rw[d] at e b2
    obtain ⟨t,s1,k,l⟩:=A1 e
    exact LY c f t n g s1 z s' (c _ _ _ _ k) b2.1 b2.2 l
theorem IL{root n:Int}{s s':TS}{z:Ar×Int}(h:0≤n)(e:K0 Ah root n s= .ok z s'):Ai z.1=true∧0≤z.2∧z.2≤n∧n<z.2+z.1.len:=by
 obtain ⟨m,s1,a,b⟩:=A1 e
 exact LY (fun p s n s' h=>Et h) 22 m n 0 s1 z s' (Et a) (Int.le_refl _) h b
theorem IM{root:Int}{s s':TS}{z:Int}(e:FC Ah root s= .ok z s'):0≤z∧z≤1048576:=by
 unfold FC at e
 split at e
 ·cases e;omega
 obtain ⟨m,s1,b,a⟩:=A1 e
 cases a
 have:=R9 m
 omega
theorem Py(x:Ar)(a b:Int):(Go.Tr.part x a b).length≤1:=by grind [Go.Tr.part]
theorem Sh{root at_:Int}{s s':TS}{L:List Ar×Int}(h0:0≤at_)(e:Go.Tr.leftOf Ah root at_ s= .ok L s'):L.1.length≤1∧(∀y∈L.1,Ai y=true)∧0≤L.2∧L.2≤at_:=by
 unfold Go.Tr.leftOf at e
 split at e
 ·obtain ⟨z,s1,b,c⟩:=A1 e
  cases c
  obtain ⟨a,b2,d,f⟩:=IL (by omega) b
  exact ⟨Py _ _ _,LN a (Int.le_refl _) (by (try simp only);omega),b2,by (try simp only);omega⟩
 cases e
 exact ⟨by simp,fun y hy=>(List.not_mem_nil hy).elim,h0,Int.le_refl _⟩
theorem Qs{root a all:Int}{s s':TS}{R:List Ar×Int}(h0:0≤a)(e:Go.Tr.FT Ah root a all s= .ok R s'):R.1.length≤1∧(∀y∈R.1,Ai y=true)∧a≤R.2∧R.2≤a+1048576:=by
 unfold Go.Tr.FT at e
 split at e
 ·obtain ⟨z,s1,c,d⟩:=A1 e
  cases d
  obtain ⟨b,b2,f,g⟩:=IL h0 c
  have i:=Cl.1 b
  exact ⟨Py _ _ _,LN b (by omega) (Int.le_refl _),by (try simp only);omega,by (try simp only);omega⟩
 cases e
 grind
theorem Cz{l:List Ar}(h:Bf l=true):(∀x∈l,Ai x=true)∧Aa l≤1048576:=by
 rw[EH] at h
 simp only[Bool.and_eq_true,List.all_eq_true,decide_eq_true_eq] at h
 exact h
theorem Xp(h:Th)(s:TS)(root at_ n:Int)(put:List Ar)(v:Value)(B F:Ab)(w:World)(d:Au B v put)(hs:Sat (Ad h s*(B*F)) w)(hl:put.length≤65536)(hm:Bf put=false):
 Calls Tryz.prog 33 #[.pointer (some ⟨h.t,0,none⟩),.int .i64 root,.int .i64 at_,.int .i64 n,v] w fun e l=>e= .returned (On 0 1)∧Sat (Ad h s*(B*F)) l:=by
 have j: ∀(b:Fn)(first cap:Array Value)(w:World),(Instr.makeFunc b first cap).run Tryz.prog w= .ok (.func b first cap) w:=fun _ _ _ _=>rfl
 obtain ⟨m,c0,rfl,f,g⟩:=d.v
 have a:=fun F w q=>Gz put _ B F w d q (by omega)
 rw[hm] at a
 have c:Sat (B*(Ad h s*F)) w:=hs.eq (by ac_rfl)
 haveI:=c.i
 unfold On
 clear hs c
 go_enter_defers Tryz.func33,Tryz.ntmps33
 go_wp2_with fail
 with_reducible refine Calls.mono (a _ _ (Ae B)) ?_
 rintro e o ⟨rfl,k⟩
 haveI:=k.i
 go_wp2
 simp[bodyPostD,Leaves,settle,results,Tryz.results33,go_sem]
 exact AD _ _ _
theorem SY(h:Th)(s:TS)(root at_ n:Int)(put:List Ar)(v:Value)(B F:Ab)(w:World)(g:Au B v put)(hs:Sat (Ad h s*(B*F)) w)(hl:put.length≤65536)(hm:Bf put=true)(all:Int)(s1:TS)(c:FC Ah root s= .ok all s1)(b:at_<0∨n<0∨all<at_∨all-at_<n):
 Calls Tryz.prog 33 #[.pointer (some ⟨h.t,0,none⟩),.int .i64 root,.int .i64 at_,.int .i64 n,v] w fun e r=>e= .returned (On 0 2)∧Sat (Ad h s1*(B*F)) r:=by
 have l: ∀(d:Fn)(first cap:Array Value)(w:World),(Instr.makeFunc d first cap).run Tryz.prog w= .ok (.func d first cap) w:=fun _ _ _ _=>rfl
 obtain ⟨u,c0,rfl,j,k⟩:=g.v
 have a:=fun F w q=>Gz put _ B F w g q (by omega)
 rw[hm] at a
 have f:Sat (B*(Ad h s*F)) w:=hs.eq (by ac_rfl)
 haveI:=f.i
 have c1:=fun F w q=>Ib h s root F w q (by rw[c];simp)
 rw[c] at c1
 have m:=IM c
 unfold On
 clear hs f
 go_enter_defers Tryz.func33,Tryz.ntmps33
 go_wp2_with fail
 with_reducible refine Calls.mono (a _ _ (Ae B)) ?_
 rintro e G ⟨rfl,o⟩
 haveI:=o.i
 go_wp2_with fail
 with_reducible refine Calls.mono (c1 _ _ (Ae (Ad h s))) ?_
 rintro e H ⟨rfl,p⟩
 haveI:=p.i
 unfold On
 by_cases x:at_<0
 ·clear b
  go_wp2
  simp[bodyPostD,Leaves,settle,results,Tryz.results33,go_sem]
  exact AD _ _ _
 by_cases y:n<0
 ·clear b
  go_wp2
  simp[bodyPostD,Leaves,settle,results,Tryz.results33,go_sem]
  exact AD _ _ _
 by_cases z:all<at_
 ·clear b
  go_wp2
  simp[bodyPostD,Leaves,settle,results,Tryz.results33,go_sem]
  exact AD _ _ _
 have D:all-at_<n:=by omega
 have hw:=Bg (all-at_) (by omega)
 clear b
 go_wp2
 simp[bodyPostD,Leaves,settle,results,Tryz.results33,go_sem]
 exact AD _ _ _
theorem Xn(h:Th)(s:TS)(root at_ n:Int)(put:List Ar)(v:Value)(B F:Ab)(w:World)(g:Au B v put)(hs:Sat (Ad h s*(B*F)) w)(hl:put.length≤65536)(hm:Bf put=true)(all:Int)(s1:TS)(l:FC Ah root s= .ok all s1)(M: ¬at_<0)(O: ¬n<0)(P: ¬all<at_)(Q: ¬all-at_<n)(G:1048576<all-n+Aa put):
 Calls Tryz.prog 33 #[.pointer (some ⟨h.t,0,none⟩),.int .i64 root,.int .i64 at_,.int .i64 n,v] w fun e K=>e= .returned (On 0 10)∧Sat (Ad h s1*(B*F)) K:=by
 have z: ∀(o:Fn)(first cap:Array Value)(w:World),(Instr.makeFunc o first cap).run Tryz.prog w= .ok (.func o first cap) w:=fun _ _ _ _=>rfl
 obtain ⟨L,c0,rfl,u,y⟩:=g.v
 have f:=fun F w q=>Gz put _ B F w g q (by omega)
 rw[hm] at f
 have p:Sat (B*(Ad h s*F)) w:=hs.eq (by ac_rfl)
 haveI:=p.i
 have c1:=fun F w q=>Ib h s root F w q (by rw[l];simp)
 rw[l] at c1
 have D:=IM l
 have a:=Cz hm
 have b:=fun x hx=>Eb (a.1 x hx)
 have j:=Bq a.1
 have c:=fun F w q=>MT put _ B F w g q (by omega) (fun x hx=>by have:=b x hx;have:=Cl.1 (a.1 x hx);omega)
 have hw:=Bg (all-at_) (by omega)
 have hw2:=Bg (all-n) (by omega)
 obtain ⟨m,k⟩:=Aq (Aa put)
 rw[k] at c a j G
 obtain ⟨d,r⟩:=a
 have hw3:=Bg (all-n+m) (by omega)
 clear d b
 unfold On
 clear hs p
 go_enter_defers Tryz.func33,Tryz.ntmps33
 go_wp2_with fail
 with_reducible refine Calls.mono (f _ _ (Ae B)) ?_
 rintro e R ⟨rfl,H⟩
 haveI:=H.i
 go_wp2_with fail
 with_reducible refine Calls.mono (c1 _ _ (Ae (Ad h s))) ?_
 rintro e T ⟨rfl,I⟩
 haveI:=I.i
 unfold On
 go_wp2_with fail
 with_reducible refine Calls.mono (c _ _ (Ae B)) ?_
 rintro e U ⟨rfl,J⟩
 haveI:=J.i
 go_wp2
 simp[bodyPostD,Leaves,settle,results,Tryz.results33,go_sem]
 exact AD _ _ _
theorem Vu(h:Th)(s:TS)(root at_ n:Int)(put:List Ar)(v:Value)(B F:Ab)(w:World)(g:Au B v put)(hs:Sat (Ad h s*(B*F)) w)(hl:put.length≤65536)(hm:Bf put=true)(all:Int)(s1:TS)(l:FC Ah root s= .ok all s1)(O: ¬at_<0)(P: ¬n<0)(Q: ¬all<at_)(R: ¬all-at_<n)(H: ¬1048576<all-n+Aa put)(D:n=0)(hp:put= []):
 Calls Tryz.prog 33 #[.pointer (some ⟨h.t,0,none⟩),.int .i64 root,.int .i64 at_,.int .i64 n,v] w fun e L=>e= .returned (On root 0)∧Sat (Ad h s1*(B*F)) L:=by
 have z: ∀(o:Fn)(first cap:Array Value)(w:World),(Instr.makeFunc o first cap).run Tryz.prog w= .ok (.func o first cap) w:=fun _ _ _ _=>rfl
 obtain ⟨M,c0,rfl,u,y⟩:=g.v
 have f:=fun F w q=>Gz put _ B F w g q (by omega)
 rw[hm] at f
 have p:Sat (B*(Ad h s*F)) w:=hs.eq (by ac_rfl)
 haveI:=p.i
 have c1:=fun F w q=>Ib h s root F w q (by rw[l];simp)
 rw[l] at c1
 have G:=IM l
 have a:=Cz hm
 have b:=fun x hx=>Eb (a.1 x hx)
 have j:=Bq a.1
 have c:=fun F w q=>MT put _ B F w g q (by omega) (fun x hx=>by have:=b x hx;have:=Cl.1 (a.1 x hx);omega)
 have hw:=Bg (all-at_) (by omega)
 have hw2:=Bg (all-n) (by omega)
 obtain ⟨m,k⟩:=Aq (Aa put)
 rw[k] at c a j H
 obtain ⟨d,r⟩:=a
 have hw3:=Bg (all-n+m) (by omega)
 clear d b
 subst hp
 subst D
 unfold On
 clear hs p
 go_enter_defers Tryz.func33,Tryz.ntmps33
 go_wp2_with fail
 with_reducible refine Calls.mono (f _ _ (Ae B)) ?_
 rintro e T ⟨rfl,I⟩
 haveI:=I.i
 go_wp2_with fail
 with_reducible refine Calls.mono (c1 _ _ (Ae (Ad h s))) ?_
 rintro e U ⟨rfl,J⟩
 haveI:=J.i
 unfold On
 go_wp2_with fail
 with_reducible refine Calls.mono (c _ _ (Ae B)) ?_
 rintro e V ⟨rfl,K⟩
 haveI:=K.i
 go_wp2
 simp[bodyPostD,Leaves,settle,results,Tryz.results33,go_sem]
 exact AD _ _ _
variable [En]
def FQ:ByteArray:=⟨#[115,116,111,114,101]⟩
end Go.Proofs.YtfhbmblbidcmmaaGreat
namespace Go.Proofs.YtfhbmblbidcmmaaGreat
open Go.RowKit Go.Sl Go.Dk Go.Tr
variable [En]
theorem bF(C S:Nat)(F:Ab)(w:World)(hs:Sat F w):
 Calls Tryz.prog 47 #[.pointer (some ⟨C,0,none⟩),.pointer (some ⟨S,0,none⟩)] w fun e a=> ∃t:Nat,e= .returned (.tuple #[.pointer (some ⟨t,0,none⟩),.int .i64 0])∧Sat (Sl.block t Tn [.pointer (some ⟨C,0,none⟩),.pointer (some ⟨S,0,none⟩)]*F) a:=by
 haveI:=hs.i
 go_enter Tryz.func47,Tryz.ntmps47
 go_wp2
 go_ret2
 exact ⟨_,rfl,Ao _ _⟩
end Go.Proofs.YtfhbmblbidcmmaaGreat
namespace Go.Proofs.YtfhbmblbidcmmaaGreat
open Go.RowKit Go.Sl Go.Dk Go.Tr
instance nY:En:=⟨65000,by omega⟩
def VH(O:List UInt8):Dk:=⟨16777216,0,0,false,false,[(EO,⟨O,O,true⟩)],[]⟩
def Jk(O T:List UInt8):Dk:=⟨16777216,0,0,false,false,[(EO,⟨O,O,true⟩),(EJ,⟨T,T,true⟩)],[]⟩
theorem jQ:EJ≠EO:=by decide+kernel
theorem jO:FQ≠EO:=by decide+kernel
theorem jP:FQ≠EJ:=by decide+kernel
theorem Ug(O:List UInt8)(f:O.length≤3000):(Dk.new 16777216).load EO O=(0,VH O):=by
 have h1:(Dk.new 16777216).fits ((Dk.new 16777216).get EO) O.length=0:=by
  unfold Dk.fits
  have a:(Dk.new 16777216).get EO=none:=rfl
  have b:(Dk.new 16777216).files= []:=rfl
  have c:(Dk.new 16777216).room=16777216:=rfl
  rw[a,b,c]
  have d:sum ([]:List (ByteArray×Fl))=0:=rfl
  have e:Fi none=0:=rfl
  rw[d,e,if_neg (by simp),if_neg (by simp;omega)]
 unfold Dk.load
 rw[if_neg (by simp[Zy]),h1,if_neg (by simp)]
 rfl
theorem Uh(O T:List UInt8)(i:O.length≤3000)(j:T.length≤3000):(VH O).load EJ T=(0,Jk O T):=by
 have a:(VH O).get EJ=none:=by
  show D7 EJ [(EO,_)]=none
  unfold D7
  rw[if_neg jQ]
  rfl
 have h1:(VH O).fits ((VH O).get EJ) T.length=0:=by
  unfold Dk.fits
  have b:sum (VH O).files=O.length:=by simp[VH,sum]
  have c:(VH O).room=16777216:=rfl
  have d:Fi none=0:=rfl
  have e:(VH O).files.length=1:=rfl
  rw[a,b,c,d,e,if_neg (by simp),if_neg (by simp;omega)]
 unfold Dk.load
 rw[if_neg (by simp[Rh]),h1,if_neg (by simp)]
 have f:D9 EJ (⟨T,T,true⟩:Fl) (VH O).files= [(EO,⟨O,O,true⟩),(EJ,⟨T,T,true⟩)]:=by
  show D9 EJ _ [(EO,_)]=_
  unfold D9
  rw[if_neg jQ]
  rfl
 show ((0:Int),Dk.put ((VH O).settled EJ) EJ ⟨T,T,true⟩)=_
 unfold Dk.put
 have g:((VH O).settled EJ).files=(VH O).files:=rfl
 rw[g,f]
 rfl
theorem hS(O T:List UInt8):(Jk O T).get EO=some ⟨O,O,true⟩:=by
 show D7 EO [(EO,_),(EJ,_)]=_
 unfold D7
 rw[if_pos rfl]
theorem hW(O T:List UInt8):(Jk O T).get EJ=some ⟨T,T,true⟩:=by
 show D7 EJ [(EO,_),(EJ,_)]=_
 unfold D7
 rw[if_neg jQ]
 unfold D7
 rw[if_pos rfl]
theorem r9(O T:List UInt8):(Jk O T).get FQ=none:=by
 show D7 FQ [(EO,_),(EJ,_)]=_
 unfold D7
 rw[if_neg jO]
 unfold D7
 rw[if_neg jP]
 rfl
def NW(O T:List UInt8)(cap:Int):Ck:=⟨FQ,cap,0,Jk O T,[],[]⟩
def Mj(O T:List UInt8)(cap:Int):TS:=⟨NW O T cap,Sp.new 1,0⟩
theorem l9(O:List UInt8)(a:O.length≤3000):Ok 0 (VH O):=by
 have:=Yi (bJ 16777216 (by omega) (by unfold Mn;omega)) EO O
 rw[Ug O a] at this
 exact this
theorem eP(O T:List UInt8)(a:O.length≤3000)(b:T.length≤3000):Ok 0 (Jk O T):=by
 have:=Yi (l9 O a) EJ T
 rw[Uh O T a b] at this
 exact this
theorem jB(O T:List UInt8)(cap:Int)(a:O.length≤3000)(b:T.length≤3000)(c:1≤cap)(d:cap≤4096):Bn 0 (NW O T cap):=
 ⟨⟨by simp[NW,D5],by simp[NW],by simp[NW]⟩,by simp[NW],fun k=>by simp[NW,Bw,BH],rfl,by simp[NW],by simp only[NW];omega,by simp[NW];omega,eP O T a b,(by show Dk.named FQ=true;decide+kernel),by simp[NW]⟩
theorem Tc(O T:List UInt8)(cap:Int)(i:O.length≤3000)(j:T.length≤3000)(f:1≤cap)(g:cap≤4096):GP true (Mj O T cap) where
 ts:=⟨⟨0,jB O T cap i j f g⟩,by
  have e:(Ay (NW O T cap).d (NW O T cap).nm)= []:=by
   show ((Jk O T).get FQ|>.getD Dk.Jo).now= []
   rw[r9];rfl
  exact ⟨Int.le_refl _,Int.le_refl _,Nat.zero_le _,Int.le_refl _,by show (Ay (NW O T cap).d (NW O T cap).nm).length≤_;rw[e];simp⟩,by unfold Mj BG;simp,by simp[Mj,Sp.new],by simp[Mj,Sp.new]⟩
 Bo:=⟨⟨rfl,rfl,(by show Dk.named FQ=true;decide+kernel),by show 2+(if ((Jk O T).get FQ).isSome then 0 else 1)≤8;split<;>omega⟩,by simp[Mj,NW],by simp[Mj,NW],⟨by
  have e:(Ay (NW O T cap).d (NW O T cap).nm)= []:=by
   show ((Jk O T).get FQ|>.getD Dk.Jo).now= []
   rw[r9];rfl
  show (Ay (NW O T cap).d (NW O T cap).nm).length≤_;rw[e];simp,by simp[Mj,NW]⟩⟩
 res:=by simp[Mj,Sp.new]
 used:=by simp[Mj,Sp.new]
 roomy h:=by
  unfold Roomy Je
  show ((sum (Jk O T).files:Nat):Int)-Fi ((Jk O T).get FQ)+((256*VL:Nat):Int)≤16777216
  rw[r9]
  have a:sum (Jk O T).files=O.length+T.length:=by simp[Jk,sum]
  have b:Fi none=0:=rfl
  have c:VL=65000:=rfl
  rw[a,b,c]
  omega
theorem V1(O T:List UInt8)(cap:Int):CB (Mj O T cap).sp=64999:=by
 have a:VL=65000:=rfl
 simp[CB,Mj,Sp.new,a]
