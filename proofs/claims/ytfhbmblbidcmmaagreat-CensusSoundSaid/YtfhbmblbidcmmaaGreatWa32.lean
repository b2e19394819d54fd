/- censusSound holds for every input. No condition. (part 32) -/
import Derived.Test.YtfhbmblbidcmmaaGreatWa30
import Derived.Test.YtfhbmblbidcmmaaGreatWa31
set_option linter.all false
set_option maxRecDepth 100000
set_option maxHeartbeats 12800000
namespace Go.Proofs.YtfhbmblbidcmmaaGreat
open Go.RowKit Go.Sl Go.Dk Go.Tr
theorem YR{l:List Kd}(h: ∀x∈l,AE x=true):0≤Bc l∧0≤Bj l:=by induction l with
 |nil=>exact ⟨by simp[Bc],by simp[Bj]⟩
 | cons a l c =>
  have b:=Ed (h a (List.mem_cons_self ..))
  grind [Bc,Bj]
theorem R3(n:Nd):0≤(AZ n).1∧(AZ n).1≤1048576∧0≤(AZ n).2.2∧(AZ n).2.2≤1036:=by
 unfold AZ
 by_cases hm:may n=true
 ·rw[if_pos hm]
  obtain ⟨a,b⟩:=Ds hm
  obtain ⟨l1,l2⟩:=Cn hm
  have c:=Bo fun x hx=>(a x hx).2
  obtain ⟨d,e⟩:=YR fun x hx=>(b x hx).2
  unfold may at hm
  grind
 simp_all
theorem JF{σ:Type}{rd:Int→M σ Nd} : ∀(f:Nat)(n:Nd)(h:Int)(s:σ)(r:Int)(s':σ),C6 rd f n h s= .ok r s'→h≤r∧r≤h+f
 | 0, n, h, s, r, s', e => by
  unfold C6 at e
  split at e
  ·cases e;omega
  cases e
 | f + 1, n, h, s, r, s', e => by
  unfold C6 at e
  split at e
  ·cases e;omega
  cases a:n.kids with
  |nil=>rw[a] at e;cases e
  | cons k l =>
   rw[a] at e
   obtain ⟨m,s1,c,b⟩:=A5 e
   have:=JF f m (h+1) s1 r s' b
   omega
theorem SB{root:Int}{s s':TS}{x:BK}(e:EB Ak root s= .ok x s'): -1≤x.Al∧x.Al≤20∧0≤x.ER.AA∧x.ER.AA≤1036:=by
 unfold EB at e
 split at e
 ·cases e
  simp[C0,kC]
 obtain ⟨n,s1,d,a⟩:=A5 e
 obtain ⟨h,s2,b,c⟩:=A5 a
 cases c
 have h1:=JF _ _ _ _ _ _ b
 have f:=R3 n
 grind [KH]
theorem OE: ∀(l:List Av)(n a:Int),0≤a→a≤n→(∀x∈l,Ah x=true)→(match M4 l n a with
 | .inl (.here x a')=>Ah x=true∧0≤a'∧a'≤n∧n<a'+x.len
 | .inl _=>False
 | .inr a'=>0≤a'∧a'≤n)
 | [],n,a,h1,c,b=>⟨h1,c⟩
 | x :: l, n, a, h1, c, b => by
  unfold M4
  have hx:=b x (List.mem_cons_self ..)
  have hl:=Ec hx
  by_cases d:n<a+x.len
  ·simp_all
  rw[if_neg d]
  exact OE l n (a+x.len) (by omega) (by omega) fun y hy=>b y (List.mem_cons_of_mem _ hy)
theorem OH: ∀(l:List Kd)(n a:Int),0≤a→a≤n→(∀x∈l,AE x=true)→(match OG l n a with
 | .here _ _=>False
 | .below _ a'=>0≤a'∧a'≤n
 | .Zs=>True)
 | [],n,a,h1,c,b=>trivial
 | x :: l, n, a, h1, c, b => by
  unfold OG
  have hx:=Ed (b x (List.mem_cons_self ..))
  by_cases d:n<a+x.bytes
  ·simp_all
  rw[if_neg d]
  exact OH l n (a+x.bytes) (by omega) (by omega) fun y hy=>b y (List.mem_cons_of_mem _ hy)
theorem Ma{σ:Type}{rd:Int→M σ Nd}(c: ∀p s n s',rd p s= .ok n s'→may n=true): ∀(f:Nat)(m:Nd)(n a:Int)(s:σ)(z:Av×Int)(s':σ),may m=true→0≤a→a≤n→Fs rd f m n a s= .ok z s'→Ah z.1=true∧0≤z.2∧z.2≤n∧n<z.2+z.1.len
 |0,m,n,a,s,z,s',hm,h1,i,e=>by cases e
 | f + 1, m, n, a, s, z, s', hm, h1, i, e => by
  obtain ⟨o,q⟩:=Ds hm
  have b:=OE m.Ag n a h1 i fun x hx=>(o x hx).2
  unfold Fs YI at e
  cases j:M4 m.Ag n a with
  | inl r =>
   rw[j] at b e
   cases r with
   |here x a'=>simp only at e b;cases e;exact b
   |below p a'=>exact b.elim
   |Zs=>exact b.elim
  | inr a' =>
   rw[j] at b e
   simp only at b e
   have b2:=OH m.kids n a' b.1 b.2 fun x hx=>(q x hx).2
   cases d:OG m.kids n a' with
   |here x g=>rw[d] at b2;exact b2.elim
   |Zs=>rw[d] at e;cases e
   | below p g =>
    rw[d] at e b2
    obtain ⟨t,s1,k,l⟩:=A5 e
    exact Ma c f t n g s1 z s' (c _ _ _ _ k) b2.1 b2.2 l
theorem IW{root n:Int}{s s':TS}{z:Av×Int}(h:0≤n)(e:K5 Ak root n s= .ok z s'):Ah z.1=true∧0≤z.2∧z.2≤n∧n<z.2+z.1.len:=by
 obtain ⟨m,s1,a,b⟩:=A5 e
 exact Ma (fun p s n s' h=>Es h) 22 m n 0 s1 z s' (Es a) (Int.le_refl _) h b
theorem IX{root:Int}{s s':TS}{z:Int}(e:FB Ak root s= .ok z s'):0≤z∧z≤1048576:=by
 unfold FB at e
 split at e
 ·cases e;omega
 obtain ⟨m,s1,b,a⟩:=A5 e
 cases a
 have:=R3 m
 omega
theorem Pw(x:Av)(a b:Int):(Go.Tr.part x a b).length≤1:=by grind [Go.Tr.part]
theorem Sa{root at_:Int}{s s':TS}{L:List Av×Int}(h0:0≤at_)(e:Go.Tr.leftOf Ak root at_ s= .ok L s'):L.1.length≤1∧(∀y∈L.1,Ah y=true)∧0≤L.2∧L.2≤at_:=by
 unfold Go.Tr.leftOf at e
 split at e
 ·obtain ⟨z,s1,b,c⟩:=A5 e
  cases c
  obtain ⟨a,b2,d,f⟩:=IW (by omega) b
  exact ⟨Pw _ _ _,LP a (Int.le_refl _) (by (try simp only);omega),b2,by (try simp only);omega⟩
 cases e
 exact ⟨by simp,fun y hy=>(List.not_mem_nil hy).elim,h0,Int.le_refl _⟩
theorem Qk{root a all:Int}{s s':TS}{R:List Av×Int}(h0:0≤a)(e:Go.Tr.FO Ak root a all s= .ok R s'):R.1.length≤1∧(∀y∈R.1,Ah y=true)∧a≤R.2∧R.2≤a+1048576:=by
 unfold Go.Tr.FO at e
 split at e
 ·obtain ⟨z,s1,c,d⟩:=A5 e
  cases d
  obtain ⟨b,b2,f,g⟩:=IW h0 c
  have i:=Cb.1 b
  exact ⟨Pw _ _ _,LP b (by omega) (Int.le_refl _),by (try simp only);omega,by (try simp only);omega⟩
 cases e
 grind
theorem Cw{l:List Av}(h:Bk l=true):(∀x∈l,Ah x=true)∧Aa l≤1048576:=by
 rw[EG] at h
 simp only[Bool.and_eq_true,List.all_eq_true,decide_eq_true_eq] at h
 exact h
theorem Xg(h:Th)(s:TS)(root at_ n:Int)(put:List Av)(v:Value)(B F:Ab)(w:World)(d:A1 B v put)(hs:Sat (Ad h s*(B*F)) w)(hl:put.length≤65536)(hm:Bk put=false):
 Calls Tryz.prog 33 #[.pointer (some ⟨h.t,0,none⟩),.int .i64 root,.int .i64 at_,.int .i64 n,v] w fun e l=>e= .returned (Oo 0 1)∧Sat (Ad h s*(B*F)) l:=by
 have j: ∀(b:Fn)(first cap:Array Value)(w:World),(Instr.makeFunc b first cap).run Tryz.prog w= .ok (.func b first cap) w:=fun _ _ _ _=>rfl
 obtain ⟨m,c0,rfl,f,g⟩:=d.v
 have a:=fun F w q=>Gt put _ B F w d q (by omega)
 rw[hm] at a
 have c:Sat (B*(Ad h s*F)) w:=hs.eq (by ac_rfl)
 haveI:=c.i
 unfold Oo
 clear hs c
 go_enter_defers Tryz.func33,Tryz.ntmps33
 go_wp2_with fail
 with_reducible refine Calls.mono (a _ _ (Ae B)) ?_
 rintro e o ⟨rfl,k⟩
 haveI:=k.i
 go_wp2
 simp[bodyPostD,Leaves,settle,results,Tryz.results33,go_sem]
 exact AD _ _ _
theorem SN(h:Th)(s:TS)(root at_ n:Int)(put:List Av)(v:Value)(B F:Ab)(w:World)(g:A1 B v put)(hs:Sat (Ad h s*(B*F)) w)(hl:put.length≤65536)(hm:Bk put=true)(all:Int)(s1:TS)(c:FB Ak root s= .ok all s1)(b:at_<0∨n<0∨all<at_∨all-at_<n):
 Calls Tryz.prog 33 #[.pointer (some ⟨h.t,0,none⟩),.int .i64 root,.int .i64 at_,.int .i64 n,v] w fun e r=>e= .returned (Oo 0 2)∧Sat (Ad h s1*(B*F)) r:=by
 have l: ∀(d:Fn)(first cap:Array Value)(w:World),(Instr.makeFunc d first cap).run Tryz.prog w= .ok (.func d first cap) w:=fun _ _ _ _=>rfl
 obtain ⟨u,c0,rfl,j,k⟩:=g.v
 have a:=fun F w q=>Gt put _ B F w g q (by omega)
 rw[hm] at a
 have f:Sat (B*(Ad h s*F)) w:=hs.eq (by ac_rfl)
 haveI:=f.i
 have c1:=fun F w q=>Ih h s root F w q (by rw[c];simp)
 rw[c] at c1
 have m:=IX c
 unfold Oo
 clear hs f
 go_enter_defers Tryz.func33,Tryz.ntmps33
 go_wp2_with fail
 with_reducible refine Calls.mono (a _ _ (Ae B)) ?_
 rintro e G ⟨rfl,o⟩
 haveI:=o.i
 go_wp2_with fail
 with_reducible refine Calls.mono (c1 _ _ (Ae (Ad h s))) ?_
 rintro e H ⟨rfl,p⟩
 haveI:=p.i
 unfold Oo
 by_cases x:at_<0
 ·clear b
  go_wp2
  simp[bodyPostD,Leaves,settle,results,Tryz.results33,go_sem]
  exact AD _ _ _
 by_cases y:n<0
 ·clear b
  go_wp2
  simp[bodyPostD,Leaves,settle,results,Tryz.results33,go_sem]
  exact AD _ _ _
 by_cases z:all<at_
 ·clear b
  go_wp2
  simp[bodyPostD,Leaves,settle,results,Tryz.results33,go_sem]
  exact AD _ _ _
 have D:all-at_<n:=by omega
 have hw:=Bb (all-at_) (by omega)
 clear b
 go_wp2
 simp[bodyPostD,Leaves,settle,results,Tryz.results33,go_sem]
 exact AD _ _ _
theorem Xe(h:Th)(s:TS)(root at_ n:Int)(put:List Av)(v:Value)(B F:Ab)(w:World)(g:A1 B v put)(hs:Sat (Ad h s*(B*F)) w)(hl:put.length≤65536)(hm:Bk put=true)(all:Int)(s1:TS)(l:FB Ak root s= .ok all s1)(M: ¬at_<0)(O: ¬n<0)(P: ¬all<at_)(Q: ¬all-at_<n)(G:1048576<all-n+Aa put):
 Calls Tryz.prog 33 #[.pointer (some ⟨h.t,0,none⟩),.int .i64 root,.int .i64 at_,.int .i64 n,v] w fun e K=>e= .returned (Oo 0 10)∧Sat (Ad h s1*(B*F)) K:=by
 have z: ∀(o:Fn)(first cap:Array Value)(w:World),(Instr.makeFunc o first cap).run Tryz.prog w= .ok (.func o first cap) w:=fun _ _ _ _=>rfl
 obtain ⟨L,c0,rfl,u,y⟩:=g.v
 have f:=fun F w q=>Gt put _ B F w g q (by omega)
 rw[hm] at f
 have p:Sat (B*(Ad h s*F)) w:=hs.eq (by ac_rfl)
 haveI:=p.i
 have c1:=fun F w q=>Ih h s root F w q (by rw[l];simp)
 rw[l] at c1
 have D:=IX l
 have a:=Cw hm
 have b:=fun x hx=>Ec (a.1 x hx)
 have j:=Bo a.1
 have c:=fun F w q=>MT put _ B F w g q (by omega) (fun x hx=>by have:=b x hx;have:=Cb.1 (a.1 x hx);omega)
 have hw:=Bb (all-at_) (by omega)
 have hw2:=Bb (all-n) (by omega)
 obtain ⟨m,k⟩:=Aq (Aa put)
 rw[k] at c a j G
 obtain ⟨d,r⟩:=a
 have hw3:=Bb (all-n+m) (by omega)
 clear d b
 unfold Oo
 clear hs p
 go_enter_defers Tryz.func33,Tryz.ntmps33
 go_wp2_with fail
 with_reducible refine Calls.mono (f _ _ (Ae B)) ?_
 rintro e R ⟨rfl,H⟩
 haveI:=H.i
 go_wp2_with fail
 with_reducible refine Calls.mono (c1 _ _ (Ae (Ad h s))) ?_
 rintro e T ⟨rfl,I⟩
 haveI:=I.i
 unfold Oo
 go_wp2_with fail
 with_reducible refine Calls.mono (c _ _ (Ae B)) ?_
 rintro e U ⟨rfl,J⟩
 haveI:=J.i
 go_wp2
 simp[bodyPostD,Leaves,settle,results,Tryz.results33,go_sem]
 exact AD _ _ _
theorem Vj(h:Th)(s:TS)(root at_ n:Int)(put:List Av)(v:Value)(B F:Ab)(w:World)(g:A1 B v put)(hs:Sat (Ad h s*(B*F)) w)(hl:put.length≤65536)(hm:Bk put=true)(all:Int)(s1:TS)(l:FB Ak root s= .ok all s1)(O: ¬at_<0)(P: ¬n<0)(Q: ¬all<at_)(R: ¬all-at_<n)(H: ¬1048576<all-n+Aa put)(D:n=0)(hp:put= []):
 Calls Tryz.prog 33 #[.pointer (some ⟨h.t,0,none⟩),.int .i64 root,.int .i64 at_,.int .i64 n,v] w fun e L=>e= .returned (Oo root 0)∧Sat (Ad h s1*(B*F)) L:=by
 have z: ∀(o:Fn)(first cap:Array Value)(w:World),(Instr.makeFunc o first cap).run Tryz.prog w= .ok (.func o first cap) w:=fun _ _ _ _=>rfl
 obtain ⟨M,c0,rfl,u,y⟩:=g.v
 have f:=fun F w q=>Gt put _ B F w g q (by omega)
 rw[hm] at f
 have p:Sat (B*(Ad h s*F)) w:=hs.eq (by ac_rfl)
 haveI:=p.i
 have c1:=fun F w q=>Ih h s root F w q (by rw[l];simp)
 rw[l] at c1
 have G:=IX l
 have a:=Cw hm
 have b:=fun x hx=>Ec (a.1 x hx)
 have j:=Bo a.1
 have c:=fun F w q=>MT put _ B F w g q (by omega) (fun x hx=>by have:=b x hx;have:=Cb.1 (a.1 x hx);omega)
 have hw:=Bb (all-at_) (by omega)
 have hw2:=Bb (all-n) (by omega)
 obtain ⟨m,k⟩:=Aq (Aa put)
 rw[k] at c a j H
 obtain ⟨d,r⟩:=a
 have hw3:=Bb (all-n+m) (by omega)
 clear d b
 subst hp
 subst D
 unfold Oo
 clear hs p
 go_enter_defers Tryz.func33,Tryz.ntmps33
 go_wp2_with fail
 with_reducible refine Calls.mono (f _ _ (Ae B)) ?_
 rintro e T ⟨rfl,I⟩
 haveI:=I.i
 go_wp2_with fail
 with_reducible refine Calls.mono (c1 _ _ (Ae (Ad h s))) ?_
 rintro e U ⟨rfl,J⟩
 haveI:=J.i
 unfold Oo
 go_wp2_with fail
 with_reducible refine Calls.mono (c _ _ (Ae B)) ?_
 rintro e V ⟨rfl,K⟩
 haveI:=K.i
 go_wp2
 simp[bodyPostD,Leaves,settle,results,Tryz.results33,go_sem]
 exact AD _ _ _
variable [Em]
def FM:ByteArray:=⟨#[115,116,111,114,101]⟩
end Go.Proofs.YtfhbmblbidcmmaaGreat
namespace Go.Proofs.YtfhbmblbidcmmaaGreat
open Go.RowKit Go.Sl Go.Dk Go.Tr
variable [Em]
theorem aC(C S:Nat)(F:Ab)(w:World)(hs:Sat F w):
 Calls Tryz.prog 47 #[.pointer (some ⟨C,0,none⟩),.pointer (some ⟨S,0,none⟩)] w fun e a=> ∃t:Nat,e= .returned (.tuple #[.pointer (some ⟨t,0,none⟩),.int .i64 0])∧Sat (Sl.block t Tg [.pointer (some ⟨C,0,none⟩),.pointer (some ⟨S,0,none⟩)]*F) a:=by
 haveI:=hs.i
 go_enter Tryz.func47,Tryz.ntmps47
 go_wp2
 go_ret2
 exact ⟨_,rfl,Ar _ _⟩
end Go.Proofs.YtfhbmblbidcmmaaGreat
namespace Go.Proofs.YtfhbmblbidcmmaaGreat
open Go.RowKit Go.Sl Go.Dk Go.Tr
instance nH:Em:=⟨65000,by omega⟩
def V5(O:List UInt8):Dk:=⟨16777216,0,0,false,false,[(EH,⟨O,O,true⟩)],[]⟩
def Jr(O T:List UInt8):Dk:=⟨16777216,0,0,false,false,[(EH,⟨O,O,true⟩),(E7,⟨T,T,true⟩)],[]⟩
theorem jC:E7≠EH:=by decide+kernel
theorem jA:FM≠EH:=by decide+kernel
theorem jB:FM≠E7:=by decide+kernel
theorem TX(O:List UInt8)(f:O.length≤3000):(Dk.new 16777216).load EH O=(0,V5 O):=by
 have h1:(Dk.new 16777216).fits ((Dk.new 16777216).get EH) O.length=0:=by
  unfold Dk.fits
  have a:(Dk.new 16777216).get EH=none:=rfl
  have b:(Dk.new 16777216).files= []:=rfl
  have c:(Dk.new 16777216).room=16777216:=rfl
  rw[a,b,c]
  have d:sum ([]:List (ByteArray×Fl))=0:=rfl
  have e:Ff none=0:=rfl
  rw[d,e,if_neg (by simp),if_neg (by simp;omega)]
 unfold Dk.load
 rw[if_neg (by simp[Zj]),h1,if_neg (by simp)]
 rfl
theorem TY(O T:List UInt8)(i:O.length≤3000)(j:T.length≤3000):(V5 O).load E7 T=(0,Jr O T):=by
 have a:(V5 O).get E7=none:=by
  show D7 E7 [(EH,_)]=none
  unfold D7
  rw[if_neg jC]
  rfl
 have h1:(V5 O).fits ((V5 O).get E7) T.length=0:=by
  unfold Dk.fits
  have b:sum (V5 O).files=O.length:=by simp[V5,sum]
  have c:(V5 O).room=16777216:=rfl
  have d:Ff none=0:=rfl
  have e:(V5 O).files.length=1:=rfl
  rw[a,b,c,d,e,if_neg (by simp),if_neg (by simp;omega)]
 unfold Dk.load
 rw[if_neg (by simp[QZ]),h1,if_neg (by simp)]
 have f:D9 E7 (⟨T,T,true⟩:Fl) (V5 O).files= [(EH,⟨O,O,true⟩),(E7,⟨T,T,true⟩)]:=by
  show D9 E7 _ [(EH,_)]=_
  unfold D9
  rw[if_neg jC]
  rfl
 show ((0:Int),Dk.put ((V5 O).settled E7) E7 ⟨T,T,true⟩)=_
 unfold Dk.put
 have g:((V5 O).settled E7).files=(V5 O).files:=rfl
 rw[g,f]
 rfl
theorem gK(O T:List UInt8):(Jr O T).get EH=some ⟨O,O,true⟩:=by
 show D7 EH [(EH,_),(E7,_)]=_
 unfold D7
 rw[if_pos rfl]
theorem gL(O T:List UInt8):(Jr O T).get E7=some ⟨T,T,true⟩:=by
 show D7 E7 [(EH,_),(E7,_)]=_
 unfold D7
 rw[if_neg jC]
 unfold D7
 rw[if_pos rfl]
theorem l5(O T:List UInt8):(Jr O T).get FM=none:=by
 show D7 FM [(EH,_),(E7,_)]=_
 unfold D7
 rw[if_neg jA]
 unfold D7
 rw[if_neg jB]
 rfl
def NY(O T:List UInt8)(cap:Int):Ck:=⟨FM,cap,0,Jr O T,[],[]⟩
def Mj(O T:List UInt8)(cap:Int):TS:=⟨NY O T cap,Sp.new 1,0⟩
theorem Z'(O:List UInt8)(a:O.length≤3000):Ok 0 (V5 O):=by
 have:=XX (aH 16777216 (by omega) (by unfold Mo;omega)) EH O
 rw[TX O a] at this
 exact this
theorem dU(O T:List UInt8)(a:O.length≤3000)(b:T.length≤3000):Ok 0 (Jr O T):=by
 have:=XX (Z' O a) E7 T
 rw[TY O T a b] at this
 exact this
theorem iK(O T:List UInt8)(cap:Int)(a:O.length≤3000)(b:T.length≤3000)(c:1≤cap)(d:cap≤4096):Bm 0 (NY O T cap):=
 ⟨⟨by simp[NY,D5],by simp[NY],by simp[NY]⟩,by simp[NY],fun k=>by simp[NY,Bx,BI],rfl,by simp[NY],by simp only[NY];omega,by simp[NY];omega,dU O T a b,(by show Dk.named FM=true;decide+kernel),by simp[NY]⟩
theorem SS(O T:List UInt8)(cap:Int)(i:O.length≤3000)(j:T.length≤3000)(f:1≤cap)(g:cap≤4096):GS true (Mj O T cap) where
 ts:=⟨⟨0,iK O T cap i j f g⟩,by
  have e:(A0 (NY O T cap).d (NY O T cap).nm)= []:=by
   show ((Jr O T).get FM|>.getD Dk.Jv).now= []
   rw[l5];rfl
  exact ⟨Int.le_refl _,Int.le_refl _,Nat.zero_le _,Int.le_refl _,by show (A0 (NY O T cap).d (NY O T cap).nm).length≤_;rw[e];simp⟩,by unfold Mj BG;simp,by simp[Mj,Sp.new],by simp[Mj,Sp.new]⟩
 Bn:=⟨⟨rfl,rfl,(by show Dk.named FM=true;decide+kernel),by show 2+(if ((Jr O T).get FM).isSome then 0 else 1)≤8;split<;>omega⟩,by simp[Mj,NY],by simp[Mj,NY],⟨by
  have e:(A0 (NY O T cap).d (NY O T cap).nm)= []:=by
   show ((Jr O T).get FM|>.getD Dk.Jv).now= []
   rw[l5];rfl
  show (A0 (NY O T cap).d (NY O T cap).nm).length≤_;rw[e];simp,by simp[Mj,NY]⟩⟩
 res:=by simp[Mj,Sp.new]
 used:=by simp[Mj,Sp.new]
 roomy h:=by
  unfold Roomy Jk
  show ((sum (Jr O T).files:Nat):Int)-Ff ((Jr O T).get FM)+((256*VA:Nat):Int)≤16777216
  rw[l5]
  have a:sum (Jr O T).files=O.length+T.length:=by simp[Jr,sum]
  have b:Ff none=0:=rfl
  have c:VA=65000:=rfl
  rw[a,b,c]
  omega
theorem Vq(O T:List UInt8)(cap:Int):CB (Mj O T cap).sp=64999:=by
 have a:VA=65000:=rfl
 simp[CB,Mj,Sp.new,a]
end Go.Proofs.YtfhbmblbidcmmaaGreat
namespace Go.Tr
def Fa{σ:Type}(rd:Int→M σ Nd)(k:Kd)(f:Nat)(n:Nd)(h:Int):M σ BK:=M.bind (C6 rd f n h) fun h=>M.pure ⟨k,h⟩
theorem fG{σ:Type}{rd:Int→M σ Nd}{k:Kd}{n:Nd}(hl:n.leaf=true)(f:Nat)(h:Int)(s:σ):Fa rd k f n h s= .ok ⟨k,h⟩ s:=by
 unfold Fa M.bind
 cases f<;>(unfold C6;rw[if_pos hl];rfl)
theorem fI{σ:Type}{rd:Int→M σ Nd}{k:Kd}{n:Nd}(hl:n.leaf=false)(h:Int)(s:σ):Fa rd k 0 n h s= .fault 13 s:=by
 unfold Fa M.bind C6
 rw[if_neg (by rw[hl];exact Bool.false_ne_true)]
 rfl
theorem jI{σ:Type}{rd:Int→M σ Nd}{k:Kd}{n:Nd}(hl:n.leaf=false)(a:n.kids= [])(f:Nat)(h:Int)(s:σ):Fa rd k (f+1) n h s= .bad:=by
 unfold Fa M.bind C6
 rw[if_neg (by rw[hl];exact Bool.false_ne_true),a]
 rfl
theorem fH{σ:Type}{rd:Int→M σ Nd}{k:Kd}{n:Nd}{z:Kd}{zs:List Kd}(hl:n.leaf=false)(a:n.kids=z::zs)(f:Nat)(h:Int)(s:σ):Fa rd k (f+1) n h s=M.bind (rd z.Au) (fun m=>Fa rd k f m (h+1)) s:=by
 unfold Fa
 rw[C6]
 rw[if_neg (by rw[hl];exact Bool.false_ne_true),a]
 unfold M.bind
 simp only
 cases rd z.Au s<;>rfl
end Go.Tr
namespace Go.Proofs.YtfhbmblbidcmmaaGreat
open Go.RowKit Go.Sl Go.Dk Go.Tr
theorem WV(h:Th)(s:TS)(root:Int)(F:Ab)(w:World)(hs:Sat (Ad h s*F) w)(V:EB Ak root s≠ .bad):
 Calls Tryz.prog 96 #[.pointer (some ⟨h.t,0,none⟩),.int .i64 root] w (Et h F (EB Ak root s) Qu):=by
 obtain ⟨R,J⟩:=Aq (EB Ak root s)
 rw[J] at V⊢
 have W:=As V
 clear V
 unfold EB at J
 haveI:=hs.i
 by_cases h0:root=0
 ·rw[if_pos h0] at J
  have a:R= .ok C0 s:=J.symm
  subst a
  subst h0
  clear J W
  go_enter Tryz.func96,Tryz.ntmps96
  go_wp2_with fail
  with_reducible refine Calls.mono (LH _ _ (Ae (Ad h s))) ?_
  rintro e w2 ⟨rfl,Y⟩
  haveI:=Y.i
  unfold Bi C0 kC
  go_wp2
  go_returns
  exact ⟨_,1,rfl,⟨rfl,rfl⟩,by rw[Ay];exact Ar _ _⟩
 rw[if_neg h0] at J
 have HR:=As J
 obtain ⟨m,hm⟩:=Aq (Ak root s)
 have D:=Bf HR.out W.out
 have c:=fun F w q n=>Cu h s root F w q n
 rw[hm] at D c
 have P:=As hm
 clear J hm
 go_enter Tryz.func96,Tryz.ntmps96
 go_wp2_with fail
 with_reducible refine Calls.mono (c _ _ (Ae (Ad h s)) D) ?_
 rintro e w2 h2
 cases m with
 |bad=>exact absurd rfl D
 | fault er s2 =>
  obtain ⟨rfl,Y⟩:=h2
  haveI:=Y.i
  have a:=B3 HR.out P.out
  subst a
  exact ⟨rfl,rfl,Ar _ _⟩
 | ok n s2 =>
  obtain ⟨v2,Z,rfl,⟨hN,U⟩,Y⟩:=h2
  have o:=Bd HR.out P.out
  have HG:=As o
  clear o c D HR P
  have a0:=As U
  obtain ⟨se,sk,rfl,p,l⟩:=hN
  obtain ⟨y,c1,rfl,ai,aj⟩:=p.v
  obtain ⟨I,c2,rfl,ak,al⟩:=Ai.v l
  obtain ⟨b8,b9⟩:=Cn U
  have L:=fun F w q=>Kf n (.agg #[.bool n.leaf,.slice y n.Ag.length c1,.slice I n.kids.length c2]) Z F w ⟨_,_,rfl,p,l⟩ q (by omega) (by omega)
  have HN:Aside (AN (1*Z) (.agg #[.bool n.leaf,.slice y n.Ag.length c1,.slice I n.kids.length c2]) n):=by
   refine ⟨_,_,rfl,?_,?_⟩
   · exact Ai.right p
   exact Ai.right l
  haveI:=Y.i
  clear p l U
  go_wp2_with fail
  with_reducible refine Calls.mono (L _ _ (Ae Z)) ?_
  rintro e w3 ⟨rfl,q3⟩
  haveI:=q3.i
  clear L
  go_wp2_with fail
  have O:Aside (Fa Ak ⟨root,(AZ n).1,(AZ n).2.1,(AZ n).2.2⟩ 20 n 0 s2=R):=HG.out
  obtain ⟨Q,a5⟩:=Aq ((AZ n).1)
  obtain ⟨b2,a6⟩:=Aq ((AZ n).2.1)
  obtain ⟨T,a9⟩:=Aq ((AZ n).2.2)
  rw[a5,a6,a9] at O⊢
  clear a5 a6 a9 HG
  have q4:Sat (Ad h s2*((1*Z)*(Sl.block w3.heap.size DF [.int .i64 root,.int .i64 Q,.int .i64 b2,.int .i64 T,.int .i64 0]*(Sl.block w2.heap.size Cy [.bool n.leaf,.slice y n.Ag.length c1,.slice I n.kids.length c2]*(Sl.block w.heap.size DF [.int .i64 0,.int .i64 0,.int .i64 0,.int .i64 0,.int .i64 0]*F)))))
   (w3.alloc (.cells #[.int .i64 root,.int .i64 Q,.int .i64 b2,.int .i64 T,.int .i64 0] DF)):=by rw[Ay];exact Ap (by ac_rfl)
  obtain ⟨N0,a3⟩:=Aq w.heap.size
  obtain ⟨N5,B⟩:=Aq w2.heap.size
  obtain ⟨N9,a4⟩:=Aq w3.heap.size
  rw[a3,B,a4] at q4⊢
  clear a3 B a4 q3 Y hs this
  go_loopg [28] 20 (fun g bd wr=> ∃(f:Nat)(m:Nd)(d:Int)(y:Option Addr)(c1:Nat)(I:Option Addr)(c2:Nat)(G:Ab)(s':TS),0≤d∧d+f=20∧Aside (g=f∧Fa Ak ⟨root,Q,b2,T⟩ f m d s'=R)∧Aside (may m=true∧AN G (.agg #[.bool m.leaf,.slice y m.Ag.length c1,.slice I m.kids.length c2]) m)∧
   Sat (Ad h s'*(G*(Sl.block N9 DF [.int .i64 root,.int .i64 Q,.int .i64 b2,.int .i64 T,.int .i64 d]*(Sl.block N5 Cy [.bool m.leaf,.slice y m.Ag.length c1,.slice I m.kids.length c2]*(Sl.block N0 DF [.int .i64 0,.int .i64 0,.int .i64 0,.int .i64 0,.int .i64 0]*F))))) wr)
  case atStart=>exact ⟨20,n,0,y,c1,I,c2,1*Z,s2,by omega,by omega,⟨rfl,O.out⟩,⟨a0.out,HN.out⟩,q4⟩
  obtain ⟨f,m,d,y,c1,I,c2,G,s',b6,b7,A,u,k⟩:=hrel
  clear q4 HN a0 O
  haveI:=k.i
  cases j:m.leaf with
  | true =>
    have a:R= .ok ⟨⟨root,Q,b2,T⟩,d⟩ s':=by rw[←A.out.2,fG j]
    subst a
    rw[j] at k
    haveI:=k.i
    clear A u W
    go_wp2
    go_returns
    exact ⟨_,1,rfl,⟨rfl,rfl⟩,by rw[Ay];exact Ar _ _⟩
  | false =>
    have hw:=Bb (d+1) (by omega)
    rw[j] at k
    haveI:=k.i
    cases f with
    | zero =>
      have a:R= .fault 13 s':=by rw[←A.out.2,fI j]
      subst a
      have cY:(20:Int)<d+1:=by omega
      clear A u W
      go_wp2_with fail
      exact ⟨rfl,rfl,Ar _ _⟩
    | succ f =>
      have cY: ¬(20:Int)<d+1:=by omega
      have HA:=As A.out.1
      cases hk:m.kids with
      |nil=>exact absurd ((jI j hk f d s').symm.trans A.out.2).symm W.out
      | cons z zs =>
       have HS:Aside (M.bind (Ak z.Au) (fun m=>Fa Ak ⟨root,Q,b2,T⟩ f m (d+1)) s'=R):=(by rw[←fH j hk];exact A.out.2:_=_)
       obtain ⟨vE,vK,hv,p,l⟩:=u.out.2
       cases hv
       obtain ⟨b,q,rfl,r1,r2,r3,r4⟩:=Cp l (i:=0) (x:=z) (by rw[hk];rfl)
       have ay:(0:Int)<(m.kids.length:Nat):=by rw[hk];simp
       obtain ⟨r,hr⟩:=Aq (Ak z.Au s')
       have D:=Bf HS.out W.out
       have c:=fun F w q n=>Cu h s' z.Au F w q n
       rw[hr] at D c
       have P:=As hr
       obtain ⟨z1,z2,z3,z4⟩:=z
       clear A p l hk u hr
       haveI:=k.i
       go_wp2_with fail
       with_reducible refine Calls.mono (c _ _ (Ae (Ad h s')) D) ?_
       rintro e w4 h4
       cases r with
       |bad=>exact absurd rfl D
       | fault er s3 =>
        obtain ⟨rfl,q5⟩:=h4
        haveI:=q5.i
        have a:=B3 HS.out P.out
        subst a
        exact ⟨rfl,rfl,Ar _ _⟩
       | ok H s3 =>
        obtain ⟨v5,B5,rfl,⟨B,K⟩,q5⟩:=h4
        have o:=Bd HS.out P.out
        have HG:=As o
        obtain ⟨se,sk,rfl,p,l⟩:=B
        obtain ⟨a7,c7,rfl,ai,aj⟩:=p.v
        obtain ⟨a8,c8,rfl,ak,al⟩:=Ai.v l
        have af:Aside (may H=true∧AN B5 (.agg #[.bool H.leaf,.slice a7 H.Ag.length c7,.slice a8 H.kids.length c8]) H):=⟨K,_,_,rfl,p,l⟩
        haveI:=q5.i
        clear o c D HS P p l K
        go_wp2_with fail
        go_roundg f
        case measure=>have:=HA.out;omega
        refine ⟨f,H,d+1,a7,c7,a8,c8,B5,s3,by omega,by omega,⟨rfl,HG.out⟩,af.out,?_⟩
        show Sat (Ad h s3*(B5*(Sl.block N9 DF ([.int .i64 root,.int .i64 Q,.int .i64 b2,.int .i64 T,.int .i64 d].set 4 (.int .i64 (d+1)))*(Sl.block N5 Cy ((([.bool false,.slice y m.Ag.length c1,.slice (some ⟨b,q,none⟩) m.kids.length c2].set 0 (.bool H.leaf)).set 1 (.slice a7 H.Ag.length c7)).set 2 (.slice a8 H.kids.length c8))*(Sl.block N0 DF [.int .i64 0,.int .i64 0,.int .i64 0,.int .i64 0,.int .i64 0]*F))))) _
        exact DZ _ _ _ _ _ _
theorem Tx{l:List Av}(h:l.length≤1)(hm: ∀x∈l,Ah x=true):0≤Aa l∧Aa l≤1048576:=by
 match l,h with
 | [],_=>simp[Aa]
 | [a],_=>
  have:=Cb.1 (hm a (by simp))
  have e:Aa [a]=a.len:=by simp[Aa]
  rw[e]
  omega
theorem jU{A R R' a b:Ab}{w:World}[h:AR A w](X Y Z V:Ab)[t:Take A X R][t':Take R Y R'][t'':Take R' Z a][t3:Take a V b]:Sat (X*(Y*(Z*V))*b) w:=(h.out.K6 X Y Z).eq (by rw[t3.out];ac_rfl)
theorem Qj{X Y Z:Ab}{x y z:Value}{l m k:List Av}(b:Nat)(h1:A1 X x l)(a:A1 Y y m)(c:A1 Z z k):RG (Sl.block b PT [x,y,z]*(X*(Y*Z))) (.slice (some ⟨b,0,none⟩) 3 3) [l,m,k]:=by
 refine ⟨[x,y,z],⟨rfl,_,_,rfl,Nat.le_refl _,by omega,fun j u d=>⟨b,0,rfl,?_⟩⟩,rfl,fun i u l' hx hl=>?_⟩
 ·haveI:At [x,y,z] j u:=⟨d⟩
  rw[Nat.zero_add]
  exact inferInstance
 match i with
 |0=>simp at hx hl;subst hx;subst hl;exact Ai.right (Ai.left h1)
 |1=>simp at hx hl;subst hx;subst hl;exact Ai.right (Ai.right (Ai.left a))
 |2=>simp at hx hl;subst hx;subst hl;exact Ai.right (Ai.right (Ai.right c))
 |i+3=>simp at hx
structure mU (s1:TS) (root at_ n all:Int) (L R:List Av×Int) (whole:BK) (r1 r0:Int) (s2 s3 s4 s5 s6:TS):Prop where
 hl:Go.Tr.leftOf Ak root at_ s1= .ok L s2
 hr:Go.Tr.FO Ak root (at_+n) all s2= .ok R s3
 hw:EB Ak root s3= .ok whole s4
 XF:CR Ak 30 whole R.2 s4= .ok r1 s5
 mF:CR Ak 30 whole L.2 s5= .ok r0 s6
structure nJ (whole:BK) (L R:List Av×Int) (put:List Av) (p q:BK×BK) (m x y:BK) (s6 s7 s8 s9 s10 s11:TS):Prop where
 hp:Bq Ak An 30 whole L.2 s6= .ok p s7
 hq:Bq Ak An 30 p.2 (R.2-L.2) s7= .ok q s8
 hm:Cs An (join (L.1++put++R.1)) s8= .ok m s9
 hx:FG Ak An p.1 m s9= .ok x s10
 hy:FG Ak An x q.2 s10= .ok y s11
theorem NH(h : Th)(s : TS)(root at_ n : Int)(put : List Av)(v : Value)(B F : Ab)(w : World)(hE : A1 B v put)(hs : Sat (Ad h s * (B * F)) w)(hl : put.length ≤ 1000)
 (hm:Bk put=true) (all:Int) (s1:TS) (hz:FB Ak root s= .ok all s1) (k1: ¬at_<0) (k2: ¬n<0) (k3: ¬all<at_) (k4: ¬all-at_<n) (k5: ¬1048576<all-n+Aa put) (k6:n=0→put≠ [])
 (L R:List Av×Int) (whole:BK) (r1 r0:Int) (s2 s3 s4 s5 s6:TS) (HA:mU s1 root at_ n all L R whole r1 r0 s2 s3 s4 s5 s6) (Q:Fu TS Int)
 (au:1024<whole.ER.AA-r1+r0+(join (L.1++put++R.1)).length→Q= .fault 11 (s6.Jc s1.sp.taken.length))
 (c7: ¬1024<whole.ER.AA-r1+r0+(join (L.1++put++R.1)).length→ ∃p q m x y s7 s8 s9 s10 s11,nJ whole L R put p q m x y s6 s7 s8 s9 s10 s11∧Q= .ok y.ER.Au s11):
 Calls Tryz.prog 33 #[.pointer (some ⟨h.t,0,none⟩),.int .i64 root,.int .i64 at_,.int .i64 n,v] w (ZL h (B*F) Q (fun z=>Oo z 0) (fun er=>Oo 0 er)):=by
 have fd: ∀(fn:Fn)(first cap:Array Value)(w:World),(Instr.makeFunc fn first cap).run Tryz.prog w= .ok (.func fn first cap) w:=fun _ _ _ _=>rfl
 have dg:=As au
 have dh:=As c7
 obtain ⟨HL,HR,HW,ab,aa⟩:=HA
 have a1:s1.sp.taken.length≤s6.sp.taken.length:=by
  have g1:=(Aj.ok (I6 BM FA root at_) HL).len
  have g2:=(Aj.ok (GX BM FA root (at_+n) all) HR).len
  have g3:=(Aj.ok (Hc BM FA root) HW).len
  have g4:=(Aj.ok (Ej BM FA 30 whole R.2) ab).len
  have g5:=(Aj.ok (Ej BM FA 30 whole L.2) aa).len
  omega
 obtain ⟨ch,bb,fi,fj⟩:=Sa (by omega) HL
 obtain ⟨co,bg,fm,fo⟩:=Qk (by omega) HR
 obtain ⟨a7,bh,G,cs⟩:=SB HW
 have cg:=II (fun p s n s' h=>Es h) 16777216 (by omega) 30 whole R.2 s4 r1 s5 G (by omega) ab
 have cf:=II (fun p s n s' h=>Es h) 16777216 (by omega) 30 whole L.2 s5 r0 s6 G (by omega) aa
 obtain ⟨a0,c0,rfl,dn,fc⟩:=hE.v
 have ag:=fun F w q=>Gt put _ B F w hE q (by omega)
 rw[hm] at ag
 have c1:=fun F w q=>Ih h s root F w q (by rw[hz];simp)
 rw[hz] at c1
 have dv:=IX hz
 have u:=Cw hm
 have av:=fun x hx=>Ec (u.1 x hx)
 have cb:=Bo u.1
 have o:=fun F w q=>MT put _ B F w hE q (by omega) (fun x hx=>by have:=av x hx;have:=Cb.1 (u.1 x hx);omega)
 have hw:=Bb (all-at_) (by omega)
 have hw2:=Bb (all-n) (by omega)
 have ay:=As u
 obtain ⟨ei,cc⟩:=Aq (Aa put)
 rw[cc] at o u cb k5
 obtain ⟨c9,eu⟩:=u
 have hw3:=Bb (all-n+ei) (by omega)
 have hw4:=Bb (at_+n) (by omega)
 obtain ⟨np,ai⟩:=Aq put.length
 have ac:Aside (put.length=np∧(n=0→np≠0)):=⟨ai,fun P e2=>k6 P (List.length_eq_zero_iff.1 (ai.trans e2))⟩
 have br:=As hE
 rw[ai] at hl dn ag o cb⊢
 have h2:Sat (B*(Ad h s*F)) w:=hs.eq (by ac_rfl)
 haveI:=h2.i
 unfold Oo at c1
 clear hs h2 c9 av hE hm au c7 k6 ai hz cc
 go_enter_defers Tryz.func33,Tryz.ntmps33
 go_wp2_with fail
 with_reducible refine Calls.mono (ag _ _ (Ae B)) ?_
 rintro e w2 ⟨rfl,q2⟩
 obtain ⟨N,hN⟩:=Aq w.heap.size
 rw[hN] at q2⊢
 haveI:=q2.i
 clear hN ag
 go_wp2_with fail
 with_reducible refine Calls.mono (c1 _ _ (Ae (Ad h s))) ?_
 rintro e w3 ⟨rfl,q3⟩
 haveI:=q3.i
 clear c1 q2
 go_wp2_with fail
 with_reducible refine Calls.mono (o _ _ (Ae B)) ?_
 rintro e w4 ⟨rfl,q4⟩
 haveI:=q4.i
 clear o q3
 go_upto_region 10 with (fail)
 go_cut [75] from 28 to 185 (fun eh wx=>eh= .bool false∧Sat (Ad h s1*(B*(Sl.block (N+1) Fw [.int .i64 0]*(Sl.block N PW [.int .i64 0]*F)))) wx)
 case first=>
  by_cases ca:n=0
  · subst ca
    have ev: ¬np=0:=ac.out.2 rfl
    have ew:((np:Int)==0)=false:=by simp;omega
    go_wp2
    go_meet
    exact ⟨rfl,DC _ _ _ _ _⟩
  have fe:((n:Int)==0)=false:=by simpa using ca
  go_wp2
  go_meet
  exact ⟨rfl,DC _ _ _ _ _⟩
 obtain ⟨rfl,q5⟩:=hcut
 haveI:=q5.i
 clear q4
 go_wp2_with fail
 with_reducible refine Calls.mono (QS h s1 _ _ (Ae (Ad h s1))) ?_
 rintro e w5 ⟨rfl,q6⟩
 haveI:=q6.i
 clear q5
 go_upto_if 89 with (fail)
 go_cut [13,15] from 28 to 185 (fun ec ee wx=> ∃(al:Option Addr)(nl cl:Nat)(GL:Ab),ec= .int .i64 L.2∧ee= .slice al nl cl∧nl=L.1.length∧Aside (A1 GL (.slice al nl cl) L.1)∧Sat (Ad h s2*(GL*(B*(Sl.block (N+1) Fw [.int .i64 0]*(Sl.block N PW [.int .i64 0]*F))))) wx)
 case first=>
  have hL:=HL
  unfold Go.Tr.leftOf at hL
  by_cases Y:0<at_
  · rw[if_pos Y] at hL
    obtain ⟨z,am,P,e2⟩:=A5 hL
    have l:=fun F w q=>Ve h s1 root (at_-1) F w q (by rw[P];simp)
    rw[P] at l
    obtain ⟨b1,b2,b3,b4⟩:=IW (by omega) P
    have b5:=Cb.1 b1
    obtain ⟨⟨z1,z2,I,z4⟩,za⟩:=z
    simp only at b1 b2 b3 b4 b5 e2
    have k:=fun F w q=>Uz ⟨z1,z2,I,z4⟩ 0 (at_-za) F w q (by simp only;omega) (by omega) (by omega)
    have HP:Aside (L=(Go.Tr.part ⟨z1,z2,I,z4⟩ 0 (at_-za),za)∧am=s2):=by
     cases e2
     exact ⟨rfl,rfl⟩
    have cd:=Bb (at_-1) (by omega)
    have ce:=Bb (at_-za) (by omega)
    unfold dY at k
    simp only at k
    clear P e2 b1 b5 hL
    go_wp2_with fail
    with_reducible refine Calls.mono (l _ _ (Ae (Ad h s1))) ?_
    rintro e w6 ⟨v6,G6,rfl,⟨rfl,rfl⟩,q7⟩
    rw[Ay] at q7
    haveI:=q7.i
    clear l q6
    go_wp2_with fail
    with_reducible refine Calls.mono (k _ _ ES) ?_
    rintro e w7 ⟨v7,G7,rfl,a4,q8⟩
    obtain ⟨al,cl,rfl,_,_⟩:=a4.v
    haveI:=q8.i
    obtain ⟨e3,e4⟩:=HP.out
    subst e3
    subst e4
    go_wp2
    go_meet
    exact ⟨al,_,cl,G7,rfl,rfl,rfl,a4,DZ _ _ _ _ _ _⟩
  rw[if_neg Y] at hL
  have HP:Aside (L=([],at_)∧s1=s2):=by
   cases hL
   exact ⟨rfl,rfl⟩
  clear hL
  go_wp2
  go_meet
  obtain ⟨e3,e4⟩:=HP.out
  subst e3
  subst e4
  exact ⟨none,0,0,1,rfl,rfl,rfl,Ai.nil 4 _,by rw[Ay];exact DC _ _ _ _ _⟩
 obtain ⟨al,nl,cl,GL,rfl,rfl,dq,bs,q7⟩:=hcut
 subst dq
 haveI:=q7.i
 clear q6
 go_upto_if 108 with (fail)
 go_cut [14,16] from 28 to 185 (fun ed ef wx=> ∃(ar:Option Addr)(nr cr:Nat)(GR:Ab),ed= .int .i64 R.2∧ef= .slice ar nr cr∧nr=R.1.length∧Aside (A1 GR (.slice ar nr cr) R.1)∧Sat (Ad h s3*(GR*(GL*(B*(Sl.block (N+1) Fw [.int .i64 0]*(Sl.block N PW [.int .i64 0]*F)))))) wx)
 case first=>
  have hR:=HR
  unfold Go.Tr.FO at hR
  by_cases Y:at_+n<all
  · rw [if_pos Y] at hR
    obtain ⟨z,am,P,e2⟩:=A5 hR
    have l:=fun F w q=>Ve h s2 root (at_+n) F w q (by rw[P];simp)
    rw[P] at l
    obtain ⟨b1,b2,b3,b4⟩:=IW (by omega) P
    have b5:=Cb.1 b1
    obtain ⟨⟨z1,z2,I,z4⟩,za⟩:=z
    simp only at b1 b2 b3 b4 b5 e2
    have k:=fun F w q=>Uz ⟨z1,z2,I,z4⟩ (at_+n-za) I F w q (by simp only;omega) (by omega) (by omega)
    have HP:Aside (R=(Go.Tr.part ⟨z1,z2,I,z4⟩ (at_+n-za) I,za+I)∧am=s3):=by
     cases e2
     exact ⟨rfl,rfl⟩
    have cd:=Bb (at_+n-za) (by omega)
    have ce:=Bb (za+I) (by omega)
    unfold dY at k
    simp only at k
    clear P e2 b1 b5 hR
    go_wp2_with fail
    with_reducible refine Calls.mono (l _ _ (Ae (Ad h s2))) ?_
    rintro e w6 ⟨v6,G6,rfl,⟨rfl,rfl⟩,q8⟩
    rw[Ay] at q8
    haveI:=q8.i
    obtain ⟨K,T⟩:=Aq w6.heap.size
    clear l q7
    go_upto_region 21 with (fail)
    try rw[T]
    have q9:Sat (Sl.block K AK [.int .i64 z1,.int .i64 z2,.int .i64 I,.int .i64 z4]*(Ad h am*(GL*(B*(Sl.block (N+1) Fw [.int .i64 0]*(Sl.block N PW [.int .i64 0]*F)))))) (w6.alloc (.cells #[.int .i64 z1,.int .i64 z2,.int .i64 I,.int .i64 z4] AK)):=by
     rw[←T]
     exact Ap (by ac_rfl)
    clear T q8
    generalize w6.alloc (.cells #[.int .i64 z1,.int .i64 z2,.int .i64 I,.int .i64 z4] AK)=w66 at q9⊢
    haveI:=q9.i
    go_region_held3 (fun a=>a.cell? ⟨K,0,none⟩=some (.int .i64 z1)∧a.cell? ⟨K,1,none⟩=some (.int .i64 z2)∧a.cell? ⟨K,2,none⟩=some (.int .i64 I)∧a.cell? ⟨K,3,none⟩=some (.int .i64 z4)) (first|exact ⟨Ac _ _ _,Ac _ _ _,Ac _ _ _,Ac _ _ _⟩) (first
     |(
       go_at_call 95
       with_reducible refine Calls.mono (k _ _ ES) ?_
       rintro e w7 ⟨v7,G7,rfl,a4,a5⟩
       obtain ⟨ar,cr,rfl,_,_⟩:=a4.v
       haveI:=a5.i))
    all_goals
     obtain ⟨e3,e4⟩:=HP.out
     subst e3
     subst e4
     go_wp2
     go_meet
     exact ⟨ar,_,cr,G7,rfl,rfl,rfl,a4,gO _ _ _ _ _ _ _⟩
  rw[if_neg Y] at hR
  have HP:Aside (R=([],at_+n)∧s2=s3):=by
   cases hR
   exact ⟨rfl,rfl⟩
  clear hR
  go_wp2
  go_meet
  obtain ⟨e3,e4⟩:=HP.out
  subst e3
  subst e4
  exact ⟨none,0,0,1,rfl,rfl,rfl,Ai.nil 4 _,by rw[Ay];exact DZ _ _ _ _ _ _⟩
 obtain ⟨ar,nr,cr,GR,rfl,rfl,dr,bt,q8⟩:=hcut
 haveI:=q8.i
 subst dr
 clear q7
 obtain ⟨dw,dx⟩:=Tx ch bb
 obtain ⟨ea,eb⟩:=Tx co bg
 have Z:([L.1,put,R.1]:List (List Av)).flatten=L.1++put++R.1:=by simp
 have c2:A1 B (.slice a0 np c0) put:=by have:=br.out;rw[ac.out.1] at this;exact this
 have a3 := fun b F w q => L0 [L.1, put, R.1] (.slice (some ⟨b, 0, none⟩) 3 3) (Sl.block b PT [.slice al L.1.length cl, .slice a0 np c0, .slice ar R.1.length cr] * (GL * (B * GR))) F w (Qj b bs.out c2 bt.out) q (by simp)
  (by rw[Z];simp only[List.length_append];rw[ac.out.1];omega)
  (by
    rw[Z]
    intro x hx
    rcases List.mem_append.1 hx with hx|hx
    · rcases List.mem_append.1 hx with hx|hx
      ·exact bb x hx
      exact ay.out.1 x hx
    exact bg x hx)
  (by rw[Z,Go.Tr.Ao,Go.Tr.Ao];have:=ay.out.2;omega)
 rw[Z] at a3
 have a2:=OO (L.1++put++R.1)
 simp only[List.length_append] at a2
 rw[ac.out.1] at a2
 obtain ⟨js,ba⟩:=Aq (join (L.1++put++R.1))
 have ax:=As ba
 rw[ba] at a3 a2
 obtain ⟨d,ah⟩:=Aq js.length
 have J:=As ah
 rw[ah] at a2
 have et:d≤1002:=by omega
 rw[ah] at a3
 have c3:=fun F w q=>WV h s3 root F w q (by rw[HW];simp)
 rw[HW] at c3
 have c4:=fun F w q=>UM 30 h s4 whole R.2 F w q a7 (by omega) G (by omega) (by omega) (by omega) (by rw[ab];simp)
 rw[ab] at c4
 have c5:=fun F w q=>UM 30 h s5 whole L.2 F w q a7 (by omega) G (by omega) (by omega) (by omega) (by rw[aa];simp)
 rw[aa] at c5
 have c6:=fun F w q nb=>Px 30 h s6 whole L.2 F w q (by omega) (by omega) (by omega) (by omega) nb
 obtain ⟨⟨x1,x2,x3,H⟩,xh⟩:=whole
 unfold Bi at c4 c5 c6
 simp only at c4 c5 c6 a7 bh G cs cg cf
 have cd:=Bb (H-r1) (by omega)
 have ce:=Bb (H-r1+r0) (by omega)
 have ff:IntKind.i64.wrap (H-r1+r0+(d:Int))=H-r1+r0+d:=IntWalk.i64_in _ (by omega)
 have fg:=Bb (R.2-L.2) (by omega)
 have df:Aside (-1≤xh∧xh≤20∧R.2-L.2≤1099511627776):=⟨a7,bh,by omega⟩
 have bu:=As a1
 clear dw dx ea eb Z c2 ba a2 ah cg cf a7 bh G cs a1 ch bb co bg bs bt br ay dv
 go_wp2_with fail
 with_reducible refine Calls.mono (a3 _ _ _ (jU _ _ _ _)) ?_
 rintro e w7 ⟨aj,cj,rfl,q9⟩
 haveI:=q9.i
 clear a3
 have a5:Sat (Ad h s3*(rw AK 4 (.slice aj d cj) (AQ js)*(Sl.block (N+1) Fw [.int .i64 0]*(Sl.block N PW [.int .i64 0]*(B*F))))) w7:=DZ _ _ _ _ _ _
 haveI:=a5.i
 have hJ:A1 (rw AK 4 (.slice aj d cj) (AQ js)) (.slice aj d cj) js:=by
  have:=Ai.rw (F:=Ad h s3*(Sl.block (N+1) Fw [.int .i64 0]*(Sl.block N PW [.int .i64 0]*(B*F)))) (a5.eq (by ac_rfl)) ⟨aj,cj,rfl⟩ (n:=d)
  rw[←J.out] at this⊢
  exact this
 have HJ:=As hJ
 clear hJ q8 q9
 go_wp2_with fail
 with_reducible refine Calls.mono (c3 _ _ (Ae (Ad h s3))) ?_
 rintro e w8 ⟨v8,G8,rfl,⟨rfl,rfl⟩,bc⟩
 rw[Ay] at bc
 haveI:=bc.i
 obtain ⟨g,U⟩:=Aq w8.heap.size
 unfold Bi
 clear a5 c3
 go_upto_region 24 with (fail)
 try rw[U]
 have bd:Sat (Sl.block g DF [.int .i64 x1,.int .i64 x2,.int .i64 x3,.int .i64 H,.int .i64 xh]*(Ad h s4*(rw AK 4 (.slice aj d cj) (AQ js)*(Sl.block (N+1) Fw [.int .i64 0]*(Sl.block N PW [.int .i64 0]*(B*F)))))) (w8.alloc (.cells #[.int .i64 x1,.int .i64 x2,.int .i64 x3,.int .i64 H,.int .i64 xh] DF)):=by
  rw[←U]
  exact Ap (by ac_rfl)
 clear U bc
 generalize w8.alloc (.cells #[.int .i64 x1,.int .i64 x2,.int .i64 x3,.int .i64 H,.int .i64 xh] DF)=w88 at bd⊢
 haveI:=bd.i
 go_cut [157] from 28 to 185 (fun cp wx=>cp= .bool (decide (1024<H-r1+r0+(d:Int)))∧Sat (Sl.block g DF [.int .i64 x1,.int .i64 x2,.int .i64 x3,.int .i64 H,.int .i64 xh]*(Ad h s6*(rw AK 4 (.slice aj d cj) (AQ js)*(Sl.block (N+1) Fw [.int .i64 0]*(Sl.block N PW [.int .i64 0]*(B*F)))))) wx)
 case first =>
  go_region_held3 (fun a=>a.cell? ⟨g,0,none⟩=some (.int .i64 x1)∧a.cell? ⟨g,1,none⟩=some (.int .i64 x2)∧a.cell? ⟨g,2,none⟩=some (.int .i64 x3)∧a.cell? ⟨g,3,none⟩=some (.int .i64 H)∧a.cell? ⟨g,4,none⟩=some (.int .i64 xh)) (first|exact ⟨Ac _ _ _,Ac _ _ _,Ac _ _ _,Ac _ _ _,Ac _ _ _⟩) (first
   |(
      go_at_call 97
      with_reducible refine Calls.mono (c4 _ _ (Ae (Ad h s4))) ?_
      rintro e w9 ⟨v9,G9,rfl,⟨rfl,rfl⟩,a6⟩
      rw[Ay] at a6
      haveI:=a6.i)
   |(
      go_at_call 97
      with_reducible refine Calls.mono (c5 _ _ (Ae (Ad h s5))) ?_
      rintro e ft ⟨v10,f2,rfl,⟨rfl,rfl⟩,c⟩
      rw[Ay] at c
      haveI:=c.i))
  all_goals
   go_wp2
   go_meet
   exact ⟨rfl,DZ _ _ _ _ _ _⟩
 obtain ⟨rfl,a6⟩:=hcut
 haveI:=a6.i
 clear bd c4 c5
 by_cases hb:1024<H-r1+r0+(d:Int)
 · have hQ:=dg.out (by rw[ax.out,J.out];omega)
   subst hQ
   have hd:decide (1024<H-r1+r0+(d:Int))=true:=decide_eq_true hb
   rw[hd]
   go_wp2
   refine leaves_cons (f:=93) (args:= #[.pointer (some ⟨N,0,none⟩),.pointer (some ⟨N+1,0,none⟩)]) (by simp) (by simp[go_sem]) ?_
   refine (Mc _ _ _).mono ?_
   rintro e u' cq ⟨rfl,rfl,rfl⟩
   show Leaves _ _ _ _ _ .returning _
   refine leaves_cons (f:=81) (args:= #[.pointer (some ⟨h.t,0,none⟩),.int .i64 s1.sp.taken.length,.pointer (some ⟨N+1,0,none⟩)]) (by simp) (by simp[go_sem]) ?_
   refine (Vu h s6 s1.sp.taken.length (N+1) 11 _ _ _ (by omega) bu.out (Bh (Ad h s6) (Sl.block (N+1) Fw [.int .i64 11]))).mono ?_
   rintro e u' D ⟨rfl,rfl,c⟩
   haveI:=c.i
   simp[Leaves,settle,results,Tryz.results33,go_sem]
   exact ⟨rfl,AD _ _ _⟩
 obtain ⟨p,q,m,x,y,s7,s8,s9,s10,s11,⟨hp,hq,hm,hx,hy⟩,hQ⟩:=dh.out (by rw[ax.out,J.out];omega)
 have hd:decide (1024<H-r1+r0+(d:Int))=false:=decide_eq_false hb
 rw[ax.out] at hm
 obtain ⟨w1,fy,w3⟩:=df.out
 have ds:=Fc (fun p s n s' h=>Es h) 30 _ _ _ _ _ hp (-31) 20 (by omega) (by omega) (by simp only;omega) (by simp only;omega)
 have dt:=Fc (fun p s n s' h=>Es h) 30 _ _ _ _ _ hq (-62) 454 (by omega) (by omega) (by omega) (by omega)
 have c8:=Gr hm
 rw[J.out] at c8
 have du:=JQ (fun p s n s' h=>PG h) hx (-31) 454 (by omega) (by omega) (by omega) (by omega) (by omega) (by omega)
 have d6:=fun F w q=>c6 F w q (by rw[hp];simp)
 rw[hp] at d6
 have d7:=fun F w q=>Px 30 h s7 p.2 (R.2-L.2) F w q (by omega) (by omega) (by omega) w3 (by rw[hq];simp)
 rw[hq] at d7
 have d8:=fun F w q=>I5 h s8 js _ _ F w HJ.out q (by rw[J.out];omega) (by rw[hm];simp)
 rw[hm] at d8
 have d9:=fun F w q=>LV h s9 p.1 m F w q (by omega) (by omega) (by omega) (by omega) (by rw[hx];simp)
 rw[hx] at d9
 have O:=fun F w q'=>LV h s10 x q.2 F w q' (by omega) (by omega) (by omega) (by omega) (by rw[hy];simp)
 rw[hy] at O
 obtain ⟨⟨⟨p1,p2,p3,p4⟩,ph⟩,⟨⟨o1,o2,o3,o4⟩,oh⟩⟩:=p
 obtain ⟨⟨⟨g1,g2,g3,g4⟩,gh⟩,⟨⟨l1,l2,l3,l4⟩,lh⟩⟩:=q
 obtain ⟨⟨m1,m2,m3,m4⟩,mh⟩:=m
 obtain ⟨⟨u1,u2,u3,u4⟩,uh⟩:=x
 obtain ⟨⟨y1,y2,y3,y4⟩,yh⟩:=y
 unfold Qq at d6 d7
 unfold Qu at d8 d9 O
 unfold Bi at d6 d7 d8 d9 O
 simp only at d6 d7 d8 d9 O hQ
 subst hQ
 rw[hd]
 clear hp hq hm hx hy ds dt c8 du c6
 go_wp2_with fail
 with_reducible refine Calls.mono (d6 _ _ (Ae (Ad h s6))) ?_
 rintro e cq ⟨v14,f3,rfl,⟨rfl,rfl⟩,c⟩
 rw[Ay] at c
 haveI:=c.i
 obtain ⟨j,V⟩:=Aq cq.heap.size
 clear a6
 go_wp2_with fail
 with_reducible refine Calls.mono (d7 _ _ (Ae (Ad h s7))) ?_
 rintro e D ⟨fp,f4,rfl,⟨rfl,rfl⟩,be⟩
 rw[Ay] at be
 haveI:=be.i
 have ci:Sat (Ad h s8*(rw AK 4 (.slice aj d cj) (AQ js)*(Sl.block j DF [.int .i64 p1,.int .i64 p2,.int .i64 p3,.int .i64 p4,.int .i64 ph]*(Sl.block (N+1) Fw [.int .i64 0]*(Sl.block N PW [.int .i64 0]*(B*F)))))) D:=by
  rw[←V]
  exact DZ _ _ _ _ _ _
 obtain ⟨r,W⟩:=Aq D.heap.size
 haveI:=ci.i
 clear c be d6 d7
 try rw[V]
 clear V
 go_upto_region 28 with (fail)
 try rw[W]
 have bf:Sat (Sl.block (r+1) DF [.int .i64 l1,.int .i64 l2,.int .i64 l3,.int .i64 l4,.int .i64 lh]*(Ad h s8*(rw AK 4 (.slice aj d cj) (AQ js)*(Sl.block j DF [.int .i64 p1,.int .i64 p2,.int .i64 p3,.int .i64 p4,.int .i64 ph]*(Sl.block (N+1) Fw [.int .i64 0]*(Sl.block N PW [.int .i64 0]*(B*F))))))) ((D.alloc (.cells #[.int .i64 g1,.int .i64 g2,.int .i64 g3,.int .i64 g4,.int .i64 gh] DF)).alloc (.cells #[.int .i64 l1,.int .i64 l2,.int .i64 l3,.int .i64 l4,.int .i64 lh] DF)):=by
  rw[←W]
  exact Ax (C:=Sl.block D.heap.size DF [.int .i64 g1,.int .i64 g2,.int .i64 g3,.int .i64 g4,.int .i64 gh]) (by ac_rfl)
 clear W ci
 generalize (D.alloc (.cells #[.int .i64 g1,.int .i64 g2,.int .i64 g3,.int .i64 g4,.int .i64 gh] DF)).alloc (.cells #[.int .i64 l1,.int .i64 l2,.int .i64 l3,.int .i64 l4,.int .i64 lh] DF)=w55 at bf⊢
 haveI:=bf.i
 go_cut [27] from 28 to 185 (fun eg wx=> ∃M:Nat,eg= .pointer (some ⟨M,0,none⟩)∧Sat (Sl.block M DF [.int .i64 y1,.int .i64 y2,.int .i64 y3,.int .i64 y4,.int .i64 yh]*(Ad h s11*(Sl.block (N+1) Fw [.int .i64 0]*(Sl.block N PW [.int .i64 0]*(B*F))))) wx)
 case first =>
  go_region_held3 (fun a=>a.cell? ⟨j,0,none⟩=some (.int .i64 p1)∧a.cell? ⟨j,1,none⟩=some (.int .i64 p2)∧a.cell? ⟨j,2,none⟩=some (.int .i64 p3)∧a.cell? ⟨j,3,none⟩=some (.int .i64 p4)∧a.cell? ⟨j,4,none⟩=some (.int .i64 ph)∧a.cell? ⟨r+1,0,none⟩=some (.int .i64 l1)∧a.cell? ⟨r+1,1,none⟩=some (.int .i64 l2)∧a.cell? ⟨r+1,2,none⟩=some (.int .i64 l3)∧a.cell? ⟨r+1,3,none⟩=some (.int .i64 l4)∧a.cell? ⟨r+1,4,none⟩=some (.int .i64 lh)) (first|exact ⟨Ac _ _ _,Ac _ _ _,Ac _ _ _,Ac _ _ _,Ac _ _ _,Ac _ _ _,Ac _ _ _,Ac _ _ _,Ac _ _ _,Ac _ _ _⟩) (first
   |(
      go_at_call 84
      with_reducible refine Calls.mono (d8 _ _ (Bh (Ad h s8) (rw AK 4 (.slice aj d cj) (AQ js)))) ?_
      rintro e fu ⟨fq,f5,rfl,⟨rfl,rfl⟩,ak⟩
      rw[Ay] at ak
      haveI:=ak.i)
   |(
      go_at_call 99
      with_reducible refine Calls.mono (d9 _ _ (Ae (Ad h s9))) ?_
      rintro e fv ⟨fr,f6,rfl,⟨rfl,rfl⟩,ck⟩
      rw[Ay] at ck
      haveI:=ck.i)
   |(
      go_at_call 99
      with_reducible refine Calls.mono (O _ _ (Ae (Ad h s10))) ?_
      rintro e fw ⟨fs,f7,rfl,⟨rfl,rfl⟩,cm⟩
      rw[Ay] at cm
      haveI:=cm.i))
  all_goals
   go_wp2
   go_meet
   exact ⟨_,rfl,DZ _ _ _ _ _ _⟩
 obtain ⟨M,rfl,ak⟩:=hcut
 haveI:=ak.i
 clear bf
 go_wp2
 refine leaves_cons (f:=93) (args:= #[.pointer (some ⟨N,0,none⟩),.pointer (some ⟨N+1,0,none⟩)]) (by simp) (by simp[go_sem]) ?_
 refine (Mc _ _ _).mono ?_
 rintro e u' fx ⟨rfl,rfl,rfl⟩
 show Leaves _ _ _ _ _ .returning _
 refine leaves_cons (f:=81) (args:= #[.pointer (some ⟨h.t,0,none⟩),.int .i64 s1.sp.taken.length,.pointer (some ⟨N+1,0,none⟩)]) (by simp) (by simp[go_sem]) ?_
 refine (PJ _ _ (N+1) _ _ _ (Ae (Sl.block (N+1) Fw [.int .i64 0]))).mono ?_
 rintro e u' fz ⟨rfl,rfl,e8⟩
 haveI:=e8.i
 simp[Leaves,settle,results,Tryz.results33,go_sem]
 exact ⟨rfl,AD _ _ _⟩
end Go.Proofs.YtfhbmblbidcmmaaGreat
namespace Go.Tr
section
variable {σ:Type}
def jT(rd:Int→M σ Nd)(root at_ n all:Int):M σ ((List Av×Int)×(List Av×Int)×BK×Int×Int):=
 M.bind (leftOf rd root at_) fun L=>M.bind (FO rd root (at_+n) all) fun R=>
 M.bind (EB rd root) fun whole=>M.bind (CR rd 30 whole R.2) fun r1=>M.bind (CR rd 30 whole L.2) fun r0=>M.pure (L,R,whole,r1,r0)
variable {X:Env σ} (hX:X.Ok)
include hX in
theorem jF{root:Int}{l put:List Av}{s:σ}(K:X.inv s)(hr:Rt (X.V s) root l)(m:AL l)(L:Nat)(M:L≤4)(k: ∀h:Nat,2*4^h≤l.length→h≤L){at_ n:Int}(h0:0≤at_)(O:0≤n)(h1:at_+n≤Aa l):
 Step X s (5*L+5) 0 (jT X.rd root at_ n (Aa l)) (fun q s'=>q.2.2.1.ER.AA-q.2.2.2.1+q.2.2.2.2+((join (q.1.1++put++q.2.1.1)).length:Int)=((Ep l at_ n put).length:Int)):=by
 have hm:=hr.fit.1
 unfold jT
 refine (Step.bind (R2:=L+1+(L+1+(L+1+(L+1+0)))) (W2:=0)
  (M8 hX K hr m L k h0 (by omega)) ?_).mono (by omega) (by omega) fun _ _ _ _ x=>x
 rintro p s1 e a ⟨A,y⟩
 refine Step.bind (W1:=0) (W2:=0) (KY hX e (hr.le a) m L k («to» :=at_+n) (by omega) h1) ?_
 rintro q s2 f b ⟨C,B,d⟩
 obtain ⟨o,D,r,t⟩:=IZ (put:=put) hm m h0 O y d
 have u:=(hr.le a).le b
 refine Step.bind (W1:=0) (W2:=0) (MN hX f u L k) ?_
 rintro whole s3 g z ⟨v,H⟩
 have w:=d.1
 have I:=d.2.1
 have J:=y.2.1
 rw[I,J]
 have hw1:Tl (X.V s3) whole (C++B):=by rw[←w];exact v
 refine Step.bind (W1:=0) (W2:=0) ((IJ hX 30 (h:=L) (by omega) g hw1 H)) ?_
 rintro r1 s4 i c rfl
 have hw2:Tl (X.V s4) whole (A++(D++B)):=by rw[←t];exact v.le c
 refine Step.bind (W1:=0) (W2:=0) (R2:=0) ((IJ hX 30 (h:=L) (by omega) i hw2 H)) ?_
 rintro r0 s5 j G rfl
 refine Step.ret j ?_
 simp only
 rw[v.AA,o,w,r]
 simp only[List.length_append]
 omega
end
end Go.Tr
namespace Go.Proofs.YtfhbmblbidcmmaaGreat
open Go.RowKit Go.Sl Go.Dk Go.Tr
variable [Em]
theorem JO{α:Type}{s:TS}{R W:Nat}{m:M TS α}{Q:α→TS→Prop}(h:Step (dZ true) s R W m Q)(hw:W≤CB s.sp)(hl:R+W≤AM s):
 ∃a s',m s= .ok a s'∧GS true s'∧Le (nodeAt s) (nodeAt s')∧s'.ck.reads.toNat≤s.ck.reads.toNat+R∧CB s.sp≤CB s'.sp+W∧AM s≤AM s'+(R+W)∧Q a s':=by
 rcases h with h|h
 ·have:CB s.sp<W:=h
  omega
 cases hm:m s with
 | ok a s' =>
  rw[hm] at h
  obtain ⟨h1,b,c,d,f,g⟩:=h
  exact ⟨a,s',rfl,h1,b,c,d,f,g⟩
 | fault e s' =>
  rw[hm] at h
  obtain ⟨h1,_⟩:=h
  rcases h1 with ⟨h1,_⟩|h1
  ·grind
  have:CB s.sp<W:=h1
  omega
 | bad =>
  rw[hm] at h
  have:AM s<R+W:=h
  omega
structure Ch (a b:Ck):Prop where
 cap:b.cap=a.cap
 nm:b.nm=a.nm
 Jk: ∀n,n≠a.nm→b.d.get n=a.d.get n
theorem Ch.same(a:Ck):Ch a a:=⟨rfl,rfl,fun _ _=>rfl⟩
theorem Ch.next{a b c:Ck}(h:Ch a b)(k:Ch b c):Ch a c:=⟨k.cap.trans h.cap,k.nm.trans h.nm,fun n d=>(k.Jk n (by rw[h.nm];exact d)).trans (h.Jk n d)⟩
theorem Lq(d:Dk)(nm:ByteArray)(k:Int)(b:List UInt8)(n:ByteArray)(h:n≠nm):(d.write nm k b).2.get n=d.get n:=by
 unfold Dk.write
 split
 ·rfl
 split
 ·rfl
 split
 ·rfl
 split
 ·rfl
 split
 ·rfl
 unfold Dk.get Dk.written Dk.put
 rw[CH,if_neg h]
 rfl
theorem R7(s:Ck)(no:Int):Ch s (s.B4 no).2:=by
 unfold Ck.B4
 split<;>exact ⟨rfl,rfl,fun n a=>Lq _ _ _ _ _ a⟩
theorem PQ(s:Ck)(no:Int):Ch s (s.write no).2:=by
 unfold Ck.write
 split
 ·exact Ch.same s
 split
 ·have h1:Ch s { s with d:=(s.pad no).2 } :=⟨rfl,rfl,fun n a=>Lq _ _ _ _ _ a⟩
  split
  ·exact h1.next (R7 _ no)
  omega
 exact R7 s no
theorem WN(s:Ck)(no:Int):Ch s (s.release no).2:=by
 have h:=PQ s no
 unfold Ck.release
 split
 ·exact ⟨h.cap,h.nm,h.Jk⟩
 omega
theorem fL(s:Ck):Ch s s.room.2:=by
 unfold Ck.room
 split
 ·exact Ch.same s
 split
 ·exact Ch.same s
 exact WN s _
theorem Yl(s:Ck)(no:Int)(b:List UInt8):Ch s (s.take no b).2:=by
 have h:=fL s
 unfold Ck.take
 split
 ·exact ⟨h.cap,h.nm,h.Jk⟩
 omega
theorem iP(s:Ck)(no:Int):Ch s (s.get no).2.2:=by
 unfold Ck.get
 split
 ·exact Ch.same s
 split
 ·exact ⟨rfl,rfl,fun _ _=>rfl⟩
 simp only
 split
 ·have h:=Yl s no (s.d.read s.nm (no*256) 256).2
  split
  ·exact ⟨h.cap,h.nm,h.Jk⟩
  omega
 exact Ch.same s
theorem jG(s:Ck)(no:Int)(b:List UInt8):Ch s (s.put no b).2:=by
 unfold Ck.put
 split
 ·exact Ch.same s
 split
 ·exact ⟨rfl,rfl,fun _ _=>rfl⟩
 have h:=Yl s no b
 split
 ·exact ⟨h.cap,h.nm,h.Jk⟩
 omega
def V9(s s':TS):Prop:=s'.sp=s.sp∧Ch s.ck s'.ck
theorem BQ:Ta V9 where
 same s:=⟨rfl,Ch.same _⟩
 next a b c h1 h2:=⟨h2.1.trans h1.1,h1.2.next h2.2⟩
def Fv(s s':TS):Prop:=Ch s.ck s'.ck
theorem AW:Ta Fv where
 same s:=Ch.same _
 next a b c h1 h2:=Ch.next h1 h2
theorem L8(P:TS→TS→Prop)(h:Ta P)(e:Int):Aj P (Fi e):=by
 unfold Fi
 split
 ·exact Aj.pure h _
 exact Aj.fail h _
theorem Ik(p:Int):Aj V9 (Ak p):=by
 refine Aj.bind BQ (fun s=>?_) fun r=>Aj.bind BQ (L8 _ BQ _) fun _=>?_
 ·unfold Ue
  by_cases h:s.ops<BG
  ·rw[if_pos h];exact ⟨rfl,iP _ _⟩
  grind
 cases CU p r.2 with
 |none=>exact Aj.fail BQ _
 |some n=>exact Aj.pure BQ _
theorem R4(p:Int):Aj Fv (Ak p):=fun s=>by
 have:=Ik p s
 cases h:Ak p s with
 |ok a s'=>rw[h] at this;exact this.2
 |fault e s'=>rw[h] at this;exact this.2
 |bad=>trivial
theorem Ld(n:Nd):Aj Fv (An n):=by
 refine Aj.ite (Aj.fail AW _) ?_
 refine Aj.bind AW (fun s=>?_) fun t=>Aj.bind AW (L8 _ AW _) fun _=>Aj.bind AW (L8 _ AW _) fun _=>Aj.bind AW (fun s=>jG _ _ _) fun e=>Aj.bind AW (L8 _ AW _) fun _=>Aj.pure AW _
 unfold Jg
 by_cases h:s.ops<BG
 ·rw[if_pos h];exact Ch.same _
 grind
theorem Vw{s:TS}{m:Nat}(h:s.sp.taken.length=m):s.Jc m=s:=by
 subst h
 unfold TS.Jc Eh
 simp only[List.drop_length,List.take_length]
 have e:(Cd [] s.sp.used [])=(s.sp.used,[]):=rfl
 rw[e]
 have a:Df ([]:List Int)= []:=by simp[Df]
 rw[a]
 rfl
end Go.Proofs.YtfhbmblbidcmmaaGreat
namespace Go.Proofs.YtfhbmblbidcmmaaGreat
open Go.RowKit Go.Sl Go.Dk Go.Tr
variable [Em]
def CS(l:List Av):Int×List Av:=if Bk l=false then (1,[]) else if 1024<(join l).length then (11,[]) else (0,join l)
def Co(l:List Av)(at_ n:Int)(put:List Av):Int×List Av:=
 if Bk put=false then (1,[]) else
 if at_<0∨n<0∨Aa l<at_∨Aa l-at_<n then (2,[]) else
 if 1048576<Aa l-n+Aa put then (10,[]) else
 if n=0∧put= [] then (0,l) else
 if 1024<(Ep l at_ n put).length then (11,[]) else (0,Ep l at_ n put)
structure RE (s s':TS) (R W:Nat):Prop where
 inv:GS true s'
 le:Le (nodeAt s) (nodeAt s')
 reads:s'.ck.reads.toNat≤s.ck.reads.toNat+R
 room:CB s.sp≤CB s'.sp+W
 left:AM s≤AM s'+(R+W)
 cap:Fv s s'
theorem RE.refl{s:TS}(h:GS true s):RE s s 0 0:=⟨h,Le.MK _,Nat.le_refl _,Nat.le_refl _,Nat.le_refl _,AW.same s⟩
theorem RE.more{s s':TS}{R W R' a:Nat}(h:RE s s' R W)(h1:R≤R')(b:W≤a):RE s s' R' a:=⟨h.inv,h.le,by have:=h.reads;omega,by have:=h.room;omega,by have:=h.left;omega,h.cap⟩
theorem RE.trans{s s1 s2:TS}{R1 W1 R2 W2:Nat}(h:RE s s1 R1 W1)(k:RE s1 s2 R2 W2):RE s s2 (R1+R2) (W1+W2):=
 ⟨k.inv,h.le.trans k.le,by have:=h.reads;have:=k.reads;omega,by have:=h.room;have:=k.room;omega,by have:=h.left;have:=k.left;omega,AW.next _ _ _ h.cap k.cap⟩
theorem T1{l:List Av}(hm:Bk l=true)(h: ¬1024<(join l).length):Fit (join l):=by
 obtain ⟨h1,a⟩:=Cw hm
 exact ⟨ON h1 a,by rw[Js];exact a,by omega⟩
theorem dQ(h:Th)(s:TS)(l:List Av)(v:Value)(B F:Ab)(w:World)(g:A1 B v l)(hs:Sat (Ad h s*(B*F)) w)(i:GS true s)(hl:l.length≤65536)(hr:2048≤CB s.sp)(q:2048≤AM s):
 Calls Tryz.prog 23 #[.pointer (some ⟨h.t,0,none⟩),v] w fun e f=> ∃(r:Int)(s':TS),e= .returned (Oo r (CS l).1)∧Sat (Ad h s'*(B*F)) f∧RE s s' 0 2048∧((CS l).1=0→Rt (nodeAt s') r (CS l).2)∧((CS l).1≠0→r=0):=by
 unfold CS
 by_cases hm:Bk l=false
 ·rw[if_pos hm]
  refine (Tq h s l v B F w g hs hl hm).mono fun e f hx=>?_
  unfold DM at hx
  rw[if_pos hm] at hx
  exact ⟨0,s,hx.1,hx.2,(RE.refl i).more (by omega) (by omega),fun e=>absurd e (by decide),fun _=>rfl⟩
 rw[if_neg hm]
 have a:Bk l=true:=by simpa using hm
 by_cases b:1024<(join l).length
 ·rw[if_pos b]
  refine (Ox h s l v B F w g hs hl a (by unfold DM;rw[if_neg hm,if_pos b];simp)).mono fun e f hx=>?_
  unfold DM at hx
  rw[if_neg hm,if_pos b] at hx
  exact ⟨0,s,hx.1,hx.2,(RE.refl i).more (by omega) (by omega),fun e=>absurd e (by decide),fun _=>rfl⟩
 rw[if_neg b]
 obtain ⟨r,s',hx,h1,k,m,n,o,p⟩:=JO (Ts (Lu true) (s:=s) i (T1 a b)) hr (by omega)
 have d:Ja An (join l) s= .ok r s':=hx
 have j:DM l s= .ok r s':=by unfold DM;rw[if_neg hm,if_neg b,d];rfl
 have c:=Aj.ok (Me AW Ld (join l)) d
 refine (Ox h s l v B F w g hs hl a (by rw[j];simp)).mono fun e f hy=>?_
 rw[j] at hy
 exact ⟨r,s',hy.1,hy.2,⟨h1,k,m,n,o,c⟩,fun _=>p,fun e=>absurd rfl e⟩
theorem fQ(h:Th)(s:TS)(root:Int)(l:List Av)(F:Ab)(w:World)(hs:Sat (Ad h s*F) w)(f:GS true s)(g:Rt (nodeAt s) root l)(i:1≤AM s):
 ∃s',FB Ak root s= .ok (Aa l) s'∧RE s s' 1 0:=by
 obtain ⟨r,s',hx,h1,b,c,d,e,rfl⟩:=JO (fS (Lu true) (s:=s) f g) (Nat.zero_le _) (by omega)
 have a:=hx
 exact ⟨s',a,h1,b,c,d,e,(show Fv s s' from Aj.ok (Vo AW R4 root) a)⟩
theorem Vi(h:Th)(s:TS)(root at_ n:Int)(l put:List Av)(v:Value)(B F:Ab)(w:World)(H:A1 B v put)(hs:Sat (Ad h s*(B*F)) w)(hl:put.length≤1000)(hI:GS true s)(Q:Rt (nodeAt s) root l)(hj:AL l)
 (L:Nat) (k:L≤4) (hL: ∀h:Nat,2*4^h≤l.length→h≤L) (hr:2600≤CB s.sp) (hf:2800≤AM s):
 Calls Tryz.prog 33 #[.pointer (some ⟨h.t,0,none⟩),.int .i64 root,.int .i64 at_,.int .i64 n,v] w fun e D=> ∃(r:Int)(s':TS),e= .returned (Oo r (Co l at_ n put).1)∧Sat (Ad h s'*(B*F)) D∧RE s s' (2*(L*L)+17*L+20) 2600∧
  ((Co l at_ n put).1=0→Rt (nodeAt s') r (Co l at_ n put).2)∧((Co l at_ n put).1≠0→r=0)∧((Co l at_ n put).1=0→n=0→put= []→r=root):=by
 have aq:L*L≤16:=by have:=Nat.mul_le_mul k k;omega
 unfold Co
 by_cases hm:Bk put=false
 · rw[if_pos hm]
   refine (Xg h s root at_ n put v B F w H hs (by omega) hm).mono fun e D hx=>?_
   exact ⟨0,s,hx.1,hx.2,(RE.refl hI).more (by omega) (by omega),fun e=>absurd e (by decide),fun _=>rfl,fun e=>absurd e (by decide)⟩
 rw[if_neg hm]
 have c:Bk put=true:=by simpa using hm
 obtain ⟨s1,P,d⟩:=fQ h s root l (B*F) w hs hI Q (by omega)
 by_cases W:at_<0∨n<0∨Aa l<at_∨Aa l-at_<n
 · rw[if_pos W]
   refine (SN h s root at_ n put v B F w H hs (by omega) c _ s1 P W).mono fun e D hx=>?_
   exact ⟨0,s1,hx.1,hx.2,d.more (by omega) (by omega),fun e=>absurd e (by decide),fun _=>rfl,fun e=>absurd e (by decide)⟩
 rw[if_neg W]
 by_cases b:1048576<Aa l-n+Aa put
 · rw[if_pos b]
   refine (Xe h s root at_ n put v B F w H hs (by omega) c _ s1 P (by omega) (by omega) (by omega) (by omega) b).mono fun e D hx=>?_
   exact ⟨0,s1,hx.1,hx.2,d.more (by omega) (by omega),fun e=>absurd e (by decide),fun _=>rfl,fun e=>absurd e (by decide)⟩
 rw[if_neg b]
 by_cases a:n=0∧put= []
 · rw[if_pos a]
   refine (Vj h s root at_ n put v B F w H hs (by omega) c _ s1 P (by omega) (by omega) (by omega) (by omega) b a.1 a.2).mono fun e D hx=>?_
   exact ⟨root,s1,hx.1,hx.2,d.more (by omega) (by omega),fun _=>Q.le d.le,fun e=>absurd rfl e,fun _ _ _=>rfl⟩
 rw[if_neg a]
 have K:=(Cw c).1
 have ar:=d.left
 have au:=d.room
 obtain ⟨⟨u,G,whole,r1,r0⟩,s6,J,p1,p2,p3,p4,p5,R⟩:=JO (jF (put:=put) (Lu true) d.inv (Q.le d.le) hj L k hL (at_:=at_) (n:=n) (by omega) (by omega) (by omega)) (Nat.zero_le _) (by omega)
 simp only at R
 have g:=J
 unfold jT at g
 obtain ⟨a1,s2,i,g1⟩:=A5 g
 obtain ⟨a2,s3,j,g2⟩:=A5 g1
 obtain ⟨a3,s4,T,g3⟩:=A5 g2
 obtain ⟨a4,s5,U,g4⟩:=A5 g3
 obtain ⟨a5,bk,V,g5⟩:=A5 g4
 cases g5
 have Z:mU s1 root at_ n (Aa l) u G whole r1 r0 s2 s3 s4 s5 s6:=⟨i,j,T,U,V⟩
 have O:V9 s1 s6:=by
  have q1:=Aj.ok (I6 BQ Ik root at_) i
  have q2:=Aj.ok (GX BQ Ik root (at_+n) (Aa l)) j
  have q3:=Aj.ok (Hc BQ Ik root) T
  have q4:=Aj.ok (Ej BQ Ik 30 whole G.2) U
  have q5:=Aj.ok (Ej BQ Ik 30 whole u.2) V
  exact BQ.next _ _ _ q1 (BQ.next _ _ _ q2 (BQ.next _ _ _ q3 (BQ.next _ _ _ q4 q5)))
 by_cases f:1024<(Ep l at_ n put).length
 · rw[if_pos f]
   have hu:=Vw (by rw[O.1])
   refine (NH h s root at_ n put v B F w H hs hl c _ s1 P (by omega) (by omega) (by omega) (by omega) b (fun i j=>a ⟨i,j⟩) u G whole r1 r0 s2 s3 s4 s5 s6 Z (.fault 11 s6) (fun _=>by rw[hu]) (fun hq=>absurd (by rw[R];omega) hq)).mono fun e D hx=>?_
   exact ⟨0,s6,hx.1,hx.2,(d.trans ⟨p1,p2,p3,p4,p5,O.2⟩).more (by omega) (by omega),fun e=>absurd e (by decide),fun _=>rfl,fun e=>absurd e (by decide)⟩
 rw[if_neg f]
 obtain ⟨r,s11,Y,b1,b2,b3,b4,b5,b6⟩:=JO ((ZB (Lu true) d.inv (Q.le d.le) hj L k hL (at_:=at_) (n:=n) (by omega) (by omega) (by omega) K (by omega)).1 (by omega)) (by omega) (by omega)
 have o:=Y
 have I:=Aj.ok (Qm AW R4 Ld root at_ n (Aa l) put) o
 have z:M.bind (Bq Ak An 30 whole u.2) (fun p=>M.bind (Bq Ak An 30 p.2 (G.2-u.2)) fun q=>M.bind (Cs An (join (u.1++put++G.1))) fun m=>M.bind (FG Ak An p.1 m) fun x=>M.bind (FG Ak An x q.2) fun y=>M.pure y.ER.Au) s6= .ok r s11:=by
  have hh:=o
  unfold Km at hh
  have i1:=Bd hh i
  have i2:=Bd i1 j
  have i3:=Bd i2 T
  have i4:=Bd i3 U
  have i5:=Bd i4 V
  rw[if_neg (by rw[R];omega)] at i5
  exact i5
 obtain ⟨p,s7,f1,j1⟩:=A5 z
 obtain ⟨q,s8,f2,j2⟩:=A5 j1
 obtain ⟨m,s9,f3,j3⟩:=A5 j2
 obtain ⟨x,s10,f4,j4⟩:=A5 j3
 obtain ⟨y,aa,f5,j5⟩:=A5 j4
 cases j5
 refine (NH h s root at_ n put v B F w H hs hl c _ s1 P (by omega) (by omega) (by omega) (by omega) b (fun i j=>a ⟨i,j⟩) u G whole r1 r0 s2 s3 s4 s5 s6 Z (.ok y.ER.Au s11) (fun hq=>absurd hq (by rw[R];omega)) (fun _=>⟨p,q,m,x,y,s7,s8,s9,s10,s11,⟨f1,f2,f3,f4,f5⟩,rfl⟩)).mono fun e D hx=>?_
 exact ⟨_,s11,hx.1,hx.2,(d.trans ⟨b1,b2,b3,b4,b5,I⟩).more (by omega) (by omega),fun _=>b6,fun e=>absurd rfl e,fun _ i j=>absurd ⟨i,j⟩ a⟩
