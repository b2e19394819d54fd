/- treeShape holds for every input. No condition. (part 42) -/
import Derived.Test.YtfhbmblbidcmmaaGreatSk36
import Derived.Test.YtfhbmblbidcmmaaGreatSk41
import Derived.Test.YtfhbmblbidcmmaaGreatSk37
set_option linter.all false
set_option maxRecDepth 100000
set_option maxHeartbeats 3200000
namespace Go.Proofs.YtfhbmblbidcmmaaGreat
open Go.RowKit Go.Sl Go.Dk Go.Tr
theorem X3{l:List Kd}(h: ∀x∈l,AA x=true):0≤B7 l∧0≤Be l:=by induction l with
 |nil=>exact ⟨by simp[B7],by simp[Be]⟩
 | cons a l c =>
  have b:=Dy (h a (List.mem_cons_self ..))
  grind [B7,Be]
theorem QD(n:Nd):0≤(AS n).1∧(AS n).1≤1048576∧0≤(AS n).2.2∧(AS n).2.2≤1036:=by
 unfold AS
 by_cases hm:may n=true
 ·rw[if_pos hm]
  obtain ⟨a,b⟩:=Dj hm
  obtain ⟨l1,l2⟩:=Cs hm
  have c:=Bx fun x hx=>(a x hx).2
  obtain ⟨d,e⟩:=X3 fun x hx=>(b x hx).2
  unfold may at hm
  grind
 simp_all
theorem Jt{σ:Type}{rd:Int→M σ Nd} : ∀(f:Nat)(n:Nd)(h:Int)(s:σ)(r:Int)(s':σ),CB rd f n h s= .ok r s'→h≤r∧r≤h+f
 | 0, n, h, s, r, s', e => by
  unfold CB at e
  split at e
  ·cases e;omega
  cases e
 | f + 1, n, h, s, r, s', e => by
  unfold CB at e
  split at e
  ·cases e;omega
  cases a:n.kids with
  |nil=>rw[a] at e;cases e
  | cons k l =>
   rw[a] at e
   obtain ⟨m,s1,c,b⟩:=Ay e
   have:=Jt f m (h+1) s1 r s' b
   omega
theorem RG{root:Int}{s s':TS}{x:BG}(e:Ev Ai root s= .ok x s'): -1≤x.Am∧x.Am≤20∧0≤x.DT.A4∧x.DT.A4≤1036:=by
 unfold Ev at e
 split at e
 ·cases e
  simp[C4,eK]
 obtain ⟨n,s1,d,a⟩:=Ay e
 obtain ⟨h,s2,b,c⟩:=Ay a
 cases c
 have h1:=Jt _ _ _ _ _ _ b
 have f:=QD n
 grind [IZ]
theorem NS: ∀(l:List Au)(n a:Int),0≤a→a≤n→(∀x∈l,Ah x=true)→(match Km l n a with
 | .inl (.here x a')=>Ah x=true∧0≤a'∧a'≤n∧n<a'+x.len
 | .inl _=>False
 | .inr a'=>0≤a'∧a'≤n)
 | [],n,a,h1,c,b=>⟨h1,c⟩
 | x :: l, n, a, h1, c, b => by
  unfold Km
  have hx:=b x (List.mem_cons_self ..)
  have hl:=DJ hx
  by_cases d:n<a+x.len
  ·simp_all
  rw[if_neg d]
  exact NS l n (a+x.len) (by omega) (by omega) fun y hy=>b y (List.mem_cons_of_mem _ hy)
theorem NT: ∀(l:List Kd)(n a:Int),0≤a→a≤n→(∀x∈l,AA x=true)→(match LP l n a with
 | .here _ _=>False
 | .below _ a'=>0≤a'∧a'≤n
 | .XT=>True)
 | [],n,a,h1,c,b=>trivial
 | x :: l, n, a, h1, c, b => by
  unfold LP
  have hx:=Dy (b x (List.mem_cons_self ..))
  by_cases d:n<a+x.bytes
  ·simp_all
  rw[if_neg d]
  exact NT l n (a+x.bytes) (by omega) (by omega) fun y hy=>b y (List.mem_cons_of_mem _ hy)
theorem L2{σ:Type}{rd:Int→M σ Nd}(c: ∀p s n s',rd p s= .ok n s'→may n=true): ∀(f:Nat)(m:Nd)(n a:Int)(s:σ)(z:Au×Int)(s':σ),may m=true→0≤a→a≤n→DO rd f m n a s= .ok z s'→Ah z.1=true∧0≤z.2∧z.2≤n∧n<z.2+z.1.len
 |0,m,n,a,s,z,s',hm,h1,i,e=>by cases e
 | f + 1, m, n, a, s, z, s', hm, h1, i, e => by
  obtain ⟨o,q⟩:=Dj hm
  have b:=NS m.Ag n a h1 i fun x hx=>(o x hx).2
  unfold DO Xx at e
  cases j:Km m.Ag n a with
  | inl r =>
   rw[j] at b e
   cases r with
   |here x a'=>simp only at e b;cases e;exact b
   |below p a'=>exact b.elim
   |XT=>exact b.elim
  | inr a' =>
   rw[j] at b e
   simp only at b e
   have b2:=NT m.kids n a' b.1 b.2 fun x hx=>(q x hx).2
   cases d:LP m.kids n a' with
   |here x g=>rw[d] at b2;exact b2.elim
   |XT=>rw[d] at e;cases e
   | below p g =>
    rw[d] at e b2
    obtain ⟨t,s1,k,l⟩:=Ay e
    exact L2 c f t n g s1 z s' (c _ _ _ _ k) b2.1 b2.2 l
theorem I0{root n:Int}{s s':TS}{z:Au×Int}(h:0≤n)(e:IB Ai root n s= .ok z s'):Ah z.1=true∧0≤z.2∧z.2≤n∧n<z.2+z.1.len:=by
 obtain ⟨m,s1,a,b⟩:=Ay e
 exact L2 (fun p s n s' h=>Ea h) 22 m n 0 s1 z s' (Ea a) (Int.le_refl _) h b
theorem I1{root:Int}{s s':TS}{z:Int}(e:Ec Ai root s= .ok z s'):0≤z∧z≤1048576:=by
 unfold Ec at e
 split at e
 ·cases e;omega
 obtain ⟨m,s1,b,a⟩:=Ay e
 cases a
 have:=QD m
 omega
theorem O5(x:Au)(a b:Int):(Go.Tr.part x a b).length≤1:=by grind [Go.Tr.part]
theorem Re{root at_:Int}{s s':TS}{L:List Au×Int}(h0:0≤at_)(e:Go.Tr.leftOf Ai root at_ s= .ok L s'):L.1.length≤1∧(∀y∈L.1,Ah y=true)∧0≤L.2∧L.2≤at_:=by
 unfold Go.Tr.leftOf at e
 split at e
 ·obtain ⟨z,s1,b,c⟩:=Ay e
  cases c
  obtain ⟨a,b2,d,f⟩:=I0 (by omega) b
  exact ⟨O5 _ _ _,Ls a (Int.le_refl _) (by (try simp only);omega),b2,by (try simp only);omega⟩
 cases e
 exact ⟨by simp,fun y hy=>(List.not_mem_nil hy).elim,h0,Int.le_refl _⟩
theorem P0{root a all:Int}{s s':TS}{R:List Au×Int}(h0:0≤a)(e:Go.Tr.FJ Ai root a all s= .ok R s'):R.1.length≤1∧(∀y∈R.1,Ah y=true)∧a≤R.2∧R.2≤a+1048576:=by
 unfold Go.Tr.FJ at e
 split at e
 ·obtain ⟨z,s1,c,d⟩:=Ay e
  cases d
  obtain ⟨b,b2,f,g⟩:=I0 h0 c
  have i:=C9.1 b
  exact ⟨O5 _ _ _,Ls b (by omega) (Int.le_refl _),by (try simp only);omega,by (try simp only);omega⟩
 cases e
 grind
theorem Cy{l:List Au}(h:Bh l=true):(∀x∈l,Ah x=true)∧Aa l≤1048576:=by
 rw[E2] at h
 simp only[Bool.and_eq_true,List.all_eq_true,decide_eq_true_eq] at h
 exact h
theorem VQ(h:Th)(s:TS)(root at_ n:Int)(put:List Au)(v:Value)(B F:Ac)(w:World)(d:An B v put)(hs:Sat (Ae h s*(B*F)) w)(hl:put.length≤65536)(hm:Bh put=false):
 Calls Tryz.prog 33 #[.pointer (some ⟨h.t,0,none⟩),.int .i64 root,.int .i64 at_,.int .i64 n,v] w fun e l=>e= .returned (KC 0 1)∧Sat (Ae h s*(B*F)) l:=by
 have j: ∀(b:Fn)(first cap:Array Value)(w:World),(Instr.makeFunc b first cap).run Tryz.prog w= .ok (.func b first cap) w:=fun _ _ _ _=>rfl
 obtain ⟨m,c0,rfl,f,g⟩:=d.v
 have a:=fun F w q=>Gj put _ B F w d q (by omega)
 rw[hm] at a
 have c:Sat (B*(Ae h s*F)) w:=hs.eq (by ac_rfl)
 haveI:=c.i
 unfold KC
 clear hs c
 go_enter_defers Tryz.func33,Tryz.ntmps33
 go_wp2_with fail
 with_reducible refine Calls.mono (a _ _ (Af B)) ?_
 rintro e o ⟨rfl,k⟩
 haveI:=k.i
 go_wp2
 simp[bodyPostD,Leaves,settle,results,Tryz.results33,go_sem]
 exact AD _ _ _
theorem RS(h:Th)(s:TS)(root at_ n:Int)(put:List Au)(v:Value)(B F:Ac)(w:World)(g:An B v put)(hs:Sat (Ae h s*(B*F)) w)(hl:put.length≤65536)(hm:Bh put=true)(all:Int)(s1:TS)(c:Ec Ai root s= .ok all s1)(b:at_<0∨n<0∨all<at_∨all-at_<n):
 Calls Tryz.prog 33 #[.pointer (some ⟨h.t,0,none⟩),.int .i64 root,.int .i64 at_,.int .i64 n,v] w fun e r=>e= .returned (KC 0 2)∧Sat (Ae h s1*(B*F)) r:=by
 have l: ∀(d:Fn)(first cap:Array Value)(w:World),(Instr.makeFunc d first cap).run Tryz.prog w= .ok (.func d first cap) w:=fun _ _ _ _=>rfl
 obtain ⟨u,c0,rfl,j,k⟩:=g.v
 have a:=fun F w q=>Gj put _ B F w g q (by omega)
 rw[hm] at a
 have f:Sat (B*(Ae h s*F)) w:=hs.eq (by ac_rfl)
 haveI:=f.i
 have c1:=fun F w q=>FR h s root F w q (by rw[c];simp)
 rw[c] at c1
 have m:=I1 c
 unfold KC
 clear hs f
 go_enter_defers Tryz.func33,Tryz.ntmps33
 go_wp2_with fail
 with_reducible refine Calls.mono (a _ _ (Af B)) ?_
 rintro e G ⟨rfl,o⟩
 haveI:=o.i
 go_wp2_with fail
 with_reducible refine Calls.mono (c1 _ _ (Af (Ae h s))) ?_
 rintro e H ⟨rfl,p⟩
 haveI:=p.i
 unfold KC
 by_cases x:at_<0
 ·clear b
  go_wp2
  simp[bodyPostD,Leaves,settle,results,Tryz.results33,go_sem]
  exact AD _ _ _
 by_cases y:n<0
 ·clear b
  go_wp2
  simp[bodyPostD,Leaves,settle,results,Tryz.results33,go_sem]
  exact AD _ _ _
 by_cases z:all<at_
 ·clear b
  go_wp2
  simp[bodyPostD,Leaves,settle,results,Tryz.results33,go_sem]
  exact AD _ _ _
 have D:all-at_<n:=by omega
 have hw:=Bc (all-at_) (by omega)
 clear b
 go_wp2
 simp[bodyPostD,Leaves,settle,results,Tryz.results33,go_sem]
 exact AD _ _ _
theorem VO(h:Th)(s:TS)(root at_ n:Int)(put:List Au)(v:Value)(B F:Ac)(w:World)(g:An B v put)(hs:Sat (Ae h s*(B*F)) w)(hl:put.length≤65536)(hm:Bh put=true)(all:Int)(s1:TS)(l:Ec Ai root s= .ok all s1)(M: ¬at_<0)(O: ¬n<0)(P: ¬all<at_)(Q: ¬all-at_<n)(G:1048576<all-n+Aa put):
 Calls Tryz.prog 33 #[.pointer (some ⟨h.t,0,none⟩),.int .i64 root,.int .i64 at_,.int .i64 n,v] w fun e K=>e= .returned (KC 0 10)∧Sat (Ae h s1*(B*F)) K:=by
 have z: ∀(o:Fn)(first cap:Array Value)(w:World),(Instr.makeFunc o first cap).run Tryz.prog w= .ok (.func o first cap) w:=fun _ _ _ _=>rfl
 obtain ⟨L,c0,rfl,u,y⟩:=g.v
 have f:=fun F w q=>Gj put _ B F w g q (by omega)
 rw[hm] at f
 have p:Sat (B*(Ae h s*F)) w:=hs.eq (by ac_rfl)
 haveI:=p.i
 have c1:=fun F w q=>FR h s root F w q (by rw[l];simp)
 rw[l] at c1
 have D:=I1 l
 have a:=Cy hm
 have b:=fun x hx=>DJ (a.1 x hx)
 have j:=Bx a.1
 have c:=fun F w q=>Mq put _ B F w g q (by omega) (fun x hx=>by have:=b x hx;have:=C9.1 (a.1 x hx);omega)
 have hw:=Bc (all-at_) (by omega)
 have hw2:=Bc (all-n) (by omega)
 obtain ⟨m,k⟩:=Aq (Aa put)
 rw[k] at c a j G
 obtain ⟨d,r⟩:=a
 have hw3:=Bc (all-n+m) (by omega)
 clear d b
 unfold KC
 clear hs p
 go_enter_defers Tryz.func33,Tryz.ntmps33
 go_wp2_with fail
 with_reducible refine Calls.mono (f _ _ (Af B)) ?_
 rintro e R ⟨rfl,H⟩
 haveI:=H.i
 go_wp2_with fail
 with_reducible refine Calls.mono (c1 _ _ (Af (Ae h s))) ?_
 rintro e T ⟨rfl,I⟩
 haveI:=I.i
 unfold KC
 go_wp2_with fail
 with_reducible refine Calls.mono (c _ _ (Af B)) ?_
 rintro e U ⟨rfl,J⟩
 haveI:=J.i
 go_wp2
 simp[bodyPostD,Leaves,settle,results,Tryz.results33,go_sem]
 exact AD _ _ _
theorem Uo(h:Th)(s:TS)(root at_ n:Int)(put:List Au)(v:Value)(B F:Ac)(w:World)(g:An B v put)(hs:Sat (Ae h s*(B*F)) w)(hl:put.length≤65536)(hm:Bh put=true)(all:Int)(s1:TS)(l:Ec Ai root s= .ok all s1)(O: ¬at_<0)(P: ¬n<0)(Q: ¬all<at_)(R: ¬all-at_<n)(H: ¬1048576<all-n+Aa put)(D:n=0)(hp:put= []):
 Calls Tryz.prog 33 #[.pointer (some ⟨h.t,0,none⟩),.int .i64 root,.int .i64 at_,.int .i64 n,v] w fun e L=>e= .returned (KC root 0)∧Sat (Ae h s1*(B*F)) L:=by
 have z: ∀(o:Fn)(first cap:Array Value)(w:World),(Instr.makeFunc o first cap).run Tryz.prog w= .ok (.func o first cap) w:=fun _ _ _ _=>rfl
 obtain ⟨M,c0,rfl,u,y⟩:=g.v
 have f:=fun F w q=>Gj put _ B F w g q (by omega)
 rw[hm] at f
 have p:Sat (B*(Ae h s*F)) w:=hs.eq (by ac_rfl)
 haveI:=p.i
 have c1:=fun F w q=>FR h s root F w q (by rw[l];simp)
 rw[l] at c1
 have G:=I1 l
 have a:=Cy hm
 have b:=fun x hx=>DJ (a.1 x hx)
 have j:=Bx a.1
 have c:=fun F w q=>Mq put _ B F w g q (by omega) (fun x hx=>by have:=b x hx;have:=C9.1 (a.1 x hx);omega)
 have hw:=Bc (all-at_) (by omega)
 have hw2:=Bc (all-n) (by omega)
 obtain ⟨m,k⟩:=Aq (Aa put)
 rw[k] at c a j H
 obtain ⟨d,r⟩:=a
 have hw3:=Bc (all-n+m) (by omega)
 clear d b
 subst hp
 subst D
 unfold KC
 clear hs p
 go_enter_defers Tryz.func33,Tryz.ntmps33
 go_wp2_with fail
 with_reducible refine Calls.mono (f _ _ (Af B)) ?_
 rintro e T ⟨rfl,I⟩
 haveI:=I.i
 go_wp2_with fail
 with_reducible refine Calls.mono (c1 _ _ (Af (Ae h s))) ?_
 rintro e U ⟨rfl,J⟩
 haveI:=J.i
 unfold KC
 go_wp2_with fail
 with_reducible refine Calls.mono (c _ _ (Af B)) ?_
 rintro e V ⟨rfl,K⟩
 haveI:=K.i
 go_wp2
 simp[bodyPostD,Leaves,settle,results,Tryz.results33,go_sem]
 exact AD _ _ _
variable [EZ]
def JW:ByteArray:=⟨#[115,116,111,114,101]⟩
def PB(room cap:Int):Ck:=⟨JW,cap,0,Dk.new room,[],[]⟩
def Nl(room cap:Int):TS:=⟨PB room cap,Sp.new 1,0⟩
theorem cY(room cap:Int)(h1:0≤room)(a:room≤1099511627776)(b:1≤cap)(c:cap≤4096):Bf 0 (PB room cap):=
 ⟨⟨by simp[PB,Du],by simp[PB],by simp[PB]⟩,by simp[PB],fun k=>by simp[PB,Bo,BK],rfl,by simp[PB],by simp only[PB];omega,by simp[PB];omega,dJ room h1 (by unfold Pn;omega),(by show Dk.named JW=true;decide+kernel),by simp[PB]⟩
theorem WU(room cap:Int)(h1:0≤room)(a:room≤1099511627776)(b:1≤cap)(c:cap≤4096)(r:Bool)(hr:r=true→268435456≤room):Fs r (Nl room cap) where
 ts:=⟨⟨0,cY room cap h1 a b c⟩,by
  have e:(A0 (PB room cap).d (PB room cap).nm)= []:=rfl
  exact ⟨Int.le_refl _,Int.le_refl _,Nat.zero_le _,Int.le_refl _,by show (A0 (PB room cap).d (PB room cap).nm).length≤_;rw[e];simp⟩,by unfold Nl B8;simp,by simp[Nl,Sp.new],by simp[Nl,Sp.new]⟩
 Bk:=⟨⟨rfl,rfl,(by show Dk.named JW=true;decide+kernel),by show ([]:List (ByteArray×Fl)).length+_≤8;split<;>simp⟩,by simp[Nl,PB],by simp[Nl,PB],⟨by show ([]:List UInt8).length≤_;simp,by simp[Nl,PB]⟩⟩
 res:=by simp[Nl,Sp.new]
 used:=by simp[Nl,Sp.new]
 roomy h:=by
  have:=hr h
  unfold Roomy
  rw[aM rfl]
  show (0:Int)+((256*Wf:Nat):Int)≤room
  have:=LF
  omega
theorem X'(room cap:Int):Cn (Nl room cap).sp=Wf-1:=by
 simp[Cn,Nl,Sp.new]
end Go.Proofs.YtfhbmblbidcmmaaGreat
namespace Go.Proofs.YtfhbmblbidcmmaaGreat
open Go.RowKit Go.Sl Go.Dk Go.Tr
variable [EZ]
theorem Z4(C S:Nat)(F:Ac)(w:World)(hs:Sat F w):
 Calls Tryz.prog 47 #[.pointer (some ⟨C,0,none⟩),.pointer (some ⟨S,0,none⟩)] w fun e a=> ∃t:Nat,e= .returned (.tuple #[.pointer (some ⟨t,0,none⟩),.int .i64 0])∧Sat (Sl.block t Sd [.pointer (some ⟨C,0,none⟩),.pointer (some ⟨S,0,none⟩)]*F) a:=by
 haveI:=hs.i
 go_enter Tryz.func47,Tryz.ntmps47
 go_wp2
 go_ret2
 exact ⟨_,rfl,Ap _ _⟩
abbrev I8:TypeId:=43
theorem WM(room cap:Int)(F:Ac)(w:World)(hs:Sat F w)(h1:0≤room)(j:room≤1099511627776)(k:1≤cap)(l:cap≤4096):
 Calls Tryz.prog 11 #[.int .i64 room,.int .i64 cap] w fun e o=> ∃(b:Nat)(h:Th),e= .returned (.pointer (some ⟨b,0,none⟩))∧Sat (Sl.block b I8 [.pointer (some ⟨h.D,0,none⟩),.pointer (some ⟨h.C,0,none⟩),.pointer (some ⟨h.S,0,none⟩),.pointer (some ⟨h.t,0,none⟩)]*(Ae h (Nl room cap)*F)) o:=by
 have c:=(WU room cap h1 j k l false (by simp)).ts
 have a:Dk.named JW=true:=by decide+kernel
 go_enter Tryz.func11,Tryz.ntmps11
 go_wp2_with fail
 with_reducible refine Calls.mono (Z3 room F _ hs h1 j) ?_
 rintro e q ⟨D,rfl,d⟩
 haveI:=d.i
 go_wp2_with fail
 refine Calls.mono (Z2 D (Dk.new room) JW cap F _ d a k l) ?_
 rintro e r ⟨C,rfl,f⟩
 haveI:=f.i
 go_wp2_with fail
 with_reducible refine Calls.mono (Ym 1 _ _ (by omega) (by omega) f) ?_
 rintro e s ⟨S,rfl,g⟩
 haveI:=g.i
 go_wp2_with fail
 with_reducible refine Calls.mono (Z4 C S _ _ g) ?_
 rintro e p ⟨t,rfl,m⟩
 have n:Sat (Ae ⟨t,C,S,D⟩ (Nl room cap)*F) p:=Dp c (m.eq (by show _=AN C D (PB room cap)*_;unfold PB;ac_rfl))
 haveI:=n.i
 clear d f g m
 go_wp2
 go_ret
 exact ⟨_,⟨t,C,S,D⟩,rfl,AD _ _ _⟩
