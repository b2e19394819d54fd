/- treeFails holds for every input. No condition. (part 42) -/
import Derived.Test.YtfhbmblbidcmmaaGreatYa40
import Derived.Test.YtfhbmblbidcmmaaGreatYa41
import Derived.Test.YtfhbmblbidcmmaaGreatYa38
set_option linter.all false
set_option maxRecDepth 100000
set_option maxHeartbeats 3200000
namespace Go.Proofs.YtfhbmblbidcmmaaGreat
open Go.RowKit Go.Sl Go.Dk Go.Tr
theorem XK{p:Int}{s s':TS}{e:Int}(h:Ah p s= .fault e s'):e≠0:=by
 have b:s.ops<Bu:=by
  rcases Nat.lt_or_ge s.ops Bu with h|c
  · exact h
  unfold Ah M.bind Mo at h
  rw[if_neg (by omega)] at h
  cases h
 rw[FZ b] at h
 split at h
 · split at h
   · cases h
   cases h;omega
 rename_i a
 cases h
 split
 · omega
 exact a
theorem XL{p:Int}{s s':TS}{e:Int}(h:En Ah p s= .fault e s'):e≠0:=by
 unfold En at h
 split at h
 ·cases h
 cases hr:Ah p s with
 |bad=>unfold M.bind at h;rw[hr] at h;cases h
 | fault a s2 =>
  unfold M.bind at h
  rw[hr] at h
  cases h
  exact XK hr
 |ok n s2=>unfold M.bind at h;rw[hr] at h;cases h
theorem Vb{l:List Kd}(h: ∀x∈l,AE x=true):0≤BZ l∧0≤BB l:=by
 induction l with
 |nil=>exact ⟨by simp[BZ],by simp[BB]⟩
 | cons a l b =>
  obtain ⟨f,g⟩:=b fun x hx=>h x (List.mem_cons_of_mem _ hx)
  have i:=Ho (h a (List.mem_cons_self ..))
  have c:BZ (a::l)=a.bytes+BZ l:=by simp[BZ]
  have e:BB (a::l)=a.A7+BB l:=by simp[BB]
  omega
theorem P5(n:Nd):0≤(Bl n).1∧(Bl n).1≤1048576∧0≤(Bl n).2.2∧(Bl n).2.2≤1036:=by
 unfold Bl
 by_cases hm:may n=true
 ·rw[if_pos hm]
  obtain ⟨a,b⟩:=Db hm
  obtain ⟨l1,l2⟩:=Cl hm
  have c:=Bq fun x hx=>(a x hx).2
  obtain ⟨e,f⟩:=Vb fun x hx=>(b x hx).2
  unfold may at hm
  split at hm
  ·cases hm
  split at hm
  ·cases hm
  simp only[decide_eq_true_eq] at hm
  simp only
  omega
 rw[if_neg hm]
 simp
theorem IK{σ:Type}{rd:Int→M σ Nd} : ∀(f:Nat)(n:Nd)(h:Int)(s:σ)(r:Int)(s':σ),Cw rd f n h s= .ok r s'→h≤r∧r≤h+f
 | 0, n, h, s, r, s', e => by
  unfold Cw at e
  split at e
  ·cases e;omega
  cases e
 | f + 1, n, h, s, r, s', e => by
  unfold Cw at e
  split at e
  ·cases e;omega
  cases a:n.kids with
  |nil=>rw[a] at e;cases e
  | cons k l =>
   rw[a] at e
   simp only at e
   obtain ⟨m,s1,c,b⟩:=Aw e
   have:=IK f m (h+1) s1 r s' b
   omega
theorem KY{root:Int}{s s':TS}{x:BH}(e:DN Ah root s= .ok x s'): -1≤x.An∧x.An≤20∧0≤x.DK.A7∧x.DK.A7≤1036:=by
 unfold DN at e
 split at e
 ·cases e
  simp[Co,D']
 obtain ⟨n,s1,f,a⟩:=Aw e
 obtain ⟨h,s2,b,c⟩:=Aw a
 cases c
 have g:=IK _ _ _ _ _ _ b
 have i:=P5 n
 unfold Jx
 simp only
 omega
theorem MP: ∀(l:List As)(n a:Int),0≤a→a≤n→(∀x∈l,Ai x=true)→(match JM l n a with
 | .inl (.here x a')=>Ai x=true∧0≤a'∧a'≤n∧n<a'+x.len
 | .inl _=>False
 | .inr a'=>0≤a'∧a'≤n)
 | [],n,a,b,c,e=>⟨b,c⟩
 | x :: l, n, a, b, c, e => by
  unfold JM
  have hx:=e x (List.mem_cons_self ..)
  have hl:=CP hx
  by_cases f:n<a+x.len
  ·rw[if_pos f]
   exact ⟨hx,b,c,f⟩
  rw[if_neg f]
  exact MP l n (a+x.len) (by omega) (by omega) fun y hy=>e y (List.mem_cons_of_mem _ hy)
theorem MQ: ∀(l:List Kd)(n a:Int),0≤a→a≤n→(∀x∈l,AE x=true)→(match Lx l n a with
 | .here _ _=>False
 | .below _ a'=>0≤a'∧a'≤n
 | .V0=>True)
 | [],n,a,c,e,b=>trivial
 | x :: l, n, a, c, e, b => by
  unfold Lx
  have hx:=Ho (b x (List.mem_cons_self ..))
  by_cases f:n<a+x.bytes
  ·rw[if_pos f]
   exact ⟨c,e⟩
  rw[if_neg f]
  exact MQ l n (a+x.bytes) (by omega) (by omega) fun y hy=>b y (List.mem_cons_of_mem _ hy)
theorem Lb{σ:Type}{rd:Int→M σ Nd}(c: ∀p s n s',rd p s= .ok n s'→may n=true): ∀(f:Nat)(m:Nd)(n a:Int)(s:σ)(z:As×Int)(s':σ),may m=true→0≤a→a≤n→DG rd f m n a s= .ok z s'→Ai z.1=true∧0≤z.2∧z.2≤n∧n<z.2+z.1.len
 |0,m,n,a,s,z,s',hm,j,k,e=>by cases e
 | f + 1, m, n, a, s, z, s', hm, j, k, e => by
  obtain ⟨r,t⟩:=Db hm
  have b:=MP m.Ao n a j k fun x hx=>(r x hx).2
  unfold DG UW at e
  cases l:JM m.Ao n a with
  | inl u =>
   rw[l] at b e
   cases u with
   |here x a'=>simp only at e b;cases e;exact b
   |below p a'=>exact b.elim
   |V0=>exact b.elim
  | inr a' =>
   rw[l] at b e
   simp only at b e
   have b2:=MQ m.kids n a' b.1 b.2 fun x hx=>(t x hx).2
   cases g:Lx m.kids n a' with
   |here x i=>rw[g] at b2;exact b2.elim
   |V0=>rw[g] at e;cases e
   | below p i =>
    rw[g] at e b2
    simp only at e b2
    obtain ⟨v,s1,o,q⟩:=Aw e
    exact Lb c f v n i s1 z s' (c _ _ _ _ o) b2.1 b2.2 q
theorem Fa{root n:Int}{s s':TS}{z:As×Int}(h:0≤n)(e:IX Ah root n s= .ok z s'):Ai z.1=true∧0≤z.2∧z.2≤n∧n<z.2+z.1.len:=by
 unfold IX at e
 obtain ⟨m,s1,a,b⟩:=Aw e
 exact Lb (fun p s n s' h=>C6 h) 22 m n 0 s1 z s' (C6 a) (Int.le_refl _) h b
theorem H2{root:Int}{s s':TS}{z:Int}(e:En Ah root s= .ok z s'):0≤z∧z≤1048576:=by
 unfold En at e
 split at e
 ·cases e;omega
 obtain ⟨m,s1,b,a⟩:=Aw e
 cases a
 have:=P5 m
 omega
theorem Nz(x:As)(a b:Int):(Go.Tr.part x a b).length≤1:=by
 unfold Go.Tr.part
 split
 ·simp
 split<;>simp
theorem K6{root at_:Int}{s s':TS}{L:List As×Int}(f:0≤at_)(e:Go.Tr.leftOf Ah root at_ s= .ok L s'):L.1.length≤1∧(∀y∈L.1,Ai y=true)∧0≤L.2∧L.2≤at_:=by
 unfold Go.Tr.leftOf at e
 split at e
 ·obtain ⟨z,s1,b,c⟩:=Aw e
  cases c
  obtain ⟨a,b2,g,i⟩:=Fa (by omega) b
  exact ⟨Nz _ _ _,KR a (Int.le_refl _) (by (try simp only);omega),b2,by (try simp only);omega⟩
 cases e
 exact ⟨by simp,fun y hy=>(List.not_mem_nil hy).elim,f,Int.le_refl _⟩
theorem J8{root a all:Int}{s s':TS}{R:List As×Int}(g:0≤a)(e:Go.Tr.DL Ah root a all s= .ok R s'):R.1.length≤1∧(∀y∈R.1,Ai y=true)∧a≤R.2∧R.2≤a+1048576:=by
 unfold Go.Tr.DL at e
 split at e
 ·obtain ⟨z,s1,c,f⟩:=Aw e
  cases f
  obtain ⟨b,b2,i,j⟩:=Fa g c
  have k:=BS.1 b
  exact ⟨Nz _ _ _,KR b (by omega) (Int.le_refl _),by (try simp only);omega,by (try simp only);omega⟩
 cases e
 exact ⟨by simp,fun y hy=>(List.not_mem_nil hy).elim,Int.le_refl _,by (try simp only);omega⟩
theorem D0{l:List As}(h:BD l=true):(∀x∈l,Ai x=true)∧Ab l≤1048576:=by
 rw[Ej] at h
 simp only[Bool.and_eq_true,List.all_eq_true,decide_eq_true_eq] at h
 exact h
theorem T7(h:Th)(s:TS)(root at_ n:Int)(put:List As)(v:Value)(B F:Ac)(w:World)(f:Aq B v put)(hs:Sat (Ad h s*(B*F)) w)(hl:put.length≤65536)(hm:BD put=false):
 Calls Tryz.prog 33 #[.pointer (some ⟨h.t,0,none⟩),.int .i64 root,.int .i64 at_,.int .i64 n,v] w fun e m=>e= .returned (Ki 0 1)∧Sat (Ad h s*(B*F)) m:=by
 have k: ∀(b:Fn)(first cap:Array Value)(w:World),(Instr.makeFunc b first cap).run Tryz.prog w= .ok (.func b first cap) w:=fun _ _ _ _=>rfl
 obtain ⟨o,p,rfl,g,j⟩:=f.v
 have a:=fun F w q=>Fw put _ B F w f q (by omega)
 rw[hm] at a
 have c:Sat (B*(Ad h s*F)) w:=hs.eq (by ac_rfl)
 haveI:=c.i
 unfold Ki
 clear hs c
 go_enter_defers Tryz.func33,Tryz.ntmps33
 go_wp2_with fail
 with_reducible refine Calls.mono (a _ _ (Ae B)) ?_
 rintro e r ⟨rfl,l⟩
 haveI:=l.i
 go_wp2
 simp[bodyPostD,Leaves,settle,results,Tryz.results33,go_sem]
 exact AR _ _ _
theorem RY(h:Th)(s:TS)(root at_ n:Int)(put:List As)(v:Value)(B F:Ac)(w:World)(k:Aq B v put)(hs:Sat (Ad h s*(B*F)) w)(hl:put.length≤65536)(hm:BD put=true)(b:Int)(s1:TS)(c:En Ah root s= .fault b s1):
 Calls Tryz.prog 33 #[.pointer (some ⟨h.t,0,none⟩),.int .i64 root,.int .i64 at_,.int .i64 n,v] w fun e y=>e= .returned (Ki 0 b)∧Sat (Ad h s1*(B*F)) y:=by
 have r: ∀(g:Fn)(first cap:Array Value)(w:World),(Instr.makeFunc g first cap).run Tryz.prog w= .ok (.func g first cap) w:=fun _ _ _ _=>rfl
 obtain ⟨z,G,rfl,l,m⟩:=k.v
 have a:=fun F w q=>Fw put _ B F w k q (by omega)
 rw[hm] at a
 have j:Sat (B*(Ad h s*F)) w:=hs.eq (by ac_rfl)
 haveI:=j.i
 have f:=fun F w q=>GY h s root F w q (by rw[c];simp)
 rw[c] at f
 have o:=XL c
 have p:((b:Int) !=0)=true:=by simpa using o
 unfold Ki
 clear hs j
 go_enter_defers Tryz.func33,Tryz.ntmps33
 go_wp2_with fail
 with_reducible refine Calls.mono (a _ _ (Ae B)) ?_
 rintro e H ⟨rfl,u⟩
 haveI:=u.i
 go_wp2_with fail
 with_reducible refine Calls.mono (f _ _ (Ae (Ad h s))) ?_
 rintro e I ⟨rfl,x⟩
 haveI:=x.i
 unfold Ki
 go_wp2
 go_region
 all_goals
  go_wp2
  simp[bodyPostD,Leaves,settle,results,Tryz.results33,go_sem]
  exact AR _ _ _
theorem T5(h:Th)(s:TS)(root at_ n:Int)(put:List As)(v:Value)(B F:Ac)(w:World)(k:Aq B v put)(hs:Sat (Ad h s*(B*F)) w)(hl:put.length≤65536)(hm:BD put=true)(all:Int)(s1:TS)(o:En Ah root s= .ok all s1)(V: ¬at_<0)(W: ¬n<0)(X: ¬all<at_)(Y: ¬all-at_<n)(L:1048576<all-n+Ab put):
 Calls Tryz.prog 33 #[.pointer (some ⟨h.t,0,none⟩),.int .i64 root,.int .i64 at_,.int .i64 n,v] w fun e R=>e= .returned (Ki 0 10)∧Sat (Ad h s1*(B*F)) R:=by
 have H: ∀(r:Fn)(first cap:Array Value)(w:World),(Instr.makeFunc r first cap).run Tryz.prog w= .ok (.func r first cap) w:=fun _ _ _ _=>rfl
 obtain ⟨T,U,rfl,z,G⟩:=k.v
 have g:=fun F w q=>Fw put _ B F w k q (by omega)
 rw[hm] at g
 have u:Sat (B*(Ad h s*F)) w:=hs.eq (by ac_rfl)
 haveI:=u.i
 have p:=fun F w q=>GY h s root F w q (by rw[o];simp)
 rw[o] at p
 have K:=H2 o
 have a:=D0 hm
 have b:=fun x hx=>CP (a.1 x hx)
 have l:=Bq a.1
 have c:=fun F w q=>Js put _ B F w k q (by omega) (fun x hx=>by have:=b x hx;have:=BS.1 (a.1 x hx);omega)
 have hw:IntKind.i64.wrap (all-at_)=all-at_:=IntWalk.i64_in _ (by omega)
 have I:IntKind.i64.wrap (all-n)=all-n:=IntWalk.i64_in _ (by omega)
 obtain ⟨j,m⟩: ∃t,Ab put=t:=⟨_,rfl⟩
 rw[m] at c a l L
 obtain ⟨f,y⟩:=a
 have J:IntKind.i64.wrap (all-n+j)=all-n+j:=IntWalk.i64_in _ (by omega)
 clear f b
 unfold Ki
 clear hs u
 go_enter_defers Tryz.func33,Tryz.ntmps33
 go_wp2_with fail
 with_reducible refine Calls.mono (g _ _ (Ae B)) ?_
 rintro e Z ⟨rfl,O⟩
 haveI:=O.i
 go_wp2_with fail
 with_reducible refine Calls.mono (p _ _ (Ae (Ad h s))) ?_
 rintro e w3 ⟨rfl,P⟩
 haveI:=P.i
 unfold Ki
 go_wp2_with fail
 with_reducible refine Calls.mono (c _ _ (Ae B)) ?_
 rintro e w4 ⟨rfl,Q⟩
 haveI:=Q.i
 go_wp2
 simp[bodyPostD,Leaves,settle,results,Tryz.results33,go_sem]
 exact AR _ _ _
theorem RX(h:Th)(s:TS)(root at_ n:Int)(put:List As)(v:Value)(B F:Ac)(w:World)(k:Aq B v put)(hs:Sat (Ad h s*(B*F)) w)(hl:put.length≤65536)(hm:BD put=true)(all:Int)(s1:TS)(o:En Ah root s= .ok all s1)(W: ¬at_<0)(X: ¬n<0)(Y: ¬all<at_)(Z: ¬all-at_<n)(O: ¬1048576<all-n+Ab put)(I:n=0)(hp:put= []):
 Calls Tryz.prog 33 #[.pointer (some ⟨h.t,0,none⟩),.int .i64 root,.int .i64 at_,.int .i64 n,v] w fun e T=>e= .returned (Ki root 0)∧Sat (Ad h s1*(B*F)) T:=by
 have H: ∀(r:Fn)(first cap:Array Value)(w:World),(Instr.makeFunc r first cap).run Tryz.prog w= .ok (.func r first cap) w:=fun _ _ _ _=>rfl
 obtain ⟨U,V,rfl,z,G⟩:=k.v
 have g:=fun F w q=>Fw put _ B F w k q (by omega)
 rw[hm] at g
 have u:Sat (B*(Ad h s*F)) w:=hs.eq (by ac_rfl)
 haveI:=u.i
 have p:=fun F w q=>GY h s root F w q (by rw[o];simp)
 rw[o] at p
 have L:=H2 o
 have a:=D0 hm
 have b:=fun x hx=>CP (a.1 x hx)
 have l:=Bq a.1
 have c:=fun F w q=>Js put _ B F w k q (by omega) (fun x hx=>by have:=b x hx;have:=BS.1 (a.1 x hx);omega)
 have hw:IntKind.i64.wrap (all-at_)=all-at_:=IntWalk.i64_in _ (by omega)
 have J:IntKind.i64.wrap (all-n)=all-n:=IntWalk.i64_in _ (by omega)
 obtain ⟨j,m⟩: ∃t,Ab put=t:=⟨_,rfl⟩
 rw[m] at c a l O
 obtain ⟨f,y⟩:=a
 have K:IntKind.i64.wrap (all-n+j)=all-n+j:=IntWalk.i64_in _ (by omega)
 clear f b
 subst hp
 subst I
 unfold Ki
 clear hs u
 go_enter_defers Tryz.func33,Tryz.ntmps33
 go_wp2_with fail
 with_reducible refine Calls.mono (g _ _ (Ae B)) ?_
 rintro e w2 ⟨rfl,P⟩
 haveI:=P.i
 go_wp2_with fail
 with_reducible refine Calls.mono (p _ _ (Ae (Ad h s))) ?_
 rintro e w3 ⟨rfl,Q⟩
 haveI:=Q.i
 unfold Ki
 go_wp2_with fail
 with_reducible refine Calls.mono (c _ _ (Ae B)) ?_
 rintro e w4 ⟨rfl,R⟩
 haveI:=R.i
 go_wp2
 simp[bodyPostD,Leaves,settle,results,Tryz.results33,go_sem]
 exact AR _ _ _
variable [G1]
def He:ByteArray:=⟨#[115,116,111,114,101]⟩
def O3(room cap:Int):Ck:=⟨He,cap,0,Dk.new room,[],[]⟩
def Jz(room cap:Int):TS:=⟨O3 room cap,Sp.new 1,0⟩
theorem Z0(room cap:Int)(a:0≤room)(b:room≤1099511627776)(c:1≤cap)(e:cap≤4096):Bi 0 (O3 room cap):=
 ⟨⟨by simp[O3,Da],by simp[O3],by simp[O3]⟩,by simp[O3],fun k=>by simp[O3,Bf,AP],rfl,by simp[O3],by simp only[O3];omega,by simp[O3];omega,ZA room a (by unfold Iq;omega),(by show Dk.named He=true;decide+kernel),by simp[O3]⟩
theorem U8(room cap:Int)(a:0≤room)(b:room≤1099511627776)(c:1≤cap)(f:cap≤4096)(r:Bool)(hr:r=true→268435456≤room):Ml r (Jz room cap) where
 ts:=⟨⟨0,Z0 room cap a b c f⟩,by
  have e:(Au (O3 room cap).d (O3 room cap).nm)= []:=rfl
  exact ⟨Int.le_refl _,Int.le_refl _,Nat.zero_le _,Int.le_refl _,by show (Au (O3 room cap).d (O3 room cap).nm).length≤_;rw[e];simp⟩,by unfold Jz Bu;simp,by simp[Jz,Sp.new],by simp[Jz,Sp.new]⟩
 AG:=⟨⟨rfl,rfl,(by show Dk.named He=true;decide+kernel),by show ([]:List (ByteArray×Fl)).length+_≤8;split<;>simp⟩,by simp[Jz,O3],by simp[Jz,O3],⟨by show ([]:List UInt8).length≤_;simp,by simp[Jz,O3]⟩⟩
 res:=by simp[Jz,Sp.new]
 used:=by simp[Jz,Sp.new]
 roomy h:=by
  have:=hr h
  unfold Roomy
  rw[Uu rfl]
  show (0:Int)+((256*Oe:Nat):Int)≤room
  have:=Ll
  omega
theorem XS(room cap:Int):Bm (Jz room cap).sp=Oe-1:=by
 simp[Bm,Jz,Sp.new]
end Go.Proofs.YtfhbmblbidcmmaaGreat
namespace Go.Proofs.YtfhbmblbidcmmaaGreat
open Go.RowKit Go.Sl Go.Dk Go.Tr
abbrev ZR:G1:=⟨400,by omega⟩
abbrev Oq:G1:=⟨1048576,Nat.le_refl _⟩
def Jw(s:TS)(k:Int)(b:List UInt8):Prop:=k∈s.sp.used∧Bg (Au s.ck.d s.ck.nm) k b
structure LN (s:TS) (root:Int) (l:List As):Prop where
 inv: @Ep Oq (Jw s) s
 clean:Clean s.ck
 rt:Rt (nodeAt s) root l
 up:s.ck.d.down=false
 nm:s.ck.nm=He
 others: ∀n,n≠He→s.ck.d.get n=none
 left:60000000≤Ap s
 room:1000000≤ @Bm Oq s.sp
theorem LN.look{s:TS}{root:Int}{l:List As}(a:LN s root l){p:Int}{n:Nd}(e:nodeAt s p=some n):1≤p∧p<1048576∧ ∃b,Jw s p b∧CV p b=some n:=by
 letI:=Oq
 obtain ⟨c,b,hb,f⟩:=DE.1 e
 obtain ⟨j,k⟩:=a.inv.used p c
 have i:=a.inv.res
 have g: @Oe Oq=1048576:=rfl
 exact ⟨by omega,by omega,b,⟨c,Lp a.inv.ts.ok a.inv.AG a.clean hb⟩,f⟩
end Go.Proofs.YtfhbmblbidcmmaaGreat
namespace Go.Proofs.YtfhbmblbidcmmaaGreat
open Go.RowKit Go.Sl Go.Dk
section
variable (D M:Nat) (pv:Value) (d:Dk)
instance:DA (Ax D M pv d) D 0 (.int .i64 d.room):=by unfold Ax;infer_instance
instance:DA (Ax D M pv d) D 1 (.int .i64 d.changes):=by unfold Ax;infer_instance
instance:DA (Ax D M pv d) D 2 (.int .i64 d.left):=by unfold Ax;infer_instance
instance:DA (Ax D M pv d) D 3 (.bool d.D5):=by unfold Ax;infer_instance
instance:DA (Ax D M pv d) D 4 (.bool d.down):=by unfold Ax;infer_instance
instance:DA (Ax D M pv d) D 5 (.map (some M)):=by unfold Ax;infer_instance
instance:DA (Ax D M pv d) D 6 pv:=by unfold Ax;infer_instance
end
theorem Y8{m:Nat}{d:Dk}(ok:Ok m d){ns:List Nf}(h:BE ns=d.files):lens ns≤4611686018427387904:=by
 have a: ∀l:List Nf,(∀n∈l,n.f.now.length≤Iq)→lens l≤l.length*Iq:=by
  intro l
  induction l with
  |nil=>intro _;simp[lens]
  | cons n l e =>
   intro hl
   have:=e fun m hm=>hl m (by simp[hm])
   rw[FB,List.length_cons,Nat.add_mul]
   have:=hl n (by simp)
   omega
 have g:=a ns fun n c=>(ok.sz (n.nm,n.f) (by rw[←h];exact List.mem_map.2 ⟨n,c,rfl⟩)).1
 have b:ns.length≤16:=by have:=ok.nf;rw[←h] at this;simpa[BE] using this
 have i:=Nat.mul_le_mul_right Iq b
 unfold Iq at*
 omega
theorem WC(D:Nat)(d:Dk)(m:Nat)(F:Ac)(w:World)(hs:Sat (Bh D d*F) w)(ok:Ok m d):
 Calls Tryz.prog 37 #[.pointer (some ⟨D,0,none⟩)] w fun e f=>e= .returned (.int .i64 d.free)∧Sat (Bh D d*F) f:=by
 obtain ⟨M,ns,pv,ps,g,q,k⟩:=Sat.C5 hs
 have j:=Y8 ok g
 have b:=fun F w h=>Qr D M ns pv ps d F w h j
 have c:d.free=max 0 (d.room-(lens ns:Int)):=by unfold Dk.free;rw[←g,MY]
 rw[c]
 have hr:=ok.room
 have a:Iq=1099511627776:=rfl
 rw[a] at hr
 obtain ⟨s,t⟩:=hr
 have r:Aside (∀(F:Ac)(w:World),Sat (AS D M ns pv ps d*F) w→Calls Tryz.prog 103 #[.pointer (some ⟨D,0,none⟩)] w fun e f=>e= .returned (.int .i64 (lens ns:Nat))∧Sat (AS D M ns pv ps d*F) f):=b
 have p:Aside (BE ns=d.files∧B4 ps=d.AO):=⟨g,q⟩
 have l:Sat (Ax D M pv d*((mp B9 M (ns.map CA)*(A0 ns*Cp pv ps))*F)) w:=k.eq (by unfold AS;rw[Ar])
 haveI:=l.i
 clear b c g q hs a
 go_enter Tryz.func37,Tryz.ntmps37
 go_upto_region 3 with (fail)
 have o:IntKind.i64.wrap (d.room-(lens ns:Int))=d.room-(lens ns:Int):=IntWalk.i64_in _ (by omega)
 go_region_held3 (fun f=>f.cell? ⟨D,0,none⟩=some (.int .i64 d.room)) (first|exact Aa _ _ _) (first
  |(go_at_call 103;refine (r.out F _ (A8 (by unfold AS;ac_rfl))).mono ?_;rintro e u ⟨rfl,n⟩;haveI:=(show Sat (Ax D M pv d*((mp B9 M (ns.map CA)*(A0 ns*Cp pv ps))*F)) u from n.eq (by unfold AS;rw[Ar])).i))
 all_goals
  clear o
  go_wp2
  go_ret
  refine ⟨?_,Sat.Ce (M:=M) (pv:=pv) p.out.1 p.out.2 (A8 (by unfold AS;ac_rfl))⟩
  first|rfl|(congr 1)
open Go.Tr
open Go.UB (AZ)
theorem Fb{h:Th}{s:TS}{F:Ac}{w:World}(hs:Sat (Ad h s*F) w):Gt s∧ ∃R:Ac,Sat (Bh h.D s.ck.d*(BA h.S s.sp*(R*F))) w∧
 ∀(d':Dk)(a:Ac)(c:World),Gt ⟨{ s.ck with d:=d' },s.sp,s.ops⟩→Sat (Bh h.D d'*(BA h.S s.sp*(R*a))) c→Sat (Ad h ⟨{ s.ck with d:=d' },s.sp,s.ops⟩*a) c:=by
 obtain ⟨hi,e⟩:=Ek hs
 obtain ⟨L,PM,ps,hp,f⟩:=Sat.Cv e
 refine ⟨hi,coreC h.C L h.D PM s.ck*(Cf L s.ck.cap s.ck.its*(mp AZ PM (ps.map Jy)*(AX ps*Sl.block h.t St [.pointer (some ⟨h.C,0,none⟩),.pointer (some ⟨h.S,0,none⟩)]))),f.eq (by unfold BN;ac_rfl),fun d' a c b q=>?_⟩
 refine CM b (Sat.AW (L:=L) (PM:=PM) (ps:=ps) hp (q.eq ?_))
 show _=(coreC h.C L h.D PM s.ck*(Cf L s.ck.cap s.ck.its*(Bh h.D d'*(mp AZ PM (ps.map Jy)*AX ps))))*(BA h.S s.sp*(Sl.block h.t St [.pointer (some ⟨h.C,0,none⟩),.pointer (some ⟨h.S,0,none⟩)]*a))
 ac_rfl
theorem Gt.dk{s:TS}(h:Gt s){d':Dk}(a: ∀m,Ok m s.ck.d→Ok m d')(g:d'.changes≤s.ck.d.changes)(hl: -(2*s.ops:Int)≤d'.left)(hp:d'.AO.length≤512*s.ops+(Au d' s.ck.nm).length)(b:(Au d' s.ck.nm).length≤268435456):Gt ⟨{ s.ck with d:=d' },s.sp,s.ops⟩:=by
 obtain ⟨⟨m,hm⟩,⟨i,j,k,n4,l⟩,c,e,f⟩:=h
 exact ⟨⟨m,hm.D9 (Nat.le_refl _) (a m hm.dk)⟩,⟨by show d'.changes≤2*s.ops;omega,hl,hp,n4,b⟩,c,e,f⟩
theorem VJ(h:Th)(s:TS)(F:Ac)(w:World)(hs:Sat (Ad h s*F) w):
 Calls Tryz.prog 37 #[.pointer (some ⟨h.D,0,none⟩)] w fun e a=>e= .returned (.int .i64 s.ck.d.free)∧Sat (Ad h s*F) a:=by
 obtain ⟨hi,R,f,g⟩:=Fb hs
 obtain ⟨m,hm⟩:=hi.ck
 refine (WC h.D s.ck.d m _ w f hm.dk).mono ?_
 rintro e a ⟨b,c⟩
 first
  |exact ⟨b,g s.ck.d F a hi c⟩
  |exact ⟨b,by subst c;exact hs⟩
theorem Sf(h:Th)(s:TS)(n:Int)(l:0≤n)(f:n≤9223372036854775807)(F:Ac)(w:World)(hs:Sat (Ad h s*F) w):
 Calls Tryz.prog 39 #[.pointer (some ⟨h.D,0,none⟩),.int .i64 n] w fun e a=>e= .returned (.int .i64 0)∧Sat (Ad h ⟨{ s.ck with d:= { s.ck.d with D5:=true,left:=n } },s.sp,s.ops⟩*F) a:=by
 obtain ⟨hi,R,j,k⟩:=Fb hs
 have b:s.ck.d.arm n=(0, { s.ck.d with D5:=true,left:=n }):=by unfold Dk.arm;rw[if_neg (by omega)]
 have c:=Ym h.D s.ck.d n _ w j
 rw[b] at c
 refine c.mono ?_
 rintro e a ⟨g,i⟩
 refine ⟨g,k _ F a (hi.dk (fun m hm=>by have:=Xg hm n f;rw[b] at this;exact this) (Int.le_refl _) ?_ hi.num.AO hi.num.len) i⟩
 show _≤n
 omega
theorem S9(D:Nat)(d:Dk)(F:Ac)(w:World)(hs:Sat (Bh D d*F) w):
 Calls Tryz.prog 42 #[.pointer (some ⟨D,0,none⟩)] w fun e g=>e= .returned (.bool d.down)∧w=g:=by
 obtain ⟨M,ns,pv,ps,c,f,a⟩:=Sat.C5 hs
 have b:Sat (Ax D M pv d*((mp B9 M (ns.map CA)*(A0 ns*Cp pv ps))*F)) w:=a.eq (by unfold AS;rw[Ar])
 haveI:=b.i
 clear c f hs a
 go_enter Tryz.func42,Tryz.ntmps42
 go_wp2
 go_ret
 exact ⟨rfl,rfl⟩
theorem P6(h:Th)(s:TS)(F:Ac)(w:World)(hs:Sat (Ad h s*F) w):
 Calls Tryz.prog 42 #[.pointer (some ⟨h.D,0,none⟩)] w fun e b=>e= .returned (.bool s.ck.d.down)∧w=b:=by
 obtain ⟨hi,R,a,c⟩:=Fb hs
 exact S9 h.D s.ck.d _ w a
theorem Ge{p q:ByteArray×Fl}(h:crashed [] p=some q):q.1=p.1∧q.2.now=p.2.safe:=by
 unfold crashed at h
 split at h
 ·cases h;exact ⟨rfl,rfl⟩
 cases h
theorem JE{nm:ByteArray} : ∀{l:List (ByteArray×Fl)},nm∉l.map (·.1)→Cb nm (l.filterMap (crashed []))=none
 | [],_=>rfl
 | p :: l, h => by
  simp only[List.map_cons,List.mem_cons,not_or] at h
  rw[List.filterMap_cons]
  cases a:crashed [] p with
  |none=>exact JE h.2
  | some q =>
   show (if nm=q.1 then _ else _)=_
   rw[if_neg (by rw[(Ge a).1];exact h.1)]
   exact JE h.2
theorem O5{d : Dk}{nm : ByteArray}(i : (d.files.map (·.1)).Nodup) : (Au (d.J3 []) nm).length ≤ (CD d nm).length := by
 have key : ∀ fs : List (ByteArray × Fl), (fs.map (·.1)).Nodup → ((Cb nm (fs.filterMap (crashed []))).getD Dk.Io).now.length ≤ ((Cb nm fs).getD Dk.Io).safe.length := by
  intro fs
  induction fs with
  |nil=>intro _;simp[Cb,Dk.Io]
  | cons p l e =>
   intro a
   simp only[List.map_cons,List.nodup_cons] at a
   rw[List.filterMap_cons]
   have f:Cb nm (p::l)=if nm=p.1 then some p.2 else Cb nm l:=rfl
   rw[f]
   cases c:crashed [] p with
   | none =>
    by_cases b:nm=p.1
    ·simp only
     rw[JE (by rw[b];exact a.1)]
     simp[Dk.Io]
    rw[if_neg b]
    exact e a.2
   | some q =>
    have g:Cb nm (q::l.filterMap (crashed []))=if nm=q.1 then some q.2 else Cb nm (l.filterMap (crashed [])):=rfl
    simp only
    rw[g,(Ge c).1]
    by_cases b:nm=p.1
    ·rw[if_pos b,if_pos b]
     simp only[Option.getD_some,(Ge c).2]
     exact Nat.le_refl _
    rw[if_neg b,if_neg b]
    exact e a.2
 show ((Cb nm (d.files.filterMap (crashed (DJ [] 0 d.AO)))).getD Dk.Io).now.length≤_
 rw[Jg]
 exact key d.files i
theorem S5{d : Dk}{nm : ByteArray}(h : Pf.EK d nm) : Pf.EK (d.J3 []) nm := by
 have key : ∀ fs : List (ByteArray × Fl), (fs.filterMap (crashed [])).length + (if (Cb nm (fs.filterMap (crashed []))).isSome then 0 else 1) ≤ fs.length + (if (Cb nm fs).isSome then 0 else 1) := by
  intro fs
  induction fs with
  |nil=>simp[Cb]
  | cons p l g =>
   have hl:=List.length_filterMap_le (crashed []) l
   rw[List.filterMap_cons]
   have b:Cb nm (p::l)=if nm=p.1 then some p.2 else Cb nm l:=rfl
   rw[b]
   cases f:crashed [] p with
   | none =>
    simp only[List.length_cons]
    by_cases a:nm=p.1
    ·rw[if_pos a]
     simp only[Option.isSome_some,if_true]
     split<;>omega
    rw[if_neg a]
    omega
   | some q =>
    have c:Cb nm (q::l.filterMap (crashed []))=if nm=q.1 then some q.2 else Cb nm (l.filterMap (crashed [])):=rfl
    simp only[List.length_cons]
    rw[c,(Ge f).1]
    by_cases a:nm=p.1
    ·rw[if_pos a,if_pos a]
     simp only[Option.isSome_some,if_true]
     omega
    rw[if_neg a,if_neg a]
    omega
 refine ⟨h.Mp,?_⟩
 have e:=h.nf
 show (d.files.filterMap (crashed (DJ [] 0 d.AO))).length+(if (Cb nm (d.files.filterMap (crashed (DJ [] 0 d.AO)))).isSome then 0 else 1)≤8
 rw[Jg]
 exact Nat.le_trans (key d.files) e
theorem T9[G1](P:Int→List UInt8→Prop)(h:Th)(s s2:TS)(F:Ac)(w:World)(k:Ep P s2)(g:s2.ck.d=s.ck.d)(i:s2.ck.nm=s.ck.nm)(hs:Sat (Ad h s*F) w):
 Calls Tryz.prog 43 #[.pointer (some ⟨h.D,0,none⟩),.slice none 0 0] w fun e b=>e= .returned (.tuple #[])∧Sat (Ad h ⟨{ s.ck with d:=s.ck.d.J3 [] },s.sp,s.ops⟩*F) b:=by
 obtain ⟨hi,R,n,o⟩:=Fb hs
 have hm:=hi.ok.dk
 have l:=UG h.D s.ck.d 137438953472 [] (.slice none 0 0) 1 (BA h.S s.sp*(R*F)) w (fun _ _ _=>⟨none,0,rfl,by simp⟩) (by rw[Am];exact n) (by simp) hm (by unfold Iq;omega)
 refine l.mono ?_
 rintro e b ⟨j,c⟩
 rw[Am] at c
 have f:=O5 (nm:=s.ck.nm) hm.nd
 have a:=k.kept.le
 rw[g,i] at a
 have p:=hi.num.len
 exact ⟨j,o _ F b (hi.dk (fun m hm=>Rv hm []) (Int.le_refl _) hi.num.left (Nat.zero_le _) (by omega)) c⟩
