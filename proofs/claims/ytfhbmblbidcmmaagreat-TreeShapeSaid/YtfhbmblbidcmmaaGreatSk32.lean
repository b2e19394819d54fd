/- treeShape holds for every input. No condition. (part 32) -/
import Derived.Test.YtfhbmblbidcmmaaGreatSk30
import Derived.Test.YtfhbmblbidcmmaaGreatSk31
set_option linter.all false
set_option maxRecDepth 100000
set_option maxHeartbeats 1600000
namespace Go.Proofs.YtfhbmblbidcmmaaGreat
open Go.RowKit Go.Sl Go.Dk Go.Tr
abbrev EN:TypeId:=37
abbrev MU:TypeId:=3
theorem VL(s:Sp)(m:Nat):(DP s m).1.length≤s.taken.length:=by
 unfold DP Em
 simp only[List.length_mergeSort]
 have:=Hy (s.taken.drop m) s.used []
 grind
theorem QY(l:List Int): ∀s:Ck,(Dw l s).d=s.d∧(Dw l s).nm=s.nm∧(Dw l s).reads=s.reads:=by induction l with
 |nil=>exact fun s=>⟨rfl,rfl,rfl⟩
 | cons a l b =>
  intro s
  have e:(s.forget a).2.d=s.d∧(s.forget a).2.nm=s.nm∧(s.forget a).2.reads=s.reads:=by grind [Ck.forget]
  show (Dw l (s.forget a).2).d=_∧(Dw l (s.forget a).2).nm=_∧(Dw l (s.forget a).2).reads=_
  simp_all
def TS.GN(s:TS)(m:Nat):TS:=⟨Dw (DP s.sp m).1 s.ck,(DP s.sp m).2,s.ops⟩
theorem Pa.GN{s:TS}(h:Pa s)(m:Nat):Pa (s.GN m):=by
 obtain ⟨k,d⟩:=h.ck
 obtain ⟨a,b,c⟩:=QY (DP s.sp m).1 s.ck
 refine ⟨⟨k,NL _ d⟩,?_,h.ops,h.res,?_⟩
 ·obtain ⟨e,f,g,n4,i⟩:=h.num
  show f' s.ops (Dw _ s.ck)
  exact ⟨by rw[a];exact e,by rw[a];exact f,by rw[a,b];exact g,by rw[c];exact n4,by rw[a,b];exact i⟩
 show (s.sp.taken.take m).length≤s.ops
 have:=h.taken
 grind
theorem OU(t:Value)(mark:Int)(E:Nat)(u:FrameMode)(F:Ac)(w:World)(hs:Sat (Sl.block E EN [.int .i64 0]*F) w):
 CallsD Tryz.prog 81 #[t,.int .i64 mark,.pointer (some ⟨E,0,none⟩)] u w fun e a b=>a=u∧(e= .returned (.tuple #[])∧Sat (Sl.block E EN [.int .i64 0]*F) b):=by
 haveI:=hs.i
 go_enter_d Tryz.func81,Tryz.ntmps81
 go_wp2
 go_returns
 exact ⟨rfl,hs⟩
theorem U1(h:Th)(ck:Ck)(sp:Sp)(m:Nat)(E:Nat)(e:Int)(u:FrameMode)(F:Ac)(w:World)(he:e≠0)(y: ∀l,∃k,Bf k (Dw l ck))(hm:m≤sp.taken.length)(W:sp.taken.length≤1099511627776)(d:(DP sp m).1.length≤1099511627776)
 (hs:Sat (AN h.C h.D ck*(BQ h.S sp*(Sl.block h.t Sd [.pointer (some ⟨h.C,0,none⟩),.pointer (some ⟨h.S,0,none⟩)]*(Sl.block E EN [.int .i64 e]*F)))) w):
 CallsD Tryz.prog 81 #[.pointer (some ⟨h.t,0,none⟩),.int .i64 m,.pointer (some ⟨E,0,none⟩)] u w fun Q Y Z=>Y=u∧(Q= .returned (.tuple #[])∧
  Sat (AN h.C h.D (Dw (DP sp m).1 ck)*(BQ h.S (DP sp m).2*(Sl.block h.t Sd [.pointer (some ⟨h.C,0,none⟩),.pointer (some ⟨h.S,0,none⟩)]*(Sl.block E EN [.int .i64 e]*F)))) Z):=by
 have U:=FK y
 have f:=fun F w q=>VK h.S sp m F w q hm W
 obtain ⟨l,hl⟩:=Aq ((DP sp m).1)
 obtain ⟨r,z⟩:=Aq ((DP sp m).2)
 rw[hl] at d
 rw[hl,z] at f⊢
 clear hl z y
 haveI:=hs.i
 go_enter_d Tryz.func81,Tryz.ntmps81
 go_wp2_with fail
 with_reducible refine Calls.mono (f _ _ (Af (BQ h.S sp))) ?_
 rintro Q w2 ⟨a,c,rfl,B⟩
 haveI:=B.i
 clear f
 go_wp2_with fail
 obtain ⟨n,J⟩:=Aq l.length
 have L:=FK J
 rw[J] at d B⊢
 clear J this
 haveI:=B.i
 have T:Sat (AN h.C h.D ck*(BQ h.S r*(Sl.block h.t Sd [.pointer (some ⟨h.C,0,none⟩),.pointer (some ⟨h.S,0,none⟩)]*(Sl.block E EN [.int .i64 e]*(rw B3 1 (.slice a n c) (ints l)*F))))) w2:=Av (by ac_rfl)
 clear B hs this
 go_loopg [25] n (fun g K wr=> ∃(i:Nat)(b:Ck),K= .int .i64 i∧i≤n∧Aside (g=n-i∧b=Dw (l.take i) ck)∧Sat (AN h.C h.D b*(BQ h.S r*(Sl.block h.t Sd [.pointer (some ⟨h.C,0,none⟩),.pointer (some ⟨h.S,0,none⟩)]*(Sl.block E EN [.int .i64 e]*(rw B3 1 (.slice a n c) (ints l)*F))))) wr)
 case atStart=>exact ⟨0,ck,rfl,by omega,⟨rfl,rfl⟩,T⟩
 obtain ⟨i,b,rfl,hi,A,o⟩:=hrel
 clear T
 by_cases V:i<n
 · have x:(i:Int)<n:=by omega
   obtain ⟨no,j⟩: ∃no,l[i]?=some no:=⟨_,List.getElem?_eq_getElem (by have:=L.out;omega)⟩
   have X:Sat (rw B3 1 (.slice a n c) (ints l)*(AN h.C h.D b*(BQ h.S r*(Sl.block h.t Sd [.pointer (some ⟨h.C,0,none⟩),.pointer (some ⟨h.S,0,none⟩)]*(Sl.block E EN [.int .i64 e]*F))))) wr:=o.eq (by ac_rfl)
   obtain ⟨g,rfl⟩:=BN X (by omega)
   have s:(ints l)[i]?=some (.int .i64 no):=by unfold ints;simp[j]
   haveI:At (ints l) i (.int .i64 no):=⟨s⟩
   obtain ⟨k,I⟩:=U.out (l.take i)
   rw[←A.out.2] at I
   have v:=fun F w q=>UR h.C h.D b k no F w q I
   have O:Aside ((b.forget no).2=Dw (l.take (i+1)) ck):=(by rw[A9 j];unfold Dw;rw[List.foldl_append,A.out.2];rfl:_=_)
   obtain ⟨G,R⟩:=Aq ((b.forget no).2)
   rw[R] at v O
   haveI:=o.i
   clear s j R I
   go_wp2_with fail
   with_reducible refine De (v _ _ (Af (AN h.C h.D b))) fun w4 q5 _=>?_
   go_wp2_with fail
   go_roundg (n-(i+1))
   case measure=>have:=A.out.1;omega
   case rel=>exact ⟨i+1,G,by go_num,by omega,⟨rfl,O.out⟩,Fx _ _ _ _ _ _⟩
 have x: ¬(i:Int)<n:=by omega
 obtain rfl:i=n:=by omega
 have H:b=Dw l ck:=by have:=A.out.2;rwa [List.take_of_length_le (by rw[L.out];exact Nat.le_refl _)] at this
 haveI:=o.i
 subst H
 go_wp2
 go_returns
 exact ⟨rfl,EE _ _ _ _ _⟩
theorem U0(h:Th)(s:TS)(m:Nat)(E:Nat)(e:Int)(u:FrameMode)(F:Ac)(w:World)(g:e≠0)(hm:m≤s.sp.taken.length)(hs:Sat (Ae h s*(Sl.block E EN [.int .i64 e]*F)) w):
 CallsD Tryz.prog 81 #[.pointer (some ⟨h.t,0,none⟩),.int .i64 m,.pointer (some ⟨E,0,none⟩)] u w fun a b c=>b=u∧(a= .returned (.tuple #[])∧Sat (Ae h (s.GN m)*(Sl.block E EN [.int .i64 e]*F)) c):=by
 obtain ⟨hi,hp⟩:=DR hs
 obtain ⟨k,i⟩:=hi.ck
 have hl:=VL s.sp m
 have j:=hi.ops
 have o:=hi.taken
 unfold B8 at j
 refine (U1 h s.ck s.sp m E e u F w g (fun l=>⟨k,NL l i⟩) hm (by omega) (by omega) hp).mono ?_
 rintro a b c ⟨h1,d,f⟩
 exact ⟨h1,d,Dp (hi.GN m) f⟩
theorem Sk(N E:Nat)(w:World):
 CallsD Tryz.prog 83 #[.pointer (some ⟨N,0,none⟩),.pointer (some ⟨E,0,none⟩)] .returning w fun e c d=>e= .returned (.tuple #[])∧c= .returning∧d=w:=by
 refine callsD_of_wpS Tryz.func83 rfl fun a f b=>?_
 apply wpS_seq
 apply wpS_region
 simp[wpOpsS,go_sem,recoverD,b,Tryz.ntmps83,Exit.thenS]
 apply wpS_seq
 apply wpS_region
 simp[wpOpsS,go_sem,Exit.thenS]
 refine wpS_cond (t:=false) (by simp[Act.eval,Array.replicate]) ?_
 simp only[Bool.false_eq_true,if_false]
 refine wpS_of_wp (wp_skip ?_)
 cases a
 simp_all[bodyPostS,results,Tryz.results83,Exit.thenS]
theorem Po(N E:Nat)(c:Int)(a b:Value)(F:Ac)(w:World)(hs:Sat (Sl.block N MU [a]*(Sl.block E EN [b]*F)) w):
 CallsD Tryz.prog 83 #[.pointer (some ⟨N,0,none⟩),.pointer (some ⟨E,0,none⟩)] (.panicking (C1 c)) w fun e g j=>e= .returned (.tuple #[])∧g= .panicking [{ v:= .iface Y8 (.agg #[.int .i64 c]),recovered:=true }]∧Sat (Sl.block N MU [.int .i64 0]*(Sl.block E EN [.int .i64 c]*F)) j:=by
 haveI:=hs.i
 refine callsD_of_wpS Tryz.func83 rfl fun d k f=>?_
 unfold C1 at f
 apply wpS_seq
 apply wpS_region
 simp[wpOpsS,go_sem,recoverD,f,Tryz.ntmps83,Exit.thenS]
 apply wpS_seq
 apply wpS_region
 simp[wpOpsS,go_sem,Exit.thenS]
 refine wpS_cond (t:=true) (by simp[Act.eval,Array.replicate]) ?_
 simp only[if_true]
 refine wpS_of_wp ?_
 go_wp2_with fail
 refine De (FM c _ _ hs) fun m l _=>?_
 go_wp2
 simp[bodyPostS,results,Tryz.results83]
 exact Av (by first|rfl|ac_rfl)
theorem OM(N E:Nat)(w:World):
 CallsD Tryz.prog 138 #[.pointer (some ⟨N,0,none⟩),.pointer (some ⟨E,0,none⟩)] .returning w fun e c d=>e= .returned (.tuple #[])∧c= .returning∧d=w:=by
 refine callsD_of_wpS Tryz.func138 rfl fun a f b=>?_
 apply wpS_seq
 apply wpS_region
 simp[wpOpsS,go_sem,recoverD,b,Tryz.ntmps138,Exit.thenS]
 apply wpS_seq
 apply wpS_region
 simp[wpOpsS,go_sem,Exit.thenS]
 refine wpS_cond (t:=false) (by simp[Act.eval,Array.replicate]) ?_
 simp only[Bool.false_eq_true,if_false]
 refine wpS_of_wp (wp_skip ?_)
 cases a
 simp_all[bodyPostS,results,Tryz.results138,Exit.thenS]
theorem RP(N E:Nat)(c:Int)(a b:Value)(F:Ac)(w:World)(hs:Sat (Sl.block N MU [a]*(Sl.block E EN [b]*F)) w):
 CallsD Tryz.prog 138 #[.pointer (some ⟨N,0,none⟩),.pointer (some ⟨E,0,none⟩)] (.panicking (C1 c)) w fun e g j=>e= .returned (.tuple #[])∧g= .panicking [{ v:= .iface Y8 (.agg #[.int .i64 c]),recovered:=true }]∧Sat (Sl.block N MU [.int .i64 0]*(Sl.block E EN [.int .i64 c]*F)) j:=by
 haveI:=hs.i
 refine callsD_of_wpS Tryz.func138 rfl fun d k f=>?_
 unfold C1 at f
 apply wpS_seq
 apply wpS_region
 simp[wpOpsS,go_sem,recoverD,f,Tryz.ntmps138,Exit.thenS]
 apply wpS_seq
 apply wpS_region
 simp[wpOpsS,go_sem,Exit.thenS]
 refine wpS_cond (t:=true) (by simp[Act.eval,Array.replicate]) ?_
 simp only[if_true]
 refine wpS_of_wp ?_
 go_wp2_with fail
 refine De (FM c _ _ hs) fun m l _=>?_
 go_wp2
 simp[bodyPostS,results,Tryz.results138]
 exact Av (by first|rfl|ac_rfl)
theorem L7(N E:Nat)(w:World):
 CallsD Tryz.prog 93 #[.pointer (some ⟨N,0,none⟩),.pointer (some ⟨E,0,none⟩)] .returning w fun e c d=>e= .returned (.tuple #[])∧c= .returning∧d=w:=by
 refine callsD_of_wpS Tryz.func93 rfl fun a f b=>?_
 apply wpS_seq
 apply wpS_region
 simp[wpOpsS,go_sem,recoverD,b,Tryz.ntmps93,Exit.thenS]
 apply wpS_seq
 apply wpS_region
 simp[wpOpsS,go_sem,Exit.thenS]
 refine wpS_cond (t:=false) (by simp[Act.eval,Array.replicate]) ?_
 simp only[Bool.false_eq_true,if_false]
 refine wpS_of_wp (wp_skip ?_)
 cases a
 simp_all[bodyPostS,results,Tryz.results93,Exit.thenS]
def WY{α:Type}(h:Th)(F:Ac)(r:EX TS α)(Bk:α→Value)(bad:Int→Value)(e:Ending)(b:World):Prop:=match r with
 | .ok a s=>e= .returned (Bk a)∧Sat (Ae h s*F) b
 | .fault n s=>e= .returned (bad n)∧Sat (Ae h s*F) b
 | .bad=>False
def KC(a b:Int):Value:= .tuple #[.int .i64 a,.int .i64 b]
theorem FR(h:Th)(s:TS)(root:Int)(F:Ac)(w:World)(hs:Sat (Ae h s*F) w)(hb:Ec Ai root s≠ .bad):
 Calls Tryz.prog 86 #[.pointer (some ⟨h.t,0,none⟩),.int .i64 root] w (WY h F (Ec Ai root s) (fun z=>KC z 0) (fun k=>KC 0 k)):=by
 have X: ∀(G:Fn)(first cap:Array Value)(w:World),(Instr.makeFunc G first cap).run Tryz.prog w= .ok (.func G first cap) w:=fun _ _ _ _=>rfl
 obtain ⟨R,c⟩:=Aq (Ec Ai root s)
 rw[c] at hb⊢
 have j:Aside (R≠ .bad):=hb
 unfold Ec at c
 haveI:=hs.i
 clear hb
 by_cases h0:root=0
 ·rw[if_pos h0] at c
  have a:R= .ok 0 s:=c.symm
  subst a
  subst h0
  clear c j
  go_enter_defers Tryz.func86,Tryz.ntmps86
  go_wp2
  refine leaves_cons (f:=138) (args:= #[.pointer (some ⟨w.heap.size,0,none⟩),.pointer (some ⟨w.heap.size+1,0,none⟩)]) (by simp) (by simp[go_sem]) ?_
  refine (OM _ _ _).mono ?_
  rintro e J x ⟨rfl,rfl,rfl⟩
  simp[Leaves,settle,results,Tryz.results86,go_sem]
  exact ⟨rfl,Ap _ _⟩
 rw[if_neg h0] at c
 have g:Aside (M.bind (Ai root) (fun n=>M.pure (AS n).1) s=R):=c
 have c1:=fun F w q=>Cw h s root F w q (AX g.out j.out)
 have L:((root:Int)==0)=false:=by simpa using h0
 clear c
 go_enter_defers Tryz.func86,Tryz.ntmps86
 go_wp2_with fail
 with_reducible refine Calls.mono (c1 _ _ (Af (Ae h s))) ?_
 rintro e B d
 obtain ⟨r1,b⟩: ∃r,r=Ai root s:=⟨_,rfl⟩
 rw[←b] at d
 rcases r1 with ⟨y,s2⟩|⟨k,s2⟩|_
 rotate_left
 ·obtain ⟨rfl,l⟩:=d
  haveI:=l.i
  have a:=Bn g.out b.symm
  subst a
  show bodyPostD _ _ _ (.panic (C1 k)) _ B
  refine leaves_cons (f:=138) (args:= #[.pointer (some ⟨w.heap.size,0,none⟩),.pointer (some ⟨w.heap.size+1,0,none⟩)]) (by simp) (by simp[go_sem]) ?_
  refine (RP w.heap.size (w.heap.size+1) k _ _ _ B (AP (Sl.block w.heap.size MU [.int .i64 0]) (Sl.block (w.heap.size+1) EN [.int .i64 0]))).mono ?_
  rintro e J w2 ⟨rfl,rfl,m⟩
  haveI:=m.i
  simp[Leaves,settle,results,Tryz.results86,go_sem]
  exact ⟨rfl,Ap _ _⟩
 ·exact absurd (Ch g.out b.symm) j.out
 obtain ⟨v1,D,rfl,⟨hx,o⟩,l⟩:=d
 obtain ⟨V,W⟩:=Cs o
 have a:R= .ok (AS y).1 s2:=(AW g.out b.symm).symm
 subst a
 have u:=fun F w q=>JJ y v1 D F w hx q (by omega) (by omega)
 obtain ⟨se,sk,rfl,H,I⟩:=hx
 obtain ⟨Z,K,rfl,O,Q⟩:=H.v
 obtain ⟨a2,c2,rfl,T,U⟩:=Al.v I
 have m:Sat (D*(Ae h s2*(Sl.block (w.heap.size+1) EN [.int .i64 0]*(Sl.block w.heap.size MU [.int .i64 0]*F)))) B:=l.eq (by ac_rfl)
 haveI:=m.i
 clear H I g j c1 b l
 go_wp2_with fail
 refine Calls.mono (u _ _ m) ?_
 rintro e w3 ⟨rfl,Y⟩
 haveI:=Y.i
 go_wp2
 refine leaves_cons (f:=138) (args:= #[.pointer (some ⟨w.heap.size,0,none⟩),.pointer (some ⟨w.heap.size+1,0,none⟩)]) (by simp) (by simp[go_sem]) ?_
 refine (OM _ _ _).mono ?_
 rintro e J x ⟨rfl,rfl,rfl⟩
 simp[Leaves,settle,results,Tryz.results86,go_sem]
 exact ⟨rfl,Ap _ _⟩
end Go.Proofs.YtfhbmblbidcmmaaGreat
namespace Go.Tr
section
variable {σ:Type} {α β:Type} {P:σ→σ→Prop}
structure RY (P:σ→σ→Prop):Prop where
 same: ∀s,P s s
 next: ∀a b c,P a b→P b c→P a c
def Aj(P:σ→σ→Prop)(m:M σ α):Prop:= ∀s,match m s with
 | .ok _ s'=>P s s'
 | .fault _ s'=>P s s'
 | .bad=>True
theorem Aj.pure(h:RY P)(a:α):Aj P (M.pure a):=fun s=>h.same s
theorem Aj.fail(h:RY P)(e:Int):Aj P (M.fail e:M σ α):=fun s=>h.same s
theorem Aj.bad:Aj P (M.bad:M σ α):=fun s=>trivial
theorem Aj.bind(h:RY P){m:M σ α}{f:α→M σ β}(hm:Aj P m)(g: ∀a,Aj P (f a)):Aj P (M.bind m f):=fun s=>by
 have h1:=hm s
 unfold M.bind
 cases hr:m s with
 |bad=>trivial
 |fault e s1=>rw[hr] at h1;exact h1
 | ok a s1 =>
  rw[hr] at h1
  have d:=g a s1
  simp only[EX.bind] at h1⊢
  cases c:f a s1 with
  |bad=>trivial
  |fault e s2=>rw[c] at d;exact h.next _ _ _ h1 d
  |ok b s2=>rw[c] at d;exact h.next _ _ _ h1 d
theorem Aj.ite{c:Prop}[Decidable c]{m k:M σ α}(h1:Aj P m)(a:Aj P k):Aj P (if c then m else k):=by grind
theorem Aj.ok{m:M σ α}{s s':σ}{a:α}(h:Aj P m)(e:m s= .ok a s'):P s s':=by
 have:=h s
 simp_all
theorem Aj.fault{m:M σ α}{s s':σ}{n:Int}(h:Aj P m)(e:m s= .fault n s'):P s s':=by
 have:=h s
 simp_all
variable (h:RY P) {rd:Int→M σ Nd} {wt:Nd→M σ Kd} (hr: ∀p,Aj P (rd p)) (hw: ∀n,Aj P (wt n))
include h
include hw in
theorem Hr(n:Nd)(A7:Nat): ∀(c i a:Nat)(out:List Kd),Aj P (Cv wt n A7 c i a out)
 |0,_,_,_=>Aj.pure h _
 |c+1,i,a,out=>Aj.bind h (hw _) fun k=>Hr n A7 c _ _ _
include hw in
theorem Eo(n:Nd):Aj P (Bv wt n):=Hr h hw n _ _ _ _ _
include hw in
theorem L9: ∀(f:Nat)(ks:List Kd)(x:Int),Aj P (EH wt f ks x)
 |0,[],x=>Aj.pure h _
 |f+1,[],x=>Aj.pure h _
 |0,[k],x=>Aj.pure h _
 |f+1,[k],x=>Aj.pure h _
 |0,a::b::l,x=>Aj.bad
 |f+1,a::b::l,x=>Aj.bind h (Eo h hw _) fun ks=>L9 f ks _
include hw in
theorem IX(ks:List Kd)(x:Int):Aj P (grown wt ks x):=L9 h hw _ _ _
include hw in
theorem En(l:List Au):Aj P (BV wt l):=Aj.bind h (Eo h hw _) fun ks=>IX h hw _ _
include hw in
theorem GA(ks:List Kd)(x:Int):Aj P (CP wt ks x):=IX h hw _ _
include hr hw in
theorem J6: ∀(f:Nat)(a b:BG),Aj P (Ct rd wt f a b)
 |0,a,b=>Aj.bad
 | f + 1, a, b => by
  unfold Ct
  refine Aj.ite ?_ (Aj.ite ?_ ?_)
  ·refine Aj.bind h (hr _) fun x=>?_
   split
   ·exact Aj.bad
   exact Aj.ite Aj.bad (Aj.bind h (J6 f _ _) fun r=>Aj.bind h (Eo h hw _) fun o=>Aj.pure h _)
  ·refine Aj.bind h (hr _) fun x=>?_
   split
   ·exact Aj.bad
   exact Aj.ite Aj.bad (Aj.bind h (J6 f _ _) fun r=>Aj.bind h (Eo h hw _) fun o=>Aj.pure h _)
  exact Aj.bind h (hr _) fun x=>Aj.bind h (hr _) fun y=>Aj.ite (Aj.bind h (Eo h hw _) fun o=>Aj.pure h _) Aj.bad
include hr hw in
theorem I4(a b:BG):Aj P (E4 rd wt a b):=Aj.ite (Aj.pure h _) (Aj.ite (Aj.pure h _) (Aj.bind h (J6 h hr hw _ _ _) fun r=>IX h hw _ _))
include hr hw in
theorem GK: ∀(f:Nat)(x:BG)(n:Int),Aj P (Bi rd wt f x n)
 | 0, x, n => by
  unfold Bi
  exact Aj.ite (Aj.pure h _) (Aj.ite (Aj.pure h _) Aj.bad)
 | f + 1, x, n => by
  unfold Bi
  refine Aj.ite (Aj.pure h _) (Aj.ite (Aj.pure h _) (Aj.bind h (hr _) fun y=>Aj.ite ?_ ?_))
  ·split
   ·exact Aj.bad
   exact Aj.bind h (En h hw _) fun a=>Aj.bind h (En h hw _) fun b=>Aj.pure h _
  split
  ·exact Aj.bad
  refine Aj.ite (Aj.bind h (GA h hw _ _) fun a=>Aj.bind h (GA h hw _ _) fun b=>Aj.pure h _) ?_
  split
  ·exact Aj.bad
  exact Aj.bind h (GK f _ _) fun p=>Aj.bind h (GA h hw _ _) fun a=>Aj.bind h (I4 h hr hw _ _) fun a=>Aj.bind h (GA h hw _ _) fun b=>Aj.bind h (I4 h hr hw _ _) fun b=>Aj.pure h _
include hr in
theorem Ju: ∀(f:Nat)(n:Nd)(x:Int),Aj P (CB rd f n x)
 | 0, n, x => by
  unfold CB
  exact Aj.ite (Aj.pure h _) (Aj.fail h _)
 | f + 1, n, x => by
  unfold CB
  refine Aj.ite (Aj.pure h _) ?_
  simp only
  split
  ·exact Aj.bad
  exact Aj.bind h (hr _) fun m=>Ju f m _
include hr in
theorem GM(r:Int):Aj P (Ev rd r):=Aj.ite (Aj.pure h _) (Aj.bind h (hr _) fun n=>Aj.bind h (Ju h hr _ _ _) fun x=>Aj.pure h _)
include hr in
theorem L3: ∀(f:Nat)(n:Nd)(x a:Int),Aj P (DO rd f n x a)
 |0,n,x,a=>Aj.fail h _
 | f + 1, n, x, a => by
  unfold DO
  split
  ·exact Aj.pure h _
  ·exact Aj.fail h _
  exact Aj.bind h (hr _) fun m=>L3 f m _ _
include hr in
theorem J8(r x:Int):Aj P (IB rd r x):=Aj.bind h (hr _) fun n=>L3 h hr _ _ _ _
include hr in
theorem DQ: ∀(f:Nat)(x:BG)(n:Int),Aj P (CG rd f x n)
 | 0, x, n => by
  unfold CG
  exact Aj.ite (Aj.pure h _) (Aj.ite (Aj.pure h _) Aj.bad)
 | f + 1, x, n => by
  unfold CG
  refine Aj.ite (Aj.pure h _) (Aj.ite (Aj.pure h _) (Aj.bind h (hr _) fun y=>?_))
  split
  ·exact Aj.pure h _
  exact Aj.bind h (DQ f _ _) fun z=>Aj.pure h _
include hr in
theorem Uv(r:Int):Aj P (Ec rd r):=Aj.ite (Aj.pure h _) (Aj.bind h (hr _) fun n=>Aj.pure h _)
include hw in
theorem RU(l:List Au):Aj P (J5 wt l):=Aj.bind h (En h hw _) fun t=>Aj.pure h _
include hr in
theorem Ij(r x:Int):Aj P (leftOf rd r x):=Aj.ite (Aj.bind h (J8 h hr _ _) fun p=>Aj.pure h _) (Aj.pure h _)
include hr in
theorem GH(r x a:Int):Aj P (FJ rd r x a):=Aj.ite (Aj.bind h (J8 h hr _ _) fun p=>Aj.pure h _) (Aj.pure h _)
include hr hw in
theorem P1(r a n x:Int)(put:List Au):Aj P (GB rd wt r a n x put):=
 Aj.bind h (Ij h hr _ _) fun L=>Aj.bind h (GH h hr _ _ _) fun R=>Aj.bind h (GM h hr _) fun w=>Aj.bind h (DQ h hr _ _ _) fun r1=>Aj.bind h (DQ h hr _ _ _) fun r0=>
 Aj.ite (Aj.fail h _) (Aj.bind h (GK h hr hw _ _ _) fun p=>Aj.bind h (GK h hr hw _ _ _) fun q=>Aj.bind h (En h hw _) fun m=>Aj.bind h (I4 h hr hw _ _) fun x=>Aj.bind h (I4 h hr hw _ _) fun y=>Aj.pure h _)
end
end Go.Tr
namespace Go.Proofs.YtfhbmblbidcmmaaGreat
open Go.RowKit Go.Sl Go.Dk Go.Tr
def Grow(s s':TS):Prop:=(∃l,s'.sp.taken=s.sp.taken++l∧s'.sp.used=s.sp.used++l)∧s'.sp.AO=s.sp.AO∧s'.sp.waiting=s.sp.waiting∧s.ops≤s'.ops
theorem BJ:RY Grow where
 same s:=⟨⟨[],by simp,by simp⟩,rfl,rfl,Nat.le_refl _⟩
 next:=by
  rintro a b c ⟨⟨l,h1,d⟩,e,f,o⟩ ⟨⟨m,g,i⟩,j,k,q⟩
  exact ⟨⟨l++m,by rw[g,h1,List.append_assoc],by rw[i,d,List.append_assoc]⟩,j.trans e,k.trans f,by omega⟩
theorem Grow.len{s s':TS}(h:Grow s s'):s.sp.taken.length≤s'.sp.taken.length:=by
 obtain ⟨⟨l,h1,_⟩,_⟩:=h
 simp_all
theorem Gw(e:Int):Aj Grow (EU e):=by
 unfold EU
 split
 ·exact Aj.pure BJ _
 exact Aj.fail BJ _
theorem Vb(no:Int):Aj Grow (Rk no):=fun s=>by
 unfold Rk
 by_cases h:s.ops<B8
 ·rw[if_pos h];exact ⟨⟨[],by simp,by simp⟩,rfl,rfl,by simp only;omega⟩
 grind
theorem Vc(no:Int)(b:List UInt8):Aj Grow (XE no b):=fun s=>⟨⟨[],by simp,by simp⟩,rfl,rfl,by simp only;omega⟩
theorem SZ:Aj Grow IA:=fun s=>by
 unfold IA
 by_cases h:s.ops<B8
 ·rw[if_pos h]
  unfold Sp.take
  cases s.sp.free with
  |none=>exact ⟨⟨[],by simp,by simp⟩,rfl,rfl,by simp only;omega⟩
  |some no=>exact ⟨⟨[no],rfl,rfl⟩,rfl,rfl,by simp only;omega⟩
 grind
theorem F1(p:Int):Aj Grow (Ai p):=by
 refine Aj.bind BJ (Vb p) fun r=>Aj.bind BJ (Gw _) fun _=>?_
 cases CR p r.2 with
 |none=>exact Aj.fail BJ _
 |some n=>exact Aj.pure BJ _
theorem RV(n:Nd):Aj Grow (Ak n):=by
 refine Aj.ite (Aj.fail BJ _) ?_
 exact Aj.bind BJ SZ fun t=>Aj.bind BJ (Gw _) fun _=>Aj.bind BJ (Gw _) fun _=>Aj.bind BJ (Vc _ _) fun e=>Aj.bind BJ (Gw _) fun _=>Aj.pure BJ _
def after(m:Nat){α:Type} :EX TS α→EX TS α
 | .fault e s=> .fault e (if e=0 then s else s.GN m)
 |r=>r
def Eg(l:List Au):M TS Int:=fun s=>if Bh l=false then .fault 1 s else if 1024<(join l).length then .fault 11 s else after s.sp.taken.length (J5 Ak (join l) s)
