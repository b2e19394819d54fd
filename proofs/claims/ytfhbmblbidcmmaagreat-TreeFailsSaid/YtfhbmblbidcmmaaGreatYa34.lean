/- treeFails holds for every input. No condition. (part 34) -/
import Derived.Test.YtfhbmblbidcmmaaGreatYa32
import Derived.Test.YtfhbmblbidcmmaaGreatYa33
set_option linter.all false
set_option maxRecDepth 100000
set_option maxHeartbeats 1600000
namespace Go.Proofs.YtfhbmblbidcmmaaGreat
open Go.RowKit Go.Sl Go.Dk Go.Tr
abbrev Eu:TypeId:=37
abbrev Il:TypeId:=3
theorem T1(s:Sp)(m:Nat):(D3 s m).1.length≤s.taken.length:=by
 unfold D3 E8
 simp only[List.length_mergeSort]
 have:=Hg (s.taken.drop m) s.used []
 rw[List.length_drop,List.length_nil] at this
 omega
theorem K2(l:List Int): ∀s:Ck,(CY l s).d=s.d∧(CY l s).nm=s.nm∧(CY l s).reads=s.reads:=by
 induction l with
 |nil=>exact fun s=>⟨rfl,rfl,rfl⟩
 | cons a l g =>
  intro s
  obtain ⟨b,c,f⟩:=g (s.forget a).2
  have e:(s.forget a).2.d=s.d∧(s.forget a).2.nm=s.nm∧(s.forget a).2.reads=s.reads:=by
   unfold Ck.forget
   split<;>exact ⟨rfl,rfl,rfl⟩
  show (CY l (s.forget a).2).d=_∧(CY l (s.forget a).2).nm=_∧(CY l (s.forget a).2).reads=_
  exact ⟨b.trans e.1,c.trans e.2.1,f.trans e.2.2⟩
def TS.Ds(s:TS)(m:Nat):TS:=⟨CY (D3 s.sp m).1 s.ck,(D3 s.sp m).2,s.ops⟩
theorem Gt.Ds{s:TS}(h:Gt s)(m:Nat):Gt (s.Ds m):=by
 obtain ⟨k,d⟩:=h.ck
 obtain ⟨a,b,c⟩:=K2 (D3 s.sp m).1 s.ck
 refine ⟨⟨k,MK _ d⟩,?_,h.ops,h.res,?_⟩
 ·obtain ⟨e,f,g,n4,i⟩:=h.num
  show XY s.ops (CY _ s.ck)
  exact ⟨by rw[a];exact e,by rw[a];exact f,by rw[a,b];exact g,by rw[c];exact n4,by rw[a,b];exact i⟩
 show (s.sp.taken.take m).length≤s.ops
 have:=h.taken
 rw[List.length_take]
 omega
theorem Ja(t:Value)(mark:Int)(E:Nat)(u:FrameMode)(F:Ac)(w:World)(hs:Sat (Sl.block E Eu [.int .i64 0]*F) w):
 CallsD Tryz.prog 81 #[t,.int .i64 mark,.pointer (some ⟨E,0,none⟩)] u w fun e a b=>a=u∧(e= .returned (.tuple #[])∧Sat (Sl.block E Eu [.int .i64 0]*F) b):=by
 haveI:=hs.i
 go_enter_d Tryz.func81,Tryz.ntmps81
 go_wp2
 go_returns
 exact ⟨rfl,hs⟩
theorem Sh(h:Th)(ck:Ck)(sp:Sp)(m:Nat)(E:Nat)(e:Int)(u:FrameMode)(F:Ac)(w:World)(he:e≠0)(z: ∀l,∃k,Bi k (CY l ck))(hm:m≤sp.taken.length)(X:sp.taken.length≤1099511627776)(d:(D3 sp m).1.length≤1099511627776)
 (hs:Sat (AD h.C h.D ck*(BA h.S sp*(Sl.block h.t St [.pointer (some ⟨h.C,0,none⟩),.pointer (some ⟨h.S,0,none⟩)]*(Sl.block E Eu [.int .i64 e]*F)))) w):
 CallsD Tryz.prog 81 #[.pointer (some ⟨h.t,0,none⟩),.int .i64 m,.pointer (some ⟨E,0,none⟩)] u w fun I u' w'=>u'=u∧(I= .returned (.tuple #[])∧
  Sat (AD h.C h.D (CY (D3 sp m).1 ck)*(BA h.S (D3 sp m).2*(Sl.block h.t St [.pointer (some ⟨h.C,0,none⟩),.pointer (some ⟨h.S,0,none⟩)]*(Sl.block E Eu [.int .i64 e]*F)))) w'):=by
 have V:Aside (∀l,∃k,Bi k (CY l ck)):=z
 have f:=fun F w q=>T0 h.S sp m F w q hm X
 obtain ⟨l,hl⟩: ∃l,(D3 sp m).1=l:=⟨_,rfl⟩
 obtain ⟨r,B⟩: ∃x,(D3 sp m).2=x:=⟨_,rfl⟩
 rw[hl] at d
 rw[hl,B] at f⊢
 clear hl B z
 haveI:=hs.i
 go_enter_d Tryz.func81,Tryz.ntmps81
 go_wp2_with fail
 with_reducible refine Calls.mono (f _ _ (Ae (BA h.S sp))) ?_
 rintro I w2 ⟨a,c,rfl,G⟩
 haveI:=G.i
 clear f
 go_wp2_with fail
 obtain ⟨n,L⟩: ∃n,l.length=n:=⟨_,rfl⟩
 have Q:Aside (l.length=n):=L
 rw[L] at d G⊢
 clear L this
 haveI:=G.i
 have U:Sat (AD h.C h.D ck*(BA h.S r*(Sl.block h.t St [.pointer (some ⟨h.C,0,none⟩),.pointer (some ⟨h.S,0,none⟩)]*(Sl.block E Eu [.int .i64 e]*(rw ED 1 (.slice a n c) (ints l)*F))))) w2:=A8 (by ac_rfl)
 clear G hs this
 go_loopg [25] n (fun g O wr=> ∃(i:Nat)(b:Ck),O= .int .i64 i∧i≤n∧Aside (g=n-i∧b=CY (l.take i) ck)∧Sat (AD h.C h.D b*(BA h.S r*(Sl.block h.t St [.pointer (some ⟨h.C,0,none⟩),.pointer (some ⟨h.S,0,none⟩)]*(Sl.block E Eu [.int .i64 e]*(rw ED 1 (.slice a n c) (ints l)*F))))) wr)
 case atStart=>exact ⟨0,ck,rfl,by omega,⟨rfl,rfl⟩,U⟩
 obtain ⟨i,b,rfl,hi,A,o⟩:=hrel
 clear U
 by_cases W:i<n
 · have y:(i:Int)<n:=by omega
   obtain ⟨no,j⟩: ∃no,l[i]?=some no:=⟨_,List.getElem?_eq_getElem (by have:=Q.out;omega)⟩
   have Y:Sat (rw ED 1 (.slice a n c) (ints l)*(AD h.C h.D b*(BA h.S r*(Sl.block h.t St [.pointer (some ⟨h.C,0,none⟩),.pointer (some ⟨h.S,0,none⟩)]*(Sl.block E Eu [.int .i64 e]*F))))) wr:=o.eq (by ac_rfl)
   obtain ⟨g,rfl⟩:=DZ Y (by omega)
   have s:(ints l)[i]?=some (.int .i64 no):=by unfold ints;simp[j]
   haveI:At (ints l) i (.int .i64 no):=⟨s⟩
   obtain ⟨k,K⟩:=V.out (l.take i)
   rw[←A.out.2] at K
   have v:=fun F w q=>SG h.C h.D b k no F w q K
   have R:Aside ((b.forget no).2=CY (l.take (i+1)) ck):=(by rw[AA j];unfold CY;rw[List.foldl_append,A.out.2];rfl:_=_)
   obtain ⟨H,T⟩: ∃x,(b.forget no).2=x:=⟨_,rfl⟩
   rw[T] at v R
   haveI:=o.i
   clear s j T K
   go_wp2_with fail
   with_reducible refine Calls.mono (v _ _ (Ae (AD h.C h.D b))) ?_
   rintro I w4 ⟨rfl,Z⟩
   haveI:=Z.i
   go_wp2_with fail
   go_roundg (n-(i+1))
   case measure=>have:=A.out.1;omega
   case rel=>exact ⟨i+1,H,by go_num,by omega,⟨rfl,R.out⟩,EH _ _ _ _ _ _⟩
 have y: ¬(i:Int)<n:=by omega
 obtain rfl:i=n:=by omega
 have J:b=CY l ck:=by have:=A.out.2;rwa [List.take_of_length_le (by rw[Q.out];exact Nat.le_refl _)] at this
 haveI:=o.i
 subst J
 go_wp2
 go_returns
 exact ⟨rfl,BL _ _ _ _ _⟩
theorem Li(h:Th)(s:TS)(m:Nat)(E:Nat)(e:Int)(u:FrameMode)(F:Ac)(w:World)(i:e≠0)(hm:m≤s.sp.taken.length)(hs:Sat (Ad h s*(Sl.block E Eu [.int .i64 e]*F)) w):
 CallsD Tryz.prog 81 #[.pointer (some ⟨h.t,0,none⟩),.int .i64 m,.pointer (some ⟨E,0,none⟩)] u w fun a b c=>b=u∧(a= .returned (.tuple #[])∧Sat (Ad h (s.Ds m)*(Sl.block E Eu [.int .i64 e]*F)) c):=by
 obtain ⟨hi,hp⟩:=Ek hs
 obtain ⟨k,j⟩:=hi.ck
 have hl:=T1 s.sp m
 have o:=hi.ops
 have q:=hi.taken
 unfold Bu at o
 refine (Sh h s.ck s.sp m E e u F w i (fun l=>⟨k,MK l j⟩) hm (by omega) (by omega) hp).mono ?_
 rintro a b c ⟨d,f,g⟩
 exact ⟨d,f,CM (hi.Ds m) g⟩
theorem Qy(N E:Nat)(w:World):
 CallsD Tryz.prog 83 #[.pointer (some ⟨N,0,none⟩),.pointer (some ⟨E,0,none⟩)] .returning w fun e c d=>e= .returned (.tuple #[])∧c= .returning∧d=w:=by
 refine callsD_of_wpS Tryz.func83 rfl fun a f b=>?_
 apply wpS_seq
 apply wpS_region
 simp[wpOpsS,go_sem,recoverD,b,Tryz.ntmps83,Exit.thenS]
 apply wpS_seq
 apply wpS_region
 simp[wpOpsS,go_sem,Exit.thenS]
 refine wpS_cond (t:=false) (by simp[Act.eval,Array.replicate]) ?_
 simp only[Bool.false_eq_true,if_false]
 refine wpS_of_wp (wp_skip ?_)
 cases a
 simp_all[bodyPostS,results,Tryz.results83,Exit.thenS]
theorem Of(N E:Nat)(c:Int)(a b:Value)(F:Ac)(w:World)(hs:Sat (Sl.block N Il [a]*(Sl.block E Eu [b]*F)) w):
 CallsD Tryz.prog 83 #[.pointer (some ⟨N,0,none⟩),.pointer (some ⟨E,0,none⟩)] (.panicking (D2 c)) w fun e j k=>e= .returned (.tuple #[])∧j= .panicking [{ v:= .iface Yi (.agg #[.int .i64 c]),recovered:=true }]∧Sat (Sl.block N Il [.int .i64 0]*(Sl.block E Eu [.int .i64 c]*F)) k:=by
 haveI:=hs.i
 refine callsD_of_wpS Tryz.func83 rfl fun d l f=>?_
 unfold D2 at f
 apply wpS_seq
 apply wpS_region
 simp[wpOpsS,go_sem,recoverD,f,Tryz.ntmps83,Exit.thenS]
 apply wpS_seq
 apply wpS_region
 simp[wpOpsS,go_sem,Exit.thenS]
 refine wpS_cond (t:=true) (by simp[Act.eval,Array.replicate]) ?_
 simp only[if_true]
 refine wpS_of_wp ?_
 go_wp2_with fail
 refine Calls.mono (Jf c _ _ hs) ?_
 rintro m o ⟨rfl,g⟩
 haveI:=g.i
 go_wp2
 simp[bodyPostS,results,Tryz.results83]
 exact A8 (by first|rfl|ac_rfl)
theorem NO(N E:Nat)(w:World):
 CallsD Tryz.prog 138 #[.pointer (some ⟨N,0,none⟩),.pointer (some ⟨E,0,none⟩)] .returning w fun e c d=>e= .returned (.tuple #[])∧c= .returning∧d=w:=by
 refine callsD_of_wpS Tryz.func138 rfl fun a f b=>?_
 apply wpS_seq
 apply wpS_region
 simp[wpOpsS,go_sem,recoverD,b,Tryz.ntmps138,Exit.thenS]
 apply wpS_seq
 apply wpS_region
 simp[wpOpsS,go_sem,Exit.thenS]
 refine wpS_cond (t:=false) (by simp[Act.eval,Array.replicate]) ?_
 simp only[Bool.false_eq_true,if_false]
 refine wpS_of_wp (wp_skip ?_)
 cases a
 simp_all[bodyPostS,results,Tryz.results138,Exit.thenS]
theorem Qn(N E:Nat)(c:Int)(a b:Value)(F:Ac)(w:World)(hs:Sat (Sl.block N Il [a]*(Sl.block E Eu [b]*F)) w):
 CallsD Tryz.prog 138 #[.pointer (some ⟨N,0,none⟩),.pointer (some ⟨E,0,none⟩)] (.panicking (D2 c)) w fun e j k=>e= .returned (.tuple #[])∧j= .panicking [{ v:= .iface Yi (.agg #[.int .i64 c]),recovered:=true }]∧Sat (Sl.block N Il [.int .i64 0]*(Sl.block E Eu [.int .i64 c]*F)) k:=by
 haveI:=hs.i
 refine callsD_of_wpS Tryz.func138 rfl fun d l f=>?_
 unfold D2 at f
 apply wpS_seq
 apply wpS_region
 simp[wpOpsS,go_sem,recoverD,f,Tryz.ntmps138,Exit.thenS]
 apply wpS_seq
 apply wpS_region
 simp[wpOpsS,go_sem,Exit.thenS]
 refine wpS_cond (t:=true) (by simp[Act.eval,Array.replicate]) ?_
 simp only[if_true]
 refine wpS_of_wp ?_
 go_wp2_with fail
 refine Calls.mono (Jf c _ _ hs) ?_
 rintro m o ⟨rfl,g⟩
 haveI:=g.i
 go_wp2
 simp[bodyPostS,results,Tryz.results138]
 exact A8 (by first|rfl|ac_rfl)
theorem F6(N E:Nat)(w:World):
 CallsD Tryz.prog 93 #[.pointer (some ⟨N,0,none⟩),.pointer (some ⟨E,0,none⟩)] .returning w fun e c d=>e= .returned (.tuple #[])∧c= .returning∧d=w:=by
 refine callsD_of_wpS Tryz.func93 rfl fun a f b=>?_
 apply wpS_seq
 apply wpS_region
 simp[wpOpsS,go_sem,recoverD,b,Tryz.ntmps93,Exit.thenS]
 apply wpS_seq
 apply wpS_region
 simp[wpOpsS,go_sem,Exit.thenS]
 refine wpS_cond (t:=false) (by simp[Act.eval,Array.replicate]) ?_
 simp only[Bool.false_eq_true,if_false]
 refine wpS_of_wp (wp_skip ?_)
 cases a
 simp_all[bodyPostS,results,Tryz.results93,Exit.thenS]
theorem NQ(N E:Nat)(c:Int)(a b:Value)(F:Ac)(w:World)(hs:Sat (Sl.block N Il [a]*(Sl.block E Eu [b]*F)) w):
 CallsD Tryz.prog 93 #[.pointer (some ⟨N,0,none⟩),.pointer (some ⟨E,0,none⟩)] (.panicking (D2 c)) w fun e j k=>e= .returned (.tuple #[])∧j= .panicking [{ v:= .iface Yi (.agg #[.int .i64 c]),recovered:=true }]∧Sat (Sl.block N Il [.int .i64 0]*(Sl.block E Eu [.int .i64 c]*F)) k:=by
 haveI:=hs.i
 refine callsD_of_wpS Tryz.func93 rfl fun d l f=>?_
 unfold D2 at f
 apply wpS_seq
 apply wpS_region
 simp[wpOpsS,go_sem,recoverD,f,Tryz.ntmps93,Exit.thenS]
 apply wpS_seq
 apply wpS_region
 simp[wpOpsS,go_sem,Exit.thenS]
 refine wpS_cond (t:=true) (by simp[Act.eval,Array.replicate]) ?_
 simp only[if_true]
 refine wpS_of_wp ?_
 go_wp2_with fail
 refine Calls.mono (Jf c _ _ hs) ?_
 rintro m o ⟨rfl,g⟩
 haveI:=g.i
 go_wp2
 simp[bodyPostS,results,Tryz.results93]
 exact A8 (by first|rfl|ac_rfl)
def Su{α:Type}(h:Th)(F:Ac)(r:DR TS α)(AG:α→Value)(bad:Int→Value)(e:Ending)(b:World):Prop:=match r with
 | .ok a s=>e= .returned (AG a)∧Sat (Ad h s*F) b
 | .fault n s=>e= .returned (bad n)∧Sat (Ad h s*F) b
 | .bad=>False
def Ki(a b:Int):Value:= .tuple #[.int .i64 a,.int .i64 b]
theorem GY(h:Th)(s:TS)(root:Int)(F:Ac)(w:World)(hs:Sat (Ad h s*F) w)(hb:En Ah root s≠ .bad):
 Calls Tryz.prog 86 #[.pointer (some ⟨h.t,0,none⟩),.int .i64 root] w (Su h F (En Ah root s) (fun z=>Ki z 0) (fun k=>Ki 0 k)):=by
 have Z: ∀(I:Fn)(first cap:Array Value)(w:World),(Instr.makeFunc I first cap).run Tryz.prog w= .ok (.func I first cap) w:=fun _ _ _ _=>rfl
 obtain ⟨R,c⟩: ∃R,En Ah root s=R:=⟨_,rfl⟩
 rw[c] at hb⊢
 have j:Aside (R≠ .bad):=hb
 unfold En at c
 haveI:=hs.i
 clear hb
 by_cases l:root=0
 ·rw[if_pos l] at c
  have a:R= .ok 0 s:=c.symm
  subst a
  subst l
  clear c j
  go_enter_defers Tryz.func86,Tryz.ntmps86
  go_wp2
  refine leaves_cons (f:=138) (args:= #[.pointer (some ⟨w.heap.size,0,none⟩),.pointer (some ⟨w.heap.size+1,0,none⟩)]) (by simp) (by simp[go_sem]) ?_
  refine (NO _ _ _).mono ?_
  rintro e L B ⟨rfl,rfl,rfl⟩
  simp[Leaves,settle,results,Tryz.results86,go_sem]
  exact ⟨rfl,Av _ _⟩
 rw[if_neg l] at c
 have g:Aside (M.bind (Ah root) (fun n=>M.pure (Bl n).1) s=R):=c
 have H:=fun F w q=>C7 h s root F w q (AK g.out j.out)
 have Q:((root:Int)==0)=false:=by simpa using l
 clear c
 go_enter_defers Tryz.func86,Tryz.ntmps86
 go_wp2_with fail
 with_reducible refine Calls.mono (H _ _ (Ae (Ad h s))) ?_
 rintro e D d
 obtain ⟨r1,b⟩: ∃r,r=Ah root s:=⟨_,rfl⟩
 rw[←b] at d
 rcases r1 with ⟨y,s2⟩|⟨k,s2⟩|_
 rotate_left
 ·obtain ⟨rfl,m⟩:=d
  haveI:=m.i
  have a:=AL g.out b.symm
  subst a
  show bodyPostD _ _ _ (.panic (D2 k)) _ D
  refine leaves_cons (f:=138) (args:= #[.pointer (some ⟨w.heap.size,0,none⟩),.pointer (some ⟨w.heap.size+1,0,none⟩)]) (by simp) (by simp[go_sem]) ?_
  refine (Qn w.heap.size (w.heap.size+1) k _ _ _ D (AY (Sl.block w.heap.size Il [.int .i64 0]) (Sl.block (w.heap.size+1) Eu [.int .i64 0]))).mono ?_
  rintro e L w2 ⟨rfl,rfl,o⟩
  haveI:=o.i
  simp[Leaves,settle,results,Tryz.results86,go_sem]
  exact ⟨rfl,Av _ _⟩
 ·exact absurd (B3 g.out b.symm) j.out
 obtain ⟨v1,G,rfl,⟨hx,u⟩,m⟩:=d
 obtain ⟨X,Y⟩:=Cl u
 have a:R= .ok (Bl y).1 s2:=(AJ g.out b.symm).symm
 subst a
 have x:=fun F w q=>L6 y v1 G F w hx q (by omega) (by omega)
 obtain ⟨se,sk,rfl,J,K⟩:=hx
 obtain ⟨a1,O,rfl,T,U⟩:=J.v
 obtain ⟨a2,c2,rfl,V,W⟩:=Al.v K
 have o:Sat (G*(Ad h s2*(Sl.block (w.heap.size+1) Eu [.int .i64 0]*(Sl.block w.heap.size Il [.int .i64 0]*F)))) D:=m.eq (by ac_rfl)
 haveI:=o.i
 clear J K g j H b m
 go_wp2_with fail
 refine Calls.mono (x _ _ o) ?_
 rintro e w3 ⟨rfl,q3⟩
 haveI:=q3.i
 go_wp2
 refine leaves_cons (f:=138) (args:= #[.pointer (some ⟨w.heap.size,0,none⟩),.pointer (some ⟨w.heap.size+1,0,none⟩)]) (by simp) (by simp[go_sem]) ?_
 refine (NO _ _ _).mono ?_
 rintro e L B ⟨rfl,rfl,rfl⟩
 simp[Leaves,settle,results,Tryz.results86,go_sem]
 exact ⟨rfl,Av _ _⟩
end Go.Proofs.YtfhbmblbidcmmaaGreat
namespace Go.Tr
section
variable {σ:Type} {α β:Type} {P:σ→σ→Prop}
structure Od (P:σ→σ→Prop):Prop where
 same: ∀s,P s s
 next: ∀a b c,P a b→P b c→P a c
def Af(P:σ→σ→Prop)(m:M σ α):Prop:= ∀s,match m s with
 | .ok _ s'=>P s s'
 | .fault _ s'=>P s s'
 | .bad=>True
theorem Af.pure(h:Od P)(a:α):Af P (M.pure a):=fun s=>h.same s
theorem Af.fail(h:Od P)(e:Int):Af P (M.fail e:M σ α):=fun s=>h.same s
theorem Af.bad:Af P (M.bad:M σ α):=fun s=>trivial
theorem Af.bind(h:Od P){m:M σ α}{f:α→M σ β}(hm:Af P m)(i: ∀a,Af P (f a)):Af P (M.bind m f):=fun s=>by
 have c:=hm s
 unfold M.bind
 cases hr:m s with
 |bad=>trivial
 |fault e s1=>rw[hr] at c;exact c
 | ok a s1 =>
  rw[hr] at c
  have g:=i a s1
  simp only[DR.bind] at c⊢
  cases d:f a s1 with
  |bad=>trivial
  |fault e s2=>rw[d] at g;exact h.next _ _ _ c g
  |ok b s2=>rw[d] at g;exact h.next _ _ _ c g
theorem Af.ite{c:Prop}[Decidable c]{m k:M σ α}(a:Af P m)(b:Af P k):Af P (if c then m else k):=by
 split
 ·exact a
 exact b
theorem Af.ok{m:M σ α}{s s':σ}{a:α}(h:Af P m)(e:m s= .ok a s'):P s s':=by
 have:=h s
 rw[e] at this
 exact this
theorem Af.fault{m:M σ α}{s s':σ}{n:Int}(h:Af P m)(e:m s= .fault n s'):P s s':=by
 have:=h s
 rw[e] at this
 exact this
variable (h:Od P) {rd:Int→M σ Nd} {wt:Nd→M σ Kd} (hr: ∀p,Af P (rd p)) (hw: ∀n,Af P (wt n))
include h
include hw in
theorem GZ(n:Nd)(Bc:Nat): ∀(c i a:Nat)(out:List Kd),Af P (Ci wt n Bc c i a out)
 |0,_,_,_=>Af.pure h _
 |c+1,i,a,out=>Af.bind h (hw _) fun k=>GZ n Bc c _ _ _
include hw in
theorem Eb(n:Nd):Af P (Bt wt n):=GZ h hw n _ _ _ _ _
include hw in
theorem Lg: ∀(f:Nat)(ks:List Kd)(x:Int),Af P (DS wt f ks x)
 |0,[],x=>Af.pure h _
 |f+1,[],x=>Af.pure h _
 |0,[k],x=>Af.pure h _
 |f+1,[k],x=>Af.pure h _
 |0,a::b::l,x=>Af.bad
 |f+1,a::b::l,x=>Af.bind h (Eb h hw _) fun ks=>Lg f ks _
include hw in
theorem Iz(ks:List Kd)(x:Int):Af P (grown wt ks x):=Lg h hw _ _ _
include hw in
theorem Ea(l:List As):Af P (BO wt l):=Af.bind h (Eb h hw _) fun ks=>Iz h hw _ _
include hw in
theorem Gq(ks:List Kd)(x:Int):Af P (CE wt ks x):=Iz h hw _ _
include hr hw in
theorem IW: ∀(f:Nat)(a b:BH),Af P (Cd rd wt f a b)
 |0,a,b=>Af.bad
 | f + 1, a, b => by
  unfold Cd
  refine Af.ite ?_ (Af.ite ?_ ?_)
  ·refine Af.bind h (hr _) fun x=>?_
   split
   ·exact Af.bad
   exact Af.ite Af.bad (Af.bind h (IW f _ _) fun r=>Af.bind h (Eb h hw _) fun o=>Af.pure h _)
  ·refine Af.bind h (hr _) fun x=>?_
   split
   ·exact Af.bad
   exact Af.ite Af.bad (Af.bind h (IW f _ _) fun r=>Af.bind h (Eb h hw _) fun o=>Af.pure h _)
  exact Af.bind h (hr _) fun x=>Af.bind h (hr _) fun y=>Af.ite (Af.bind h (Eb h hw _) fun o=>Af.pure h _) Af.bad
include hr hw in
theorem Ie(a b:BH):Af P (DT rd wt a b):=Af.ite (Af.pure h _) (Af.ite (Af.pure h _) (Af.bind h (IW h hr hw _ _ _) fun r=>Iz h hw _ _))
include hr hw in
theorem G0: ∀(f:Nat)(x:BH)(n:Int),Af P (Be rd wt f x n)
 | 0, x, n => by
  unfold Be
  exact Af.ite (Af.pure h _) (Af.ite (Af.pure h _) Af.bad)
 | f + 1, x, n => by
  unfold Be
  refine Af.ite (Af.pure h _) (Af.ite (Af.pure h _) (Af.bind h (hr _) fun y=>Af.ite ?_ ?_))
  ·split
   ·exact Af.bad
   exact Af.bind h (Ea h hw _) fun a=>Af.bind h (Ea h hw _) fun b=>Af.pure h _
  split
  ·exact Af.bad
  refine Af.ite (Af.bind h (Gq h hw _ _) fun a=>Af.bind h (Gq h hw _ _) fun b=>Af.pure h _) ?_
  split
  ·exact Af.bad
  exact Af.bind h (G0 f _ _) fun p=>Af.bind h (Gq h hw _ _) fun a=>Af.bind h (Ie h hr hw _ _) fun a=>Af.bind h (Gq h hw _ _) fun b=>Af.bind h (Ie h hr hw _ _) fun b=>Af.pure h _
include hr in
theorem IL: ∀(f:Nat)(n:Nd)(x:Int),Af P (Cw rd f n x)
 | 0, n, x => by
  unfold Cw
  exact Af.ite (Af.pure h _) (Af.fail h _)
 | f + 1, n, x => by
  unfold Cw
  refine Af.ite (Af.pure h _) ?_
  simp only
  split
  ·exact Af.bad
  exact Af.bind h (hr _) fun m=>IL f m _
include hr in
theorem JC(r:Int):Af P (DN rd r):=Af.ite (Af.pure h _) (Af.bind h (hr _) fun n=>Af.bind h (IL h hr _ _ _) fun x=>Af.pure h _)
include hr in
theorem Lc: ∀(f:Nat)(n:Nd)(x a:Int),Af P (DG rd f n x a)
 |0,n,x,a=>Af.fail h _
 | f + 1, n, x, a => by
  unfold DG
  split
  ·exact Af.pure h _
  ·exact Af.fail h _
  exact Af.bind h (hr _) fun m=>Lc f m _ _
include hr in
theorem Mf(r x:Int):Af P (IX rd r x):=Af.bind h (hr _) fun n=>Lc h hr _ _ _ _
include hr in
theorem Fv: ∀(f:Nat)(x:BH)(n:Int),Af P (Cu rd f x n)
 | 0, x, n => by
  unfold Cu
  exact Af.ite (Af.pure h _) (Af.ite (Af.pure h _) Af.bad)
 | f + 1, x, n => by
  unfold Cu
  refine Af.ite (Af.pure h _) (Af.ite (Af.pure h _) (Af.bind h (hr _) fun y=>?_))
  split
  ·exact Af.pure h _
  exact Af.bind h (Fv f _ _) fun z=>Af.pure h _
include hr in
theorem Mg(r:Int):Af P (En rd r):=Af.ite (Af.pure h _) (Af.bind h (hr _) fun n=>Af.pure h _)
include hw in
theorem Ic(l:List As):Af P (Ib wt l):=Af.bind h (Ea h hw _) fun t=>Af.pure h _
include hr in
theorem K7(r x:Int):Af P (leftOf rd r x):=Af.ite (Af.bind h (Mf h hr _ _) fun p=>Af.pure h _) (Af.pure h _)
include hr in
theorem J9(r x a:Int):Af P (DL rd r x a):=Af.ite (Af.bind h (Mf h hr _ _) fun p=>Af.pure h _) (Af.pure h _)
include hr hw in
theorem Fh(r a n x:Int)(put:List As):Af P (EB rd wt r a n x put):=
 Af.bind h (K7 h hr _ _) fun L=>Af.bind h (J9 h hr _ _ _) fun R=>Af.bind h (JC h hr _) fun w=>Af.bind h (Fv h hr _ _ _) fun r1=>Af.bind h (Fv h hr _ _ _) fun r0=>
 Af.ite (Af.fail h _) (Af.bind h (G0 h hr hw _ _ _) fun p=>Af.bind h (G0 h hr hw _ _ _) fun q=>Af.bind h (Ea h hw _) fun m=>Af.bind h (Ie h hr hw _ _) fun x=>Af.bind h (Ie h hr hw _ _) fun y=>Af.pure h _)
theorem K5{g:Int→List As→M σ (List As)}(a: ∀p o,Af P (g p o)): ∀(ks:List Kd)(o:List As),Af P (FQ g ks o)
 | [],o=>Af.pure h _
 |k::ks,o=>Af.bind h (a _ _) fun o=>K5 a ks o
include hr in
theorem K9: ∀(f:Nat)(r:Int)(o:List As),Af P (CT rd f r o)
 |0,r,o=>Af.fail h _
 | f + 1, r, o => by
  unfold CT
  exact Af.bind h (hr _) fun n=>Af.ite (Af.fail h _) (K5 h (fun p o=>K9 f p o) _ _)
include hr in
theorem Me(r:Int):Af P (F4 rd r):=Af.ite (Af.pure h _) (K9 h hr _ _ _)
end
end Go.Tr
namespace Go.Proofs.YtfhbmblbidcmmaaGreat
open Go.RowKit Go.Sl Go.Dk Go.Tr
def Grow(s s':TS):Prop:=(∃l,s'.sp.taken=s.sp.taken++l∧s'.sp.used=s.sp.used++l)∧s'.sp.A5=s.sp.A5∧s'.sp.waiting=s.sp.waiting∧s.ops≤s'.ops
theorem Bw:Od Grow where
 same s:=⟨⟨[],by simp,by simp⟩,rfl,rfl,Nat.le_refl _⟩
 next:=by
  rintro a b c ⟨⟨l,d,e⟩,f,g,q⟩ ⟨⟨m,i,j⟩,k,o,r⟩
  exact ⟨⟨l++m,by rw[i,d,List.append_assoc],by rw[j,e,List.append_assoc]⟩,k.trans f,o.trans g,by omega⟩
theorem Grow.len{s s':TS}(h:Grow s s'):s.sp.taken.length≤s'.sp.taken.length:=by
 obtain ⟨⟨l,a,_⟩,_⟩:=h
 rw[a,List.length_append]
 omega
theorem Gj(e:Int):Af Grow (DQ e):=by
 unfold DQ
 split
 ·exact Af.pure Bw _
 exact Af.fail Bw _
theorem SQ(no:Int):Af Grow (Mo no):=fun s=>by
 unfold Mo
 by_cases h:s.ops<Bu
 ·rw[if_pos h];exact ⟨⟨[],by simp,by simp⟩,rfl,rfl,by simp only;omega⟩
 rw[if_neg h];trivial
theorem SR(no:Int)(b:List UInt8):Af Grow (QR no b):=fun s=>⟨⟨[],by simp,by simp⟩,rfl,rfl,by simp only;omega⟩
theorem QS:Af Grow F0:=fun s=>by
 unfold F0
 by_cases h:s.ops<Bu
 ·rw[if_pos h]
  unfold Sp.take
  cases s.sp.free with
  |none=>exact ⟨⟨[],by simp,by simp⟩,rfl,rfl,by simp only;omega⟩
  |some no=>exact ⟨⟨[no],rfl,rfl⟩,rfl,rfl,by simp only;omega⟩
 rw[if_neg h];trivial
theorem DH(p:Int):Af Grow (Ah p):=by
 refine Af.bind Bw (SQ p) fun r=>Af.bind Bw (Gj _) fun _=>?_
 cases CV p r.2 with
 |none=>exact Af.fail Bw _
 |some n=>exact Af.pure Bw _
theorem F8(n:Nd):Af Grow (Ag n):=by
 refine Af.ite (Af.fail Bw _) ?_
 exact Af.bind Bw QS fun t=>Af.bind Bw (Gj _) fun _=>Af.bind Bw (Gj _) fun _=>Af.bind Bw (SR _ _) fun e=>Af.bind Bw (Gj _) fun _=>Af.pure Bw _
def after(m:Nat){α:Type} :DR TS α→DR TS α
 | .fault e s=> .fault e (if e=0 then s else s.Ds m)
 |r=>r
def ER(l:List As):M TS Int:=fun s=>if BD l=false then .fault 1 s else if 1024<(join l).length then .fault 11 s else after s.sp.taken.length (Ib Ag (join l) s)
