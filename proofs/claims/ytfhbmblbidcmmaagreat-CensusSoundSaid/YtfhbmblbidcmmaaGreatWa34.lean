/- censusSound holds for every input. No condition. (part 34) -/
import Derived.Test.YtfhbmblbidcmmaaGreatWa33
import Derived.Test.YtfhbmblbidcmmaaGreatWa32
set_option linter.all false
set_option maxRecDepth 100000
set_option maxHeartbeats 6400000
namespace Go.Proofs.YtfhbmblbidcmmaaGreat
open Go.RowKit Go.Sl Go.Dk Go.Tr
theorem dX(a b:List Av):AQ (a++b)=AQ a++AQ b:=by simp[AQ]
def iC(N m:Nat)(cs:List Value)(B F:Ab)(e:Ending)(b:World):Prop:= ∃(a':Option Addr)(a:Nat),
 (1024<m∧e= .panicked (CM 13)∧Sat (Sl.block N PT [.slice a' m a]*(B*F)) b)∨
 (¬1024<m∧e= .returned (.bool true)∧Sat (Sl.block N PT [.slice a' m a]*(rw AK 4 (.slice a' m a) cs*(B*F))) b)
theorem fP(no:Int)(n:Nd)(v:Value)(N:Nat)(o:List Av)(a:Option Addr)(c:Nat)(B F:Ab)(w:World)(I:AN B v n)(hm:may n=true)(K:o.length≤1024)
 (hs:Sat (Sl.block N PT [.slice a o.length c]*(rw AK 4 (.slice a o.length c) (AQ o)*(B*F))) w):
 Calls Tryz.prog 110 #[.int .i64 no,v,.pointer (some ⟨N,0,none⟩)] w (iC N (o++n.Ag).length (AQ (o++n.Ag)) B F):=by
 obtain ⟨i0,E⟩:=EW
 obtain ⟨l1,l2⟩:=Cn hm
 obtain ⟨Q,vK,rfl,q,z⟩:=I
 obtain ⟨aE,cE,rfl,r,D⟩:=q.v
 obtain ⟨M,O,rfl,G,H⟩:=Ai.v z
 have u:=fun(F:Ab)(w:World)(h:Sat (B*F) w)=>q.src (P:=Tryz.prog) (Is n.Ag) h
 rw[List.length_append,dX]
 obtain ⟨ne,e⟩:=Aq n.Ag.length
 obtain ⟨t,f⟩:=Aq o.length
 rw[e] at u l1 r⊢
 rw[f] at hs K⊢
 have y:=As u
 obtain ⟨xs,g⟩:=Aq (AQ o)
 rw[g] at hs⊢
 obtain ⟨m,b⟩:=Aq (t+ne)
 have d:=As b
 have J:m≤1036:=by omega
 rw[b]
 haveI:=hs.i
 clear q z u e f g
 clear b
 by_cases k:1024<m
 ·have l:=As k
  have s:(1024:Int)<m:=by omega
  clear k
  go_enter Tryz.func110,Tryz.ntmps110
  go_wp2_with (at_builtin;refine Af E rfl (.tmp 6) (.tmp 8) rfl rfl rfl (Ae (rw AK 4 (.slice a t c) xs)) (y.out _ _ (Ae B)) (by unfold maxLen;omega) (by omega) ?_;intro p c9 L j x;clear x;rw[d.out] at j⊢;haveI:=j.i)
  exact ⟨rfl,p,c9,.inl ⟨l.out,rfl,AD _ _ _⟩⟩
 have l:=As k
 have s: ¬(1024:Int)<m:=by omega
 clear k
 go_enter Tryz.func110,Tryz.ntmps110
 go_wp2_with (at_builtin;refine Af E rfl (.tmp 6) (.tmp 8) rfl rfl rfl (Ae (rw AK 4 (.slice a t c) xs)) (y.out _ _ (Ae B)) (by unfold maxLen;omega) (by omega) ?_;intro p c9 L j x;clear x;rw[d.out] at j⊢;haveI:=j.i)
 go_returns
 exact ⟨p,c9,.inr ⟨l.out,rfl,Cz _ _ _ _⟩⟩
theorem OS(N E:Nat)(w:World):
 CallsD Tryz.prog 108 #[.pointer (some ⟨N,0,none⟩),.pointer (some ⟨E,0,none⟩)] .returning w fun e c d=>e= .returned (.tuple #[])∧c= .returning∧d=w:=by
 refine callsD_of_wpS Tryz.func108 rfl fun a cs b=>?_
 apply wpS_seq
 apply wpS_region
 simp[wpOpsS,go_sem,recoverD,b,Tryz.ntmps108,Exit.thenS]
 apply wpS_seq
 apply wpS_region
 simp[wpOpsS,go_sem,Exit.thenS]
 refine wpS_cond (t:=false) (by simp[Act.eval,Array.replicate]) ?_
 simp only[Bool.false_eq_true,if_false]
 refine wpS_of_wp (wp_skip ?_)
 cases a
 simp_all[bodyPostS,results,Tryz.results108,Exit.thenS]
theorem Sd(N E:Nat)(c:Int)(a b:Value)(F:Ab)(w:World)(hs:Sat (Sl.block N PT [a]*(Sl.block E Fw [b]*F)) w):
 CallsD Tryz.prog 108 #[.pointer (some ⟨N,0,none⟩),.pointer (some ⟨E,0,none⟩)] (.panicking (CM c)) w fun e j k=>e= .returned (.tuple #[])∧j= .panicking [{ v:= .iface cX (.agg #[.int .i64 c]),recovered:=true }]∧Sat (Sl.block N PT [.slice none 0 0]*(Sl.block E Fw [.int .i64 c]*F)) k:=by
 haveI:=hs.i
 refine callsD_of_wpS Tryz.func108 rfl fun d cs f=>?_
 unfold CM at f
 apply wpS_seq
 apply wpS_region
 simp[wpOpsS,go_sem,recoverD,f,Tryz.ntmps108,Exit.thenS]
 apply wpS_seq
 apply wpS_region
 simp[wpOpsS,go_sem,Exit.thenS]
 refine wpS_cond (t:=true) (by simp[Act.eval,Array.replicate]) ?_
 simp only[if_true]
 refine wpS_of_wp ?_
 go_wp2_with fail
 refine Calls.mono (Ho c _ _ hs) ?_
 rintro l m ⟨rfl,g⟩
 haveI:=g.i
 go_wp2
 simp[bodyPostS,results,Tryz.results108]
 exact Ap (by ac_rfl)
open Go.PS (A9)
def J7(S M N:Nat)(v:Value)(l:List Int):Ab:=Sl.block S PX [.map (some M)]*(mp A9 M (GA l)*(Sl.block N Xz [v]*rw D0 2 v (B9 (EZ l))))
theorem aW(S M N:Nat)(no:Int)(n:Nd)(b v:Value)(l:List Int)(B F:Ab)(w:World)(f:AN B b n)(a:l.contains no=true)(hs:Sat (J7 S M N v l*(B*F)) w):
 Calls Tryz.prog 119 #[.int .i64 no,b,.pointer (some ⟨S,0,none⟩),.pointer (some ⟨N,0,none⟩)] w fun e k=>e= .returned (.bool false)∧Sat (J7 S M N v l*(B*F)) k:=by
 obtain ⟨j,vK,rfl,c,d⟩:=f
 have m:=As hs
 have h1:Sat (Sl.block S PX [.map (some M)]*(mp A9 M (GA l)*(Sl.block N Xz [v]*(rw D0 2 v (B9 (EZ l))*(B*F))))) w:=hs.eq (by unfold J7;ac_rfl)
 have g:=H0 no l
 rw[a] at g
 have l1:=fun w=> @L6 w M no
 haveI:=h1.i
 clear c d hs a
 go_enter Tryz.func119,Tryz.ntmps119
 go_wp2
 go_ret
 refine ⟨rfl,?_⟩
 exact Ax (C:=Sl.block w.heap.size Cy [.bool n.leaf,j,vK]) (by unfold J7;ac_rfl)
theorem eY(S M N:Nat)(no:Int)(n:Nd)(p v:Value)(l:List Int)(B F:Ab)(w:World)(z:AN B p n)(f:l.contains no=false)(h0:0≤no)(H:no<1099511627776)(hl:l.length≤1048576)(hs:Sat (J7 S M N v l*(B*F)) w):
 Calls Tryz.prog 119 #[.int .i64 no,p,.pointer (some ⟨S,0,none⟩),.pointer (some ⟨N,0,none⟩)] w fun e G=>e= .returned (.bool true)∧ ∃v',Sat (J7 S M N v' (l++ [no])*(B*F)) G:=by
 obtain ⟨o,vK,rfl,x,y⟩:=z
 obtain ⟨i0,q⟩:=j6
 have h0:Sat (rw D0 2 v (B9 (EZ l))*(Sl.block S PX [.map (some M)]*(mp A9 M (GA l)*(Sl.block N Xz [v]*(B*F))))) w:=hs.eq (by unfold J7;ac_rfl)
 obtain ⟨a,m,c,rfl,d,_⟩:=MP h0
 have hm:l.length=m:=by rw[E9] at d;simp[EZ] at d;omega
 have h1:Sat (Sl.block S PX [.map (some M)]*(mp A9 M (GA l)*(Sl.block N Xz [.slice a m c]*(rw D0 2 (.slice a m c) (B9 (EZ l))*(B*F))))) w:=h0.eq (by ac_rfl)
 have D:=H0 no l
 rw[f] at D
 have l1:=fun w=> @L6 w M no
 have I:=fun w=> @W8 w M no (.bool true)
 have j:=Pj no l f
 rw[hm] at hl
 haveI:=h1.i
 clear x y hs f d hm h0
 go_enter Tryz.func119,Tryz.ntmps119
 go_wp2_with (at_builtin;go_loud (refine Af q rfl (.tmp 12) (.tmp 17) rfl rfl rfl (Ae (rw D0 2 (.slice a m c) (B9 (EZ l)))) (Src.new (e:=D0) (s:=2) (vs:= [.int .i64 no,.int .i64 (no+1)]) (Ae _) rfl (by intro u k;simp at k;rcases k with rfl|rfl<;>rfl)) (by unfold maxLen;omega) (by omega) ?_;intro a' r J g b;haveI:=g.i;clear b))
 go_ret
 refine ⟨rfl,.slice a' (m+1) r,?_⟩
 have t:B9 (EZ (l++ [no]))=B9 (EZ l)++ [.int .i64 no,.int .i64 (no+1)]:=by simp[EZ,B9,KX]
 unfold J7
 rw[t,←j]
 exact Ax (C:=Sl.block w.heap.size Cy [.bool n.leaf,o,vK]*Sl.block (Gn Tryz.prog PX M (A9 no) (Value.bool true) (w.alloc (.cells #[Value.bool n.leaf,o,vK] Cy))).heap.size D0 [.int .i64 no,.int .i64 (no+1)]) (by ac_rfl)
end Go.Proofs.YtfhbmblbidcmmaaGreat
namespace Go.Proofs.YtfhbmblbidcmmaaGreat
open Go.RowKit Go.Sl Go.Dk Go.Tr
def dL(h:Th)(N:Nat)(F:Ab)(r:Fu TS (List Av))(e:Ending)(b:World):Prop:=match r with
 | .ok o s=>e= .returned (.tuple #[])∧o.length≤1024∧ ∃(a:Option Addr)(c:Nat),Sat (Ad h s*(Sl.block N PT [.slice a o.length c]*(rw AK 4 (.slice a o.length c) (AQ o)*F))) b
 | .fault n s=>e= .panicked (CM n)∧ ∃v,Sat (Ad h s*(Sl.block N PT [v]*F)) b
 | .bad=>False
def WalkC(f:Nat):Prop:= ∀(h:Th)(s:TS)(no:Int)(o:List Av)(N:Nat)(a:Option Addr)(c:Nat)(F:Ab)(w:World),f≤21→o.length≤1024→Sat (Ad h s*(Sl.block N PT [.slice a o.length c]*(rw AK 4 (.slice a o.length c) (AQ o)*F))) w→Ea Ak f no o s≠ .bad→
 Calls Tryz.prog 109 #[.pointer (some ⟨h.t,0,none⟩),.int .i64 no,.int .i64 (21-(f:Int)),.func (Fn.func 110) #[] #[.pointer (some ⟨N,0,none⟩)]] w (dL h N F (Ea Ak f no o s))
theorem ZI:WalkC 0:=by
 intro h s no o N a c F w d e hs hb
 have b:Ea Ak 0 no o s= .fault 13 s:=rfl
 rw[b]
 haveI:=hs.i
 go_enter Tryz.func109,Tryz.ntmps109
 go_wp2
 exact ⟨rfl,rfl,.slice a o.length c,AD _ _ _⟩
theorem ZH(f:Nat)(ih:WalkC f):WalkC (f+1):=by
 intro h s no o N a c F w hf ho hs hb
 obtain ⟨R,hR⟩:=Aq (Ea Ak (f+1) no o s)
 rw[hR] at hb⊢
 have M:=As hb
 have HI:=As ih
 have U:=As hR
 have c1:=fun F w q=>Cu h s no F w q (Bf U.out M.out)
 have I: ¬(20:Int)<21-((f+1:Nat):Int):=by omega
 obtain ⟨W,X⟩:=Aq ((21:Int)-((f+1:Nat):Int))
 have af:Aside (W+1=21-(f:Int)):=(by omega:W+1=21-(f:Int))
 have bd: -1≤W∧W≤20:=by omega
 rw[X] at I⊢
 have HO:=As ho
 haveI:=hs.i
 clear hR hb ih X
 go_enter Tryz.func109,Tryz.ntmps109
 go_wp2_with fail
 with_reducible refine Calls.mono (c1 _ _ (Ae (Ad h s))) ?_
 rintro e w1 K
 obtain ⟨r1,p⟩: ∃r,r=Ak no s:=⟨_,rfl⟩
 rw[←p] at K
 rcases r1 with ⟨y,s2⟩|⟨er,s2⟩|_
 rotate_left
 · obtain ⟨rfl,q1⟩:=K
   haveI:=q1.i
   have d:=B3 U.out p.symm
   subst d
   exact ⟨rfl,rfl,.slice a o.length c,AD _ _ _⟩
 · exact absurd (Ci U.out p.symm) M.out
 obtain ⟨v1,L,rfl,⟨hx,x⟩,q1⟩:=K
 have Y:=Bd U.out p.symm
 have HG:=As Y
 have l:=fun F w q=>fP no y v1 N o a c L F w hx x HO.out q
 have b6:=As x
 obtain ⟨se,sk,rfl,hE,hK⟩:=id hx
 obtain ⟨a1,u,rfl,ak,bb⟩:=hE.v
 obtain ⟨V,c2,rfl,am,bc⟩:=Ai.v hK
 obtain ⟨ap,aq⟩:=Cn x
 obtain ⟨ne,a6⟩:=Aq y.Ag.length
 obtain ⟨n,J⟩:=Aq y.kids.length
 have HK:Aside (BE L (.slice V y.kids.length c2) y.kids∧y.kids.length=n):=⟨hK,J⟩
 rw[a6] at ap ak l⊢
 rw[J] at aq am l⊢
 obtain ⟨N8,H⟩:=Aq w1.heap.size
 haveI:=q1.i
 clear hE hK x a6 J p U c1 hx Y
 go_wp2_with fail
 have q4:Sat (Sl.block N PT [.slice a o.length c]*(rw AK 4 (.slice a o.length c) (AQ o)*(L*(Ad h s2*(Sl.block N8 Cy [.bool y.leaf,.slice a1 ne u,.slice V n c2]*F))))) (w1.alloc (.cells #[.bool y.leaf,.slice a1 ne u,.slice V n c2] Cy)):=by
  rw[←H]
  exact Ap (by ac_rfl)
 try rw[H]
 clear H q1
 with_reducible refine Calls.mono (l _ _ q4) ?_
 rintro e w3 ⟨a3,c3,h3⟩
 rcases h3 with ⟨hc,rfl,q5⟩|⟨hc,rfl,q5⟩
 · have d:R= .fault 13 s2:=by have:=HG.out;rw[if_pos hc] at this;exact this.symm
   subst d
   haveI:=q5.i
   exact ⟨rfl,rfl,.slice a3 (o++y.Ag).length c3,AD _ _ _⟩
 have G:=HG.out
 rw[if_neg hc] at G
 have O:=As G
 obtain ⟨o3,a7⟩:=Aq (o++y.Ag)
 rw[a7] at hc q5 O
 haveI:=q5.i
 have q6:Sat (Ad h s2*(Sl.block N PT [.slice a3 o3.length c3]*(rw AK 4 (.slice a3 o3.length c3) (AQ o3)*(L*(Sl.block N8 Cy [.bool y.leaf,.slice a1 ne u,.slice V n c2]*F))))) w3:=Ap (by ac_rfl)
 haveI:=q6.i
 clear q4 q5 l G a7 HG
 go_wp2_with fail
 go_loopg [26] n (fun g ax wr=> ∃(i:Nat)(t:List Av)(B:Option Addr)(c4:Nat)(s4:TS),ax= .int .i64 i∧i≤n∧Aside (g=n-i∧t.length≤1024∧I3 (Ea Ak f) (y.kids.drop i) t s4=R)∧
  Sat (Ad h s4*(Sl.block N PT [.slice B t.length c4]*(rw AK 4 (.slice B t.length c4) (AQ t)*(L*(Sl.block N8 Cy [.bool y.leaf,.slice a1 ne u,.slice V n c2]*F))))) wr)
 case atStart=>exact ⟨0,o3,a3,c3,s2,rfl,by omega,⟨rfl,by omega,O.out⟩,q6⟩
 obtain ⟨i,t,B,c4,s4,rfl,hi,A,q7⟩:=hrel
 clear q6
 haveI:=q7.i
 by_cases be:i<n
 · have a0:(i:Int)<n:=by omega
   obtain ⟨k,hk⟩: ∃k,y.kids[i]?=some k:=⟨_,List.getElem?_eq_getElem (by have:=HK.out.2;omega)⟩
   obtain ⟨b,q,rfl,r1,r2,r3,r4⟩:=Cp HK.out.1 hk
   have hd:y.kids.drop i=k::y.kids.drop (i+1):=by
    obtain ⟨u1,u2⟩:=List.getElem?_eq_some_iff.1 hk
    rw[List.drop_eq_getElem_cons u1,u2]
   have D:=A.out.2.2
   rw[hd] at D
   have z:=As D
   have j:=fun F w q=>HI.out h s4 k.Au t N B c4 F w (by omega) A.out.2.1 q (Bf z.out M.out)
   obtain ⟨m,hm⟩:=Aq (Ea Ak f k.Au t s4)
   have Q:=As hm
   rw[hm,←af.out] at j
   have hw:=Bb (W+1) (by omega)
   have ar:=Bf z.out M.out
   obtain ⟨k1,k2,k3,k4⟩:=k
   simp only at r1 r2 r3 r4 j z Q
   clear hk hd D hm
   go_wp2_with fail
   with_reducible refine Calls.mono (j _ _ (SR (Ad h s4) (Sl.block N PT [.slice B t.length c4]) (rw AK 4 (.slice B t.length c4) (AQ t)))) ?_
   rintro e w5 h5
   cases m with
   |bad=>exact absurd Q.out (Bf z.out M.out)
   | fault er s5 =>
     obtain ⟨rfl,v5,q8⟩:=h5
     haveI:=q8.i
     have d:=B3 z.out Q.out
     subst d
     exact ⟨rfl,rfl,v5,AD _ _ _⟩
   | ok o5 s5 =>
     obtain ⟨rfl,a8,a5,c5,q8⟩:=h5
     have Z:=Bd z.out Q.out
     have T:Aside (o5.length≤1024∧I3 (Ea Ak f) (y.kids.drop (i+1)) o5 s5=R):=⟨a8,Z⟩
     haveI:=q8.i
     clear j ar Z a8 z Q q7
     go_wp2_with fail
     go_roundg (n-(i+1))
     case measure=>have:=A.out.1;omega
     case rel=>exact ⟨i+1,o5,a5,c5,s5,by go_num,by omega,⟨rfl,T.out.1,T.out.2⟩,DZ _ _ _ _ _ _⟩
 have a0: ¬(i:Int)<n:=by omega
 obtain rfl:i=n:=by omega
 have D:=A.out.2.2
 rw[List.drop_of_length_le (by rw[HK.out.2];exact Nat.le_refl _)] at D
 have d:=D.symm
 subst d
 have ai:=As A.out.2.1
 clear D A
 go_wp2
 go_end0
 exact ⟨rfl,ai.out,B,c4,Cz _ _ _ _⟩
theorem cU(f:Nat):WalkC f:=by induction f with
 |zero=>exact ZI
 |succ f a=>exact ZH f a
end Go.Proofs.YtfhbmblbidcmmaaGreat
namespace Go.Tr
def F7{σ:Type}(g:Int→List Int→M σ (List Int)):List Kd→List Int→M σ (List Int)
 | [],out=>M.pure out
 |k::ks,out=>M.bind (g k.Au out) (F7 g ks)
def Bl{σ:Type}(rd:Int→M σ Nd):Nat→Int→List Int→M σ (List Int)
 |0,_,_=>M.fail 13
 |f+1,no,l=>M.bind (rd no) fun n=>if l.contains no=true then M.pure l else if 1048576<l.length∨no<0∨1099511627776≤no then (fun _=> .bad) else F7 (Bl rd f) n.kids (l++ [no])
end Go.Tr
namespace Go.Proofs.YtfhbmblbidcmmaaGreat
open Go.RowKit Go.Sl Go.Dk Go.Tr
def E'(h:Th)(S M N:Nat)(F:Ab)(r:Fu TS (List Int))(e:Ending)(a:World):Prop:=match r with
 | .ok o s=>e= .returned (.tuple #[])∧ ∃v,Sat (Ad h s*(J7 S M N v o*F)) a
 | .fault n s=>e= .panicked (CM n)∧ ∃v o,Sat (Ad h s*(J7 S M N v o*F)) a
 | .bad=>False
def X0(f:Nat):Prop:= ∀(h:Th)(s:TS)(no:Int)(o:List Int)(S M N:Nat)(v:Value)(F:Ab)(w:World),f≤21→Sat (Ad h s*(J7 S M N v o*F)) w→Bl Ak f no o s≠ .bad→
 Calls Tryz.prog 109 #[.pointer (some ⟨h.t,0,none⟩),.int .i64 no,.int .i64 (21-(f:Int)),.func (Fn.func 119) #[] #[.pointer (some ⟨S,0,none⟩),.pointer (some ⟨N,0,none⟩)]] w (E' h S M N F (Bl Ak f no o s))
theorem Xq:X0 0:=by
 intro h s no o S M N v F w b hs hb
 have a:Bl Ak 0 no o s= .fault 13 s:=rfl
 rw[a]
 haveI:=hs.i
 go_enter Tryz.func109,Tryz.ntmps109
 go_wp2
 exact ⟨rfl,rfl,v,o,Ar _ _⟩
theorem Xp(f:Nat)(ih:X0 f):X0 (f+1):=by
 intro h s no o S U N v F w hf hs hb
 obtain ⟨R,hR⟩:=Aq (Bl Ak (f+1) no o s)
 rw[hR] at hb⊢
 have J:=As hb
 have HI:=As ih
 have Q:=As hR
 have c1:=fun F w q=>Cu h s no F w q (Bf Q.out J.out)
 have D: ¬(20:Int)<21-((f+1:Nat):Int):=by omega
 obtain ⟨V,X⟩:=Aq ((21:Int)-((f+1:Nat):Int))
 have a7:Aside (V+1=21-(f:Int)):=(by omega:V+1=21-(f:Int))
 have b4: -1≤V∧V≤20:=by omega
 rw[X] at D⊢
 haveI:=hs.i
 clear hR hb ih X
 go_enter Tryz.func109,Tryz.ntmps109
 go_wp2_with fail
 with_reducible refine Calls.mono (c1 _ _ (Ae (Ad h s))) ?_
 rintro e w1 I
 obtain ⟨r1,p⟩: ∃r,r=Ak no s:=⟨_,rfl⟩
 rw[←p] at I
 rcases r1 with ⟨y,s2⟩|⟨er,s2⟩|_
 rotate_left
 · obtain ⟨rfl,q1⟩:=I
   haveI:=q1.i
   have a:=B3 Q.out p.symm
   subst a
   exact ⟨rfl,rfl,v,o,AD _ _ _⟩
 · exact absurd (Ci Q.out p.symm) J.out
 obtain ⟨v1,u,rfl,⟨hx,G⟩,q1⟩:=I
 have Y:=Bd Q.out p.symm
 have HG:=As Y
 have b0:=As G
 obtain ⟨se,sk,rfl,hE,hK⟩:=id hx
 obtain ⟨T,l,rfl,ac,b2⟩:=hE.v
 obtain ⟨K,c2,rfl,ae,b3⟩:=Ai.v hK
 obtain ⟨ah,ai⟩:=Cn G
 obtain ⟨ne,H⟩:=Aq y.Ag.length
 obtain ⟨d,t⟩:=Aq y.kids.length
 have HK:Aside (BE u (.slice K y.kids.length c2) y.kids∧y.kids.length=d):=⟨hK,t⟩
 rw[H] at ah ac⊢
 rw[t] at ai ae⊢
 have HX:Aside (AN u (.agg #[.bool y.leaf,.slice T ne l,.slice K d c2]) y):=(by rw[←H,←t];exact hx:AN _ _ _)
 obtain ⟨N8,B⟩:=Aq w1.heap.size
 haveI:=q1.i
 clear hE hK G H t p Q c1 hx Y
 go_wp2_with fail
 have q4:Sat (J7 S U N v o*(u*(Ad h s2*(Sl.block N8 Cy [.bool y.leaf,.slice T ne l,.slice K d c2]*F)))) (w1.alloc (.cells #[.bool y.leaf,.slice T ne l,.slice K d c2] Cy)):=by
  rw[←B]
  exact Ap (by ac_rfl)
 try rw[B]
 clear B q1
 cases n:o.contains no
 rotate_left
 · with_reducible refine Calls.mono (aW S U N no y _ v o u _ _ HX.out n q4) ?_
   rintro e w3 ⟨rfl,q5⟩
   have a:R= .ok o s2:=by have:=HG.out;rw[if_pos n] at this;exact this.symm
   subst a
   haveI:=q5.i
   clear q4
   go_wp2
   go_end0
   exact ⟨rfl,v,AD _ _ _⟩
 have j:=HG.out
 rw[if_neg (by rw[n];decide)] at j
 have W: ¬(1048576<o.length∨no<0∨1099511627776≤no):=fun hx=>by rw[if_pos hx] at j;exact J.out j.symm
 rw[if_neg W] at j
 have M:=As j
 with_reducible refine Calls.mono (eY S U N no y _ v o u _ _ HX.out n (by omega) (by omega) (by omega) q4) ?_
 rintro e w3 ⟨rfl,v3,q5⟩
 obtain ⟨o3,a3⟩:=Aq (o++ [no])
 rw[a3] at q5 M
 haveI:=q5.i
 have q6:Sat (Ad h s2*(J7 S U N v3 o3*(u*(Sl.block N8 Cy [.bool y.leaf,.slice T ne l,.slice K d c2]*F)))) w3:=Ap (by ac_rfl)
 haveI:=q6.i
 clear q4 q5 j a3 HG W n
 go_wp2_with fail
 go_loopg [26] d (fun g an wr=> ∃(i:Nat)(L:List Int)(v4:Value)(s4:TS),an= .int .i64 i∧i≤d∧Aside (g=d-i∧F7 (Bl Ak f) (y.kids.drop i) L s4=R)∧
  Sat (Ad h s4*(J7 S U N v4 L*(u*(Sl.block N8 Cy [.bool y.leaf,.slice T ne l,.slice K d c2]*F)))) wr)
 case atStart=>exact ⟨0,o3,v3,s2,rfl,by omega,⟨rfl,M.out⟩,q6⟩
 obtain ⟨i,L,v4,s4,rfl,hi,A,q7⟩:=hrel
 clear q6
 haveI:=q7.i
 by_cases b5:i<d
 · have a0:(i:Int)<d:=by omega
   obtain ⟨k,hk⟩: ∃k,y.kids[i]?=some k:=⟨_,List.getElem?_eq_getElem (by have:=HK.out.2;omega)⟩
   obtain ⟨b,q,rfl,r1,r2,r3,r4⟩:=Cp HK.out.1 hk
   have hd:y.kids.drop i=k::y.kids.drop (i+1):=by
    obtain ⟨u1,u2⟩:=List.getElem?_eq_some_iff.1 hk
    rw[List.drop_eq_getElem_cons u1,u2]
   have z:=A.out.2
   rw[hd] at z
   have x:=As z
   have c:=fun F w q=>HI.out h s4 k.Au L S U N v4 F w (by omega) q (Bf x.out J.out)
   obtain ⟨m,hm⟩:=Aq (Bl Ak f k.Au L s4)
   have O:=As hm
   rw[hm,←a7.out] at c
   have hw:=Bb (V+1) (by omega)
   have aj:=Bf x.out J.out
   obtain ⟨k1,k2,k3,k4⟩:=k
   simp only at r1 r2 r3 r4 c x O
   clear hk hd z hm
   go_wp2_with fail
   with_reducible refine Calls.mono (c _ _ (Bh (Ad h s4) (J7 S U N v4 L))) ?_
   rintro e w5 h5
   cases m with
   |bad=>exact absurd O.out (Bf x.out J.out)
   | fault er s5 =>
     obtain ⟨rfl,v5,o5,q8⟩:=h5
     haveI:=q8.i
     have a:=B3 x.out O.out
     subst a
     exact ⟨rfl,rfl,v5,o5,AD _ _ _⟩
   | ok o5 s5 =>
     obtain ⟨rfl,v5,q8⟩:=h5
     have Z:=Bd x.out O.out
     have aa:=As Z
     haveI:=q8.i
     clear c aj Z x O q7
     go_wp2_with fail
     go_roundg (d-(i+1))
     case measure=>have:=A.out.1;omega
     case rel=>exact ⟨i+1,o5,v5,s5,by go_num,by omega,⟨rfl,aa.out⟩,DC _ _ _ _ _⟩
 have a0: ¬(i:Int)<d:=by omega
 obtain rfl:i=d:=by omega
 have z:=A.out.2
 rw[List.drop_of_length_le (by rw[HK.out.2];exact Nat.le_refl _)] at z
 have a:=z.symm
 subst a
 clear z A
 go_wp2
 go_end0
 exact ⟨rfl,v4,AD _ _ _⟩
theorem ZG(f:Nat):X0 f:=by induction f with
 |zero=>exact Xq
 |succ f a=>exact Xp f a
def dH(h:Th)(F:Ab)(r:Fu TS (List Av))(e:Ending)(b:World):Prop:=match r with
 | .ok l s=> ∃(a:Option Addr)(c:Nat),e= .returned (.tuple #[.slice a l.length c,.int .i64 0])∧Sat (rw AK 4 (.slice a l.length c) (AQ l)*(Ad h s*F)) b
 | .fault n s=>e= .returned (.tuple #[.slice none 0 0,.int .i64 n])∧Sat (Ad h s*F) b
 | .bad=>False
theorem YW(h:Th)(s:TS)(root:Int)(F:Ab)(w:World)(hs:Sat (Ad h s*F) w)(hb:PF Ak root s≠ .bad):
 Calls Tryz.prog 44 #[.pointer (some ⟨h.t,0,none⟩),.int .i64 root] w (dH h F (PF Ak root s)):=by
 have D: ∀(r:Fn)(first cap:Array Value)(w:World),(Instr.makeFunc r first cap).run Tryz.prog w= .ok (.func r first cap) w:=fun _ _ _ _=>rfl
 obtain ⟨R,a⟩:=Aq (PF Ak root s)
 rw[a] at hb⊢
 have j:=As hb
 unfold PF at a
 have h0:=hs.AG (e:=AK) (s:=4)
 haveI:=h0.i
 clear hb hs
 by_cases d:root=0
 · rw[if_pos d] at a
   have m:R= .ok [] s:=a.symm
   subst m
   subst d
   clear a j
   go_enter_defers Tryz.func44,Tryz.ntmps44
   go_wp2
   refine leaves_cons (f:=108) (args:= #[.pointer (some ⟨w.heap.size,0,none⟩),.pointer (some ⟨w.heap.size+1,0,none⟩)]) (by simp) (by simp[go_sem]) ?_
   refine (OS _ _ _).mono ?_
   rintro e x I ⟨rfl,rfl,rfl⟩
   simp[Leaves,settle,results,Tryz.results44,go_sem]
   refine ⟨none,0,rfl,?_⟩
   show Sat (rw AK 4 (.slice none 0 0) []*(Ad h s*F)) _
   exact AD _ _ _
 rw[if_neg d] at a
 have G:((root:Int)==0)=false:=by simpa using d
 have b:=fun N F w q=>cU 21 h s root [] N none 0 F w (by omega) (by simp) q (by rw[a];exact j.out)
 rw[a,show (21:Int)-((21:Nat):Int)=0 from rfl] at b
 obtain ⟨N,k⟩:=Aq w.heap.size
 clear a
 go_enter_defers Tryz.func44,Tryz.ntmps44
 go_wp2_with fail
 have v:Sat (Ad h s*(Sl.block N PT [.slice none 0 0]*(rw AK 4 (.slice none 0 0) []*(Sl.block (N+1) Fw [.int .i64 0]*F)))) ((w.alloc (.cells #[.slice none 0 0] PT)).alloc (.cells #[.int .i64 0] Fw)):=by
  rw[←k]
  exact Ap (by ac_rfl)
 try rw[k]
 clear k
 with_reducible refine Calls.mono (b N _ _ v) ?_
 rintro e y u
 cases R with
 |bad=>exact absurd rfl j.out
 | fault p s2 =>
   obtain ⟨rfl,v2,g⟩:=u
   haveI:=g.i
   show bodyPostD _ _ _ (.panic (CM p)) _ y
   refine leaves_cons (f:=108) (args:= #[.pointer (some ⟨N,0,none⟩),.pointer (some ⟨N+1,0,none⟩)]) (by simp) (by simp[go_sem]) ?_
   refine (Sd N (N+1) p _ _ _ y (Bh (Sl.block N PT [v2]) (Sl.block (N+1) Fw [.int .i64 0]))).mono ?_
   rintro e x J ⟨rfl,rfl,H⟩
   haveI:=H.i
   simp[Leaves,settle,results,Tryz.results44,go_sem]
   exact ⟨rfl,Ar _ _⟩
 | ok l s2 =>
   obtain ⟨rfl,hl,B,c2,g⟩:=u
   have z:=As hl
   obtain ⟨n,o⟩:=Aq l.length
   have c:=As o
   rw[o] at g
   haveI:=g.i
   clear v b o hl
   go_wp2
   refine leaves_cons (f:=108) (args:= #[.pointer (some ⟨N,0,none⟩),.pointer (some ⟨N+1,0,none⟩)]) (by simp) (by simp[go_sem]) ?_
   refine (OS _ _ _).mono ?_
   rintro e x J ⟨rfl,rfl,rfl⟩
   simp[Leaves,settle,results,Tryz.results44,go_sem]
   refine ⟨B,c2,?_,?_⟩
   ·rw[c.out]
   rw[c.out]
   exact AD _ _ _
abbrev ZY:TypeId:=45
theorem U5(N E:Nat)(w:World):
 CallsD Tryz.prog 118 #[.pointer (some ⟨N,0,none⟩),.pointer (some ⟨E,0,none⟩)] .returning w fun e c d=>e= .returned (.tuple #[])∧c= .returning∧d=w:=by
 refine callsD_of_wpS Tryz.func118 rfl fun a cs b=>?_
 apply wpS_seq
 apply wpS_region
 simp[wpOpsS,go_sem,recoverD,b,Tryz.ntmps118,Exit.thenS]
 apply wpS_seq
 apply wpS_region
 simp[wpOpsS,go_sem,Exit.thenS]
 refine wpS_cond (t:=false) (by simp[Act.eval,Array.replicate]) ?_
 simp only[Bool.false_eq_true,if_false]
 refine wpS_of_wp (wp_skip ?_)
 cases a
 simp_all[bodyPostS,results,Tryz.results118,Exit.thenS]
theorem W7(N E:Nat)(c:Int)(a b:Value)(F:Ab)(w:World)(hs:Sat (Sl.block N ZY [a]*(Sl.block E Fw [b]*F)) w):
 CallsD Tryz.prog 118 #[.pointer (some ⟨N,0,none⟩),.pointer (some ⟨E,0,none⟩)] (.panicking (CM c)) w fun e j k=>e= .returned (.tuple #[])∧j= .panicking [{ v:= .iface cX (.agg #[.int .i64 c]),recovered:=true }]∧Sat (Sl.block N ZY [.slice none 0 0]*(Sl.block E Fw [.int .i64 c]*F)) k:=by
 haveI:=hs.i
 refine callsD_of_wpS Tryz.func118 rfl fun d cs f=>?_
 unfold CM at f
 apply wpS_seq
 apply wpS_region
 simp[wpOpsS,go_sem,recoverD,f,Tryz.ntmps118,Exit.thenS]
 apply wpS_seq
 apply wpS_region
 simp[wpOpsS,go_sem,Exit.thenS]
 refine wpS_cond (t:=true) (by simp[Act.eval,Array.replicate]) ?_
 simp only[if_true]
 refine wpS_of_wp ?_
 go_wp2_with fail
 refine Calls.mono (Ho c _ _ hs) ?_
 rintro l m ⟨rfl,g⟩
 haveI:=g.i
 go_wp2
 simp[bodyPostS,results,Tryz.results118]
 exact Ap (by ac_rfl)
end Go.Proofs.YtfhbmblbidcmmaaGreat
namespace Go.Tr
section
variable {σ:Type} (P:List Int→Prop)
theorem QG{g:Int→List Int→M σ (List Int)}(b: ∀no l s l' s',P l→g no l s= .ok l' s'→P l'): ∀(ks:List Kd)(l:List Int)(s:σ)(l':List Int)(s':σ),P l→F7 g ks l s= .ok l' s'→P l'
 | [],l,s,l',s',h,e=>by
  have:(Fu.ok l s:Fu σ (List Int))= .ok l' s':=e
  cases this;exact h
 | k :: ks, l, s, l', s', h, e => by
   have e':M.bind (g k.Au l) (F7 g ks) s= .ok l' s':=e
   cases hm:g k.Au l s with
   |ok a s1=>exact QG b ks a s1 l' s' (b _ _ _ _ _ h hm) (by have:=e';unfold M.bind at this;rw[hm] at this;exact this)
   |fault n s1=>unfold M.bind at e';rw[hm] at e';cases e'
   |bad=>unfold M.bind at e';rw[hm] at e';cases e'
theorem Nw{rd:Int→M σ Nd}(c: ∀l no,P l→l.contains no=false→l.length≤1048576→0≤no→no<1099511627776→P (l++ [no])): ∀(f:Nat)(no:Int)(l:List Int)(s:σ)(l':List Int)(s':σ),P l→Bl rd f no l s= .ok l' s'→P l'
 |0,no,l,s,l',s',h,e=>by cases e
 | f + 1, no, l, s, l', s', h, e => by
  unfold Bl M.bind at e
  cases hm:rd no s with
  | ok n s1 =>
   rw[hm] at e
   have a:(if l.contains no=true then M.pure l else if 1048576<l.length∨no<0∨1099511627776≤no then (fun _=> .bad) else F7 (Bl rd f) n.kids (l++ [no])) s1= .ok l' s':=e
   by_cases b:l.contains no=true
   ·rw[if_pos b] at a
    have:(Fu.ok l s1:Fu σ (List Int))= .ok l' s':=a
    cases this;exact h
   rw[if_neg b] at a
   by_cases hb:1048576<l.length∨no<0∨1099511627776≤no
   ·simp_all
   rw[if_neg hb] at a
   exact QG P (fun no l s l' s' h e=>Nw c f no l s l' s' h e) n.kids (l++ [no]) s1 l' s' (c l no h (by simpa using b) (by omega) (by omega) (by omega)) a
  |fault n s1=>rw[hm] at e;cases e
  |bad=>rw[hm] at e;cases e
def Yb(l:List Int):Prop:=l.length≤1048577∧ ∀x∈l,0≤x∧x<1099511627776
theorem Ps{rd:Int→M σ Nd}{f:Nat}{no:Int}{s:σ}{l':List Int}{s':σ}(e:Bl rd f no [] s= .ok l' s'):Yb l':=by
 refine Nw Yb ?_ f no [] s l' s' ⟨by simp,by simp⟩ e
 intro l no h a hl h0 h1
 refine ⟨by simp;omega,fun x hx=>?_⟩
 rcases List.mem_append.1 hx with hx|hx
 ·exact h.2 x hx
 simp_all
end
end Go.Tr
namespace Go.Proofs.YtfhbmblbidcmmaaGreat
open Go.Tr
def E2(p:Int×Int):List Int:=(List.range (p.2-p.1).toNat).map fun k=>p.1+(k:Nat)
def Ew(l:List (Int×Int)):List Int:=l.flatMap E2
theorem MD(p:Int×Int)(x:Int):x∈E2 p↔p.1≤x∧x<p.2:=by
 unfold E2
 constructor
 ·grind
 intro ⟨h1,a⟩
 exact List.mem_map.2 ⟨(x-p.1).toNat,List.mem_range.2 (by omega),by omega⟩
theorem LI(l:List (Int×Int))(x:Int):x∈Ew l↔Mh l x:=by
 unfold Ew Mh
 rw[List.mem_flatMap]
 constructor
 ·rintro ⟨p,hp,h⟩;exact ⟨p,hp,(MD p x).1 h⟩
 rintro ⟨p,hp,h⟩;exact ⟨p,hp,(MD p x).2 h⟩
theorem J3{l:List (Int×Int)}(a:Ku l):(Ew l).Pairwise (· < ·):=by induction l with
 |nil=>exact List.Pairwise.nil
 | cons p l b =>
  have h1:=b ⟨fun q hq=>a.1 q (List.mem_cons_of_mem _ hq),(List.pairwise_cons.1 a.2).2⟩
  refine List.pairwise_append.2 ⟨?_,h1,fun x hx y hy=>?_⟩
  ·unfold E2
   rw[List.pairwise_map]
   exact List.pairwise_lt_range.imp fun h=>by omega
  have c:=(MD p x).1 hx
  obtain ⟨q,hq,d⟩:=(LI l y).1 hy
  have:=(List.pairwise_cons.1 a.2).1 q hq
  omega
theorem W3{y x:Int}(h:y≤x):E2 (y,x)++ [x]=E2 (y,x+1):=by
 unfold E2
 rw[show (x+1-y).toNat=(x-y).toNat+1 by omega,List.range_succ,List.map_append,List.map_singleton]
 grind
theorem Rc(y:Int):E2 (y,y)= []:=by simp[E2]
theorem Rb(y z:Int):(E2 (y,z)).length=(z-y).toNat:=by simp[E2]
theorem Re{a:List (Int×Int)}{i:Nat}{p:Int×Int}(h:a[i]?=some p):Ew (a.take (i+1))=Ew (a.take i)++E2 p:=by simp[Ew,List.take_add_one,h,List.flatMap_append]
theorem Ss(a:List (Int×Int))(i:Nat):(Ew (a.take i)).length≤(Ew a).length:=by
 conv=>rhs;rw[←List.take_append_drop i a]
 unfold Ew
 grind
def kI(a:List (Int×Int)):Prop:= ∀(i:Nat)(y z:Int),a[i]?=some (y,z)→0≤y∧y<z∧z≤1099511627776∧(Ew (a.take i)).length+(z-y).toNat≤1048577
theorem fN{a:List (Int×Int)}(c:Ku a)(hb: ∀x∈Ew a,0≤x∧x<1099511627776)(hl:(Ew a).length≤1048577):kI a:=by
 intro i y z h
 have hm:=List.mem_of_getElem? h
 have h1:=c.1 _ hm
 have d:=hb y ((LI a y).2 ⟨_,hm,by simp only;omega,h1⟩)
 have e:=hb (z-1) ((LI a (z-1)).2 ⟨_,hm,by simp only;omega,by simp only;omega⟩)
 have b:=Ss a (i+1)
 rw[Re h,List.length_append,Rb] at b
 omega
theorem aG{l:List (Int×Int)}(h:Ku l):l.length≤(Ew l).length:=by induction l with
 |nil=>simp
 | cons p l a =>
  have h1:=a ⟨fun q hq=>h.1 q (List.mem_cons_of_mem _ hq),(List.pairwise_cons.1 h.2).2⟩
  have b:=h.1 p List.mem_cons_self
  have c:(Ew (p::l)).length=(p.2-p.1).toNat+(Ew l).length:=by simp[Ew,E2]
  grind
