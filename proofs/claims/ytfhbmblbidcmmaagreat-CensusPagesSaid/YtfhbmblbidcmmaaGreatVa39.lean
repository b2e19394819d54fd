/- censusPages holds for every input. No condition. (part 39) -/
import Derived.Test.YtfhbmblbidcmmaaGreatVa38
import Derived.Test.YtfhbmblbidcmmaaGreatVa35
set_option linter.all false
set_option maxRecDepth 100000
set_option maxHeartbeats 6400000
namespace Go.Proofs.YtfhbmblbidcmmaaGreat
open Go.RowKit Go.Sl Go.Dk Go.Tr
theorem eS(a b:List Ar):AO (a++b)=AO a++AO b:=by simp[AO]
def iU(N m:Nat)(cs:List Value)(B F:Ab)(e:Ending)(b:World):Prop:= ∃(a':Option Addr)(a:Nat),
 (1024<m∧e= .panicked (CO 13)∧Sat (Sl.block N PX [.slice a' m a]*(B*F)) b)∨
 (¬1024<m∧e= .returned (.bool true)∧Sat (Sl.block N PX [.slice a' m a]*(rw AG 4 (.slice a' m a) cs*(B*F))) b)
theorem gI(no:Int)(n:Nd)(v:Value)(N:Nat)(o:List Ar)(a:Option Addr)(c:Nat)(B F:Ab)(w:World)(I:AJ B v n)(hm:may n=true)(K:o.length≤1024)
 (hs:Sat (Sl.block N PX [.slice a o.length c]*(rw AG 4 (.slice a o.length c) (AO o)*(B*F))) w):
 Calls Tryz.prog 110 #[.int .i64 no,v,.pointer (some ⟨N,0,none⟩)] w (iU N (o++n.Ag).length (AO (o++n.Ag)) B F):=by
 obtain ⟨i0,E⟩:=EW
 obtain ⟨l1,l2⟩:=Cm hm
 obtain ⟨Q,vK,rfl,r,z⟩:=I
 obtain ⟨aE,cE,rfl,s,D⟩:=r.v
 obtain ⟨M,O,rfl,G,H⟩:=Aj.v z
 have u:=fun(F:Ab)(w:World)(h:Sat (B*F) w)=>r.src (P:=Tryz.prog) (Ip n.Ag) h
 rw[List.length_append,eS]
 obtain ⟨ne,e⟩:=Aq n.Ag.length
 obtain ⟨l,f⟩:=Aq o.length
 rw[e] at u l1 s⊢
 rw[f] at hs K⊢
 have y:Aside (∀(F:Ab)(w:World),Sat (B*F) w→Src Tryz.prog 4 w (.slice aE ne cE) ne (AO n.Ag)):=u
 obtain ⟨xs,g⟩:=Aq (AO o)
 rw[g] at hs⊢
 obtain ⟨m,b⟩:=Aq (l+ne)
 have d:Aside (l+ne=m):=b
 have J:m≤1036:=by omega
 rw[b]
 haveI:=hs.i
 clear r z u e f g
 clear b
 by_cases k:1024<m
 ·have p:Aside (1024<m):=k
  have t:(1024:Int)<m:=by omega
  clear k
  go_enter Tryz.func110,Tryz.ntmps110
  go_wp2_with (at_builtin;refine Af E rfl (.tmp 6) (.tmp 8) rfl rfl rfl (Ae (rw AG 4 (.slice a l c) xs)) (y.out _ _ (Ae B)) (by unfold maxLen;omega) (by omega) ?_;intro q c9 L j x;clear x;rw[d.out] at j⊢;haveI:=j.i)
  exact ⟨rfl,q,c9,.inl ⟨p.out,rfl,AD _ _ _⟩⟩
 have p:Aside (¬1024<m):=k
 have t: ¬(1024:Int)<m:=by omega
 clear k
 go_enter Tryz.func110,Tryz.ntmps110
 go_wp2_with (at_builtin;refine Af E rfl (.tmp 6) (.tmp 8) rfl rfl rfl (Ae (rw AG 4 (.slice a l c) xs)) (y.out _ _ (Ae B)) (by unfold maxLen;omega) (by omega) ?_;intro q c9 L j x;clear x;rw[d.out] at j⊢;haveI:=j.i)
 go_returns
 exact ⟨q,c9,.inr ⟨p.out,rfl,Cx _ _ _ _⟩⟩
theorem OU(N E:Nat)(w:World):
 CallsD Tryz.prog 108 #[.pointer (some ⟨N,0,none⟩),.pointer (some ⟨E,0,none⟩)] .returning w fun e c d=>e= .returned (.tuple #[])∧c= .returning∧d=w:=by
 refine callsD_of_wpS Tryz.func108 rfl fun a cs b=>?_
 apply wpS_seq
 apply wpS_region
 simp[wpOpsS,go_sem,recoverD,b,Tryz.ntmps108,Exit.thenS]
 apply wpS_seq
 apply wpS_region
 simp[wpOpsS,go_sem,Exit.thenS]
 refine wpS_cond (t:=false) (by simp[Act.eval,Array.replicate]) ?_
 simp only[Bool.false_eq_true,if_false]
 refine wpS_of_wp (wp_skip ?_)
 cases a
 simp_all[bodyPostS,results,Tryz.results108,Exit.thenS]
theorem Sk(N E:Nat)(c:Int)(a b:Value)(F:Ab)(w:World)(hs:Sat (Sl.block N PX [a]*(Sl.block E Fz [b]*F)) w):
 CallsD Tryz.prog 108 #[.pointer (some ⟨N,0,none⟩),.pointer (some ⟨E,0,none⟩)] (.panicking (CO c)) w fun e j k=>e= .returned (.tuple #[])∧j= .panicking [{ v:= .iface dV (.agg #[.int .i64 c]),recovered:=true }]∧Sat (Sl.block N PX [.slice none 0 0]*(Sl.block E Fz [.int .i64 c]*F)) k:=by
 haveI:=hs.i
 refine callsD_of_wpS Tryz.func108 rfl fun d cs f=>?_
 unfold CO at f
 apply wpS_seq
 apply wpS_region
 simp[wpOpsS,go_sem,recoverD,f,Tryz.ntmps108,Exit.thenS]
 apply wpS_seq
 apply wpS_region
 simp[wpOpsS,go_sem,Exit.thenS]
 refine wpS_cond (t:=true) (by simp[Act.eval,Array.replicate]) ?_
 simp only[if_true]
 refine wpS_of_wp ?_
 go_wp2_with fail
 refine Calls.mono (Hi c _ _ hs) ?_
 rintro l m ⟨rfl,g⟩
 haveI:=g.i
 go_wp2
 simp[bodyPostS,results,Tryz.results108]
 exact Av (by ac_rfl)
open Go.PW (A8)
def Jd(S M N:Nat)(v:Value)(l:List Int):Ab:=Sl.block S Qd [.map (some M)]*(mp A8 M (GB l)*(Sl.block N X8 [v]*rw Ds 2 v (BD (Fa l))))
theorem bU(S M N:Nat)(no:Int)(n:Nd)(b v:Value)(l:List Int)(B F:Ab)(w:World)(f:AJ B b n)(a:l.contains no=true)(hs:Sat (Jd S M N v l*(B*F)) w):
 Calls Tryz.prog 119 #[.int .i64 no,b,.pointer (some ⟨S,0,none⟩),.pointer (some ⟨N,0,none⟩)] w fun e k=>e= .returned (.bool false)∧Sat (Jd S M N v l*(B*F)) k:=by
 obtain ⟨j,vK,rfl,c,d⟩:=f
 have m:Aside (Sat (Jd S M N v l*(B*F)) w):=hs
 have h1:Sat (Sl.block S Qd [.map (some M)]*(mp A8 M (GB l)*(Sl.block N X8 [v]*(rw Ds 2 v (BD (Fa l))*(B*F))))) w:=hs.eq (by unfold Jd;ac_rfl)
 have g:=Hw no l
 rw[a] at g
 have l1:=fun w=> @L2 w M no
 haveI:=h1.i
 clear c d hs a
 go_enter Tryz.func119,Tryz.ntmps119
 go_wp2
 go_ret
 refine ⟨rfl,?_⟩
 exact A4 (C:=Sl.block w.heap.size C1 [.bool n.leaf,j,vK]) (by unfold Jd;ac_rfl)
theorem fT(S M N:Nat)(no:Int)(n:Nd)(p v:Value)(l:List Int)(B F:Ab)(w:World)(z:AJ B p n)(f:l.contains no=false)(h0:0≤no)(H:no<1099511627776)(hl:l.length≤1048576)(hs:Sat (Jd S M N v l*(B*F)) w):
 Calls Tryz.prog 119 #[.int .i64 no,p,.pointer (some ⟨S,0,none⟩),.pointer (some ⟨N,0,none⟩)] w fun e G=>e= .returned (.bool true)∧ ∃v',Sat (Jd S M N v' (l++ [no])*(B*F)) G:=by
 obtain ⟨o,vK,rfl,x,y⟩:=z
 obtain ⟨i0,q⟩:=o6
 have h0:Sat (rw Ds 2 v (BD (Fa l))*(Sl.block S Qd [.map (some M)]*(mp A8 M (GB l)*(Sl.block N X8 [v]*(B*F))))) w:=hs.eq (by unfold Jd;ac_rfl)
 obtain ⟨a,m,c,rfl,d,_⟩:=MP h0
 have hm:l.length=m:=by rw[EA] at d;simp[Fa] at d;omega
 have h1:Sat (Sl.block S Qd [.map (some M)]*(mp A8 M (GB l)*(Sl.block N X8 [.slice a m c]*(rw Ds 2 (.slice a m c) (BD (Fa l))*(B*F))))) w:=h0.eq (by ac_rfl)
 have D:=Hw no l
 rw[f] at D
 have l1:=fun w=> @L2 w M no
 have I:=fun w=> @WI w M no (.bool true)
 have j:=Pm no l f
 rw[hm] at hl
 haveI:=h1.i
 clear x y hs f d hm h0
 go_enter Tryz.func119,Tryz.ntmps119
 go_wp2_with (at_builtin;go_loud (refine Af q rfl (.tmp 12) (.tmp 17) rfl rfl rfl (Ae (rw Ds 2 (.slice a m c) (BD (Fa l)))) (Src.new (e:=Ds) (s:=2) (vs:= [.int .i64 no,.int .i64 (no+1)]) (Ae _) rfl (by intro u k;simp at k;rcases k with rfl|rfl<;>rfl)) (by unfold maxLen;omega) (by omega) ?_;intro a' r J g b;haveI:=g.i;clear b))
 go_ret
 refine ⟨rfl,.slice a' (m+1) r,?_⟩
 have t:BD (Fa (l++ [no]))=BD (Fa l)++ [.int .i64 no,.int .i64 (no+1)]:=by simp[Fa,BD,KX]
 unfold Jd
 rw[t,←j]
 exact A4 (C:=Sl.block w.heap.size C1 [.bool n.leaf,o,vK]*Sl.block (Gt Tryz.prog Qd M (A8 no) (Value.bool true) (w.alloc (.cells #[Value.bool n.leaf,o,vK] C1))).heap.size Ds [.int .i64 no,.int .i64 (no+1)]) (by ac_rfl)
end Go.Proofs.YtfhbmblbidcmmaaGreat
namespace Go.Proofs.YtfhbmblbidcmmaaGreat
open Go.RowKit Go.Sl Go.Dk Go.Tr
def eH(h:Th)(N:Nat)(F:Ab)(r:Fx TS (List Ar))(e:Ending)(b:World):Prop:=match r with
 | .ok o s=>e= .returned (.tuple #[])∧o.length≤1024∧ ∃(a:Option Addr)(c:Nat),Sat (Ad h s*(Sl.block N PX [.slice a o.length c]*(rw AG 4 (.slice a o.length c) (AO o)*F))) b
 | .fault n s=>e= .panicked (CO n)∧ ∃v,Sat (Ad h s*(Sl.block N PX [v]*F)) b
 | .bad=>False
def WalkC(f:Nat):Prop:= ∀(h:Th)(s:TS)(no:Int)(o:List Ar)(N:Nat)(a:Option Addr)(c:Nat)(F:Ab)(w:World),f≤21→o.length≤1024→Sat (Ad h s*(Sl.block N PX [.slice a o.length c]*(rw AG 4 (.slice a o.length c) (AO o)*F))) w→CP Ah f no o s≠ .bad→
 Calls Tryz.prog 109 #[.pointer (some ⟨h.t,0,none⟩),.int .i64 no,.int .i64 (21-(f:Int)),.func (Fn.func 110) #[] #[.pointer (some ⟨N,0,none⟩)]] w (eH h N F (CP Ah f no o s))
theorem ZY:WalkC 0:=by
 intro h s no o N a c F w d e hs hb
 have b:CP Ah 0 no o s= .fault 13 s:=rfl
 rw[b]
 haveI:=hs.i
 go_enter Tryz.func109,Tryz.ntmps109
 go_wp2
 exact ⟨rfl,rfl,.slice a o.length c,AD _ _ _⟩
theorem ZX(f:Nat)(ih:WalkC f):WalkC (f+1):=by
 intro h s no o N a c F w hf ho hs hb
 obtain ⟨R,hR⟩:=Aq (CP Ah (f+1) no o s)
 rw[hR] at hb⊢
 have M:=Ek hb
 have HI:=Ek ih
 have U:=Ek hR
 have c1:=fun F w q=>Cw h s no F w q (Bi U.out M.out)
 have I: ¬(20:Int)<21-((f+1:Nat):Int):=by omega
 obtain ⟨W,X⟩:=Aq ((21:Int)-((f+1:Nat):Int))
 have af:Aside (W+1=21-(f:Int)):=(by omega:W+1=21-(f:Int))
 have bd: -1≤W∧W≤20:=by omega
 rw[X] at I⊢
 have HO:=Ek ho
 haveI:=hs.i
 clear hR hb ih X
 go_enter Tryz.func109,Tryz.ntmps109
 go_wp2_with fail
 with_reducible refine Calls.mono (c1 _ _ (Ae (Ad h s))) ?_
 rintro e w1 K
 obtain ⟨r1,p⟩: ∃r,r=Ah no s:=⟨_,rfl⟩
 rw[←p] at K
 rcases r1 with ⟨y,s2⟩|⟨er,s2⟩|_
 rotate_left
 · obtain ⟨rfl,q1⟩:=K
   haveI:=q1.i
   have d:=B4 U.out p.symm
   subst d
   exact ⟨rfl,rfl,.slice a o.length c,AD _ _ _⟩
 · exact absurd (Cg U.out p.symm) M.out
 obtain ⟨v1,L,rfl,⟨hx,x⟩,q1⟩:=K
 have Y:=Be U.out p.symm
 have HG:=Ek Y
 have l:=fun F w q=>gI no y v1 N o a c L F w hx x HO.out q
 have b6:=Ek x
 obtain ⟨se,sk,rfl,hE,hK⟩:=id hx
 obtain ⟨a1,u,rfl,ak,bb⟩:=hE.v
 obtain ⟨V,c2,rfl,am,bc⟩:=Aj.v hK
 obtain ⟨ap,aq⟩:=Cm x
 obtain ⟨ne,a6⟩:=Aq y.Ag.length
 obtain ⟨n,J⟩:=Aq y.kids.length
 have HK:Aside (AS L (.slice V y.kids.length c2) y.kids∧y.kids.length=n):=⟨hK,J⟩
 rw[a6] at ap ak l⊢
 rw[J] at aq am l⊢
 obtain ⟨N8,H⟩:=Aq w1.heap.size
 haveI:=q1.i
 clear hE hK x a6 J p U c1 hx Y
 go_wp2_with fail
 have q4:Sat (Sl.block N PX [.slice a o.length c]*(rw AG 4 (.slice a o.length c) (AO o)*(L*(Ad h s2*(Sl.block N8 C1 [.bool y.leaf,.slice a1 ne u,.slice V n c2]*F))))) (w1.alloc (.cells #[.bool y.leaf,.slice a1 ne u,.slice V n c2] C1)):=by
  rw[←H]
  exact Av (by ac_rfl)
 try rw[H]
 clear H q1
 with_reducible refine Calls.mono (l _ _ q4) ?_
 rintro e w3 ⟨a3,c3,h3⟩
 rcases h3 with ⟨hc,rfl,q5⟩|⟨hc,rfl,q5⟩
 · have d:R= .fault 13 s2:=by have:=HG.out;rw[if_pos hc] at this;exact this.symm
   subst d
   haveI:=q5.i
   exact ⟨rfl,rfl,.slice a3 (o++y.Ag).length c3,AD _ _ _⟩
 have G:=HG.out
 rw[if_neg hc] at G
 have O:=Ek G
 obtain ⟨o3,a7⟩:=Aq (o++y.Ag)
 rw[a7] at hc q5 O
 haveI:=q5.i
 have q6:Sat (Ad h s2*(Sl.block N PX [.slice a3 o3.length c3]*(rw AG 4 (.slice a3 o3.length c3) (AO o3)*(L*(Sl.block N8 C1 [.bool y.leaf,.slice a1 ne u,.slice V n c2]*F))))) w3:=Av (by ac_rfl)
 haveI:=q6.i
 clear q4 q5 l G a7 HG
 go_wp2_with fail
 go_loopg [26] n (fun g ax wr=> ∃(i:Nat)(t:List Ar)(B:Option Addr)(c4:Nat)(s4:TS),ax= .int .i64 i∧i≤n∧Aside (g=n-i∧t.length≤1024∧Ft (CP Ah f) (y.kids.drop i) t s4=R)∧
  Sat (Ad h s4*(Sl.block N PX [.slice B t.length c4]*(rw AG 4 (.slice B t.length c4) (AO t)*(L*(Sl.block N8 C1 [.bool y.leaf,.slice a1 ne u,.slice V n c2]*F))))) wr)
 case atStart=>exact ⟨0,o3,a3,c3,s2,rfl,by omega,⟨rfl,by omega,O.out⟩,q6⟩
 obtain ⟨i,t,B,c4,s4,rfl,hi,A,q7⟩:=hrel
 clear q6
 haveI:=q7.i
 by_cases be:i<n
 · have a0:(i:Int)<n:=by omega
   obtain ⟨k,hk⟩: ∃k,y.kids[i]?=some k:=⟨_,List.getElem?_eq_getElem (by have:=HK.out.2;omega)⟩
   obtain ⟨b,q,rfl,r1,r2,r3,r4⟩:=Co HK.out.1 hk
   have hd:y.kids.drop i=k::y.kids.drop (i+1):=by
    obtain ⟨u1,u2⟩:=List.getElem?_eq_some_iff.1 hk
    rw[List.drop_eq_getElem_cons u1,u2]
   have D:=A.out.2.2
   rw[hd] at D
   have z:=Ek D
   have j:=fun F w q=>HI.out h s4 k.Ap t N B c4 F w (by omega) A.out.2.1 q (Bi z.out M.out)
   obtain ⟨m,hm⟩:=Aq (CP Ah f k.Ap t s4)
   have Q:=Ek hm
   rw[hm,←af.out] at j
   have hw:=Bg (W+1) (by omega)
   have ar:=Bi z.out M.out
   obtain ⟨k1,k2,k3,k4⟩:=k
   simp only at r1 r2 r3 r4 j z Q
   clear hk hd D hm
   go_wp2_with fail
   with_reducible refine Calls.mono (j _ _ (Tb (Ad h s4) (Sl.block N PX [.slice B t.length c4]) (rw AG 4 (.slice B t.length c4) (AO t)))) ?_
   rintro e w5 h5
   cases m with
   |bad=>exact absurd Q.out (Bi z.out M.out)
   | fault er s5 =>
     obtain ⟨rfl,v5,q8⟩:=h5
     haveI:=q8.i
     have d:=B4 z.out Q.out
     subst d
     exact ⟨rfl,rfl,v5,AD _ _ _⟩
   | ok o5 s5 =>
     obtain ⟨rfl,a8,a5,c5,q8⟩:=h5
     have Z:=Be z.out Q.out
     have T:Aside (o5.length≤1024∧Ft (CP Ah f) (y.kids.drop (i+1)) o5 s5=R):=⟨a8,Z⟩
     haveI:=q8.i
     clear j ar Z a8 z Q q7
     go_wp2_with fail
     go_roundg (n-(i+1))
     case measure=>have:=A.out.1;omega
     case rel=>exact ⟨i+1,o5,a5,c5,s5,by go_num,by omega,⟨rfl,T.out.1,T.out.2⟩,E3 _ _ _ _ _ _⟩
 have a0: ¬(i:Int)<n:=by omega
 obtain rfl:i=n:=by omega
 have D:=A.out.2.2
 rw[List.drop_of_length_le (by rw[HK.out.2];exact Nat.le_refl _)] at D
 have d:=D.symm
 subst d
 have ai:=Ek A.out.2.1
 clear D A
 go_wp2
 go_end0
 exact ⟨rfl,ai.out,B,c4,Cx _ _ _ _⟩
theorem dR(f:Nat):WalkC f:=by induction f with
 |zero=>exact ZY
 |succ f a=>exact ZX f a
end Go.Proofs.YtfhbmblbidcmmaaGreat
namespace Go.Tr
def Ex{σ:Type}(g:Int→List Int→M σ (List Int)):List Kd→List Int→M σ (List Int)
 | [],out=>M.pure out
 |k::ks,out=>M.bind (g k.Ap out) (Ex g ks)
def AM{σ:Type}(rd:Int→M σ Nd):Nat→Int→List Int→M σ (List Int)
 |0,_,_=>M.fail 13
 |f+1,no,l=>M.bind (rd no) fun n=>if l.contains no=true then M.pure l else if 1048576<l.length∨no<0∨1099511627776≤no then (fun _=> .bad) else Ex (AM rd f) n.kids (l++ [no])
end Go.Tr
namespace Go.Proofs.YtfhbmblbidcmmaaGreat
open Go.RowKit Go.Sl Go.Dk Go.Tr
def Z'(h:Th)(S M N:Nat)(F:Ab)(r:Fx TS (List Int))(e:Ending)(a:World):Prop:=match r with
 | .ok o s=>e= .returned (.tuple #[])∧ ∃v,Sat (Ad h s*(Jd S M N v o*F)) a
 | .fault n s=>e= .panicked (CO n)∧ ∃v o,Sat (Ad h s*(Jd S M N v o*F)) a
 | .bad=>False
def To(f:Nat):Prop:= ∀(h:Th)(s:TS)(no:Int)(o:List Int)(S M N:Nat)(v:Value)(F:Ab)(w:World),f≤21→Sat (Ad h s*(Jd S M N v o*F)) w→AM Ah f no o s≠ .bad→
 Calls Tryz.prog 109 #[.pointer (some ⟨h.t,0,none⟩),.int .i64 no,.int .i64 (21-(f:Int)),.func (Fn.func 119) #[] #[.pointer (some ⟨S,0,none⟩),.pointer (some ⟨N,0,none⟩)]] w (Z' h S M N F (AM Ah f no o s))
theorem X0:To 0:=by
 intro h s no o S M N v F w b hs hb
 have a:AM Ah 0 no o s= .fault 13 s:=rfl
 rw[a]
 haveI:=hs.i
 go_enter Tryz.func109,Tryz.ntmps109
 go_wp2
 exact ⟨rfl,rfl,v,o,Ao _ _⟩
theorem Xz(f:Nat)(ih:To f):To (f+1):=by
 intro h s no o S U N v F w hf hs hb
 obtain ⟨R,hR⟩:=Aq (AM Ah (f+1) no o s)
 rw[hR] at hb⊢
 have J:=Ek hb
 have HI:=Ek ih
 have Q:=Ek hR
 have c1:=fun F w q=>Cw h s no F w q (Bi Q.out J.out)
 have D: ¬(20:Int)<21-((f+1:Nat):Int):=by omega
 obtain ⟨V,X⟩:=Aq ((21:Int)-((f+1:Nat):Int))
 have a7:Aside (V+1=21-(f:Int)):=(by omega:V+1=21-(f:Int))
 have b4: -1≤V∧V≤20:=by omega
 rw[X] at D⊢
 haveI:=hs.i
 clear hR hb ih X
 go_enter Tryz.func109,Tryz.ntmps109
 go_wp2_with fail
 with_reducible refine Calls.mono (c1 _ _ (Ae (Ad h s))) ?_
 rintro e w1 I
 obtain ⟨r1,p⟩: ∃r,r=Ah no s:=⟨_,rfl⟩
 rw[←p] at I
 rcases r1 with ⟨y,s2⟩|⟨er,s2⟩|_
 rotate_left
 · obtain ⟨rfl,q1⟩:=I
   haveI:=q1.i
   have a:=B4 Q.out p.symm
   subst a
   exact ⟨rfl,rfl,v,o,AD _ _ _⟩
 · exact absurd (Cg Q.out p.symm) J.out
 obtain ⟨v1,u,rfl,⟨hx,G⟩,q1⟩:=I
 have Y:=Be Q.out p.symm
 have HG:=Ek Y
 have b0:=Ek G
 obtain ⟨se,sk,rfl,hE,hK⟩:=id hx
 obtain ⟨T,l,rfl,ac,b2⟩:=hE.v
 obtain ⟨K,c2,rfl,ae,b3⟩:=Aj.v hK
 obtain ⟨ah,ai⟩:=Cm G
 obtain ⟨ne,H⟩:=Aq y.Ag.length
 obtain ⟨d,t⟩:=Aq y.kids.length
 have HK:Aside (AS u (.slice K y.kids.length c2) y.kids∧y.kids.length=d):=⟨hK,t⟩
 rw[H] at ah ac⊢
 rw[t] at ai ae⊢
 have HX:Aside (AJ u (.agg #[.bool y.leaf,.slice T ne l,.slice K d c2]) y):=(by rw[←H,←t];exact hx:AJ _ _ _)
 obtain ⟨N8,B⟩:=Aq w1.heap.size
 haveI:=q1.i
 clear hE hK G H t p Q c1 hx Y
 go_wp2_with fail
 have q4:Sat (Jd S U N v o*(u*(Ad h s2*(Sl.block N8 C1 [.bool y.leaf,.slice T ne l,.slice K d c2]*F)))) (w1.alloc (.cells #[.bool y.leaf,.slice T ne l,.slice K d c2] C1)):=by
  rw[←B]
  exact Av (by ac_rfl)
 try rw[B]
 clear B q1
 cases n:o.contains no
 rotate_left
 · with_reducible refine Calls.mono (bU S U N no y _ v o u _ _ HX.out n q4) ?_
   rintro e w3 ⟨rfl,q5⟩
   have a:R= .ok o s2:=by have:=HG.out;rw[if_pos n] at this;exact this.symm
   subst a
   haveI:=q5.i
   clear q4
   go_wp2
   go_end0
   exact ⟨rfl,v,AD _ _ _⟩
 have j:=HG.out
 rw[if_neg (by rw[n];decide)] at j
 have W: ¬(1048576<o.length∨no<0∨1099511627776≤no):=fun hx=>by rw[if_pos hx] at j;exact J.out j.symm
 rw[if_neg W] at j
 have M:=Ek j
 with_reducible refine Calls.mono (fT S U N no y _ v o u _ _ HX.out n (by omega) (by omega) (by omega) q4) ?_
 rintro e w3 ⟨rfl,v3,q5⟩
 obtain ⟨o3,a3⟩:=Aq (o++ [no])
 rw[a3] at q5 M
 haveI:=q5.i
 have q6:Sat (Ad h s2*(Jd S U N v3 o3*(u*(Sl.block N8 C1 [.bool y.leaf,.slice T ne l,.slice K d c2]*F)))) w3:=Av (by ac_rfl)
 haveI:=q6.i
 clear q4 q5 j a3 HG W n
 go_wp2_with fail
 go_loopg [26] d (fun g an wr=> ∃(i:Nat)(L:List Int)(v4:Value)(s4:TS),an= .int .i64 i∧i≤d∧Aside (g=d-i∧Ex (AM Ah f) (y.kids.drop i) L s4=R)∧
  Sat (Ad h s4*(Jd S U N v4 L*(u*(Sl.block N8 C1 [.bool y.leaf,.slice T ne l,.slice K d c2]*F)))) wr)
 case atStart=>exact ⟨0,o3,v3,s2,rfl,by omega,⟨rfl,M.out⟩,q6⟩
 obtain ⟨i,L,v4,s4,rfl,hi,A,q7⟩:=hrel
 clear q6
 haveI:=q7.i
 by_cases b5:i<d
 · have a0:(i:Int)<d:=by omega
   obtain ⟨k,hk⟩: ∃k,y.kids[i]?=some k:=⟨_,List.getElem?_eq_getElem (by have:=HK.out.2;omega)⟩
   obtain ⟨b,q,rfl,r1,r2,r3,r4⟩:=Co HK.out.1 hk
   have hd:y.kids.drop i=k::y.kids.drop (i+1):=by
    obtain ⟨u1,u2⟩:=List.getElem?_eq_some_iff.1 hk
    rw[List.drop_eq_getElem_cons u1,u2]
   have z:=A.out.2
   rw[hd] at z
   have x:=Ek z
   have c:=fun F w q=>HI.out h s4 k.Ap L S U N v4 F w (by omega) q (Bi x.out J.out)
   obtain ⟨m,hm⟩:=Aq (AM Ah f k.Ap L s4)
   have O:=Ek hm
   rw[hm,←a7.out] at c
   have hw:=Bg (V+1) (by omega)
   have aj:=Bi x.out J.out
   obtain ⟨k1,k2,k3,k4⟩:=k
   simp only at r1 r2 r3 r4 c x O
   clear hk hd z hm
   go_wp2_with fail
   with_reducible refine Calls.mono (c _ _ (Bh (Ad h s4) (Jd S U N v4 L))) ?_
   rintro e w5 h5
   cases m with
   |bad=>exact absurd O.out (Bi x.out J.out)
   | fault er s5 =>
     obtain ⟨rfl,v5,o5,q8⟩:=h5
     haveI:=q8.i
     have a:=B4 x.out O.out
     subst a
     exact ⟨rfl,rfl,v5,o5,AD _ _ _⟩
   | ok o5 s5 =>
     obtain ⟨rfl,v5,q8⟩:=h5
     have Z:=Be x.out O.out
     have aa:=Ek Z
     haveI:=q8.i
     clear c aj Z x O q7
     go_wp2_with fail
     go_roundg (d-(i+1))
     case measure=>have:=A.out.1;omega
     case rel=>exact ⟨i+1,o5,v5,s5,by go_num,by omega,⟨rfl,aa.out⟩,DE _ _ _ _ _⟩
 have a0: ¬(i:Int)<d:=by omega
 obtain rfl:i=d:=by omega
 have z:=A.out.2
 rw[List.drop_of_length_le (by rw[HK.out.2];exact Nat.le_refl _)] at z
 have a:=z.symm
 subst a
 clear z A
 go_wp2
 go_end0
 exact ⟨rfl,v4,AD _ _ _⟩
theorem ZW(f:Nat):To f:=by induction f with
 |zero=>exact X0
 |succ f a=>exact Xz f a
def eE(h:Th)(F:Ab)(r:Fx TS (List Ar))(e:Ending)(b:World):Prop:=match r with
 | .ok l s=> ∃(a:Option Addr)(c:Nat),e= .returned (.tuple #[.slice a l.length c,.int .i64 0])∧Sat (rw AG 4 (.slice a l.length c) (AO l)*(Ad h s*F)) b
 | .fault n s=>e= .returned (.tuple #[.slice none 0 0,.int .i64 n])∧Sat (Ad h s*F) b
 | .bad=>False
theorem Zl(h:Th)(s:TS)(root:Int)(F:Ab)(w:World)(hs:Sat (Ad h s*F) w)(hb:PJ Ah root s≠ .bad):
 Calls Tryz.prog 44 #[.pointer (some ⟨h.t,0,none⟩),.int .i64 root] w (eE h F (PJ Ah root s)):=by
 have D: ∀(r:Fn)(first cap:Array Value)(w:World),(Instr.makeFunc r first cap).run Tryz.prog w= .ok (.func r first cap) w:=fun _ _ _ _=>rfl
 obtain ⟨R,a⟩:=Aq (PJ Ah root s)
 rw[a] at hb⊢
 have j:Aside (R≠ .bad):=hb
 unfold PJ at a
 have h0:=hs.AE (e:=AG) (s:=4)
 haveI:=h0.i
 clear hb hs
 by_cases d:root=0
 · rw[if_pos d] at a
   have m:R= .ok [] s:=a.symm
   subst m
   subst d
   clear a j
   go_enter_defers Tryz.func44,Tryz.ntmps44
   go_wp2
   refine leaves_cons (f:=108) (args:= #[.pointer (some ⟨w.heap.size,0,none⟩),.pointer (some ⟨w.heap.size+1,0,none⟩)]) (by simp) (by simp[go_sem]) ?_
   refine (OU _ _ _).mono ?_
   rintro e x I ⟨rfl,rfl,rfl⟩
   simp[Leaves,settle,results,Tryz.results44,go_sem]
   refine ⟨none,0,rfl,?_⟩
   show Sat (rw AG 4 (.slice none 0 0) []*(Ad h s*F)) _
   exact AD _ _ _
 rw[if_neg d] at a
 have G:((root:Int)==0)=false:=by simpa using d
 have b:=fun N F w q=>dR 21 h s root [] N none 0 F w (by omega) (by simp) q (by rw[a];exact j.out)
 rw[a,show (21:Int)-((21:Nat):Int)=0 from rfl] at b
 obtain ⟨N,k⟩:=Aq w.heap.size
 clear a
 go_enter_defers Tryz.func44,Tryz.ntmps44
 go_wp2_with fail
 have v:Sat (Ad h s*(Sl.block N PX [.slice none 0 0]*(rw AG 4 (.slice none 0 0) []*(Sl.block (N+1) Fz [.int .i64 0]*F)))) ((w.alloc (.cells #[.slice none 0 0] PX)).alloc (.cells #[.int .i64 0] Fz)):=by
  rw[←k]
  exact Av (by ac_rfl)
 try rw[k]
 clear k
 with_reducible refine Calls.mono (b N _ _ v) ?_
 rintro e y u
 cases R with
 |bad=>exact absurd rfl j.out
 | fault p s2 =>
   obtain ⟨rfl,v2,g⟩:=u
   haveI:=g.i
   show bodyPostD _ _ _ (.panic (CO p)) _ y
   refine leaves_cons (f:=108) (args:= #[.pointer (some ⟨N,0,none⟩),.pointer (some ⟨N+1,0,none⟩)]) (by simp) (by simp[go_sem]) ?_
   refine (Sk N (N+1) p _ _ _ y (Bh (Sl.block N PX [v2]) (Sl.block (N+1) Fz [.int .i64 0]))).mono ?_
   rintro e x J ⟨rfl,rfl,H⟩
   haveI:=H.i
   simp[Leaves,settle,results,Tryz.results44,go_sem]
   exact ⟨rfl,Ao _ _⟩
 | ok l s2 =>
   obtain ⟨rfl,hl,B,c2,g⟩:=u
   have z:Aside (l.length≤1024):=hl
   obtain ⟨n,o⟩:=Aq l.length
   have c:Aside (l.length=n):=o
   rw[o] at g
   haveI:=g.i
   clear v b o hl
   go_wp2
   refine leaves_cons (f:=108) (args:= #[.pointer (some ⟨N,0,none⟩),.pointer (some ⟨N+1,0,none⟩)]) (by simp) (by simp[go_sem]) ?_
   refine (OU _ _ _).mono ?_
   rintro e x J ⟨rfl,rfl,rfl⟩
   simp[Leaves,settle,results,Tryz.results44,go_sem]
   refine ⟨B,c2,?_,?_⟩
   ·rw[c.out]
   rw[c.out]
   exact AD _ _ _
abbrev V':TypeId:=45
theorem UF(N E:Nat)(w:World):
 CallsD Tryz.prog 118 #[.pointer (some ⟨N,0,none⟩),.pointer (some ⟨E,0,none⟩)] .returning w fun e c d=>e= .returned (.tuple #[])∧c= .returning∧d=w:=by
 refine callsD_of_wpS Tryz.func118 rfl fun a cs b=>?_
 apply wpS_seq
 apply wpS_region
 simp[wpOpsS,go_sem,recoverD,b,Tryz.ntmps118,Exit.thenS]
 apply wpS_seq
 apply wpS_region
 simp[wpOpsS,go_sem,Exit.thenS]
 refine wpS_cond (t:=false) (by simp[Act.eval,Array.replicate]) ?_
 simp only[Bool.false_eq_true,if_false]
 refine wpS_of_wp (wp_skip ?_)
 cases a
 simp_all[bodyPostS,results,Tryz.results118,Exit.thenS]
theorem WH(N E:Nat)(c:Int)(a b:Value)(F:Ab)(w:World)(hs:Sat (Sl.block N V' [a]*(Sl.block E Fz [b]*F)) w):
 CallsD Tryz.prog 118 #[.pointer (some ⟨N,0,none⟩),.pointer (some ⟨E,0,none⟩)] (.panicking (CO c)) w fun e j k=>e= .returned (.tuple #[])∧j= .panicking [{ v:= .iface dV (.agg #[.int .i64 c]),recovered:=true }]∧Sat (Sl.block N V' [.slice none 0 0]*(Sl.block E Fz [.int .i64 c]*F)) k:=by
 haveI:=hs.i
 refine callsD_of_wpS Tryz.func118 rfl fun d cs f=>?_
 unfold CO at f
 apply wpS_seq
 apply wpS_region
 simp[wpOpsS,go_sem,recoverD,f,Tryz.ntmps118,Exit.thenS]
 apply wpS_seq
 apply wpS_region
 simp[wpOpsS,go_sem,Exit.thenS]
 refine wpS_cond (t:=true) (by simp[Act.eval,Array.replicate]) ?_
 simp only[if_true]
 refine wpS_of_wp ?_
 go_wp2_with fail
 refine Calls.mono (Hi c _ _ hs) ?_
 rintro l m ⟨rfl,g⟩
 haveI:=g.i
 go_wp2
 simp[bodyPostS,results,Tryz.results118]
 exact Av (by ac_rfl)
end Go.Proofs.YtfhbmblbidcmmaaGreat
namespace Go.Tr
section
variable {σ:Type} (P:List Int→Prop)
theorem QO{g:Int→List Int→M σ (List Int)}(b: ∀no l s l' s',P l→g no l s= .ok l' s'→P l'): ∀(ks:List Kd)(l:List Int)(s:σ)(l':List Int)(s':σ),P l→Ex g ks l s= .ok l' s'→P l'
 | [],l,s,l',s',h,e=>by
  have:(Fx.ok l s:Fx σ (List Int))= .ok l' s':=e
  cases this;exact h
 | k :: ks, l, s, l', s', h, e => by
   have e':M.bind (g k.Ap l) (Ex g ks) s= .ok l' s':=e
   cases hm:g k.Ap l s with
   |ok a s1=>exact QO b ks a s1 l' s' (b _ _ _ _ _ h hm) (by have:=e';unfold M.bind at this;rw[hm] at this;exact this)
   |fault n s1=>unfold M.bind at e';rw[hm] at e';cases e'
   |bad=>unfold M.bind at e';rw[hm] at e';cases e'
theorem Nw{rd:Int→M σ Nd}(c: ∀l no,P l→l.contains no=false→l.length≤1048576→0≤no→no<1099511627776→P (l++ [no])): ∀(f:Nat)(no:Int)(l:List Int)(s:σ)(l':List Int)(s':σ),P l→AM rd f no l s= .ok l' s'→P l'
 |0,no,l,s,l',s',h,e=>by cases e
 | f + 1, no, l, s, l', s', h, e => by
  unfold AM M.bind at e
  cases hm:rd no s with
  | ok n s1 =>
   rw[hm] at e
   have a:(if l.contains no=true then M.pure l else if 1048576<l.length∨no<0∨1099511627776≤no then (fun _=> .bad) else Ex (AM rd f) n.kids (l++ [no])) s1= .ok l' s':=e
   by_cases b:l.contains no=true
   ·rw[if_pos b] at a
    have:(Fx.ok l s1:Fx σ (List Int))= .ok l' s':=a
    cases this;exact h
   rw[if_neg b] at a
   by_cases hb:1048576<l.length∨no<0∨1099511627776≤no
   ·simp_all
   rw[if_neg hb] at a
   exact QO P (fun no l s l' s' h e=>Nw c f no l s l' s' h e) n.kids (l++ [no]) s1 l' s' (c l no h (by simpa using b) (by omega) (by omega) (by omega)) a
  |fault n s1=>rw[hm] at e;cases e
  |bad=>rw[hm] at e;cases e
def S5(l:List Int):Prop:=l.length≤1048577∧ ∀x∈l,0≤x∧x<1099511627776
theorem Pv{rd:Int→M σ Nd}{f:Nat}{no:Int}{s:σ}{l':List Int}{s':σ}(e:AM rd f no [] s= .ok l' s'):S5 l':=by
 refine Nw S5 ?_ f no [] s l' s' ⟨by simp,by simp⟩ e
 intro l no h a hl h0 h1
 refine ⟨by simp;omega,fun x hx=>?_⟩
 rcases List.mem_append.1 hx with hx|hx
 ·exact h.2 x hx
 simp_all
end
end Go.Tr
namespace Go.Proofs.YtfhbmblbidcmmaaGreat
open Go.Tr
def E4(p:Int×Int):List Int:=(List.range (p.2-p.1).toNat).map fun k=>p.1+(k:Nat)
def Ey(l:List (Int×Int)):List Int:=l.flatMap E4
theorem MB(p:Int×Int)(x:Int):x∈E4 p↔p.1≤x∧x<p.2:=by
 unfold E4
 constructor
 ·grind
 intro ⟨h1,a⟩
 exact List.mem_map.2 ⟨(x-p.1).toNat,List.mem_range.2 (by omega),by omega⟩
theorem LG(l:List (Int×Int))(x:Int):x∈Ey l↔Mg l x:=by
 unfold Ey Mg
 rw[List.mem_flatMap]
 constructor
 ·rintro ⟨p,hp,h⟩;exact ⟨p,hp,(MB p x).1 h⟩
 rintro ⟨p,hp,h⟩;exact ⟨p,hp,(MB p x).2 h⟩
theorem Jx{l:List (Int×Int)}(a:Kq l):(Ey l).Pairwise (· < ·):=by induction l with
 |nil=>exact List.Pairwise.nil
 | cons p l b =>
  have h1:=b ⟨fun q hq=>a.1 q (List.mem_cons_of_mem _ hq),(List.pairwise_cons.1 a.2).2⟩
  refine List.pairwise_append.2 ⟨?_,h1,fun x hx y hy=>?_⟩
  ·unfold E4
   rw[List.pairwise_map]
   exact List.pairwise_lt_range.imp fun h=>by omega
  have c:=(MB p x).1 hx
  obtain ⟨q,hq,d⟩:=(LG l y).1 hy
  have:=(List.pairwise_cons.1 a.2).1 q hq
  omega
theorem WB{y x:Int}(h:y≤x):E4 (y,x)++ [x]=E4 (y,x+1):=by
 unfold E4
 rw[show (x+1-y).toNat=(x-y).toNat+1 by omega,List.range_succ,List.map_append,List.map_singleton]
 grind
theorem Rk(y:Int):E4 (y,y)= []:=by simp[E4]
theorem Rj(y z:Int):(E4 (y,z)).length=(z-y).toNat:=by simp[E4]
theorem Rl{a:List (Int×Int)}{i:Nat}{p:Int×Int}(h:a[i]?=some p):Ey (a.take (i+1))=Ey (a.take i)++E4 p:=by simp[Ey,List.take_add_one,h,List.flatMap_append]
theorem S1(a:List (Int×Int))(i:Nat):(Ey (a.take i)).length≤(Ey a).length:=by
 conv=>rhs;rw[←List.take_append_drop i a]
 unfold Ey
 grind
def kY(a:List (Int×Int)):Prop:= ∀(i:Nat)(y z:Int),a[i]?=some (y,z)→0≤y∧y<z∧z≤1099511627776∧(Ey (a.take i)).length+(z-y).toNat≤1048577
theorem gG{a:List (Int×Int)}(c:Kq a)(hb: ∀x∈Ey a,0≤x∧x<1099511627776)(hl:(Ey a).length≤1048577):kY a:=by
 intro i y z h
 have hm:=List.mem_of_getElem? h
 have h1:=c.1 _ hm
 have d:=hb y ((LG a y).2 ⟨_,hm,by simp only;omega,h1⟩)
 have e:=hb (z-1) ((LG a (z-1)).2 ⟨_,hm,by simp only;omega,by simp only;omega⟩)
 have b:=S1 a (i+1)
 rw[Rl h,List.length_append,Rj] at b
 omega
theorem bI{l:List (Int×Int)}(h:Kq l):l.length≤(Ey l).length:=by induction l with
 |nil=>simp
 | cons p l a =>
  have h1:=a ⟨fun q hq=>h.1 q (List.mem_cons_of_mem _ hq),(List.pairwise_cons.1 h.2).2⟩
  have b:=h.1 p List.mem_cons_self
  have c:(Ey (p::l)).length=(p.2-p.1).toNat+(Ey l).length:=by simp[Ey,E4]
  grind
