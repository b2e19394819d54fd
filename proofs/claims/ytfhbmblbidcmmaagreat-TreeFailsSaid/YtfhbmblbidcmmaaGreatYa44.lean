/- treeFails holds for every input. No condition. (part 44) -/
import Derived.Test.YtfhbmblbidcmmaaGreatYa43
import Derived.Test.YtfhbmblbidcmmaaGreatYa42
set_option linter.all false
set_option maxRecDepth 100000
set_option maxHeartbeats 6400000
namespace Go.Proofs.YtfhbmblbidcmmaaGreat
open Go.RowKit Go.Sl Go.Dk Go.Tr
theorem Yr(a b:List As):AQ (a++b)=AQ a++AQ b:=by simp[AQ]
def Zu(N m:Nat)(c:List Value)(B F:Ac)(e:Ending)(b:World):Prop:= ∃(a':Option Addr)(a:Nat),
 (1024<m∧e= .panicked (D2 13)∧Sat (Sl.block N M9 [.slice a' m a]*(B*F)) b)∨
 (¬1024<m∧e= .returned (.bool true)∧Sat (Sl.block N M9 [.slice a' m a]*(rw A9 4 (.slice a' m a) c*(B*F))) b)
theorem YU(no:Int)(n:Nd)(v:Value)(N:Nat)(o:List As)(a:Option Addr)(c:Nat)(B F:Ac)(w:World)(O:AN B v n)(hm:may n=true)(R:o.length≤1024)
 (hs:Sat (Sl.block N M9 [.slice a o.length c]*(rw A9 4 (.slice a o.length c) (AQ o)*(B*F))) w):
 Calls Tryz.prog 110 #[.int .i64 no,v,.pointer (some ⟨N,0,none⟩)] w (Zu N (o++n.Ao).length (AQ (o++n.Ao)) B F):=by
 obtain ⟨i0,E⟩:=FK
 obtain ⟨l1,l2⟩:=Cl hm
 obtain ⟨W,X,rfl,t,H⟩:=O
 obtain ⟨I,J,rfl,u,K⟩:=t.v
 obtain ⟨U,V,rfl,L,M⟩:=Al.v H
 have z:=fun(F:Ac)(w:World)(h:Sat (B*F) w)=>t.src (P:=Tryz.prog) (Ky n.Ao) h
 rw[List.length_append,Yr]
 obtain ⟨ne,e⟩: ∃k,n.Ao.length=k:=⟨_,rfl⟩
 obtain ⟨p,f⟩: ∃k,o.length=k:=⟨_,rfl⟩
 rw[e] at z l1 u⊢
 rw[f] at hs R⊢
 have G:Aside (∀(F:Ac)(w:World),Sat (B*F) w→Src Tryz.prog 4 w (.slice I ne J) ne (AQ n.Ao)):=z
 obtain ⟨xs,g⟩: ∃x,AQ o=x:=⟨_,rfl⟩
 rw[g] at hs⊢
 obtain ⟨m,b⟩: ∃m,p+ne=m:=⟨_,rfl⟩
 have d:Aside (p+ne=m):=b
 have Q:m≤1036:=by omega
 rw[b]
 haveI:=hs.i
 clear t H z e f g
 clear b
 by_cases l:1024<m
 ·have q:Aside (1024<m):=l
  have y:(1024:Int)<m:=by omega
  clear l
  go_enter Tryz.func110,Tryz.ntmps110
  go_wp2_with (at_builtin;refine Aj E rfl (.tmp 6) (.tmp 8) rfl rfl rfl (Ae (rw A9 4 (.slice a p c) xs)) (G.out _ _ (Ae B)) (by unfold maxLen;omega) (by omega) ?_;intro r s T j D;clear D;rw[d.out] at j⊢;haveI:=j.i)
  exact ⟨rfl,r,s,.inl ⟨q.out,rfl,AR _ _ _⟩⟩
 have q:Aside (¬1024<m):=l
 have y: ¬(1024:Int)<m:=by omega
 clear l
 go_enter Tryz.func110,Tryz.ntmps110
 go_wp2_with (at_builtin;refine Aj E rfl (.tmp 6) (.tmp 8) rfl rfl rfl (Ae (rw A9 4 (.slice a p c) xs)) (G.out _ _ (Ae B)) (by unfold maxLen;omega) (by omega) ?_;intro r s T j D;clear D;rw[d.out] at j⊢;haveI:=j.i)
 go_returns
 exact ⟨r,s,.inr ⟨q.out,rfl,Dv _ _ _ _⟩⟩
theorem MZ(N E:Nat)(w:World):
 CallsD Tryz.prog 108 #[.pointer (some ⟨N,0,none⟩),.pointer (some ⟨E,0,none⟩)] .returning w fun e c d=>e= .returned (.tuple #[])∧c= .returning∧d=w:=by
 refine callsD_of_wpS Tryz.func108 rfl fun a f b=>?_
 apply wpS_seq
 apply wpS_region
 simp[wpOpsS,go_sem,recoverD,b,Tryz.ntmps108,Exit.thenS]
 apply wpS_seq
 apply wpS_region
 simp[wpOpsS,go_sem,Exit.thenS]
 refine wpS_cond (t:=false) (by simp[Act.eval,Array.replicate]) ?_
 simp only[Bool.false_eq_true,if_false]
 refine wpS_of_wp (wp_skip ?_)
 cases a
 simp_all[bodyPostS,results,Tryz.results108,Exit.thenS]
theorem PR(N E:Nat)(c:Int)(a b:Value)(F:Ac)(w:World)(hs:Sat (Sl.block N M9 [a]*(Sl.block E Eu [b]*F)) w):
 CallsD Tryz.prog 108 #[.pointer (some ⟨N,0,none⟩),.pointer (some ⟨E,0,none⟩)] (.panicking (D2 c)) w fun e j k=>e= .returned (.tuple #[])∧j= .panicking [{ v:= .iface Yi (.agg #[.int .i64 c]),recovered:=true }]∧Sat (Sl.block N M9 [.slice none 0 0]*(Sl.block E Eu [.int .i64 c]*F)) k:=by
 haveI:=hs.i
 refine callsD_of_wpS Tryz.func108 rfl fun d l f=>?_
 unfold D2 at f
 apply wpS_seq
 apply wpS_region
 simp[wpOpsS,go_sem,recoverD,f,Tryz.ntmps108,Exit.thenS]
 apply wpS_seq
 apply wpS_region
 simp[wpOpsS,go_sem,Exit.thenS]
 refine wpS_cond (t:=true) (by simp[Act.eval,Array.replicate]) ?_
 simp only[if_true]
 refine wpS_of_wp ?_
 go_wp2_with fail
 refine Calls.mono (Jf c _ _ hs) ?_
 rintro m n ⟨rfl,g⟩
 haveI:=g.i
 go_wp2
 simp[bodyPostS,results,Tryz.results108]
 exact A8 (by ac_rfl)
open Go.UB (AZ)
end Go.Proofs.YtfhbmblbidcmmaaGreat
namespace Go.Proofs.YtfhbmblbidcmmaaGreat
open Go.RowKit Go.Sl Go.Dk Go.Tr
def Yj(h:Th)(N:Nat)(F:Ac)(r:DR TS (List As))(e:Ending)(b:World):Prop:=match r with
 | .ok o s=>e= .returned (.tuple #[])∧o.length≤1024∧ ∃(a:Option Addr)(c:Nat),Sat (Ad h s*(Sl.block N M9 [.slice a o.length c]*(rw A9 4 (.slice a o.length c) (AQ o)*F))) b
 | .fault n s=>e= .panicked (D2 n)∧ ∃v,Sat (Ad h s*(Sl.block N M9 [v]*F)) b
 | .bad=>False
def WalkC(f:Nat):Prop:= ∀(h:Th)(s:TS)(no:Int)(o:List As)(N:Nat)(a:Option Addr)(c:Nat)(F:Ac)(w:World),f≤21→o.length≤1024→Sat (Ad h s*(Sl.block N M9 [.slice a o.length c]*(rw A9 4 (.slice a o.length c) (AQ o)*F))) w→CT Ah f no o s≠ .bad→
 Calls Tryz.prog 109 #[.pointer (some ⟨h.t,0,none⟩),.int .i64 no,.int .i64 (21-(f:Int)),.func (Fn.func 110) #[] #[.pointer (some ⟨N,0,none⟩)]] w (Yj h N F (CT Ah f no o s))
theorem VO:WalkC 0:=by
 intro h s no o N a c F w d e hs hb
 have b:CT Ah 0 no o s= .fault 13 s:=rfl
 rw[b]
 haveI:=hs.i
 go_enter Tryz.func109,Tryz.ntmps109
 go_wp2
 exact ⟨rfl,rfl,.slice a o.length c,AR _ _ _⟩
theorem VN(f:Nat)(ih:WalkC f):WalkC (f+1):=by
 intro h s no o N a c F w hf ho hs hb
 obtain ⟨R,hR⟩: ∃R,CT Ah (f+1) no o s=R:=⟨_,rfl⟩
 rw[hR] at hb⊢
 have W:Aside (R≠ .bad):=hb
 have HI:Aside (WalkC f):=ih
 have HR:Aside (M.bind (Ah no) (fun n=>if 1024<(o++n.Ao).length then M.fail 13 else FQ (CT Ah f) n.kids (o++n.Ao)) s=R):=hR
 have c1:=fun F w q=>C7 h s no F w q (AK HR.out W.out)
 have O: ¬(20:Int)<21-((f+1:Nat):Int):=by omega
 obtain ⟨U,a7⟩: ∃d,(21:Int)-((f+1:Nat):Int)=d:=⟨_,rfl⟩
 have al:Aside (U+1=21-(f:Int)):=(by omega:U+1=21-(f:Int))
 have bl: -1≤U∧U≤20:=by omega
 rw[a7] at O⊢
 have HO:Aside (o.length≤1024):=ho
 haveI:=hs.i
 clear hR hb ih a7
 go_enter Tryz.func109,Tryz.ntmps109
 go_wp2_with fail
 with_reducible refine Calls.mono (c1 _ _ (Ae (Ad h s))) ?_
 rintro e w1 T
 obtain ⟨r1,z⟩: ∃r,r=Ah no s:=⟨_,rfl⟩
 rw[←z] at T
 rcases r1 with ⟨y,s2⟩|⟨er,s2⟩|_
 rotate_left
 · obtain ⟨rfl,q1⟩:=T
   haveI:=q1.i
   have j:=AL HR.out z.symm
   subst j
   exact ⟨rfl,rfl,.slice a o.length c,AR _ _ _⟩
 · exact absurd (B3 HR.out z.symm) W.out
 obtain ⟨v1,V,rfl,⟨hx,D⟩,q1⟩:=T
 have a8:=AJ HR.out z.symm
 have HG:Aside ((if 1024<(o++y.Ao).length then M.fail 13 else FQ (CT Ah f) y.kids (o++y.Ao)) s2=R):=a8
 have u:=fun F w q=>YU no y v1 N o a c V F w hx D HO.out q
 have bd:Aside (may y=true):=D
 obtain ⟨se,sk,rfl,hE,hK⟩:=id hx
 obtain ⟨a1,B,rfl,aq,bj⟩:=hE.v
 obtain ⟨a2,c2,rfl,au,bk⟩:=Al.v hK
 obtain ⟨ax,ay⟩:=Cl D
 obtain ⟨ne,ab⟩: ∃ne,y.Ao.length=ne:=⟨_,rfl⟩
 obtain ⟨l,Q⟩: ∃l,y.kids.length=l:=⟨_,rfl⟩
 have HK:Aside (B1 V (.slice a2 y.kids.length c2) y.kids∧y.kids.length=l):=⟨hK,Q⟩
 rw[ab] at ax aq u⊢
 rw[Q] at ay au u⊢
 obtain ⟨N8,L⟩: ∃M,w1.heap.size=M:=⟨_,rfl⟩
 haveI:=q1.i
 clear hE hK D ab Q z HR c1 hx a8
 go_wp2_with fail
 have q4:Sat (Sl.block N M9 [.slice a o.length c]*(rw A9 4 (.slice a o.length c) (AQ o)*(V*(Ad h s2*(Sl.block N8 Ev [.bool y.leaf,.slice a1 ne B,.slice a2 l c2]*F))))) (w1.alloc (.cells #[.bool y.leaf,.slice a1 ne B,.slice a2 l c2] Ev)):=by
  rw[←L]
  exact A8 (by ac_rfl)
 try rw[L]
 clear L q1
 with_reducible refine Calls.mono (u _ _ q4) ?_
 rintro e w3 ⟨a3,c3,h3⟩
 rcases h3 with ⟨hc,rfl,q5⟩|⟨hc,rfl,q5⟩
 · have j:R= .fault 13 s2:=by have:=HG.out;rw[if_pos hc] at this;exact this.symm
   subst j
   haveI:=q5.i
   exact ⟨rfl,rfl,.slice a3 (o++y.Ao).length c3,AR _ _ _⟩
 have K:=HG.out
 rw[if_neg hc] at K
 have X:Aside (FQ (CT Ah f) y.kids (o++y.Ao) s2=R):=K
 obtain ⟨o3,ac⟩: ∃x,o++y.Ao=x:=⟨_,rfl⟩
 rw[ac] at hc q5 X
 haveI:=q5.i
 have q6:Sat (Ad h s2*(Sl.block N M9 [.slice a3 o3.length c3]*(rw A9 4 (.slice a3 o3.length c3) (AQ o3)*(V*(Sl.block N8 Ev [.bool y.leaf,.slice a1 ne B,.slice a2 l c2]*F))))) w3:=A8 (by ac_rfl)
 haveI:=q6.i
 clear q4 q5 u K ac HG
 go_wp2_with fail
 go_loopg [26] l (fun g b3 wr=> ∃(i:Nat)(p:List As)(H:Option Addr)(I:Nat)(s4:TS),b3= .int .i64 i∧i≤l∧Aside (g=l-i∧p.length≤1024∧FQ (CT Ah f) (y.kids.drop i) p s4=R)∧
  Sat (Ad h s4*(Sl.block N M9 [.slice H p.length I]*(rw A9 4 (.slice H p.length I) (AQ p)*(V*(Sl.block N8 Ev [.bool y.leaf,.slice a1 ne B,.slice a2 l c2]*F))))) wr)
 case atStart=>exact ⟨0,o3,a3,c3,s2,rfl,by omega,⟨rfl,by omega,X.out⟩,q6⟩
 obtain ⟨i,p,H,I,s4,rfl,hi,A,q7⟩:=hrel
 clear q6
 haveI:=q7.i
 by_cases bm:i<l
 · have aa:(i:Int)<l:=by omega
   obtain ⟨k,hk⟩: ∃k,y.kids[i]?=some k:=⟨_,List.getElem?_eq_getElem (by have:=HK.out.2;omega)⟩
   obtain ⟨b,q,rfl,r1,r2,r3,r4⟩:=Dc HK.out.1 hk
   have hd:y.kids.drop i=k::y.kids.drop (i+1):=by
    obtain ⟨u1,u2⟩:=List.getElem?_eq_some_iff.1 hk
    rw[List.drop_eq_getElem_cons u1,u2]
   have J:=A.out.2.2
   rw[hd] at J
   have G:Aside (M.bind (CT Ah f k.Ay p) (FQ (CT Ah f) (y.kids.drop (i+1))) s4=R):=J
   have t:=fun F w q=>HI.out h s4 k.Ay p N H I F w (by omega) A.out.2.1 q (AK G.out W.out)
   obtain ⟨m,hm⟩: ∃m,CT Ah f k.Ay p s4=m:=⟨_,rfl⟩
   have Y:Aside (CT Ah f k.Ay p s4=m):=hm
   rw[hm,←al.out] at t
   have hw:IntKind.i64.wrap (U+1)=U+1:=IntWalk.i64_in _ (by omega)
   have az:=AK G.out W.out
   obtain ⟨k1,k2,k3,k4⟩:=k
   simp only at r1 r2 r3 r4 t G Y
   clear hk hd J hm
   go_wp2_with fail
   with_reducible refine Calls.mono (t _ _ (Qs (Ad h s4) (Sl.block N M9 [.slice H p.length I]) (rw A9 4 (.slice H p.length I) (AQ p)))) ?_
   rintro e w5 h5
   cases m with
   |bad=>exact absurd Y.out (AK G.out W.out)
   | fault er s5 =>
     obtain ⟨rfl,v5,q8⟩:=h5
     haveI:=q8.i
     have j:=AL G.out Y.out
     subst j
     exact ⟨rfl,rfl,v5,AR _ _ _⟩
   | ok o5 s5 =>
     obtain ⟨rfl,ad,a5,c5,q8⟩:=h5
     have a9:=AJ G.out Y.out
     have Z:Aside (o5.length≤1024∧FQ (CT Ah f) (y.kids.drop (i+1)) o5 s5=R):=⟨ad,a9⟩
     haveI:=q8.i
     clear t az a9 ad G Y q7
     go_wp2_with fail
     go_roundg (l-(i+1))
     case measure=>have:=A.out.1;omega
     case rel=>exact ⟨i+1,o5,a5,c5,s5,by go_num,by omega,⟨rfl,Z.out.1,Z.out.2⟩,EH _ _ _ _ _ _⟩
 have aa: ¬(i:Int)<l:=by omega
 obtain rfl:i=l:=by omega
 have J:=A.out.2.2
 rw[List.drop_of_length_le (by rw[HK.out.2];exact Nat.le_refl _)] at J
 have j:R= .ok p s4:=J.symm
 subst j
 have ao:Aside (p.length≤1024):=A.out.2.1
 clear J A
 go_wp2
 go_end0
 exact ⟨rfl,ao.out,H,I,Dv _ _ _ _⟩
theorem XV(f:Nat):WalkC f:=by
 induction f with
 |zero=>exact VO
 |succ f a=>exact VN f a
end Go.Proofs.YtfhbmblbidcmmaaGreat
namespace Go.Tr
end Go.Tr
namespace Go.Proofs.YtfhbmblbidcmmaaGreat
open Go.RowKit Go.Sl Go.Dk Go.Tr
def Yf(h:Th)(F:Ac)(r:DR TS (List As))(e:Ending)(b:World):Prop:=match r with
 | .ok l s=> ∃(a:Option Addr)(c:Nat),e= .returned (.tuple #[.slice a l.length c,.int .i64 0])∧Sat (rw A9 4 (.slice a l.length c) (AQ l)*(Ad h s*F)) b
 | .fault n s=>e= .returned (.tuple #[.slice none 0 0,.int .i64 n])∧Sat (Ad h s*F) b
 | .bad=>False
theorem L0(h:Th)(s:TS)(root:Int)(F:Ac)(w:World)(hs:Sat (Ad h s*F) w)(hb:F4 Ah root s≠ .bad):
 Calls Tryz.prog 44 #[.pointer (some ⟨h.t,0,none⟩),.int .i64 root] w (Yf h F (F4 Ah root s)):=by
 have G: ∀(r:Fn)(first cap:Array Value)(w:World),(Instr.makeFunc r first cap).run Tryz.prog w= .ok (.func r first cap) w:=fun _ _ _ _=>rfl
 obtain ⟨R,a⟩: ∃R,F4 Ah root s=R:=⟨_,rfl⟩
 rw[a] at hb⊢
 have j:Aside (R≠ .bad):=hb
 unfold F4 at a
 have D:=hs.Bj (e:=A9) (s:=4)
 haveI:=D.i
 clear hb hs
 by_cases d:root=0
 · rw[if_pos d] at a
   have m:R= .ok [] s:=a.symm
   subst m
   subst d
   clear a j
   go_enter_defers Tryz.func44,Tryz.ntmps44
   go_wp2
   refine leaves_cons (f:=108) (args:= #[.pointer (some ⟨w.heap.size,0,none⟩),.pointer (some ⟨w.heap.size+1,0,none⟩)]) (by simp) (by simp[go_sem]) ?_
   refine (MZ _ _ _).mono ?_
   rintro e x K ⟨rfl,rfl,rfl⟩
   simp[Leaves,settle,results,Tryz.results44,go_sem]
   refine ⟨none,0,rfl,?_⟩
   show Sat (rw A9 4 (.slice none 0 0) []*(Ad h s*F)) _
   exact AR _ _ _
 rw[if_neg d] at a
 have H:((root:Int)==0)=false:=by simpa using d
 have b:=fun N F w q=>XV 21 h s root [] N none 0 F w (by omega) (by simp) q (by rw[a];exact j.out)
 rw[a,show (21:Int)-((21:Nat):Int)=0 from rfl] at b
 obtain ⟨N,k⟩: ∃N,w.heap.size=N:=⟨_,rfl⟩
 clear a
 go_enter_defers Tryz.func44,Tryz.ntmps44
 go_wp2_with fail
 have v:Sat (Ad h s*(Sl.block N M9 [.slice none 0 0]*(rw A9 4 (.slice none 0 0) []*(Sl.block (N+1) Eu [.int .i64 0]*F)))) ((w.alloc (.cells #[.slice none 0 0] M9)).alloc (.cells #[.int .i64 0] Eu)):=by
  rw[←k]
  exact A8 (by ac_rfl)
 try rw[k]
 clear k
 with_reducible refine Calls.mono (b N _ _ v) ?_
 rintro e y u
 cases R with
 |bad=>exact absurd rfl j.out
 | fault p s2 =>
   obtain ⟨rfl,J,g⟩:=u
   haveI:=g.i
   show bodyPostD _ _ _ (.panic (D2 p)) _ y
   refine leaves_cons (f:=108) (args:= #[.pointer (some ⟨N,0,none⟩),.pointer (some ⟨N+1,0,none⟩)]) (by simp) (by simp[go_sem]) ?_
   refine (PR N (N+1) p _ _ _ y (AY (Sl.block N M9 [J]) (Sl.block (N+1) Eu [.int .i64 0]))).mono ?_
   rintro e x L ⟨rfl,rfl,I⟩
   haveI:=I.i
   simp[Leaves,settle,results,Tryz.results44,go_sem]
   exact ⟨rfl,Av _ _⟩
 | ok l s2 =>
   obtain ⟨rfl,hl,B,c2,g⟩:=u
   have z:Aside (l.length≤1024):=hl
   obtain ⟨n,o⟩: ∃n,l.length=n:=⟨_,rfl⟩
   have c:Aside (l.length=n):=o
   rw[o] at g
   haveI:=g.i
   clear v b o hl
   go_wp2
   refine leaves_cons (f:=108) (args:= #[.pointer (some ⟨N,0,none⟩),.pointer (some ⟨N+1,0,none⟩)]) (by simp) (by simp[go_sem]) ?_
   refine (MZ _ _ _).mono ?_
   rintro e x L ⟨rfl,rfl,rfl⟩
   simp[Leaves,settle,results,Tryz.results44,go_sem]
   refine ⟨B,c2,?_,?_⟩
   ·rw[c.out]
   rw[c.out]
   exact AR _ _ _
end Go.Proofs.YtfhbmblbidcmmaaGreat
namespace Go.Tr
section
variable {σ:Type} (P:List Int→Prop)
end
end Go.Tr
namespace Go.Proofs.YtfhbmblbidcmmaaGreat
open Go.Tr
def Pk(p:Int×Int):List Int:=(List.range (p.2-p.1).toNat).map fun k=>p.1+(k:Nat)
def Oj(l:List (Int×Int)):List Int:=l.flatMap Pk
theorem L7(p:Int×Int)(x:Int):x∈Pk p↔p.1≤x∧x<p.2:=by
 unfold Pk
 constructor
 ·intro h
  obtain ⟨k,a,rfl⟩:=List.mem_map.1 h
  rw[List.mem_range] at a
  omega
 intro ⟨b,c⟩
 exact List.mem_map.2 ⟨(x-p.1).toNat,List.mem_range.2 (by omega),by omega⟩
theorem Rr(l:List (Int×Int))(x:Int):x∈Oj l↔Gs l x:=by
 unfold Oj Gs
 rw[List.mem_flatMap]
 constructor
 ·rintro ⟨p,hp,h⟩;exact ⟨p,hp,(L7 p x).1 h⟩
 rintro ⟨p,hp,h⟩;exact ⟨p,hp,(L7 p x).2 h⟩
theorem Rs{l:List (Int×Int)}(a:Fj l):(Oj l).Pairwise (· < ·):=by
 induction l with
 |nil=>exact List.Pairwise.nil
 | cons p l c =>
  have b:=c ⟨fun q hq=>a.1 q (List.mem_cons_of_mem _ hq),(List.pairwise_cons.1 a.2).2⟩
  show (Pk p++Oj l).Pairwise _
  refine List.pairwise_append.2 ⟨?_,b,fun x hx y hy=>?_⟩
  ·unfold Pk
   rw[List.pairwise_map]
   exact List.pairwise_lt_range.imp fun h=>by omega
  have d:=(L7 p x).1 hx
  obtain ⟨q,hq,e⟩:=(Rr l y).1 hy
  have:=(List.pairwise_cons.1 a.2).1 q hq
  omega
theorem Xf{l:List (Int×Int)}(h:Fj l):l.length≤(Oj l).length:=by
 induction l with
 |nil=>simp
 | cons p l b =>
  have c:=b ⟨fun q hq=>h.1 q (List.mem_cons_of_mem _ hq),(List.pairwise_cons.1 h.2).2⟩
  have d:=h.1 p List.mem_cons_self
  have a:(Oj (p::l)).length=(p.2-p.1).toNat+(Oj l).length:=by simp[Oj,Pk]
  rw[a,List.length_cons]
  omega
