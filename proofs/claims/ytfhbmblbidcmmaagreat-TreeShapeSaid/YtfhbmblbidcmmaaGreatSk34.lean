/- treeShape holds for every input. No condition. (part 34) -/
import Derived.Test.YtfhbmblbidcmmaaGreatSk32
import Derived.Test.YtfhbmblbidcmmaaGreatSk33
set_option linter.all false
set_option maxRecDepth 100000
set_option maxHeartbeats 6400000
namespace Go.Proofs.YtfhbmblbidcmmaaGreat
open Go.RowKit Go.Sl Go.Dk Go.Tr
theorem Xk(a b c d e:Int)(w:World):Sem.run Tryz.prog (Instr.field D5 (.agg #[.int .i64 a,.int .i64 b,.int .i64 c,.int .i64 d,.int .i64 e]) 0) w= .ok (.agg #[.int .i64 a,.int .i64 b,.int .i64 c,.int .i64 d]) w:=by kernel_rfl
theorem UO(a b c d:Int)(w:World):Sem.run Tryz.prog (Instr.field JX (.agg #[.int .i64 a,.int .i64 b,.int .i64 c,.int .i64 d]) 0) w= .ok (.int .i64 a) w:=by kernel_rfl
theorem PO: ∀(l o:List Au),(l.foldl A5 o).length≤o.length+l.length
 | [],o=>by simp
 | x :: l, o => by
  have h1:=PO l (A5 o x)
  have a:=Kn o x
  grind
theorem Oa(l:List Au):(join l).length≤l.length:=by
 have:=PO l []
 simp_all[join,List.length_nil,Nat.zero_add]
instance fP{h:Th}{s:TS} :EM (Ae h s) h.t 0 (.pointer (some ⟨h.C,0,none⟩)):=⟨by
 unfold Ae OS
 exact EM.out⟩
instance fQ{h:Th}{s:TS} :EM (Ae h s) h.t 1 (.pointer (some ⟨h.S,0,none⟩)):=⟨by
 unfold Ae OS
 exact EM.out⟩
theorem Qi(h:Th)(s:TS)(F:Ac)(w:World)(hs:Sat (Ae h s*F) w):
 Calls Tryz.prog 82 #[.pointer (some ⟨h.S,0,none⟩)] w fun e a=>e= .returned (.int .i64 s.sp.taken.length)∧Sat (Ae h s*F) a:=by
 obtain ⟨hi,hp⟩:=DR hs
 refine (VM h.S s.sp _ w (hp.eq (by ac_rfl):Sat (BQ h.S s.sp*(AN h.C h.D s.ck*(Sl.block h.t Sd [.pointer (some ⟨h.C,0,none⟩),.pointer (some ⟨h.S,0,none⟩)]*F))) w)).mono ?_
 rintro e a ⟨h1,b⟩
 exact ⟨h1,Dp hi (b.eq (by ac_rfl))⟩
abbrev OZ:TypeId:=29
theorem Jr{B:Ac}{v:Value}{l:List Au}(b:Nat)(a:An B v l):QP (Sl.block b OZ [v]*B) (.slice (some ⟨b,0,none⟩) 1 1) [l]:=by
 refine ⟨[v],⟨rfl,_,_,rfl,Nat.le_refl _,by omega,fun j u c=>⟨b,0,rfl,?_⟩⟩,rfl,fun i x l' hx hl=>?_⟩
 ·haveI:At [v] j u:=⟨c⟩
  rw[Nat.zero_add]
  exact inferInstance
 cases i with
 |zero=>simp at hx hl;subst hx;subst hl;exact Al.right a
 |succ i=>simp at hx
theorem Sm(h:Th)(s:TS)(l:List Au)(v:Value)(B F:Ac)(w:World)(b:An B v l)(hs:Sat (Ae h s*(B*F)) w)(hl:l.length≤65536)(hm:Bh l=false):
 Calls Tryz.prog 23 #[.pointer (some ⟨h.t,0,none⟩),v] w (WY h (B*F) (Eg l s) (fun z=>KC z 0) (fun e=>KC 0 e)):=by
 obtain ⟨j,c0,rfl,f,g⟩:=b.v
 have d:Eg l s= .fault 1 s:=by unfold Eg;rw[if_pos hm]
 rw[d]
 have a:=fun F w q=>Gj l _ B F w b q (by omega)
 rw[hm] at a
 have c:=hs.eq (by ac_rfl)
 haveI:=c.i
 clear d b hs c
 go_enter_defers Tryz.func23,Tryz.ntmps23
 go_wp2_with fail
 with_reducible refine De (a _ _ (Af B)) fun m k _=>?_
 go_wp2
 simp[bodyPostD,Leaves,settle,results,Tryz.results23,go_sem]
 exact ⟨rfl,AD _ _ _⟩
theorem Ny(h:Th)(s:TS)(l:List Au)(v:Value)(B F:Ac)(w:World)(m:An B v l)(hs:Sat (Ae h s*(B*F)) w)(hl:l.length≤65536)(hm:Bh l=true)(hb:Eg l s≠ .bad):
 Calls Tryz.prog 23 #[.pointer (some ⟨h.t,0,none⟩),v] w (WY h (B*F) (Eg l s) (fun z=>KC z 0) (fun a=>KC 0 a)):=by
 have aq: ∀(fn:Fn)(first cap:Array Value)(w:World),(Instr.makeFunc fn first cap).run Tryz.prog w= .ok (.func fn first cap) w:=fun _ _ _ _=>rfl
 obtain ⟨Q,c0,rfl,al,am⟩:=m.v
 obtain ⟨R,p⟩:=Aq (Eg l s)
 rw[p] at hb⊢
 have HB:=FK hb
 unfold Eg at p
 rw[if_neg (by rw[hm];simp)] at p
 have u:=fun F w q=>Gj l _ B F w m q (by omega)
 rw[hm] at u
 have HM:Aside ((∀x∈l,Ah x=true)∧Aa l≤1048576):=by
  rw[E2] at hm
  simp only[Bool.and_eq_true,List.all_eq_true,decide_eq_true_eq] at hm
  exact hm
 have g:=fun b F w q=>KW [l] (.slice (some ⟨b,0,none⟩) 1 1) (Sl.block b OZ [.slice Q l.length c0]*B) F w (Jr b m) q (by simp) (by simp;omega) (by simpa using HM.out.1) (by have:=HM.out.2;simp;omega)
 have ef:([l]:List (List Au)).flatten=l:=by simp
 rw[ef] at g
 have G:=Oa l
 obtain ⟨d,H⟩:=Aq (join l)
 rw[H] at g p G
 obtain ⟨j,O⟩:=Aq d.length
 rw[O] at G p
 have k:=FK O
 have W:=FK p
 have a1:=Qi h s
 have h2:=hs.eq (by ac_rfl)
 haveI:=h2.i
 clear m hs h2 p hb hm H ef
 go_enter_defers Tryz.func23,Tryz.ntmps23
 go_wp2_with fail
 with_reducible refine De (u _ _ (Af B)) fun w2 q2 _=>?_
 go_wp2_with fail
 obtain ⟨N,X⟩:=Aq w.heap.size
 obtain ⟨N2,o⟩:=Aq w2.heap.size
 have q3:Sat ((Sl.block N2 OZ [.slice Q l.length c0]*B)*(Sl.block (N+1) EN [.int .i64 0]*(Sl.block N MU [.int .i64 0]*(Ae h s*F)))) (w2.alloc (.cells #[.slice Q l.length c0] OZ)):=by
  rw[←X,←o]
  exact Av (by ac_rfl)
 rw[o,X]
 clear o X q2 this u
 with_reducible refine Calls.mono (g _ _ _ q3) ?_
 rintro e w3 ⟨y,D,rfl,q4⟩
 rw[k.out] at q4⊢
 have q5:Sat (Ae h s*(rw AM 4 (.slice y j D) (Bb d)*(Sl.block (N+1) EN [.int .i64 0]*(Sl.block N MU [.int .i64 0]*(B*F))))) w3:=Sat.Dq (B:=Sl.block N2 OZ [.slice Q l.length c0]) (q4.eq (by ac_rfl))
 haveI:=q5.i
 clear g q3 q4
 by_cases I:1024<j
 · have c:R= .fault 11 s:=by have:=W.out;rw[if_pos I] at this;exact this.symm
   subst c
   have J:(1024:Int)<j:=by omega
   go_wp2
   simp[bodyPostD,Leaves,settle,results,Tryz.results23,go_sem]
   exact ⟨rfl,AD _ _ _⟩
 have J: ¬(1024:Int)<j:=by omega
 have r:after s.sp.taken.length (J5 Ak d s)=R:=by have:=W.out;rwa [if_neg I] at this
 have m:An (rw AM 4 (.slice y j D) (Bb d)) (.slice y j D) d:=by
  have:=Al.rw (F:=Sl.block (N+1) EN [.int .i64 0]*(Sl.block N MU [.int .i64 0]*(B*F*Ae h s))) (q5.eq (by ac_rfl)) ⟨y,D,rfl⟩ (n:=j)
  rw[←k.out] at this⊢
  exact this
 obtain ⟨x,hx⟩:=Aq (BV Ak d s)
 have L:x≠ .bad:=fun e=>HB.out (by
  rw[←r]
  unfold J5 M.bind
  rw[hx,e]
  rfl)
 have K:=fun F w q=>Ii h s d _ (rw AM 4 (.slice y j D) (Bb d)) F w m q (by rw[k.out];omega) (by rw[hx];exact L)
 rw[hx] at K
 have Z: ∀a s3,x= .fault a s3→s.sp.taken.length≤s3.sp.taken.length:=fun a s3 e=>(Aj.fault (En BJ RV d) (hx.trans e)).len
 have HX:Aside (after s.sp.taken.length (M.bind (fun _=>x) (fun t=>M.pure t.DT.As) s)=R):=(by rw[←r];unfold J5 M.bind;rw[hx]:_=_)
 clear m r hx W
 go_wp2_with fail
 with_reducible refine De (a1 _ _ (Af (Ae h s))) fun w4 q6 _=>?_
 clear q5
 go_wp2_with fail
 with_reducible refine Calls.mono (K _ _ (AP (Ae h s) (rw AM 4 (.slice y j D) (Bb d)))) ?_
 rintro e w5 h5
 cases x with
 |bad=>exact absurd rfl L
 | fault a s3 =>
   obtain ⟨rfl,T⟩:=h5
   have hg:=Z a s3 rfl
   have c:R= .fault a (if a=0 then s3 else s3.GN s.sp.taken.length):=HX.out.symm
   subst c
   show bodyPostD _ _ _ (.panic (C1 a)) _ w5
   haveI:=T.i
   refine leaves_cons (f:=83) (args:= #[.pointer (some ⟨N,0,none⟩),.pointer (some ⟨N+1,0,none⟩)]) (by simp) (by simp[go_sem]) ?_
   refine (Po N (N+1) a _ _ _ w5 (AP (Sl.block N MU [.int .i64 0]) (Sl.block (N+1) EN [.int .i64 0]))).mono ?_
   rintro e U V ⟨rfl,rfl,q8⟩
   haveI:=q8.i
   show Leaves _ _ _ _ _ .returning V
   refine leaves_cons (f:=81) (args:= #[.pointer (some ⟨h.t,0,none⟩),.int .i64 s.sp.taken.length,.pointer (some ⟨N+1,0,none⟩)]) (by simp) (by simp[go_sem]) ?_
   by_cases Y:a=0
   ·subst Y
    rw[if_pos rfl]
    refine (OU _ _ (N+1) _ _ V (Af (Sl.block (N+1) EN [.int .i64 0]))).mono ?_
    rintro e U w7 ⟨rfl,rfl,P⟩
    haveI:=P.i
    simp[Leaves,settle,results,Tryz.results23,go_sem]
    exact ⟨rfl,AD _ _ _⟩
   rw[if_neg Y]
   refine (U0 h s3 s.sp.taken.length (N+1) a _ _ V Y hg (AP (Ae h s3) (Sl.block (N+1) EN [.int .i64 a]))).mono ?_
   rintro e U w7 ⟨rfl,rfl,P⟩
   haveI:=P.i
   simp[Leaves,settle,results,Tryz.results23,go_sem]
   exact ⟨rfl,AD _ _ _⟩
 | ok t s3 =>
   obtain ⟨v3,G3,rfl,⟨rfl,rfl⟩,T⟩:=h5
   rw[Aw] at T
   have c:R= .ok t.DT.As s3:=HX.out.symm
   subst c
   obtain ⟨⟨t1,t2,t3,t4⟩,th⟩:=t
   unfold Bd
   haveI:=T.i
   have an:=Xk t1 t2 t3 t4 th
   have ao:=UO t1 t2 t3 t4
   go_wp2
   refine leaves_cons (f:=83) (args:= #[.pointer (some ⟨N,0,none⟩),.pointer (some ⟨N+1,0,none⟩)]) (by simp) (by simp[go_sem]) ?_
   refine (Sk _ _ _).mono ?_
   rintro e U V ⟨rfl,rfl,rfl⟩
   show Leaves _ _ _ _ _ .returning _
   refine leaves_cons (f:=81) (args:= #[.pointer (some ⟨h.t,0,none⟩),.int .i64 s.sp.taken.length,.pointer (some ⟨N+1,0,none⟩)]) (by simp) (by simp[go_sem]) ?_
   refine (OU _ _ (N+1) _ _ _ (Af (Sl.block (N+1) EN [.int .i64 0]))).mono ?_
   rintro e U w7 ⟨rfl,rfl,P⟩
   haveI:=P.i
   simp[Leaves,settle,results,Tryz.results23,go_sem]
   exact ⟨rfl,AD _ _ _⟩
theorem PA(h:Th)(s:TS)(l:List Au)(v:Value)(B F:Ac)(w:World)(a:An B v l)(hs:Sat (Ae h s*(B*F)) w)(hl:l.length≤65536)(hb:Eg l s≠ .bad):
 Calls Tryz.prog 23 #[.pointer (some ⟨h.t,0,none⟩),v] w (WY h (B*F) (Eg l s) (fun z=>KC z 0) (fun b=>KC 0 b)):=by
 cases hm:Bh l with
 |false=>exact Sm h s l v B F w a hs hl hm
 |true=>exact Ny h s l v B F w a hs hl hm hb
theorem o0(a b:List Au):Bb (a++b)=Bb a++Bb b:=by simp[Bb]
def cV(N m:Nat)(c:List Value)(B F:Ac)(e:Ending)(b:World):Prop:= ∃(a':Option Addr)(a:Nat),
 (1024<m∧e= .panicked (C1 13)∧Sat (Sl.block N OZ [.slice a' m a]*(B*F)) b)∨
 (¬1024<m∧e= .returned (.bool true)∧Sat (Sl.block N OZ [.slice a' m a]*(rw AM 4 (.slice a' m a) c*(B*F))) b)
theorem bG(no:Int)(n:Nd)(v:Value)(N:Nat)(o:List Au)(a:Option Addr)(c:Nat)(B F:Ac)(w:World)(I:AG B v n)(hm:may n=true)(K:o.length≤1024)
 (hs:Sat (Sl.block N OZ [.slice a o.length c]*(rw AM 4 (.slice a o.length c) (Bb o)*(B*F))) w):
 Calls Tryz.prog 110 #[.int .i64 no,v,.pointer (some ⟨N,0,none⟩)] w (cV N (o++n.Ag).length (Bb (o++n.Ag)) B F):=by
 obtain ⟨i0,E⟩:=Ey
 obtain ⟨l1,l2⟩:=Cs hm
 obtain ⟨Q,vK,rfl,r,z⟩:=I
 obtain ⟨aE,cE,rfl,s,D⟩:=r.v
 obtain ⟨M,O,rfl,G,H⟩:=Al.v z
 have u:=fun(F:Ac)(w:World)(h:Sat (B*F) w)=>r.src (P:=Tryz.prog) (Gr n.Ag) h
 rw[List.length_append,o0]
 obtain ⟨ne,e⟩:=Aq n.Ag.length
 obtain ⟨l,f⟩:=Aq o.length
 rw[e] at u l1 s⊢
 rw[f] at hs K⊢
 have y:Aside (∀(F:Ac)(w:World),Sat (B*F) w→Src Tryz.prog 4 w (.slice aE ne cE) ne (Bb n.Ag)):=u
 obtain ⟨xs,g⟩:=Aq (Bb o)
 rw[g] at hs⊢
 obtain ⟨m,b⟩:=Aq (l+ne)
 have d:Aside (l+ne=m):=b
 have J:m≤1036:=by omega
 rw[b]
 haveI:=hs.i
 clear r z u e f g
 clear b
 by_cases k:1024<m
 ·have p:Aside (1024<m):=k
  have t:(1024:Int)<m:=by omega
  clear k
  go_enter Tryz.func110,Tryz.ntmps110
  go_wp2_with (at_builtin;refine Ad E rfl (.tmp 6) (.tmp 8) rfl rfl rfl (Af (rw AM 4 (.slice a l c) xs)) (y.out _ _ (Af B)) (by unfold maxLen;omega) (by omega) ?_;intro q c9 L j x;clear x;rw[d.out] at j⊢;haveI:=j.i)
  exact ⟨rfl,q,c9,.inl ⟨p.out,rfl,AD _ _ _⟩⟩
 have p:Aside (¬1024<m):=k
 have t: ¬(1024:Int)<m:=by omega
 clear k
 go_enter Tryz.func110,Tryz.ntmps110
 go_wp2_with (at_builtin;refine Ad E rfl (.tmp 6) (.tmp 8) rfl rfl rfl (Af (rw AM 4 (.slice a l c) xs)) (y.out _ _ (Af B)) (by unfold maxLen;omega) (by omega) ?_;intro q c9 L j x;clear x;rw[d.out] at j⊢;haveI:=j.i)
 go_returns
 exact ⟨q,c9,.inr ⟨p.out,rfl,ET _ _ _ _⟩⟩
theorem Od(N E:Nat)(w:World):
 CallsD Tryz.prog 108 #[.pointer (some ⟨N,0,none⟩),.pointer (some ⟨E,0,none⟩)] .returning w fun e c d=>e= .returned (.tuple #[])∧c= .returning∧d=w:=by
 refine callsD_of_wpS Tryz.func108 rfl fun a f b=>?_
 apply wpS_seq
 apply wpS_region
 simp[wpOpsS,go_sem,recoverD,b,Tryz.ntmps108,Exit.thenS]
 apply wpS_seq
 apply wpS_region
 simp[wpOpsS,go_sem,Exit.thenS]
 refine wpS_cond (t:=false) (by simp[Act.eval,Array.replicate]) ?_
 simp only[Bool.false_eq_true,if_false]
 refine wpS_of_wp (wp_skip ?_)
 cases a
 simp_all[bodyPostS,results,Tryz.results108,Exit.thenS]
theorem Rh(N E:Nat)(c:Int)(a b:Value)(F:Ac)(w:World)(hs:Sat (Sl.block N OZ [a]*(Sl.block E EN [b]*F)) w):
 CallsD Tryz.prog 108 #[.pointer (some ⟨N,0,none⟩),.pointer (some ⟨E,0,none⟩)] (.panicking (C1 c)) w fun e j k=>e= .returned (.tuple #[])∧j= .panicking [{ v:= .iface Y8 (.agg #[.int .i64 c]),recovered:=true }]∧Sat (Sl.block N OZ [.slice none 0 0]*(Sl.block E EN [.int .i64 c]*F)) k:=by
 haveI:=hs.i
 refine callsD_of_wpS Tryz.func108 rfl fun d l f=>?_
 unfold C1 at f
 apply wpS_seq
 apply wpS_region
 simp[wpOpsS,go_sem,recoverD,f,Tryz.ntmps108,Exit.thenS]
 apply wpS_seq
 apply wpS_region
 simp[wpOpsS,go_sem,Exit.thenS]
 refine wpS_cond (t:=true) (by simp[Act.eval,Array.replicate]) ?_
 simp only[if_true]
 refine wpS_of_wp ?_
 go_wp2_with fail
 refine Calls.mono (FM c _ _ hs) ?_
 rintro m n ⟨rfl,g⟩
 haveI:=g.i
 go_wp2
 simp[bodyPostS,results,Tryz.results108]
 exact Av (by ac_rfl)
open Go.QK (A8)
def II(S M N:Nat)(v:Value)(l:List Int):Ac:=Sl.block S Pm [.map (some M)]*(mp A8 M (GX l)*(Sl.block N Wg [v]*rw Cc 2 v (Cf (CA l))))
theorem ZG(S M N:Nat)(no:Int)(n:Nd)(b v:Value)(l:List Int)(B F:Ac)(w:World)(f:AG B b n)(a:l.contains no=true)(hs:Sat (II S M N v l*(B*F)) w):
 Calls Tryz.prog 119 #[.int .i64 no,b,.pointer (some ⟨S,0,none⟩),.pointer (some ⟨N,0,none⟩)] w fun e k=>e= .returned (.bool false)∧Sat (II S M N v l*(B*F)) k:=by
 obtain ⟨j,vK,rfl,c,d⟩:=f
 have m:Aside (Sat (II S M N v l*(B*F)) w):=hs
 have h1:Sat (Sl.block S Pm [.map (some M)]*(mp A8 M (GX l)*(Sl.block N Wg [v]*(rw Cc 2 v (Cf (CA l))*(B*F))))) w:=hs.eq (by unfold II;ac_rfl)
 have g:=Hh no l
 rw[a] at g
 have l1:=fun w=> @La w M no
 haveI:=h1.i
 clear c d hs a
 go_enter Tryz.func119,Tryz.ntmps119
 go_wp2
 go_ret
 refine ⟨rfl,?_⟩
 exact A6 (C:=Sl.block w.heap.size C0 [.bool n.leaf,j,vK]) (by unfold II;ac_rfl)
theorem aN(S M N:Nat)(no:Int)(n:Nd)(p v:Value)(l:List Int)(B F:Ac)(w:World)(z:AG B p n)(f:l.contains no=false)(h0:0≤no)(H:no<1099511627776)(hl:l.length≤1048576)(hs:Sat (II S M N v l*(B*F)) w):
 Calls Tryz.prog 119 #[.int .i64 no,p,.pointer (some ⟨S,0,none⟩),.pointer (some ⟨N,0,none⟩)] w fun e G=>e= .returned (.bool true)∧ ∃v',Sat (II S M N v' (l++ [no])*(B*F)) G:=by
 obtain ⟨o,vK,rfl,x,y⟩:=z
 obtain ⟨i0,q⟩:=UM
 have h0:Sat (rw Cc 2 v (Cf (CA l))*(Sl.block S Pm [.map (some M)]*(mp A8 M (GX l)*(Sl.block N Wg [v]*(B*F))))) w:=hs.eq (by unfold II;ac_rfl)
 obtain ⟨a,m,c,rfl,d,_⟩:=MS h0
 have hm:l.length=m:=by rw[Eu] at d;simp[CA] at d;omega
 have h1:Sat (Sl.block S Pm [.map (some M)]*(mp A8 M (GX l)*(Sl.block N Wg [.slice a m c]*(rw Cc 2 (.slice a m c) (Cf (CA l))*(B*F))))) w:=h0.eq (by ac_rfl)
 have D:=Hh no l
 rw[f] at D
 have l1:=fun w=> @La w M no
 have I:=fun w=> @ZO w M no (.bool true)
 have j:=Ov no l f
 rw[hm] at hl
 haveI:=h1.i
 clear x y hs f d hm h0
 go_enter Tryz.func119,Tryz.ntmps119
 go_wp2_with (at_builtin;go_loud (refine Ad q rfl (.tmp 12) (.tmp 17) rfl rfl rfl (Af (rw Cc 2 (.slice a m c) (Cf (CA l)))) (Src.new (e:=Cc) (s:=2) (vs:= [.int .i64 no,.int .i64 (no+1)]) (Af _) rfl (by intro u k;simp at k;rcases k with rfl|rfl<;>rfl)) (by unfold maxLen;omega) (by omega) ?_;intro a' r J g b;haveI:=g.i;clear b))
 go_ret
 refine ⟨rfl,.slice a' (m+1) r,?_⟩
 have t:Cf (CA (l++ [no]))=Cf (CA l)++ [.int .i64 no,.int .i64 (no+1)]:=by simp[CA,Cf,Pb]
 unfold II
 rw[t,←j]
 exact A6 (C:=Sl.block w.heap.size C0 [.bool n.leaf,o,vK]*Sl.block (Kz Tryz.prog Pm M (A8 no) (Value.bool true) (w.alloc (.cells #[Value.bool n.leaf,o,vK] C0))).heap.size Cc [.int .i64 no,.int .i64 (no+1)]) (by ac_rfl)
end Go.Proofs.YtfhbmblbidcmmaaGreat
namespace Go.Proofs.YtfhbmblbidcmmaaGreat
open Go.RowKit Go.Sl Go.Dk Go.Tr
def k9(h:Th)(N:Nat)(F:Ac)(r:EX TS (List Au))(e:Ending)(b:World):Prop:=match r with
 | .ok o s=>e= .returned (.tuple #[])∧o.length≤1024∧ ∃(a:Option Addr)(c:Nat),Sat (Ae h s*(Sl.block N OZ [.slice a o.length c]*(rw AM 4 (.slice a o.length c) (Bb o)*F))) b
 | .fault n s=>e= .panicked (C1 n)∧ ∃v,Sat (Ae h s*(Sl.block N OZ [v]*F)) b
 | .bad=>False
def WalkC(f:Nat):Prop:= ∀(h:Th)(s:TS)(no:Int)(o:List Au)(N:Nat)(a:Option Addr)(c:Nat)(F:Ac)(w:World),f≤21→o.length≤1024→Sat (Ae h s*(Sl.block N OZ [.slice a o.length c]*(rw AM 4 (.slice a o.length c) (Bb o)*F))) w→E0 Ai f no o s≠ .bad→
 Calls Tryz.prog 109 #[.pointer (some ⟨h.t,0,none⟩),.int .i64 no,.int .i64 (21-(f:Int)),.func (Fn.func 110) #[] #[.pointer (some ⟨N,0,none⟩)]] w (k9 h N F (E0 Ai f no o s))
theorem Yv:WalkC 0:=by
 intro h s no o N a c F w d e hs hb
 have b:E0 Ai 0 no o s= .fault 13 s:=rfl
 rw[b]
 haveI:=hs.i
 go_enter Tryz.func109,Tryz.ntmps109
 go_wp2
 exact ⟨rfl,rfl,.slice a o.length c,AD _ _ _⟩
theorem Yu(f:Nat)(ih:WalkC f):WalkC (f+1):=by
 intro h s no o N a c F w hf ho hs hb
 obtain ⟨R,hR⟩:=Aq (E0 Ai (f+1) no o s)
 rw[hR] at hb⊢
 have M:=FK hb
 have HI:=FK ih
 have T:=FK hR
 have c1:=fun F w q=>Cw h s no F w q (AX T.out M.out)
 have I: ¬(20:Int)<21-((f+1:Nat):Int):=by omega
 obtain ⟨V,W⟩:=Aq ((21:Int)-((f+1:Nat):Int))
 have ae:Aside (V+1=21-(f:Int)):=(by omega:V+1=21-(f:Int))
 have bc: -1≤V∧V≤20:=by omega
 rw[W] at I⊢
 have HO:=FK ho
 haveI:=hs.i
 clear hR hb ih W
 go_enter Tryz.func109,Tryz.ntmps109
 go_wp2_with fail
 with_reducible refine Calls.mono (c1 _ _ (Af (Ae h s))) ?_
 rintro e w1 K
 obtain ⟨r1,p⟩: ∃r,r=Ai no s:=⟨_,rfl⟩
 rw[←p] at K
 rcases r1 with ⟨y,s2⟩|⟨er,s2⟩|_
 rotate_left
 · obtain ⟨rfl,q1⟩:=K
   haveI:=q1.i
   have d:=Bn T.out p.symm
   subst d
   exact ⟨rfl,rfl,.slice a o.length c,AD _ _ _⟩
 · exact absurd (Ch T.out p.symm) M.out
 obtain ⟨v1,L,rfl,⟨hx,x⟩,q1⟩:=K
 have X:=AW T.out p.symm
 have HG:=FK X
 have l:=fun F w q=>bG no y v1 N o a c L F w hx x HO.out q
 have b5:=FK x
 obtain ⟨se,sk,rfl,hE,hK⟩:=id hx
 obtain ⟨a1,u,rfl,aj,ba⟩:=hE.v
 obtain ⟨U,c2,rfl,al,bb⟩:=Al.v hK
 obtain ⟨ao,ap⟩:=Cs x
 obtain ⟨ne,a0⟩:=Aq y.Ag.length
 obtain ⟨n,J⟩:=Aq y.kids.length
 have HK:Aside (AR L (.slice U y.kids.length c2) y.kids∧y.kids.length=n):=⟨hK,J⟩
 rw[a0] at ao aj l⊢
 rw[J] at ap al l⊢
 obtain ⟨N8,H⟩:=Aq w1.heap.size
 haveI:=q1.i
 clear hE hK x a0 J p T c1 hx X
 go_wp2_with fail
 have q4:Sat (Sl.block N OZ [.slice a o.length c]*(rw AM 4 (.slice a o.length c) (Bb o)*(L*(Ae h s2*(Sl.block N8 C0 [.bool y.leaf,.slice a1 ne u,.slice U n c2]*F))))) (w1.alloc (.cells #[.bool y.leaf,.slice a1 ne u,.slice U n c2] C0)):=by
  rw[←H]
  exact Av (by ac_rfl)
 try rw[H]
 clear H q1
 with_reducible refine Calls.mono (l _ _ q4) ?_
 rintro e w3 ⟨a3,c3,h3⟩
 rcases h3 with ⟨hc,rfl,q5⟩|⟨hc,rfl,q5⟩
 · have d:R= .fault 13 s2:=by have:=HG.out;rw[if_pos hc] at this;exact this.symm
   subst d
   haveI:=q5.i
   exact ⟨rfl,rfl,.slice a3 (o++y.Ag).length c3,AD _ _ _⟩
 have G:=HG.out
 rw[if_neg hc] at G
 have O:=FK G
 obtain ⟨o3,a6⟩:=Aq (o++y.Ag)
 rw[a6] at hc q5 O
 haveI:=q5.i
 have q6:Sat (Ae h s2*(Sl.block N OZ [.slice a3 o3.length c3]*(rw AM 4 (.slice a3 o3.length c3) (Bb o3)*(L*(Sl.block N8 C0 [.bool y.leaf,.slice a1 ne u,.slice U n c2]*F))))) w3:=Av (by ac_rfl)
 haveI:=q6.i
 clear q4 q5 l G a6 HG
 go_wp2_with fail
 go_loopg [26] n (fun g aw wr=> ∃(i:Nat)(t:List Au)(B:Option Addr)(c4:Nat)(s4:TS),aw= .int .i64 i∧i≤n∧Aside (g=n-i∧t.length≤1024∧Jc (E0 Ai f) (y.kids.drop i) t s4=R)∧
  Sat (Ae h s4*(Sl.block N OZ [.slice B t.length c4]*(rw AM 4 (.slice B t.length c4) (Bb t)*(L*(Sl.block N8 C0 [.bool y.leaf,.slice a1 ne u,.slice U n c2]*F))))) wr)
 case atStart=>exact ⟨0,o3,a3,c3,s2,rfl,by omega,⟨rfl,by omega,O.out⟩,q6⟩
 obtain ⟨i,t,B,c4,s4,rfl,hi,A,q7⟩:=hrel
 clear q6
 haveI:=q7.i
 by_cases bd:i<n
 · have Z:(i:Int)<n:=by omega
   obtain ⟨k,hk⟩: ∃k,y.kids[i]?=some k:=⟨_,List.getElem?_eq_getElem (by have:=HK.out.2;omega)⟩
   obtain ⟨b,q,rfl,r1,r2,r3,r4⟩:=Co HK.out.1 hk
   have hd:y.kids.drop i=k::y.kids.drop (i+1):=by
    obtain ⟨u1,u2⟩:=List.getElem?_eq_some_iff.1 hk
    rw[List.drop_eq_getElem_cons u1,u2]
   have D:=A.out.2.2
   rw[hd] at D
   have z:=FK D
   have j:=fun F w q=>HI.out h s4 k.As t N B c4 F w (by omega) A.out.2.1 q (AX z.out M.out)
   obtain ⟨m,hm⟩:=Aq (E0 Ai f k.As t s4)
   have P:=FK hm
   rw[hm,←ae.out] at j
   have hw:=Bc (V+1) (by omega)
   have aq:=AX z.out M.out
   obtain ⟨k1,k2,k3,k4⟩:=k
   simp only at r1 r2 r3 r4 j z P
   clear hk hd D hm
   go_wp2_with fail
   with_reducible refine Calls.mono (j _ _ (RW (Ae h s4) (Sl.block N OZ [.slice B t.length c4]) (rw AM 4 (.slice B t.length c4) (Bb t)))) ?_
   rintro e w5 h5
   cases m with
   |bad=>exact absurd P.out (AX z.out M.out)
   | fault er s5 =>
     obtain ⟨rfl,v5,q8⟩:=h5
     haveI:=q8.i
     have d:=Bn z.out P.out
     subst d
     exact ⟨rfl,rfl,v5,AD _ _ _⟩
   | ok o5 s5 =>
     obtain ⟨rfl,a7,a5,c5,q8⟩:=h5
     have Y:=AW z.out P.out
     have Q:Aside (o5.length≤1024∧Jc (E0 Ai f) (y.kids.drop (i+1)) o5 s5=R):=⟨a7,Y⟩
     haveI:=q8.i
     clear j aq Y a7 z P q7
     go_wp2_with fail
     go_roundg (n-(i+1))
     case measure=>have:=A.out.1;omega
     case rel=>exact ⟨i+1,o5,a5,c5,s5,by go_num,by omega,⟨rfl,Q.out.1,Q.out.2⟩,Fx _ _ _ _ _ _⟩
 have Z: ¬(i:Int)<n:=by omega
 obtain rfl:i=n:=by omega
 have D:=A.out.2.2
 rw[List.drop_of_length_le (by rw[HK.out.2];exact Nat.le_refl _)] at D
 have d:=D.symm
 subst d
 have ah:=FK A.out.2.1
 clear D A
 go_wp2
 go_end0
 exact ⟨rfl,ah.out,B,c4,ET _ _ _ _⟩
theorem Y'(f:Nat):WalkC f:=by induction f with
 |zero=>exact Yv
 |succ f a=>exact Yu f a
end Go.Proofs.YtfhbmblbidcmmaaGreat
namespace Go.Tr
def Gv{σ:Type}(g:Int→List Int→M σ (List Int)):List Kd→List Int→M σ (List Int)
 | [],out=>M.pure out
 |k::ks,out=>M.bind (g k.As out) (Gv g ks)
def BF{σ:Type}(rd:Int→M σ Nd):Nat→Int→List Int→M σ (List Int)
 |0,_,_=>M.fail 13
 |f+1,no,l=>M.bind (rd no) fun n=>if l.contains no=true then M.pure l else if 1048576<l.length∨no<0∨1099511627776≤no then (fun _=> .bad) else Gv (BF rd f) n.kids (l++ [no])
end Go.Tr
namespace Go.Proofs.YtfhbmblbidcmmaaGreat
open Go.RowKit Go.Sl Go.Dk Go.Tr
def YC(h:Th)(S M N:Nat)(F:Ac)(r:EX TS (List Int))(e:Ending)(a:World):Prop:=match r with
 | .ok o s=>e= .returned (.tuple #[])∧ ∃v,Sat (Ae h s*(II S M N v o*F)) a
 | .fault n s=>e= .panicked (C1 n)∧ ∃v o,Sat (Ae h s*(II S M N v o*F)) a
 | .bad=>False
def Se(f:Nat):Prop:= ∀(h:Th)(s:TS)(no:Int)(o:List Int)(S M N:Nat)(v:Value)(F:Ac)(w:World),f≤21→Sat (Ae h s*(II S M N v o*F)) w→BF Ai f no o s≠ .bad→
 Calls Tryz.prog 109 #[.pointer (some ⟨h.t,0,none⟩),.int .i64 no,.int .i64 (21-(f:Int)),.func (Fn.func 119) #[] #[.pointer (some ⟨S,0,none⟩),.pointer (some ⟨N,0,none⟩)]] w (YC h S M N F (BF Ai f no o s))
theorem VX:Se 0:=by
 intro h s no o S M N v F w b hs hb
 have a:BF Ai 0 no o s= .fault 13 s:=rfl
 rw[a]
 haveI:=hs.i
 go_enter Tryz.func109,Tryz.ntmps109
 go_wp2
 exact ⟨rfl,rfl,v,o,Ap _ _⟩
theorem VW(f:Nat)(ih:Se f):Se (f+1):=by
 intro h s no o S U N v F w hf hs hb
 obtain ⟨R,hR⟩:=Aq (BF Ai (f+1) no o s)
 rw[hR] at hb⊢
 have J:=FK hb
 have HI:=FK ih
 have P:=FK hR
 have c1:=fun F w q=>Cw h s no F w q (AX P.out J.out)
 have D: ¬(20:Int)<21-((f+1:Nat):Int):=by omega
 obtain ⟨T,W⟩:=Aq ((21:Int)-((f+1:Nat):Int))
 have a6:Aside (T+1=21-(f:Int)):=(by omega:T+1=21-(f:Int))
 have b3: -1≤T∧T≤20:=by omega
 rw[W] at D⊢
 haveI:=hs.i
 clear hR hb ih W
 go_enter Tryz.func109,Tryz.ntmps109
 go_wp2_with fail
 with_reducible refine Calls.mono (c1 _ _ (Af (Ae h s))) ?_
 rintro e w1 I
 obtain ⟨r1,p⟩: ∃r,r=Ai no s:=⟨_,rfl⟩
 rw[←p] at I
 rcases r1 with ⟨y,s2⟩|⟨er,s2⟩|_
 rotate_left
 · obtain ⟨rfl,q1⟩:=I
   haveI:=q1.i
   have a:=Bn P.out p.symm
   subst a
   exact ⟨rfl,rfl,v,o,AD _ _ _⟩
 · exact absurd (Ch P.out p.symm) J.out
 obtain ⟨v1,u,rfl,⟨hx,G⟩,q1⟩:=I
 have X:=AW P.out p.symm
 have HG:=FK X
 have az:=FK G
 obtain ⟨se,sk,rfl,hE,hK⟩:=id hx
 obtain ⟨Q,l,rfl,ab,b1⟩:=hE.v
 obtain ⟨K,c2,rfl,ad,b2⟩:=Al.v hK
 obtain ⟨ag,ah⟩:=Cs G
 obtain ⟨ne,H⟩:=Aq y.Ag.length
 obtain ⟨d,t⟩:=Aq y.kids.length
 have HK:Aside (AR u (.slice K y.kids.length c2) y.kids∧y.kids.length=d):=⟨hK,t⟩
 rw[H] at ag ab⊢
 rw[t] at ah ad⊢
 have HX:Aside (AG u (.agg #[.bool y.leaf,.slice Q ne l,.slice K d c2]) y):=(by rw[←H,←t];exact hx:AG _ _ _)
 obtain ⟨N8,B⟩:=Aq w1.heap.size
 haveI:=q1.i
 clear hE hK G H t p P c1 hx X
 go_wp2_with fail
 have q4:Sat (II S U N v o*(u*(Ae h s2*(Sl.block N8 C0 [.bool y.leaf,.slice Q ne l,.slice K d c2]*F)))) (w1.alloc (.cells #[.bool y.leaf,.slice Q ne l,.slice K d c2] C0)):=by
  rw[←B]
  exact Av (by ac_rfl)
 try rw[B]
 clear B q1
 cases n:o.contains no
 rotate_left
 · with_reducible refine Calls.mono (ZG S U N no y _ v o u _ _ HX.out n q4) ?_
   rintro e w3 ⟨rfl,q5⟩
   have a:R= .ok o s2:=by have:=HG.out;rw[if_pos n] at this;exact this.symm
   subst a
   haveI:=q5.i
   clear q4
   go_wp2
   go_end0
   exact ⟨rfl,v,AD _ _ _⟩
 have j:=HG.out
 rw[if_neg (by rw[n];decide)] at j
 have V: ¬(1048576<o.length∨no<0∨1099511627776≤no):=fun hx=>by rw[if_pos hx] at j;exact J.out j.symm
 rw[if_neg V] at j
 have M:=FK j
 with_reducible refine Calls.mono (aN S U N no y _ v o u _ _ HX.out n (by omega) (by omega) (by omega) q4) ?_
 rintro e w3 ⟨rfl,v3,q5⟩
 obtain ⟨o3,a0⟩:=Aq (o++ [no])
 rw[a0] at q5 M
 haveI:=q5.i
 have q6:Sat (Ae h s2*(II S U N v3 o3*(u*(Sl.block N8 C0 [.bool y.leaf,.slice Q ne l,.slice K d c2]*F)))) w3:=Av (by ac_rfl)
 haveI:=q6.i
 clear q4 q5 j a0 HG V n
 go_wp2_with fail
 go_loopg [26] d (fun g am wr=> ∃(i:Nat)(L:List Int)(v4:Value)(s4:TS),am= .int .i64 i∧i≤d∧Aside (g=d-i∧Gv (BF Ai f) (y.kids.drop i) L s4=R)∧
  Sat (Ae h s4*(II S U N v4 L*(u*(Sl.block N8 C0 [.bool y.leaf,.slice Q ne l,.slice K d c2]*F)))) wr)
 case atStart=>exact ⟨0,o3,v3,s2,rfl,by omega,⟨rfl,M.out⟩,q6⟩
 obtain ⟨i,L,v4,s4,rfl,hi,A,q7⟩:=hrel
 clear q6
 haveI:=q7.i
 by_cases b4:i<d
 · have Z:(i:Int)<d:=by omega
   obtain ⟨k,hk⟩: ∃k,y.kids[i]?=some k:=⟨_,List.getElem?_eq_getElem (by have:=HK.out.2;omega)⟩
   obtain ⟨b,q,rfl,r1,r2,r3,r4⟩:=Co HK.out.1 hk
   have hd:y.kids.drop i=k::y.kids.drop (i+1):=by
    obtain ⟨u1,u2⟩:=List.getElem?_eq_some_iff.1 hk
    rw[List.drop_eq_getElem_cons u1,u2]
   have z:=A.out.2
   rw[hd] at z
   have x:=FK z
   have c:=fun F w q=>HI.out h s4 k.As L S U N v4 F w (by omega) q (AX x.out J.out)
   obtain ⟨m,hm⟩:=Aq (BF Ai f k.As L s4)
   have O:=FK hm
   rw[hm,←a6.out] at c
   have hw:=Bc (T+1) (by omega)
   have ai:=AX x.out J.out
   obtain ⟨k1,k2,k3,k4⟩:=k
   simp only at r1 r2 r3 r4 c x O
   clear hk hd z hm
   go_wp2_with fail
   with_reducible refine Calls.mono (c _ _ (AP (Ae h s4) (II S U N v4 L))) ?_
   rintro e w5 h5
   cases m with
   |bad=>exact absurd O.out (AX x.out J.out)
   | fault er s5 =>
     obtain ⟨rfl,v5,o5,q8⟩:=h5
     haveI:=q8.i
     have a:=Bn x.out O.out
     subst a
     exact ⟨rfl,rfl,v5,o5,AD _ _ _⟩
   | ok o5 s5 =>
     obtain ⟨rfl,v5,q8⟩:=h5
     have Y:=AW x.out O.out
     have a9:=FK Y
     haveI:=q8.i
     clear c ai Y x O q7
     go_wp2_with fail
     go_roundg (d-(i+1))
     case measure=>have:=A.out.1;omega
     case rel=>exact ⟨i+1,o5,v5,s5,by go_num,by omega,⟨rfl,a9.out⟩,EE _ _ _ _ _⟩
 have Z: ¬(i:Int)<d:=by omega
 obtain rfl:i=d:=by omega
 have z:=A.out.2
 rw[List.drop_of_length_le (by rw[HK.out.2];exact Nat.le_refl _)] at z
 have a:=z.symm
 subst a
 clear z A
 go_wp2
 go_end0
 exact ⟨rfl,v4,AD _ _ _⟩
theorem Yt(f:Nat):Se f:=by induction f with
 |zero=>exact VX
 |succ f a=>exact VW f a
