/- treeFails holds for every input. No condition. (part 40) -/
import Derived.Test.YtfhbmblbidcmmaaGreatYa34
import Derived.Test.YtfhbmblbidcmmaaGreatYa39
set_option linter.all false
set_option maxRecDepth 100000
set_option maxHeartbeats 3200000
namespace Go.Proofs.YtfhbmblbidcmmaaGreat
open Go.RowKit Go.Sl Go.Dk Go.Tr
theorem UL(a b c d e:Int)(w:World):Sem.run Tryz.prog (Instr.field CG (.agg #[.int .i64 a,.int .i64 b,.int .i64 c,.int .i64 d,.int .i64 e]) 0) w= .ok (.agg #[.int .i64 a,.int .i64 b,.int .i64 c,.int .i64 d]) w:=by kernel_rfl
theorem SB(a b c d:Int)(w:World):Sem.run Tryz.prog (Instr.field Oa (.agg #[.int .i64 a,.int .i64 b,.int .i64 c,.int .i64 d]) 0) w= .ok (.int .i64 a) w:=by kernel_rfl
theorem OH: ∀(l o:List As),(l.foldl A6 o).length≤o.length+l.length
 | [],o=>by simp
 | x :: l, o => by
  have a:=OH l (A6 o x)
  have b:=JN o x
  simp only[List.foldl_cons,List.length_cons]
  omega
theorem Hm(l:List As):(join l).length≤l.length:=by
 have:=OH l []
 unfold join
 rw[List.length_nil,Nat.zero_add] at this
 exact this
instance l6{h:Th}{s:TS} :DA (Ad h s) h.t 0 (.pointer (some ⟨h.C,0,none⟩)):=⟨by
 unfold Ad NT
 exact DA.out⟩
instance l7{h:Th}{s:TS} :DA (Ad h s) h.t 1 (.pointer (some ⟨h.S,0,none⟩)):=⟨by
 unfold Ad NT
 exact DA.out⟩
theorem L1(h:Th)(s:TS)(F:Ac)(w:World)(hs:Sat (Ad h s*F) w):
 Calls Tryz.prog 82 #[.pointer (some ⟨h.S,0,none⟩)] w fun e a=>e= .returned (.int .i64 s.sp.taken.length)∧Sat (Ad h s*F) a:=by
 obtain ⟨hi,hp⟩:=Ek hs
 refine (T2 h.S s.sp _ w (hp.eq (by ac_rfl):Sat (BA h.S s.sp*(AD h.C h.D s.ck*(Sl.block h.t St [.pointer (some ⟨h.C,0,none⟩),.pointer (some ⟨h.S,0,none⟩)]*F))) w)).mono ?_
 rintro e a ⟨b,c⟩
 exact ⟨b,CM hi (c.eq (by ac_rfl))⟩
abbrev M9:TypeId:=29
theorem RG{B:Ac}{v:Value}{l:List As}(b:Nat)(a:Aq B v l):PE (Sl.block b M9 [v]*B) (.slice (some ⟨b,0,none⟩) 1 1) [l]:=by
 refine ⟨[v],⟨rfl,_,_,rfl,Nat.le_refl _,by omega,fun j u c=>⟨b,0,rfl,?_⟩⟩,rfl,fun i x d hx hl=>?_⟩
 ·haveI:At [v] j u:=⟨c⟩
  rw[Nat.zero_add]
  exact inferInstance
 cases i with
 |zero=>simp at hx hl;subst hx;subst hl;exact Al.right a
 |succ i=>simp at hx
theorem Wi(h:Th)(s:TS)(l:List As)(v:Value)(B F:Ac)(w:World)(b:Aq B v l)(hs:Sat (Ad h s*(B*F)) w)(hl:l.length≤65536)(hm:BD l=false):
 Calls Tryz.prog 23 #[.pointer (some ⟨h.t,0,none⟩),v] w (Su h (B*F) (ER l s) (fun z=>Ki z 0) (fun f=>Ki 0 f)):=by
 obtain ⟨m,n,rfl,g,j⟩:=b.v
 have d:ER l s= .fault 1 s:=by unfold ER;rw[if_pos hm]
 rw[d]
 have a:=fun F w q=>Fw l _ B F w b q (by omega)
 rw[hm] at a
 have c:Sat (B*(Ad h s*F)) w:=hs.eq (by ac_rfl)
 haveI:=c.i
 clear d b hs c
 go_enter_defers Tryz.func23,Tryz.ntmps23
 go_wp2_with fail
 with_reducible refine Calls.mono (a _ _ (Ae B)) ?_
 rintro e o ⟨rfl,k⟩
 haveI:=k.i
 go_wp2
 simp[bodyPostD,Leaves,settle,results,Tryz.results23,go_sem]
 exact ⟨rfl,AR _ _ _⟩
theorem Qz(h:Th)(s:TS)(l:List As)(v:Value)(B F:Ac)(w:World)(m:Aq B v l)(hs:Sat (Ad h s*(B*F)) w)(hl:l.length≤65536)(hm:BD l=true)(hb:ER l s≠ .bad):
 Calls Tryz.prog 23 #[.pointer (some ⟨h.t,0,none⟩),v] w (Su h (B*F) (ER l s) (fun z=>Ki z 0) (fun c=>Ki 0 c)):=by
 have au: ∀(fn:Fn)(first cap:Array Value)(w:World),(Instr.makeFunc fn first cap).run Tryz.prog w= .ok (.func fn first cap) w:=fun _ _ _ _=>rfl
 obtain ⟨Q,T,rfl,an,ao⟩:=m.v
 obtain ⟨R,p⟩: ∃R,ER l s=R:=⟨_,rfl⟩
 rw[p] at hb⊢
 have HB:Aside (R≠ .bad):=hb
 unfold ER at p
 rw[if_neg (by rw[hm];simp)] at p
 have u:=fun F w q=>Fw l _ B F w m q (by omega)
 rw[hm] at u
 have HM:Aside ((∀x∈l,Ai x=true)∧Ab l≤1048576):=by
  rw[Ej] at hm
  simp only[Bool.and_eq_true,List.all_eq_true,decide_eq_true_eq] at hm
  exact hm
 have j:=fun b F w q=>MV [l] (.slice (some ⟨b,0,none⟩) 1 1) (Sl.block b M9 [.slice Q l.length T]*B) F w (RG b m) q (by simp) (by simp;omega) (by simpa using HM.out.1) (by have:=HM.out.2;simp;omega)
 have ef:([l]:List (List As)).flatten=l:=by simp
 rw[ef] at j
 have G:=Hm l
 obtain ⟨a,H⟩: ∃a,join l=a:=⟨_,rfl⟩
 rw[H] at j p G
 obtain ⟨d,O⟩: ∃d,a.length=d:=⟨_,rfl⟩
 rw[O] at G p
 have k:Aside (a.length=d):=O
 have X:Aside ((if 1024<d then DR.fault 11 s else after s.sp.taken.length (Ib Ag a s))=R):=p
 have a2:=L1 h s
 have h2:Sat (B*(Ad h s*F)) w:=hs.eq (by ac_rfl)
 haveI:=h2.i
 clear m hs h2 p hb hm H ef
 go_enter_defers Tryz.func23,Tryz.ntmps23
 go_wp2_with fail
 with_reducible refine Calls.mono (u _ _ (Ae B)) ?_
 rintro e w2 ⟨rfl,q2⟩
 haveI:=q2.i
 go_wp2_with fail
 obtain ⟨N,Y⟩: ∃N,w.heap.size=N:=⟨_,rfl⟩
 obtain ⟨N2,o⟩: ∃N,w2.heap.size=N:=⟨_,rfl⟩
 have q3:Sat ((Sl.block N2 M9 [.slice Q l.length T]*B)*(Sl.block (N+1) Eu [.int .i64 0]*(Sl.block N Il [.int .i64 0]*(Ad h s*F)))) (w2.alloc (.cells #[.slice Q l.length T] M9)):=by
  rw[←Y,←o]
  exact A8 (by ac_rfl)
 rw[o,Y]
 clear o Y q2 this u
 with_reducible refine Calls.mono (j _ _ _ q3) ?_
 rintro e w3 ⟨y,D,rfl,q4⟩
 rw[k.out] at q4⊢
 have q5:Sat (Ad h s*(rw A9 4 (.slice y d D) (AQ a)*(Sl.block (N+1) Eu [.int .i64 0]*(Sl.block N Il [.int .i64 0]*(B*F))))) w3:=Sat.CR (B:=Sl.block N2 M9 [.slice Q l.length T]) (q4.eq (by ac_rfl))
 haveI:=q5.i
 clear j q3 q4
 by_cases I:1024<d
 · have g:R= .fault 11 s:=by have:=X.out;rw[if_pos I] at this;exact this.symm
   subst g
   have J:(1024:Int)<d:=by omega
   go_wp2
   simp[bodyPostD,Leaves,settle,results,Tryz.results23,go_sem]
   exact ⟨rfl,AR _ _ _⟩
 have J: ¬(1024:Int)<d:=by omega
 have r:after s.sp.taken.length (Ib Ag a s)=R:=by have:=X.out;rwa [if_neg I] at this
 have m:Aq (rw A9 4 (.slice y d D) (AQ a)) (.slice y d D) a:=by
  have:=Al.rw (F:=Sl.block (N+1) Eu [.int .i64 0]*(Sl.block N Il [.int .i64 0]*(B*F*Ad h s))) (q5.eq (by ac_rfl)) ⟨y,D,rfl⟩ (n:=d)
  rw[←k.out] at this⊢
  exact this
 obtain ⟨x,hx⟩: ∃x,BO Ag a s=x:=⟨_,rfl⟩
 have L:x≠ .bad:=fun e=>HB.out (by
  rw[←r]
  unfold Ib M.bind
  rw[hx,e]
  rfl)
 have K:=fun F w q=>FR h s a _ (rw A9 4 (.slice y d D) (AQ a)) F w m q (by rw[k.out];omega) (by rw[hx];exact L)
 rw[hx] at K
 have a1: ∀c s3,x= .fault c s3→s.sp.taken.length≤s3.sp.taken.length:=fun c s3 e=>(Af.fault (Ea Bw F8 a) (hx.trans e)).len
 have HX:Aside (after s.sp.taken.length (M.bind (fun _=>x) (fun t=>M.pure t.DK.Ay) s)=R):=(by rw[←r];unfold Ib M.bind;rw[hx]:_=_)
 clear m r hx X
 go_wp2_with fail
 with_reducible refine Calls.mono (a2 _ _ (Ae (Ad h s))) ?_
 rintro e w4 ⟨rfl,q6⟩
 haveI:=q6.i
 clear q5
 go_wp2_with fail
 with_reducible refine Calls.mono (K _ _ (AY (Ad h s) (rw A9 4 (.slice y d D) (AQ a)))) ?_
 rintro e w5 h5
 cases x with
 |bad=>exact absurd rfl L
 | fault c s3 =>
   obtain ⟨rfl,U⟩:=h5
   have hg:=a1 c s3 rfl
   have g:R= .fault c (if c=0 then s3 else s3.Ds s.sp.taken.length):=HX.out.symm
   subst g
   show bodyPostD _ _ _ (.panic (D2 c)) _ w5
   haveI:=U.i
   refine leaves_cons (f:=83) (args:= #[.pointer (some ⟨N,0,none⟩),.pointer (some ⟨N+1,0,none⟩)]) (by simp) (by simp[go_sem]) ?_
   refine (Of N (N+1) c _ _ _ w5 (AY (Sl.block N Il [.int .i64 0]) (Sl.block (N+1) Eu [.int .i64 0]))).mono ?_
   rintro e V W ⟨rfl,rfl,q8⟩
   haveI:=q8.i
   show Leaves _ _ _ _ _ .returning W
   refine leaves_cons (f:=81) (args:= #[.pointer (some ⟨h.t,0,none⟩),.int .i64 s.sp.taken.length,.pointer (some ⟨N+1,0,none⟩)]) (by simp) (by simp[go_sem]) ?_
   by_cases Z:c=0
   ·subst Z
    rw[if_pos rfl]
    refine (Ja _ _ (N+1) _ _ W (Ae (Sl.block (N+1) Eu [.int .i64 0]))).mono ?_
    rintro e V w7 ⟨rfl,rfl,P⟩
    haveI:=P.i
    simp[Leaves,settle,results,Tryz.results23,go_sem]
    exact ⟨rfl,AR _ _ _⟩
   rw[if_neg Z]
   refine (Li h s3 s.sp.taken.length (N+1) c _ _ W Z hg (AY (Ad h s3) (Sl.block (N+1) Eu [.int .i64 c]))).mono ?_
   rintro e V w7 ⟨rfl,rfl,P⟩
   haveI:=P.i
   simp[Leaves,settle,results,Tryz.results23,go_sem]
   exact ⟨rfl,AR _ _ _⟩
 | ok t s3 =>
   obtain ⟨v3,G3,rfl,⟨rfl,rfl⟩,U⟩:=h5
   rw[Am] at U
   have g:R= .ok t.DK.Ay s3:=HX.out.symm
   subst g
   obtain ⟨⟨t1,t2,t3,t4⟩,th⟩:=t
   unfold AH
   haveI:=U.i
   have ap:=UL t1 t2 t3 t4 th
   have aq:=SB t1 t2 t3 t4
   go_wp2
   refine leaves_cons (f:=83) (args:= #[.pointer (some ⟨N,0,none⟩),.pointer (some ⟨N+1,0,none⟩)]) (by simp) (by simp[go_sem]) ?_
   refine (Qy _ _ _).mono ?_
   rintro e V W ⟨rfl,rfl,rfl⟩
   show Leaves _ _ _ _ _ .returning _
   refine leaves_cons (f:=81) (args:= #[.pointer (some ⟨h.t,0,none⟩),.int .i64 s.sp.taken.length,.pointer (some ⟨N+1,0,none⟩)]) (by simp) (by simp[go_sem]) ?_
   refine (Ja _ _ (N+1) _ _ _ (Ae (Sl.block (N+1) Eu [.int .i64 0]))).mono ?_
   rintro e V w7 ⟨rfl,rfl,P⟩
   haveI:=P.i
   simp[Leaves,settle,results,Tryz.results23,go_sem]
   exact ⟨rfl,AR _ _ _⟩
theorem O0(h:Th)(s:TS)(l:List As)(v:Value)(B F:Ac)(w:World)(a:Aq B v l)(hs:Sat (Ad h s*(B*F)) w)(hl:l.length≤65536)(hb:ER l s≠ .bad):
 Calls Tryz.prog 23 #[.pointer (some ⟨h.t,0,none⟩),v] w (Su h (B*F) (ER l s) (fun z=>Ki z 0) (fun b=>Ki 0 b)):=by
 cases hm:BD l with
 |false=>exact Wi h s l v B F w a hs hl hm
 |true=>exact Qz h s l v B F w a hs hl hm hb
