/- censusSound holds for every input. No condition. -/
import Derived.Test.YtfhbmblbidcmmaaGreatRows
import Derived.Test.YtfhbmblbidcmmaaGreatWa49
import Derived.ShutString
set_option linter.all false
set_option maxRecDepth 1000000
set_option maxHeartbeats 1000000000
namespace Go.Proofs.YtfhbmblbidcmmaaGreat.censusSound
open Go.ChangeShapes Go.WideShapes Go.ChangeAt Go.RowKit
open Go.ChangeMaps (open_string shut_string)
theorem own:ownKnob Tryz.prog.godebug=none:=by kernel_rfl
theorem laidOut:laidOutB Tryz.prog=true:=by kernel_rfl
theorem walk{H:Type}(enc:TypeId×Value→H)(x0 k:Value)(d:Option Addr)(c b:Nat)(f:Int)(g:Int)(w:World)(r0:(∃a z,DataW.trod enc Tryz.prog w 0 (fun _=>true) true a 26 [x0]=some z)∧(∃a z,DataW.trod enc Tryz.prog w 0 (fun _=>true) true a 26 [k]=some z))(r1: ∃a x,DataW.trod enc Tryz.prog w 0 (fun _=>true) true a 117 [.slice d c b]=some x)(v:(Lit.int .i64 f).wf=true)(y:(Lit.int .i64 g).wf=true):
 Calls Tryz.prog 10 #[.agg #[x0,k],.slice d c b,.int .i64 f,.int .i64 g] w fun e u=>e= .returned (.bool true)∧Below w.heap.size w u:=by
 obtain ⟨l,s,n,O,rfl,q⟩:=Qw r0.1
 obtain ⟨m,t,o,T,rfl,r⟩:=Qw r0.2
 obtain ⟨cs,rfl,p,j,i⟩:=Wn r1
 exact Mq O T l s n m t o _ cs f g w (Sl.Reads.Fq q) (Sl.Reads.Fq r) p i j
theorem lifted(os:Os)(c:os.Started)(H:Type)(enc:TypeId×Value→H):
 ReturnsInHanded {} Tryz.checked os 10 .any (Rows.censusSoundSpec.pre6 enc Tryz.prog Tryz.f10 Rows.censusSoundRow.domain false) (Rows.censusSoundSpec.post enc Tryz.prog Tryz.f10 false true false false):=by
 refine returnsInHanded_of_change (C:=Tryz.checked) own c (by kernel_rfl) Tryz.func10
  (ChangeSpec.witness6 (enc:=enc) (C:=Tryz.checked) false ⟨#[], #[.agg #[.slice none 0 0,.slice none 0 0],.slice none 0 0,.int .i64 0,.int .i64 0],[]⟩ 8 (by kernel_rfl) (by kernel_rfl) (by kernel_rfl) (by kernel_rfl)) ?_
 intro W k args K gs before b y z _
 have a: ∀(j:Nat) t v,Tryz.f10.params[j]?=some t→args[j]?=some v→Value.okWide Tryz.prog W .any k t v:=b
 have o:=y
 obtain ⟨p,q,n,T,rfl,V,X⟩:=y
 have w:DataW.TrodAll enc Tryz.prog W 0 (fun _=>true) true Tryz.f10.params.toList args.toList K p:=n
 rw[Tryz.params10] at w a
 obtain ⟨v0,a7,d0,L,Y,q0,r,rfl,rfl,h0,t0⟩:=trodAll_cons w
 obtain ⟨v1,a8,d1,M,Z,q1,rfl,rfl,rfl,h1,t1⟩:=trodAll_cons t0
 obtain ⟨v2,a9,d2,O,p2,q2,rfl,rfl,rfl,Q,t2⟩:=trodAll_cons t1
 obtain ⟨v3,aa,d3,P,p3,q3,rfl,rfl,rfl,R,t3⟩:=trodAll_cons t2
 obtain ⟨rfl,rfl,rfl⟩:=trodAll_nil t3
 obtain rfl:args= #[v0,v1,v2,v3]:=by cases args;simp_all
 obtain ⟨rfl,rfl⟩:=trodVars_none T
 have k0:=h0
 have s: ∀x∈Y,x.block<W.heap.size:=by obtain ⟨m,hm⟩:=k0;exact DataW.trod_lt m _ _ _ hm
 obtain ⟨x0,y0,rfl,r0,u0⟩:=Zo Tryz.underlying116 rfl rfl (by kernel_rfl) (by kernel_rfl) (by kernel_rfl) (a 0 116 v0 rfl rfl) h0
 obtain ⟨i,f,d,rfl⟩:=okWide_slice Tryz.underlying117 (a 1 117 v1 rfl rfl)
 have B:=h1
 have u: ∀x∈Z,x.block<W.heap.size:=by obtain ⟨m,hm⟩:=B;exact DataW.trod_lt m _ _ _ hm
 have r1: ∃l x,DataW.trod enc Tryz.prog W 0 (fun _=>true) true l 117 [.slice i f d]=some x:=by obtain ⟨m,hm⟩:=h1;exact ⟨m,_,hm⟩
 obtain ⟨I,rfl,rfl,rfl,D⟩:=open_int Tryz.underlying3 (a 2 3 v2 rfl rfl) Q
 obtain ⟨J,rfl,rfl,rfl,G⟩:=open_int Tryz.underlying3 (a 3 3 v3 rfl rfl) R
 clear n b
 refine (walk enc x0 y0 i f d I J W ⟨r0,u0⟩ r1 D G).mono fun e W' ⟨U,g⟩=>?_
 subst U
 exact ⟨_,rfl,_,_,_,[],_,[],o,trodAll_mk1 (shut_bool Tryz.underlying4 _),(trodAll_cons_mk (Below.trod laidOut (by kernel_rfl) (of_decide_eq_true (by kernel_rfl)) k0 g s) (trodAll_cons_mk (Below.trod laidOut (by kernel_rfl) (of_decide_eq_true (by kernel_rfl)) B g u) (trodAll_cons_mk (shut_int Tryz.underlying3 D) (trodAll_cons_mk (shut_int Tryz.underlying3 G) trodAll_mk0)))),rfl,g.frame _,fun h=>by cases h⟩
theorem closed:joinedFacts Tryz.pinned.checked.prog 10 Tryz.f10 Rows.censusSoundSpec Rows.censusSoundRow=true:=by
 unfold joinedFacts
 simp only[Bool.and_eq_true]
 repeat' apply And.intro
 all_goals (as_aux_lemma=>kernel_rfl)
theorem over:Rows.censusSoundRow.holds Tryz.pinned (OpenSpec.ofChange Rows.censusSoundSpec):=
 OpenClaim.holds_of_wide 10 Tryz.f10 rfl rfl rfl rfl rfl rfl rfl ⟨rfl,rfl,rfl,rfl,rfl⟩ rfl rfl rfl rfl rfl (by kernel_rfl) Tryz.func10 closed
  (of_decide_eq_true (by kernel_rfl)) (by unfold Func.isWrapper;first|(rw[if_pos (by decide+kernel)];kernel_rfl)|(rw[if_neg (by decide+kernel)];exact ⟨rfl,rfl⟩))
  (fun os a H enc _=>lifted os a H enc)
theorem proved:Rows.CensusSoundSaid:=over
#print axioms proved
