/- treeFails holds for every input. No condition. -/
import Derived.Test.YtfhbmblbidcmmaaGreatRows
import Derived.Test.YtfhbmblbidcmmaaGreatYa55
import Derived.ShutString
set_option linter.all false
set_option maxRecDepth 1000000
set_option maxHeartbeats 1000000000
namespace Go.Proofs.YtfhbmblbidcmmaaGreat.treeFails
open Go.ChangeShapes Go.WideShapes Go.ChangeAt Go.RowKit
open Go.ChangeMaps (open_string shut_string)
theorem own:ownKnob Tryz.prog.godebug=none:=by kernel_rfl
theorem laidOut:laidOutB Tryz.prog=true:=by kernel_rfl
theorem walk{H:Type}(enc:TypeId×Value→H)(f:Int)(g:Int)(i:Int)(j:Int)(k:Int)(c:Option Addr)(b a:Nat)(w:World)(p:(Lit.int .i64 f).wf=true)(q:(Lit.int .i64 g).wf=true)(r:(Lit.int .i64 i).wf=true)(s:(Lit.int .i64 j).wf=true)(t:(Lit.int .i64 k).wf=true)(n: ∃d x,DataW.trod enc Tryz.prog w 0 (fun _=>true) true d 29 [.slice c b a]=some x):
 Calls Tryz.prog 7 #[.int .i64 f,.int .i64 g,.int .i64 i,.int .i64 j,.int .i64 k,.slice c b a] w fun e o=>e= .returned (.bool true)∧Below w.heap.size w o:=by
 obtain ⟨put,l,m⟩:=SA n
 subst l
 exact NU f g i j k put c a w m
theorem lifted(os:Os)(c:os.Started)(H:Type)(enc:TypeId×Value→H):
 ReturnsInHanded {} Tryz.checked os 7 .any (Rows.treeFailsSpec.pre6 enc Tryz.prog Tryz.f7 Rows.treeFailsRow.domain false) (Rows.treeFailsSpec.post enc Tryz.prog Tryz.f7 false true false false):=by
 refine returnsInHanded_of_change (C:=Tryz.checked) own c (by kernel_rfl) Tryz.func7
  (ChangeSpec.witness6 (enc:=enc) (C:=Tryz.checked) false ⟨#[], #[.int .i64 0,.int .i64 0,.int .i64 0,.int .i64 0,.int .i64 0,.slice none 0 0],[]⟩ 8 (by kernel_rfl) (by kernel_rfl) (by kernel_rfl) (by kernel_rfl)) ?_
 intro W i args Z gs before b y z _
 have a: ∀(j:Nat) t v,Tryz.f7.params[j]?=some t→args[j]?=some v→Value.okWide Tryz.prog W .any i t v:=b
 have o:=y
 obtain ⟨p,q,n,hV,rfl,ai,aj⟩:=y
 have w:DataW.TrodAll enc Tryz.prog W 0 (fun _=>true) true Tryz.f7.params.toList args.toList Z p:=n
 rw[Tryz.params7] at w a
 obtain ⟨D,au,d0,a5,p0,q0,r,rfl,rfl,h0,t0⟩:=trodAll_cons w
 obtain ⟨G,av,d1,a6,p1,q1,rfl,rfl,rfl,h1,t1⟩:=trodAll_cons t0
 obtain ⟨I,aw,d2,a7,p2,q2,rfl,rfl,rfl,h2,t2⟩:=trodAll_cons t1
 obtain ⟨J,ax,d3,a8,p3,q3,rfl,rfl,rfl,h3,t3⟩:=trodAll_cons t2
 obtain ⟨K,ay,d4,a9,p4,q4,rfl,rfl,rfl,h4,t4⟩:=trodAll_cons t3
 obtain ⟨L,az,d5,aa,p5,q5,rfl,rfl,rfl,u,t5⟩:=trodAll_cons t4
 obtain ⟨rfl,rfl,rfl⟩:=trodAll_nil t5
 obtain rfl:args= #[D,G,I,J,K,L]:=by cases args;simp_all
 obtain ⟨rfl,rfl⟩:=trodVars_none hV
 obtain ⟨T,rfl,rfl,rfl,M⟩:=open_int Tryz.underlying3 (a 0 3 D rfl rfl) h0
 obtain ⟨U,rfl,rfl,rfl,O⟩:=open_int Tryz.underlying3 (a 1 3 G rfl rfl) h1
 obtain ⟨V,rfl,rfl,rfl,P⟩:=open_int Tryz.underlying3 (a 2 3 I rfl rfl) h2
 obtain ⟨X,rfl,rfl,rfl,Q⟩:=open_int Tryz.underlying3 (a 3 3 J rfl rfl) h3
 obtain ⟨Y,rfl,rfl,rfl,R⟩:=open_int Tryz.underlying3 (a 4 3 K rfl rfl) h4
 obtain ⟨g,f,d,rfl⟩:=okWide_slice Tryz.underlying29 (a 5 29 L rfl rfl)
 have B:=u
 have s: ∀x∈p5,x.block<W.heap.size:=by obtain ⟨m,hm⟩:=B;exact DataW.trod_lt m _ _ _ hm
 have r5: ∃l x,DataW.trod enc Tryz.prog W 0 (fun _=>true) true l 29 [.slice g f d]=some x:=by obtain ⟨m,hm⟩:=u;exact ⟨m,_,hm⟩
 clear n b
 refine (walk enc T U V X Y g f d W M O P Q R r5).mono fun e W' ⟨he,k⟩=>?_
 subst he
 exact ⟨_,rfl,_,_,_,[],_,[],o,trodAll_mk1 (shut_bool Tryz.underlying4 _),(trodAll_cons_mk (shut_int Tryz.underlying3 M) (trodAll_cons_mk (shut_int Tryz.underlying3 O) (trodAll_cons_mk (shut_int Tryz.underlying3 P) (trodAll_cons_mk (shut_int Tryz.underlying3 Q) (trodAll_cons_mk (shut_int Tryz.underlying3 R) (trodAll_cons_mk (Below.trod laidOut (by kernel_rfl) (of_decide_eq_true (by kernel_rfl)) B k s) trodAll_mk0)))))),rfl,k.frame _,fun h=>by cases h⟩
theorem closed:joinedFacts Tryz.pinned.checked.prog 7 Tryz.f7 Rows.treeFailsSpec Rows.treeFailsRow=true:=by
 unfold joinedFacts
 simp only[Bool.and_eq_true]
 repeat' apply And.intro
 all_goals (as_aux_lemma=>kernel_rfl)
theorem over:Rows.treeFailsRow.holds Tryz.pinned (OpenSpec.ofChange Rows.treeFailsSpec):=
 OpenClaim.holds_of_wide 7 Tryz.f7 rfl rfl rfl rfl rfl rfl rfl ⟨rfl,rfl,rfl,rfl,rfl⟩ rfl rfl rfl rfl rfl (by kernel_rfl) Tryz.func7 closed
  (of_decide_eq_true (by kernel_rfl)) (by unfold Func.isWrapper;first|(rw[if_pos (by decide+kernel)];kernel_rfl)|(rw[if_neg (by decide+kernel)];exact ⟨rfl,rfl⟩))
  (fun os a H enc _=>lifted os a H enc)
theorem proved:Rows.TreeFailsSaid:=over
#print axioms proved
