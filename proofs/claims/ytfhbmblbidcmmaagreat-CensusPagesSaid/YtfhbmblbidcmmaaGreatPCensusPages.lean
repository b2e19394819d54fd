/- censusPages holds for every input. No condition. -/
import Derived.Test.YtfhbmblbidcmmaaGreatRows
import Derived.Test.YtfhbmblbidcmmaaGreatVa55
import Derived.ShutString
set_option linter.all false
set_option maxRecDepth 1000000
set_option maxHeartbeats 1000000000
namespace Go.Proofs.YtfhbmblbidcmmaaGreat.censusPages
open Go.ChangeShapes Go.WideShapes Go.ChangeAt Go.RowKit
open Go.ChangeMaps (open_string shut_string)
theorem own:ownKnob Tryz.prog.godebug=none:=by kernel_rfl
theorem laidOut:laidOutB Tryz.prog=true:=by kernel_rfl
theorem walk{H:Type}(enc:TypeId×Value→H)(x0 i:Value)(d:Option Addr)(c b:Nat)(w:World)(r0:(∃a z,DataW.trod enc Tryz.prog w 0 (fun _=>true) true a 26 [x0]=some z)∧(∃a z,DataW.trod enc Tryz.prog w 0 (fun _=>true) true a 26 [i]=some z))(r1: ∃a x,DataW.trod enc Tryz.prog w 0 (fun _=>true) true a 117 [.slice d c b]=some x):
 Calls Tryz.prog 9 #[.agg #[x0,i],.slice d c b] w fun e s=>e= .returned (.bool true)∧Below w.heap.size w s:=by
 obtain ⟨j,q,l,O,rfl,o⟩:=Q4 r0.1
 obtain ⟨k,r,m,T,rfl,p⟩:=Q4 r0.2
 obtain ⟨cs,rfl,n,g,f⟩:=Wx r1
 exact Mp O T j q l k r m _ cs w (Sl.Reads.Ja o) (Sl.Reads.Ja p) n f g
theorem lifted(os:Os)(c:os.Started)(H:Type)(enc:TypeId×Value→H):
 ReturnsInHanded {} Tryz.checked os 9 .any (Rows.censusPagesSpec.pre6 enc Tryz.prog Tryz.f9 Rows.censusPagesRow.domain false) (Rows.censusPagesSpec.post enc Tryz.prog Tryz.f9 false true false false):=by
 refine returnsInHanded_of_change (C:=Tryz.checked) own c (by kernel_rfl) Tryz.func9
  (ChangeSpec.witness6 (enc:=enc) (C:=Tryz.checked) false ⟨#[], #[.agg #[.slice none 0 0,.slice none 0 0],.slice none 0 0],[]⟩ 8 (by kernel_rfl) (by kernel_rfl) (by kernel_rfl) (by kernel_rfl)) ?_
 intro W k args D gs before b y z _
 have a: ∀(j:Nat) t v,Tryz.f9.params[j]?=some t→args[j]?=some v→Value.okWide Tryz.prog W .any k t v:=b
 have o:=y
 obtain ⟨p,q,n,J,rfl,L,M⟩:=y
 have w:DataW.TrodAll enc Tryz.prog W 0 (fun _=>true) true Tryz.f9.params.toList args.toList D p:=n
 rw[Tryz.params9] at w a
 obtain ⟨v0,U,Z,G,O,q0,r,rfl,rfl,h0,Q⟩:=trodAll_cons w
 obtain ⟨v1,V,d1,I,P,q1,rfl,rfl,rfl,h1,R⟩:=trodAll_cons Q
 obtain ⟨rfl,rfl,rfl⟩:=trodAll_nil R
 obtain rfl:args= #[v0,v1]:=by cases args;simp_all
 obtain ⟨rfl,rfl⟩:=trodVars_none J
 have k0:=h0
 have s: ∀x∈O,x.block<W.heap.size:=by obtain ⟨m,hm⟩:=k0;exact DataW.trod_lt m _ _ _ hm
 obtain ⟨x0,X,rfl,r0,T⟩:=Z2 Tryz.underlying116 rfl rfl (by kernel_rfl) (by kernel_rfl) (by kernel_rfl) (a 0 116 v0 rfl rfl) h0
 obtain ⟨i,f,d,rfl⟩:=okWide_slice Tryz.underlying117 (a 1 117 v1 rfl rfl)
 have B:=h1
 have u: ∀x∈P,x.block<W.heap.size:=by obtain ⟨m,hm⟩:=B;exact DataW.trod_lt m _ _ _ hm
 have r1: ∃l x,DataW.trod enc Tryz.prog W 0 (fun _=>true) true l 117 [.slice i f d]=some x:=by obtain ⟨m,hm⟩:=h1;exact ⟨m,_,hm⟩
 clear n b
 refine (walk enc x0 X i f d W ⟨r0,T⟩ r1).mono fun e Y ⟨K,g⟩=>?_
 subst K
 exact ⟨_,rfl,_,_,_,[],_,[],o,trodAll_mk1 (shut_bool Tryz.underlying4 _),(trodAll_cons_mk (Below.trod laidOut (by kernel_rfl) (of_decide_eq_true (by kernel_rfl)) k0 g s) (trodAll_cons_mk (Below.trod laidOut (by kernel_rfl) (of_decide_eq_true (by kernel_rfl)) B g u) trodAll_mk0)),rfl,g.frame _,fun h=>by cases h⟩
theorem closed:joinedFacts Tryz.pinned.checked.prog 9 Tryz.f9 Rows.censusPagesSpec Rows.censusPagesRow=true:=by
 unfold joinedFacts
 simp only[Bool.and_eq_true]
 repeat' apply And.intro
 all_goals (as_aux_lemma=>kernel_rfl)
theorem over:Rows.censusPagesRow.holds Tryz.pinned (OpenSpec.ofChange Rows.censusPagesSpec):=
 OpenClaim.holds_of_wide 9 Tryz.f9 rfl rfl rfl rfl rfl rfl rfl ⟨rfl,rfl,rfl,rfl,rfl⟩ rfl rfl rfl rfl rfl (by kernel_rfl) Tryz.func9 closed
  (of_decide_eq_true (by kernel_rfl)) (by unfold Func.isWrapper;first|(rw[if_pos (by decide+kernel)];kernel_rfl)|(rw[if_neg (by decide+kernel)];exact ⟨rfl,rfl⟩))
  (fun os a H enc _=>lifted os a H enc)
theorem proved:Rows.CensusPagesSaid:=over
#print axioms proved
