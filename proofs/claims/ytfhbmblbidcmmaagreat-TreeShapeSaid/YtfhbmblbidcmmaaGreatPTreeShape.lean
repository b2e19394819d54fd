/- treeShape holds for every input. No condition. -/
import Derived.Test.YtfhbmblbidcmmaaGreatRows
import Derived.Test.YtfhbmblbidcmmaaGreatSk55
import Derived.ShutString
set_option linter.all false
set_option maxRecDepth 1000000
set_option maxHeartbeats 1000000000
namespace Go.Proofs.YtfhbmblbidcmmaaGreat.treeShape
open Go.ChangeShapes Go.WideShapes Go.ChangeAt Go.RowKit
open Go.ChangeMaps (open_string shut_string)
theorem own:ownKnob Tryz.prog.godebug=none:=by kernel_rfl
theorem laidOut:laidOutB Tryz.prog=true:=by kernel_rfl
theorem walk{H:Type}(enc:TypeId×Value→H)(c:Option Addr)(b a:Nat)(w:World)(r0: ∃d x,DataW.trod enc Tryz.prog w 0 (fun _=>true) true d 101 [.slice c b a]=some x):
  Calls Tryz.prog 8 #[.slice c b a] w fun e k=>e= .returned (.bool true)∧Below w.heap.size w k:=by
 obtain ⟨f,h1,g,i,j⟩:=UH r0
 subst g
 exact OT _ f w h1 i j
theorem lifted(os:Os)(b:os.Started)(H:Type)(enc:TypeId×Value→H):
  ReturnsInHanded {} Tryz.checked os 8 .any (Rows.treeShapeSpec.pre6 enc Tryz.prog Tryz.f8 Rows.treeShapeRow.domain false) (Rows.treeShapeSpec.post enc Tryz.prog Tryz.f8 false true false false):=by
 refine returnsInHanded_of_change (C:=Tryz.checked) own b (by kernel_rfl) Tryz.func8
  (ChangeSpec.witness6 (enc:=enc) (C:=Tryz.checked) false ⟨#[], #[.slice none 0 0],[]⟩ 8 (by kernel_rfl) (by kernel_rfl) (by kernel_rfl) (by kernel_rfl)) ?_
 intro W i args z Q before a w y _
 have d: ∀(j:Nat) t v,Tryz.f8.params[j]?=some t→args[j]?=some v→Value.okWide Tryz.prog W .any i t v:=a
 have o:=w
 obtain ⟨p,q,n,D,rfl,I,J⟩:=w
 have u:DataW.TrodAll enc Tryz.prog W 0 (fun _=>true) true Tryz.f8.params.toList args.toList z p:=n
 rw[Tryz.params8] at u d
 obtain ⟨v0,M,P,B,K,R,r,rfl,rfl,h0,L⟩:=trodAll_cons u
 obtain ⟨rfl,rfl,rfl⟩:=trodAll_nil L
 obtain rfl:args= #[v0]:=by cases args;simp_all
 obtain ⟨rfl,rfl⟩:=trodVars_none D
 obtain ⟨g,f,c,rfl⟩:=okWide_slice Tryz.underlying101 (d 0 101 v0 rfl rfl)
 have k0:=h0
 have s: ∀x∈K,x.block<W.heap.size:=by obtain ⟨m,hm⟩:=k0;exact DataW.trod_lt m _ _ _ hm
 have r0: ∃l x,DataW.trod enc Tryz.prog W 0 (fun _=>true) true l 101 [.slice g f c]=some x:=by obtain ⟨m,hm⟩:=h0;exact ⟨m,_,hm⟩
 clear n a
 refine (walk enc g f c W r0).mono fun e O ⟨G,k⟩=>?_
 subst G
 exact ⟨_,rfl,_,_,_,[],_,[],o,trodAll_mk1 (shut_bool Tryz.underlying4 _),(trodAll_cons_mk (Below.trod laidOut (by kernel_rfl) (of_decide_eq_true (by kernel_rfl)) k0 k s) trodAll_mk0),rfl,k.frame _,fun h=>by cases h⟩
theorem closed:joinedFacts Tryz.pinned.checked.prog 8 Tryz.f8 Rows.treeShapeSpec Rows.treeShapeRow=true:=by
 unfold joinedFacts
 simp only[Bool.and_eq_true]
 repeat' apply And.intro
 all_goals (as_aux_lemma=>kernel_rfl)
theorem over:Rows.treeShapeRow.holds Tryz.pinned (OpenSpec.ofChange Rows.treeShapeSpec):=
 OpenClaim.holds_of_wide 8 Tryz.f8 rfl rfl rfl rfl rfl rfl rfl ⟨rfl,rfl,rfl,rfl,rfl⟩ rfl rfl rfl rfl rfl (by kernel_rfl) Tryz.func8 closed
  (of_decide_eq_true (by kernel_rfl)) (by unfold Func.isWrapper;first|(rw[if_pos (by decide+kernel)];kernel_rfl)|(rw[if_neg (by decide+kernel)];exact ⟨rfl,rfl⟩))
  (fun os a H enc _=>lifted os a H enc)
theorem proved:Rows.TreeShapeSaid:=over
#print axioms proved
