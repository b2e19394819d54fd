/- treeShape holds for every input. No condition. (part 47) -/
import Derived.Deep.RegionHeld
set_option linter.all false
namespace Go.Dr
open Go
section
variable {P:Program} {ops:Array Oper} {Q:Exit→Act→World→Prop} {md:Region.Mode} {S:World→Prop} {bar:List Nat}
def DA(P:Program)(md:Region.Mode)(ops:Array Oper)(Q:Exit→Act→World→Prop)(S:World→Prop)(bar:List Nat):Nat→Array Bool→Act→World→Prop
 |0,b,a,w=>Region.ready md ops b= []∧Q .normal a w
 | fuel + 1, b, a, w =>
  (Region.ready md ops b= []→Q .normal a w)∧
  ∀i∈Region.ready md ops b,wpOp P ops Q i (fun a' c=>(bar.contains i=false→S w→S c)∧DA P md ops Q S bar fuel (b.setIfInBounds i true) a' c) a w
theorem OV: ∀(fuel:Nat)(b:Array Bool)(a:Act)(w:World),DA P md ops Q S bar fuel b a w→wpAny P md ops Q fuel b a w
 |0,_,_,_,h=>h
 |fuel+1,_,_,_,h=>⟨h.1,fun i hi=>wpOp_mono (fun a' d c=>OV fuel _ a' d c.2) (h.2 i hi)⟩
def waits(md:Region.Mode)(ops:Array Oper)(j i:Nat):Bool:=(ops[j]?).any fun o=>o.after.any fun e=>Region.binds md e&&e.on==i
theorem RX{i:Nat}{r:Oper}{v:Value}(hi:ops[i]?=some r)(p: ∀(j:Nat)(o:Oper) t b,ops[j]?=some o→o.op≠ .select t b)
 (u: ∀j∈bar,waits md ops j i=true)
 (O: ∀c a w,Q (.panic c) (a.put r.dst v) w→Q (.panic c) a w):
 ∀(f:Nat)(d:Array Bool)(a:Act)(w:World),
  (∀j s,ops[j]?=some s→j≠i→d.getD j true=false→(∀e∈s.after,Region.binds md e=true→e.on≠i)→r.apart ops s=true)→
  i∈Region.ready md ops d→YieldsIf P ops S r v a→S w→
  DA P md ops Q S bar f (d.setIfInBounds i true) (a.put r.dst v) w→DA P md ops Q S bar (f+1) d a w:=by
 intro f
 induction f with
 | zero =>
   intro d a w _ hr hy D H
   refine ⟨fun h=>(by rw[h] at hr;cases hr),fun j G=>?_⟩
   by_cases g:j=i
   · subst g;exact hy.wpOp hi D ⟨fun _ h=>h,H⟩
   have:=ready_mono G g
   simp_all[H.1]
 | succ f V =>
   intro d a w l hr hy D H
   refine ⟨fun h=>(by rw[h] at hr;cases hr),fun j G=>?_⟩
   by_cases g:j=i
   · subst g;exact hy.wpOp hi D ⟨fun _ h=>h,H⟩
   have h1:=H.2 j (ready_mono G g)
   obtain ⟨n,s,q,L⟩:=mem_ready.1 G
   have y: ∀e∈s.after,Region.binds md e=true→e.on≠i:=fun e X hb T=>by
    have h0:=(mem_ready.1 hr).1
    grind
   have I:bar.contains j=false:=by cases R:bar.contains j with
    |false=>rfl
    | true =>
      have hw:=u j (by simpa using R)
      unfold waits at hw
      grind
   have M:=wpOp_putIf q (l j s q g n y) (fun t b=>p i r t b hi) (fun t b=>p j s t b q) O hy h1
   have m: ∀k ok,ops[k]?=some ok→k≠i→(d.setIfInBounds j true).getD k true=false→
    (∀e∈ok.after,Region.binds md e=true→e.on≠i)→r.apart ops ok=true:=fun k ok U J z K=>by
    refine l k ok U J ?_ K
    by_cases x:j=k
    · subst x;exact n
    rw[getD_set_ne true x] at z;exact z
   refine wpOp_mono (fun a' W B=>⟨B.2.1,V (d.setIfInBounds j true) a' W m (ready_mono hr (Ne.symm g)) B.1 (B.2.1 I D) ?_⟩) M
   rw[Array.setIfInBounds_comm _ _ g]
   exact B.2.2
theorem U3{i:Nat}{r:Oper}{v:Value}(hi:ops[i]?=some r)(p: ∀(j:Nat)(o:Oper) t b,ops[j]?=some o→o.op≠ .select t b)
 (M: ∀c a w,Q (.panic c) (a.put r.dst v) w→Q (.panic c) a w):
 ∀(f:Nat)(d:Array Bool)(a:Act)(w:World),
  (∀j s,ops[j]?=some s→j≠i→d.getD j true=false→(∀e∈s.after,Region.binds md e=true→e.on≠i)→r.apart ops s=true)→
  i∈Region.ready md ops d→Yields P ops r v a→
  DA P md ops Q S bar f (d.setIfInBounds i true) (a.put r.dst v) w→DA P md ops Q S bar (f+1) d a w:=by
 intro f
 induction f with
 | zero =>
   intro d a w _ hr hy H
   refine ⟨fun h=>(by rw[h] at hr;cases hr),fun j B=>?_⟩
   by_cases g:j=i
   · subst g;exact hy.wpOp hi ⟨fun _ h=>h,H⟩
   have:=ready_mono B g
   rw[H.1] at this
   cases this
 | succ f T =>
   intro d a w l hr hy H
   refine ⟨fun h=>(by rw[h] at hr;cases hr),fun j B=>?_⟩
   by_cases g:j=i
   · subst g;exact hy.wpOp hi ⟨fun _ h=>h,H⟩
   have h1:=H.2 j (ready_mono B g)
   obtain ⟨n,s,q,u⟩:=mem_ready.1 B
   have y: ∀e∈s.after,Region.binds md e=true→e.on≠i:=fun e O hb I=>by
    have h1:=u e O hb
    have h0:=(mem_ready.1 hr).1
    rw[I] at h1
    rcases Nat.lt_or_ge i d.size with D|D
    · simp[D] at h0 h1;rw[h0] at h1;cases h1
    simp[Array.getElem?_eq_none D] at h1
   have L:=wpOp_put q (l j s q g n y) (fun t b=>p i r t b hi) (fun t b=>p j s t b q) M hy h1
   have m: ∀k ok,ops[k]?=some ok→k≠i→(d.setIfInBounds j true).getD k true=false→
    (∀e∈ok.after,Region.binds md e=true→e.on≠i)→r.apart ops ok=true:=fun k ok R J z K=>by
    refine l k ok R J ?_ K
    by_cases x:j=k
    · subst x;exact n
    rw[getD_set_ne true x] at z;exact z
   refine wpOp_mono (fun a' U G=>⟨G.2.1,T (d.setIfInBounds j true) a' U m (ready_mono hr (Ne.symm g)) G.1 ?_⟩) L
   rw[Array.setIfInBounds_comm _ _ g]
   exact G.2.2
def S'(md:Region.Mode)(ops:Array Oper)(bar:List Nat)(a:Array Bool)(i:Nat):Bool:=
 Region.noSelect ops&&Region.free md ops a i&&(Region.ready md ops a).contains i&&bar.all fun j=>waits md ops j i
theorem CZ(i:Nat){e:Oper}{v:Value}{d:Nat}{b:Array Bool}{a:Act}{w:World}(hi:ops[i]?=some e)(f:S' md ops bar b i=true)
 (l: ∀c a w,Q (.panic c) (a.put e.dst v) w→Q (.panic c) a w) (hy:YieldsIf P ops S e v a) (m:S w)
 (h:DA P md ops Q S bar d (b.setIfInBounds i true) (a.put e.dst v) w):DA P md ops Q S bar (d+1) b a w:=by
 unfold S' at f
 simp only[Bool.and_eq_true,List.all_eq_true] at f
 obtain ⟨⟨⟨h1,g⟩,j⟩,k⟩:=f
 exact RX hi (Region.noSelect_spec h1) k l d b a w (Region.free_spec hi g) (by simpa using j) hy m h
def ZJ(md:Region.Mode)(ops:Array Oper)(a:Array Bool)(i:Nat):Bool:=
 Region.noSelect ops&&Region.free md ops a i&&(Region.ready md ops a).contains i
theorem Ar(i:Nat){e:Oper}{v:Value}{d:Nat}{b:Array Bool}{a:Act}{w:World}(hi:ops[i]?=some e)(f:ZJ md ops b i=true)
 (k: ∀c a w,Q (.panic c) (a.put e.dst v) w→Q (.panic c) a w) (hy:Yields P ops e v a)
 (h:DA P md ops Q S bar d (b.setIfInBounds i true) (a.put e.dst v) w):DA P md ops Q S bar (d+1) b a w:=by
 unfold ZJ at f
 simp only[Bool.and_eq_true] at f
 obtain ⟨⟨h1,g⟩,j⟩:=f
 exact U3 hi (Region.noSelect_spec h1) k d b a w (Region.free_spec hi g) (by simpa using j) hy h
def Qn(Q:Exit→Act→World→Prop)(K:Act→World→Prop):Exit→Act→World→Prop
 | .normal,a,w=>K a w
 |e,a,w=>Q e a w
theorem AB{K:Act→World→Prop}{a:Act}{w:World}(h:K a w):Qn Q K .normal a w:=h
theorem Vn{K:Act→World→Prop}(h:LetsOut (Qn Q K)):LetsOut Q:=h
theorem I5{i:Nat}{o:Oper}{K:Act→World→Prop}{a:Act}{w:World}(hi:ops[i]?=some o)(h:wpList P ops (Qn Q K) [o] a w):wpOp P ops Q i K a w:=by
 unfold wpOp
 rw[hi]
 simp only
 unfold wpList at h
 split
 ·rename_i hw
  rw[if_pos hw] at h
  rcases h with h|⟨h1,b⟩
  ·left
   generalize (execOp a.eval o).run P w=r at*
   cases r with
   |ok n c=>cases n<;>exact h
   |halt x c=>cases x<;>exact h
  exact .inr ⟨h1,Vn b⟩
 rename_i hw
 rw[if_neg hw] at h
 exact h
theorem AQ(i:Nat){o:Oper}{c:Nat}{b:Array Bool}{a:Act}{w:World}(hi:ops[i]?=some o)(hr:Region.ready md ops b= [i])
 (h:wpList P ops (Qn Q fun a' d=>S d∧DA P md ops Q S bar c (b.setIfInBounds i true) a' d) [o] a w):DA P md ops Q S bar (c+1) b a w:=
 ⟨fun h0=>(by rw[hr] at h0;cases h0),fun j e=>by
  rw[hr] at e
  obtain rfl:j=i:=by simpa using e
  exact wpOp_mono (fun a' d h=>⟨fun _ _=>h.1,h.2⟩) (I5 hi h)⟩
theorem JR(i j:Nat){o u:Oper}{c:Nat}{b:Array Bool}{a:Act}{w:World}(hi:ops[i]?=some o)(f:ops[j]?=some u)(hr:Region.ready md ops b= [i,j])
 (h:wpList P ops (Qn Q fun a' d=>S d∧DA P md ops Q S bar c (b.setIfInBounds i true) a' d) [o] a w)
 (k:wpList P ops (Qn Q fun a' d=>S d∧DA P md ops Q S bar c (b.setIfInBounds j true) a' d) [u] a w):DA P md ops Q S bar (c+1) b a w:=
 ⟨fun h0=>(by rw[hr] at h0;cases h0),fun n e=>by
  rw[hr] at e
  rcases List.mem_cons.1 e with rfl|e
  ·exact wpOp_mono (fun a' d h=>⟨fun _ _=>h.1,h.2⟩) (I5 hi h)
  obtain rfl:n=j:=by simpa using e
  exact wpOp_mono (fun a' d h=>⟨fun _ _=>h.1,h.2⟩) (I5 f k)⟩
def forced(md:Region.Mode)(ops:Array Oper)(bar:List Nat):List Nat→Array Bool→Bool
 | [],a=>(Region.ready md ops a).isEmpty
 |i::is,a=>Region.ready md ops a== [i]&&bar.contains i&&forced md ops bar is (a.setIfInBounds i true)
theorem OW: ∀(is:List Nat)(os:List Oper)(b:Array Bool)(c:Nat)(a:Act)(w:World),is.map (fun i=>ops[i]?)=os.map some→forced md ops bar is b=true→is.length≤c→wpList P ops Q os a w→DA P md ops Q S bar c b a w
 | [],[],b,0,a,w,_,d,_,h=>⟨by unfold forced at d;simpa using d,h⟩
 | [],[],b,c+1,a,w,_,d,_,h=>⟨fun _=>h,fun i hi=>by
  have:Region.ready md ops b= []:=by unfold forced at d;simpa using d
  rw[this] at hi;cases hi⟩
 | [],o::os,b,c,a,w,e,_,_,_=>by simp at e
 |i::is,[],b,c,a,w,e,_,_,_=>by simp at e
 |i::is,o::os,b,0,a,w,_,_,hl,_=>by simp at hl
 | i :: is, o :: os, b, c + 1, a, w, e, d, hl, h => by
   simp only[List.map_cons,List.cons.injEq] at e
   unfold forced at d
   simp only[Bool.and_eq_true] at d
   obtain ⟨⟨h1,k⟩,l⟩:=d
   have h1:Region.ready md ops b= [i]:=by simpa using h1
   refine ⟨fun h0=>(by rw[h1] at h0;cases h0),fun j g=>?_⟩
   rw[h1] at g
   obtain rfl:j=i:=by simpa using g
   have key:wpOp P ops Q j (wpList P ops Q os) a w:=by simp_all[wpOp,e.1,wpList]
   exact wpOp_mono (fun a' n m=>⟨fun f _=>(by rw[k] at f;cases f),OW is os _ c a' n e.2 l (by simpa using hl) m⟩) key
theorem CY(is:List Nat){os:List Oper}{b:Array Bool}{c:Nat}{a:Act}{w:World}(hl:is.length≤c)(e:is.map (fun i=>ops[i]?)=os.map some)(d:forced md ops bar is b=true)(h:wpList P ops Q os a w):DA P md ops Q S bar c b a w:=
 OW is os b c a w e d hl h
theorem E9(S:World→Prop)(bar:List Nat){c:Nat}{a:Act}{w:World}(hm:P.follows .mixedOrders=true)(b:S w.drew)
 (h:S w.drew→DA P .any ops Q S bar ops.size (Array.replicate ops.size false) a w.drew):(Code.region c ops true).wp P Q a w:=
 wp_region_any hm (OV _ _ _ _ (h b))
