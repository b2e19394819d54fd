/- treeFails holds for every input. No condition. (part 49) -/
import Derived.Deep.RegionHeld
set_option linter.all false
namespace Go.Dr
open Go
section
variable {P:Program} {ops:Array Oper} {Q:Exit→Act→World→Prop} {md:Region.Mode} {S:World→Prop} {bar:List Nat}
def DU(P:Program)(md:Region.Mode)(ops:Array Oper)(Q:Exit→Act→World→Prop)(S:World→Prop)(bar:List Nat):Nat→Array Bool→Act→World→Prop
 |0,b,a,w=>Region.ready md ops b= []∧Q .normal a w
 | fuel + 1, b, a, w =>
  (Region.ready md ops b= []→Q .normal a w)∧
  ∀i∈Region.ready md ops b,wpOp P ops Q i (fun a' c=>(bar.contains i=false→S w→S c)∧DU P md ops Q S bar fuel (b.setIfInBounds i true) a' c) a w
theorem NW: ∀(fuel:Nat)(b:Array Bool)(a:Act)(w:World),DU P md ops Q S bar fuel b a w→wpAny P md ops Q fuel b a w
 |0,_,_,_,h=>h
 |fuel+1,_,_,_,h=>⟨h.1,fun i hi=>wpOp_mono (fun a' d c=>NW fuel _ a' d c.2) (h.2 i hi)⟩
def waits(md:Region.Mode)(ops:Array Oper)(j i:Nat):Bool:=(ops[j]?).any fun o=>o.after.any fun e=>Region.binds md e&&e.on==i
theorem Qt{i:Nat}{t:Oper}{v:Value}(hi:ops[i]?=some t)(r: ∀(j:Nat)(o:Oper) x b,ops[j]?=some o→o.op≠ .select x b)
 (B: ∀j∈bar,waits md ops j i=true)
 (W: ∀c a w,Q (.panic c) (a.put t.dst v) w→Q (.panic c) a w):
 ∀(f:Nat)(d:Array Bool)(a:Act)(w:World),
  (∀j u,ops[j]?=some u→j≠i→d.getD j true=false→(∀e∈u.after,Region.binds md e=true→e.on≠i)→t.apart ops u=true)→
  i∈Region.ready md ops d→YieldsIf P ops S t v a→S w→
  DU P md ops Q S bar f (d.setIfInBounds i true) (a.put t.dst v) w→DU P md ops Q S bar (f+1) d a w:=by
 intro f
 induction f with
 | zero =>
   intro d a w _ hr hy J H
   refine ⟨fun h=>(by rw[h] at hr;cases hr),fun j K=>?_⟩
   by_cases g:j=i
   · subst g;exact hy.wpOp hi J ⟨fun _ h=>h,H⟩
   have:=ready_mono K g
   rw[H.1] at this
   cases this
 | succ f Z =>
   intro d a w l hr hy J H
   refine ⟨fun h=>(by rw[h] at hr;cases hr),fun j K=>?_⟩
   by_cases g:j=i
   · subst g;exact hy.wpOp hi J ⟨fun _ h=>h,H⟩
   have s:=H.2 j (ready_mono K g)
   obtain ⟨p,u,n,z⟩:=mem_ready.1 K
   have q: ∀e∈u.after,Region.binds md e=true→e.on≠i:=fun e M hb O=>by
    have s:=z e M hb
    have V:=(mem_ready.1 hr).1
    rw[O] at s
    rcases Nat.lt_or_ge i d.size with L|L
    · simp[L] at V s;rw[V] at s;cases s
    simp[Array.getElem?_eq_none L] at s
   have R:bar.contains j=false:=by
    cases X:bar.contains j with
    |false=>rfl
    | true =>
      have hw:=B j (by simpa using X)
      unfold waits at hw
      rw[n] at hw
      simp only[Option.any_some,Array.any_eq_true'] at hw
      obtain ⟨e,M,y⟩:=hw
      rw[Bool.and_eq_true] at y
      exact absurd (by simpa using y.2) (q e M y.1)
   have y:=wpOp_putIf n (l j u n g p q) (fun x b=>r i t x b hi) (fun x b=>r j u x b n) W hy s
   have m: ∀k ok,ops[k]?=some ok→k≠i→(d.setIfInBounds j true).getD k true=false→
    (∀e∈ok.after,Region.binds md e=true→e.on≠i)→t.apart ops ok=true:=fun k ok Y T G U=>by
    refine l k ok Y T ?_ U
    by_cases D:j=k
    · subst D;exact p
    rw[getD_set_ne true D] at G;exact G
   refine wpOp_mono (fun a' w' I=>⟨I.2.1,Z (d.setIfInBounds j true) a' w' m (ready_mono hr (Ne.symm g)) I.1 (I.2.1 R J) ?_⟩) y
   rw[Array.setIfInBounds_comm _ _ g]
   exact I.2.2
theorem Sj{i:Nat}{s:Oper}{v:Value}(hi:ops[i]?=some s)(p: ∀(j:Nat)(o:Oper) u b,ops[j]?=some o→o.op≠ .select u b)
 (R: ∀c a w,Q (.panic c) (a.put s.dst v) w→Q (.panic c) a w):
 ∀(f:Nat)(d:Array Bool)(a:Act)(w:World),
  (∀j t,ops[j]?=some t→j≠i→d.getD j true=false→(∀e∈t.after,Region.binds md e=true→e.on≠i)→s.apart ops t=true)→
  i∈Region.ready md ops d→Yields P ops s v a→
  DU P md ops Q S bar f (d.setIfInBounds i true) (a.put s.dst v) w→DU P md ops Q S bar (f+1) d a w:=by
 intro f
 induction f with
 | zero =>
   intro d a w _ hr hy H
   refine ⟨fun h=>(by rw[h] at hr;cases hr),fun j D=>?_⟩
   by_cases g:j=i
   · subst g;exact hy.wpOp hi ⟨fun _ h=>h,H⟩
   have:=ready_mono D g
   rw[H.1] at this
   cases this
 | succ f V =>
   intro d a w l hr hy H
   refine ⟨fun h=>(by rw[h] at hr;cases hr),fun j D=>?_⟩
   by_cases g:j=i
   · subst g;exact hy.wpOp hi ⟨fun _ h=>h,H⟩
   have q:=H.2 j (ready_mono D g)
   obtain ⟨n,t,r,x⟩:=mem_ready.1 D
   have z: ∀e∈t.after,Region.binds md e=true→e.on≠i:=fun e T hb J=>by
    have q:=x e T hb
    have M:=(mem_ready.1 hr).1
    rw[J] at q
    rcases Nat.lt_or_ge i d.size with G|G
    · simp[G] at M q;rw[M] at q;cases q
    simp[Array.getElem?_eq_none G] at q
   have O:=wpOp_put r (l j t r g n z) (fun u b=>p i s u b hi) (fun u b=>p j t u b r) R hy q
   have m: ∀k ok,ops[k]?=some ok→k≠i→(d.setIfInBounds j true).getD k true=false→
    (∀e∈ok.after,Region.binds md e=true→e.on≠i)→s.apart ops ok=true:=fun k ok U K B L=>by
    refine l k ok U K ?_ L
    by_cases y:j=k
    · subst y;exact n
    rw[getD_set_ne true y] at B;exact B
   refine wpOp_mono (fun a' W I=>⟨I.2.1,V (d.setIfInBounds j true) a' W m (ready_mono hr (Ne.symm g)) I.1 ?_⟩) O
   rw[Array.setIfInBounds_comm _ _ g]
   exact I.2.2
def XM(md:Region.Mode)(ops:Array Oper)(bar:List Nat)(a:Array Bool)(i:Nat):Bool:=
 Region.noSelect ops&&Region.free md ops a i&&(Region.ready md ops a).contains i&&bar.all fun j=>waits md ops j i
theorem Dz(i:Nat){e:Oper}{v:Value}{d:Nat}{b:Array Bool}{a:Act}{w:World}(hi:ops[i]?=some e)(f:XM md ops bar b i=true)
 (m: ∀c a w,Q (.panic c) (a.put e.dst v) w→Q (.panic c) a w) (hy:YieldsIf P ops S e v a) (n:S w)
 (h:DU P md ops Q S bar d (b.setIfInBounds i true) (a.put e.dst v) w):DU P md ops Q S bar (d+1) b a w:=by
 unfold XM at f
 simp only[Bool.and_eq_true,List.all_eq_true] at f
 obtain ⟨⟨⟨g,j⟩,k⟩,l⟩:=f
 exact Qt hi (Region.noSelect_spec g) l m d b a w (Region.free_spec hi j) (by simpa using k) hy n h
def Xs(md:Region.Mode)(ops:Array Oper)(a:Array Bool)(i:Nat):Bool:=
 Region.noSelect ops&&Region.free md ops a i&&(Region.ready md ops a).contains i
theorem Bk(i:Nat){e:Oper}{v:Value}{d:Nat}{b:Array Bool}{a:Act}{w:World}(hi:ops[i]?=some e)(f:Xs md ops b i=true)
 (l: ∀c a w,Q (.panic c) (a.put e.dst v) w→Q (.panic c) a w) (hy:Yields P ops e v a)
 (h:DU P md ops Q S bar d (b.setIfInBounds i true) (a.put e.dst v) w):DU P md ops Q S bar (d+1) b a w:=by
 unfold Xs at f
 simp only[Bool.and_eq_true] at f
 obtain ⟨⟨g,j⟩,k⟩:=f
 exact Sj hi (Region.noSelect_spec g) l d b a w (Region.free_spec hi j) (by simpa using k) hy h
def Pj(Q:Exit→Act→World→Prop)(K:Act→World→Prop):Exit→Act→World→Prop
 | .normal,a,w=>K a w
 |e,a,w=>Q e a w
theorem D6{K:Act→World→Prop}{a:Act}{w:World}(h:K a w):Pj Q K .normal a w:=h
theorem Tc{K:Act→World→Prop}(h:LetsOut (Pj Q K)):LetsOut Q:=h
theorem Ig{i:Nat}{o:Oper}{K:Act→World→Prop}{a:Act}{w:World}(hi:ops[i]?=some o)(h:wpList P ops (Pj Q K) [o] a w):wpOp P ops Q i K a w:=by
 unfold wpOp
 rw[hi]
 simp only
 unfold wpList at h
 split
 ·rename_i hw
  rw[if_pos hw] at h
  rcases h with h|⟨b,c⟩
  ·left
   unfold Oper.wp at*
   generalize (execOp a.eval o).run P w=r at*
   cases r with
   |ok n d=>cases n<;>exact h
   |halt x d=>cases x<;>exact h
  exact .inr ⟨b,Tc c⟩
 rename_i hw
 rw[if_neg hw] at h
 exact h
theorem DO(i:Nat){o:Oper}{c:Nat}{b:Array Bool}{a:Act}{w:World}(hi:ops[i]?=some o)(hr:Region.ready md ops b= [i])
 (h:wpList P ops (Pj Q fun a' d=>S d∧DU P md ops Q S bar c (b.setIfInBounds i true) a' d) [o] a w):DU P md ops Q S bar (c+1) b a w:=
 ⟨fun e=>(by rw[hr] at e;cases e),fun j f=>by
  rw[hr] at f
  obtain rfl:j=i:=by simpa using f
  exact wpOp_mono (fun a' d h=>⟨fun _ _=>h.1,h.2⟩) (Ig hi h)⟩
theorem Jt(i j:Nat){o u:Oper}{c:Nat}{b:Array Bool}{a:Act}{w:World}(hi:ops[i]?=some o)(g:ops[j]?=some u)(hr:Region.ready md ops b= [i,j])
 (h:wpList P ops (Pj Q fun a' d=>S d∧DU P md ops Q S bar c (b.setIfInBounds i true) a' d) [o] a w)
 (k:wpList P ops (Pj Q fun a' d=>S d∧DU P md ops Q S bar c (b.setIfInBounds j true) a' d) [u] a w):DU P md ops Q S bar (c+1) b a w:=
 ⟨fun f=>(by rw[hr] at f;cases f),fun n e=>by
  rw[hr] at e
  rcases List.mem_cons.1 e with rfl|e
  ·exact wpOp_mono (fun a' d h=>⟨fun _ _=>h.1,h.2⟩) (Ig hi h)
  obtain rfl:n=j:=by simpa using e
  exact wpOp_mono (fun a' d h=>⟨fun _ _=>h.1,h.2⟩) (Ig g k)⟩
theorem Hc(S:World→Prop)(bar:List Nat){c:Nat}{a:Act}{w:World}(hm:P.follows .mixedOrders=true)(b:S w.drew)
 (h:S w.drew→DU P .any ops Q S bar ops.size (Array.replicate ops.size false) a w.drew):(Code.region c ops true).wp P Q a w:=
 wp_region_any hm (NW _ _ _ _ (h b))
