/- censusSound holds for every input. No condition. (part 39) -/
import Derived.Test.YtfhbmblbidcmmaaGreatWa26
set_option linter.all false
set_option maxRecDepth 100000
set_option maxHeartbeats 1600000
namespace Go.Proofs.YtfhbmblbidcmmaaGreat
open Go.RowKit Go.Sl Go.Dk Go.Tr
open Go.PS (A9)
variable [Em]
theorem VO(l:List UInt8):Go.Lib.countByte (Go.Lib.bytesOf (l.map fun x=>(x.toNat:Int))) (10:Int).toNat.toUInt8=CL l:=by
 have e:Go.Lib.bytesOf (l.map fun x=>(x.toNat:Int))=l:=by
  unfold Go.Lib.bytesOf
  rw[List.map_map]
  exact List.map_id'' (fun x=>by simp) l
 rw[e]
 rfl
theorem RT(v:Value)(l:List UInt8)(F:Ab)(w:World)(hs:Sat (rw TB 1 v (A4 l)*F) w):
 Calls Tryz.prog 142 #[v] w fun e j=>e= .returned (.int .i64 (CL l:Nat))∧Sat (rw TB 1 v (A4 l)*F) j:=by
 have hq:=hs
 rcases hs.Cr with ⟨h1,a,d⟩|⟨g,n,cap,sp,h1,a,d,r,s,t⟩
 · have hl:l= []:=by simpa[A4] using a
   subst hl h1
   haveI:=hq.i
   clear hs hq a d
   go_enter Tryz.func142,Tryz.ntmps142
   go_wp2_with fail
   refine Calls.mono (Any.bytes_Count_one_nil Tryz.QJ w.heap.size 0 1 10 _ (Ac _ _ _)) ?_
   rintro e j ⟨rfl,rfl⟩
   go_wp2
   go_ret
   exact ⟨rfl,Ar _ _⟩
 rw[Cc,Nat.mul_one] at a
 subst a h1
 have c: ∀i,i<l.length→ ∀k:World,Sat (rw TB 1 (.slice (some ⟨g,0,none⟩) l.length cap) (A4 l)*(Sl.block w.heap.size TB [.int .u8 10]*F)) k→k.cell? ((⟨g,0,none⟩:Addr).add i)=some (.int .u8 ((l.map fun x=>(x.toNat:Int)).getD i 0)):=by
  intro i hi k f
  obtain ⟨b,o,m,p⟩:=(Reads.rw _ _ f).at (q:=i) (x:=l[i]) (List.getElem?_eq_getElem hi)
  cases m
  rw[List.getD_eq_getElem?_getD,List.getElem?_map,List.getElem?_eq_getElem hi,show ((⟨g,0,none⟩:Addr).add i)=⟨g,0+i,none⟩ by (unfold Addr.add;split<;>simp_all)]
  exact p
 haveI:=hq.i
 clear hs hq d r s t
 go_enter Tryz.func142,Tryz.ntmps142
 go_wp2_with fail
 have f:Sat (rw TB 1 (.slice (some ⟨g,0,none⟩) l.length cap) (A4 l)*(Sl.block w.heap.size TB [.int .u8 10]*F)) (w.alloc (.cells #[.int .u8 10] TB)):=Ap (by ac_rfl)
 refine Calls.mono (Any.bytes_Count_one_at Tryz.QJ ⟨g,0,none⟩ l.length cap w.heap.size 0 1 (l.map fun x=>(x.toNat:Int)) 10 _ (by simp) (fun i hi=>c i hi _ f) (Ac _ _ _)) ?_
 rintro e j ⟨rfl,rfl⟩
 rw[VO]
 clear c
 go_wp2
 go_ret
 exact ⟨rfl,Ar _ _⟩
instance lI(X M D:Nat)(n:Int)(x:Ix):El (DY X M D n x) X 0 (.pointer (some ⟨D,0,none⟩)):=by unfold DY;infer_instance
instance lJ(X M D:Nat)(n:Int)(x:Ix):El (DY X M D n x) X 1 (.string EH):=by unfold DY;infer_instance
instance lK(X M D:Nat)(n:Int)(x:Ix):El (DY X M D n x) X 2 (.int .i64 n):=by unfold DY;infer_instance
instance lL(X M D:Nat)(n:Int)(x:Ix):El (DY X M D n x) X 3 (.int .i64 x.rd):=by unfold DY;infer_instance
instance lM(X M D:Nat)(n:Int)(x:Ix):El (DY X M D n x) X 4 (.map (some M)):=by unfold DY;infer_instance
instance lN(X M D:Nat)(n:Int)(x:Ix)(r:Int):VD (DY X M D n x) X 3 (.int .i64 r) (DY X M D n ⟨r,x.cs⟩):=by
 show VD (_*_) _ _ _ (Sl.block X mV ([.pointer (some ⟨D,0,none⟩),.string EH,.int .i64 n,.int .i64 x.rd,.map (some M)].set 3 (.int .i64 r))*mp A9 M (eN x.cs))
 infer_instance
instance mG(X M D:Nat)(n:Int)(x:Ix):DK (DY X M D n x) M A9 (eN x.cs):=by unfold DY;infer_instance
instance lO(X M D:Nat)(n:Int)(x:Ix)(k v:Int):K8 (DY X M D n x) M A9 (CT k (.int .i64 v) (eN x.cs)) (DY X M D n ⟨x.rd,eG k v x.cs⟩):=by
 rw[Up]
 unfold DY
 infer_instance
end Go.Proofs.YtfhbmblbidcmmaaGreat
namespace Go.Proofs.YtfhbmblbidcmmaaGreat
open Go.RowKit Go.Sl Go.Dk Go.Tr
theorem kL{B:Ab}{a:Option Addr}{n c q:Nat}{l:List UInt8}{x:UInt8}(d:Reads B (.slice a n c) l){A R:Ab}{w:World}[h:AR A w][t:Take A B R](hq:l[q]?=some x): ∃b o,a=some ⟨b,o,none⟩∧w.cell? ⟨b,o+q,none⟩=some (.int .u8 x.toNat):=
 (d R w (h.take B)).at hq
theorem Y2{l:List UInt8}{i:Nat}{x:UInt8}(h:l[i]?=some x):CL (l.take (i+1))=CL (l.take i)+(if x=10 then 1 else 0):=by
 rw[AB h,Y1,VS]
 rfl
theorem fU{x:UInt8}(h:x=10):((x.toNat:Int)==10)=true:=by subst h;rfl
theorem fV{x:UInt8}(h: ¬x=10):((x.toNat:Int)==10)=false:=by
 rw[Bool.eq_false_iff]
 intro e
 have e:(x.toNat:Int)=10:=by simpa using e
 exact h (UInt8.toNat_inj.mp (by simpa using (by omega:x.toNat=10)))
theorem O5(v:Value)(l:List UInt8)(B F:Ab)(w:World)(t:Reads B v l)(hs:Sat (B*F) w)(hl:l.length≤1048576):
 Calls Tryz.prog 25 #[v] w fun e Z=> ∃a c,e= .returned (.slice a (CL l) c)∧Sat (B*F) Z:=by
 obtain ⟨i0,E⟩:=XC
 obtain ⟨va,vc,rfl,z,O⟩:=(t F w hs).len
 have I:=As t
 obtain ⟨R,y⟩:=Aq (CL l)
 rw[y]
 have L:=As y
 obtain ⟨f,n⟩:=Aq l.length
 have j:=As n
 rw[n] at hl z⊢
 have H:=hs.AG (e:=3) (s:=1)
 clear t y n hs
 go_enter Tryz.func25,Tryz.ntmps25
 go_wp2
 go_loopg [3,4] f (fun g X Y wr=> ∃(i k p:Nat)(a':Option Addr)(zs:List Value),Y= .int .i64 i∧X= .slice a' k p∧i≤f∧k≤i∧Aside (g=f-i∧k=CL (l.take i))∧Sat (rw 3 1 (.slice a' k p) zs*(B*F)) wr)
 case atStart=>exact ⟨0,0,0,none,[],rfl,rfl,by omega,by omega,⟨rfl,rfl⟩,H⟩
 obtain ⟨i,k,p,a',zs,rfl,rfl,hi,hk,J,D⟩:=hrel
 clear H
 haveI:=D.i
 by_cases V:i<f
 · have q:(i:Int)<f:=by omega
   obtain ⟨x,hx⟩: ∃x,l[i]?=some x:=⟨_,List.getElem?_eq_getElem (by have:=j.out;omega)⟩
   have m:=I.out
   rw[j.out] at m
   obtain ⟨b,o,rfl,T⟩:=kL (w:=wr) m hx
   have r:Aside (CL (l.take (i+1))=k+if x=10 then 1 else 0):=(by rw[Y2 hx,J.out.2]:_=_)
   clear hx m
   by_cases d:x=10
   ·rw[if_pos d] at r
    have U:=fU d
    go_wp2_with (at_builtin;refine Af E rfl (.tmp 16) (.tmp 18) rfl rfl rfl (Ae (rw 3 1 (.slice a' k p) zs)) (Src.new (b:=wr.heap.size) (e:=3) (s:=1) (vs:= [.int .i64 i]) (Ae _) rfl (by intro u G;simp at G;subst G;rfl)) (by unfold maxLen;omega) (by omega) ?_;intro M c9 w9 W z9;clear z9;haveI:=W.i)
    go_roundg (f-(i+1))
    case measure=>have:=J.out.1;omega
    case rel=>exact ⟨i+1,k+1,c9,M,zs++ [.int .i64 i],by go_num,rfl,by omega,by omega,⟨rfl,r.out.symm⟩,AD _ _ _⟩
   rw[if_neg d] at r
   have U:=fV d
   go_wp2
   go_roundg (f-(i+1))
   case measure=>have:=J.out.1;omega
   case rel=>exact ⟨i+1,k,p,a',zs,by go_num,rfl,by omega,by omega,⟨rfl,r.out.symm⟩,AD _ _ _⟩
 have q: ¬(i:Int)<f:=by omega
 have K:Aside (k=R):=(by
  have:=J.out.2
  rw[List.take_of_length_le (by rw[j.out];omega),L.out] at this
  exact this:_=_)
 clear J
 go_wp2
 go_ret
 exact ⟨⟨_,_,by rw[←K.out];rfl⟩,Ar _ _⟩
theorem Reads.cut{B:Ab}{a:Option Addr}{n c:Nat}{l:List UInt8}(h:Reads B (.slice a n c) l)(lo hi:Nat)(h1:lo≤hi)(b:hi≤n):Reads B (.slice (AH a c lo 1) (hi-lo) (c-lo)) ((l.drop lo).take (hi-lo)):=
 fun F w hs=>(h F w hs).cut lo hi h1 b
theorem IL{B:Ab}{v:Value}{l:List UInt8}(e:Reads B v l){F:Ab}{w:World}(hs:Sat (B*F) w): ∃a c,v= .slice a l.length c∧l.length≤c∧c≤9223372036854775807:=by
 obtain ⟨a,c,h1,b,d⟩:=(e F w hs).len
 exact ⟨a,c,h1,b,by simpa[maxLen] using d⟩
end Go.Proofs.YtfhbmblbidcmmaaGreat
namespace Go.Dr
open Go
section
variable {P:Program} {ops:Array Oper} {Q:Exit→Act→World→Prop} {md:Region.Mode} {S:World→Prop} {bar:List Nat}
def EK(P:Program)(md:Region.Mode)(ops:Array Oper)(Q:Exit→Act→World→Prop)(S:World→Prop)(bar:List Nat):Nat→Array Bool→Act→World→Prop
 |0,b,a,w=>Region.ready md ops b= []∧Q .normal a w
 | fuel + 1, b, a, w =>
  (Region.ready md ops b= []→Q .normal a w)∧
  ∀i∈Region.ready md ops b,wpOp P ops Q i (fun a' c=>(bar.contains i=false→S w→S c)∧EK P md ops Q S bar fuel (b.setIfInBounds i true) a' c) a w
theorem PN: ∀(fuel:Nat)(b:Array Bool)(a:Act)(w:World),EK P md ops Q S bar fuel b a w→wpAny P md ops Q fuel b a w
 |0,_,_,_,h=>h
 |fuel+1,_,_,_,h=>⟨h.1,fun i hi=>wpOp_mono (fun a' d c=>PN fuel _ a' d c.2) (h.2 i hi)⟩
def waits(md:Region.Mode)(ops:Array Oper)(j i:Nat):Bool:=(ops[j]?).any fun o=>o.after.any fun e=>Region.binds md e&&e.on==i
theorem SU{i:Nat}{r:Oper}{v:Value}(hi:ops[i]?=some r)(p: ∀(j:Nat)(o:Oper) cs b,ops[j]?=some o→o.op≠ .select cs b)
 (t: ∀j∈bar,waits md ops j i=true)
 (M: ∀c a w,Q (.panic c) (a.put r.dst v) w→Q (.panic c) a w):
 ∀(f:Nat)(d:Array Bool)(a:Act)(w:World),
  (∀j s,ops[j]?=some s→j≠i→d.getD j true=false→(∀e∈s.after,Region.binds md e=true→e.on≠i)→r.apart ops s=true)→
  i∈Region.ready md ops d→YieldsIf P ops S r v a→S w→
  EK P md ops Q S bar f (d.setIfInBounds i true) (a.put r.dst v) w→EK P md ops Q S bar (f+1) d a w:=by
 intro f
 induction f with
 | zero =>
   intro d a w _ hr hy B H
   refine ⟨fun h=>(by rw[h] at hr;cases hr),fun j D=>?_⟩
   by_cases g:j=i
   · subst g;exact hy.wpOp hi B ⟨fun _ h=>h,H⟩
   have:=ready_mono D g
   simp_all[H.1]
 | succ f U =>
   intro d a w l hr hy B H
   refine ⟨fun h=>(by rw[h] at hr;cases hr),fun j D=>?_⟩
   by_cases g:j=i
   · subst g;exact hy.wpOp hi B ⟨fun _ h=>h,H⟩
   have h1:=H.2 j (ready_mono D g)
   obtain ⟨n,s,q,K⟩:=mem_ready.1 D
   have x: ∀e∈s.after,Region.binds md e=true→e.on≠i:=fun e W hb R=>by
    have h0:=(mem_ready.1 hr).1
    grind
   have G:bar.contains j=false:=by cases O:bar.contains j with
    |false=>rfl
    | true =>
      have hw:=t j (by simpa using O)
      unfold waits at hw
      grind
   have L:=wpOp_putIf q (l j s q g n x) (fun cs b=>p i r cs b hi) (fun cs b=>p j s cs b q) M hy h1
   have m: ∀k ok,ops[k]?=some ok→k≠i→(d.setIfInBounds j true).getD k true=false→
    (∀e∈ok.after,Region.binds md e=true→e.on≠i)→r.apart ops ok=true:=fun k ok T I y J=>by
    refine l k ok T I ?_ J
    by_cases u:j=k
    · subst u;exact n
    rw[getD_set_ne true u] at y;exact y
   refine wpOp_mono (fun a' V z=>⟨z.2.1,U (d.setIfInBounds j true) a' V m (ready_mono hr (Ne.symm g)) z.1 (z.2.1 G B) ?_⟩) L
   rw[Array.setIfInBounds_comm _ _ g]
   exact z.2.2
theorem Vy{i:Nat}{r:Oper}{v:Value}(hi:ops[i]?=some r)(p: ∀(j:Nat)(o:Oper) cs b,ops[j]?=some o→o.op≠ .select cs b)
 (L: ∀c a w,Q (.panic c) (a.put r.dst v) w→Q (.panic c) a w):
 ∀(f:Nat)(d:Array Bool)(a:Act)(w:World),
  (∀j s,ops[j]?=some s→j≠i→d.getD j true=false→(∀e∈s.after,Region.binds md e=true→e.on≠i)→r.apart ops s=true)→
  i∈Region.ready md ops d→Yields P ops r v a→
  EK P md ops Q S bar f (d.setIfInBounds i true) (a.put r.dst v) w→EK P md ops Q S bar (f+1) d a w:=by
 intro f
 induction f with
 | zero =>
   intro d a w _ hr hy H
   refine ⟨fun h=>(by rw[h] at hr;cases hr),fun j z=>?_⟩
   by_cases g:j=i
   · subst g;exact hy.wpOp hi ⟨fun _ h=>h,H⟩
   have:=ready_mono z g
   rw[H.1] at this
   cases this
 | succ f R =>
   intro d a w l hr hy H
   refine ⟨fun h=>(by rw[h] at hr;cases hr),fun j z=>?_⟩
   by_cases g:j=i
   · subst g;exact hy.wpOp hi ⟨fun _ h=>h,H⟩
   have h1:=H.2 j (ready_mono z g)
   obtain ⟨n,s,q,t⟩:=mem_ready.1 z
   have x: ∀e∈s.after,Region.binds md e=true→e.on≠i:=fun e M hb G=>by
    have h1:=t e M hb
    have h0:=(mem_ready.1 hr).1
    rw[G] at h1
    rcases Nat.lt_or_ge i d.size with B|B
    · simp[B] at h0 h1;rw[h0] at h1;cases h1
    simp[Array.getElem?_eq_none B] at h1
   have K:=wpOp_put q (l j s q g n x) (fun cs b=>p i r cs b hi) (fun cs b=>p j s cs b q) L hy h1
   have m: ∀k ok,ops[k]?=some ok→k≠i→(d.setIfInBounds j true).getD k true=false→
    (∀e∈ok.after,Region.binds md e=true→e.on≠i)→r.apart ops ok=true:=fun k ok O I y J=>by
    refine l k ok O I ?_ J
    by_cases u:j=k
    · subst u;exact n
    rw[getD_set_ne true u] at y;exact y
   refine wpOp_mono (fun a' T D=>⟨D.2.1,R (d.setIfInBounds j true) a' T m (ready_mono hr (Ne.symm g)) D.1 ?_⟩) K
   rw[Array.setIfInBounds_comm _ _ g]
   exact D.2.2
def cH(md:Region.Mode)(ops:Array Oper)(bar:List Nat)(a:Array Bool)(i:Nat):Bool:=
 Region.noSelect ops&&Region.free md ops a i&&(Region.ready md ops a).contains i&&bar.all fun j=>waits md ops j i
theorem Dy(i:Nat){e:Oper}{v:Value}{d:Nat}{b:Array Bool}{a:Act}{w:World}(hi:ops[i]?=some e)(f:cH md ops bar b i=true)
 (l: ∀c a w,Q (.panic c) (a.put e.dst v) w→Q (.panic c) a w) (hy:YieldsIf P ops S e v a) (m:S w)
 (h:EK P md ops Q S bar d (b.setIfInBounds i true) (a.put e.dst v) w):EK P md ops Q S bar (d+1) b a w:=by
 unfold cH at f
 simp only[Bool.and_eq_true,List.all_eq_true] at f
 obtain ⟨⟨⟨h1,g⟩,j⟩,k⟩:=f
 exact SU hi (Region.noSelect_spec h1) k l d b a w (Region.free_spec hi g) (by simpa using j) hy m h
def aZ(md:Region.Mode)(ops:Array Oper)(a:Array Bool)(i:Nat):Bool:=
 Region.noSelect ops&&Region.free md ops a i&&(Region.ready md ops a).contains i
theorem Am(i:Nat){e:Oper}{v:Value}{d:Nat}{b:Array Bool}{a:Act}{w:World}(hi:ops[i]?=some e)(f:aZ md ops b i=true)
 (k: ∀c a w,Q (.panic c) (a.put e.dst v) w→Q (.panic c) a w) (hy:Yields P ops e v a)
 (h:EK P md ops Q S bar d (b.setIfInBounds i true) (a.put e.dst v) w):EK P md ops Q S bar (d+1) b a w:=by
 unfold aZ at f
 simp only[Bool.and_eq_true] at f
 obtain ⟨⟨h1,g⟩,j⟩:=f
 exact Vy hi (Region.noSelect_spec h1) k d b a w (Region.free_spec hi g) (by simpa using j) hy h
def XV(Q:Exit→Act→World→Prop)(K:Act→World→Prop):Exit→Act→World→Prop
 | .normal,a,w=>K a w
 |e,a,w=>Q e a w
theorem C9{K:Act→World→Prop}{a:Act}{w:World}(h:K a w):XV Q K .normal a w:=h
theorem Wy{K:Act→World→Prop}(h:LetsOut (XV Q K)):LetsOut Q:=h
theorem SV{i:Nat}{o:Oper}{K:Act→World→Prop}{a:Act}{w:World}(hi:ops[i]?=some o)(h:wpList P ops (XV Q K) [o] a w):wpOp P ops Q i K a w:=by
 unfold wpOp
 rw[hi]
 simp only
 unfold wpList at h
 split
 ·rename_i hw
  rw[if_pos hw] at h
  rcases h with h|⟨h1,b⟩
  ·left
   generalize (execOp a.eval o).run P w=r at*
   cases r with
   |ok n c=>cases n<;>exact h
   |halt x c=>cases x<;>exact h
  exact .inr ⟨h1,Wy b⟩
 rename_i hw
 rw[if_neg hw] at h
 exact h
theorem CC(i:Nat){o:Oper}{c:Nat}{b:Array Bool}{a:Act}{w:World}(hi:ops[i]?=some o)(hr:Region.ready md ops b= [i])
 (h:wpList P ops (XV Q fun a' d=>S d∧EK P md ops Q S bar c (b.setIfInBounds i true) a' d) [o] a w):EK P md ops Q S bar (c+1) b a w:=
 ⟨fun h0=>(by rw[hr] at h0;cases h0),fun j e=>by
  rw[hr] at e
  obtain rfl:j=i:=by simpa using e
  exact wpOp_mono (fun a' d h=>⟨fun _ _=>h.1,h.2⟩) (SV hi h)⟩
def forced(md:Region.Mode)(ops:Array Oper)(bar:List Nat):List Nat→Array Bool→Bool
 | [],a=>(Region.ready md ops a).isEmpty
 |i::is,a=>Region.ready md ops a== [i]&&bar.contains i&&forced md ops bar is (a.setIfInBounds i true)
theorem PO: ∀(is:List Nat)(os:List Oper)(b:Array Bool)(c:Nat)(a:Act)(w:World),is.map (fun i=>ops[i]?)=os.map some→forced md ops bar is b=true→is.length≤c→wpList P ops Q os a w→EK P md ops Q S bar c b a w
 | [],[],b,0,a,w,_,d,_,h=>⟨by unfold forced at d;simpa using d,h⟩
 | [],[],b,c+1,a,w,_,d,_,h=>⟨fun _=>h,fun i hi=>by
  have:Region.ready md ops b= []:=by unfold forced at d;simpa using d
  rw[this] at hi;cases hi⟩
 | [],o::os,b,c,a,w,e,_,_,_=>by simp at e
 |i::is,[],b,c,a,w,e,_,_,_=>by simp at e
 |i::is,o::os,b,0,a,w,_,_,hl,_=>by simp at hl
 | i :: is, o :: os, b, c + 1, a, w, e, d, hl, h => by
   simp only[List.map_cons,List.cons.injEq] at e
   unfold forced at d
   simp only[Bool.and_eq_true] at d
   obtain ⟨⟨h1,k⟩,l⟩:=d
   have h1:Region.ready md ops b= [i]:=by simpa using h1
   refine ⟨fun h0=>(by rw[h1] at h0;cases h0),fun j g=>?_⟩
   rw[h1] at g
   obtain rfl:j=i:=by simpa using g
   have key:wpOp P ops Q j (wpList P ops Q os) a w:=by simp_all[wpOp,e.1,wpList]
   exact wpOp_mono (fun a' n m=>⟨fun f _=>(by rw[k] at f;cases f),PO is os _ c a' n e.2 l (by simpa using hl) m⟩) key
theorem Gu(is:List Nat){os:List Oper}{b:Array Bool}{c:Nat}{a:Act}{w:World}(hl:is.length≤c)(e:is.map (fun i=>ops[i]?)=os.map some)(d:forced md ops bar is b=true)(h:wpList P ops Q os a w):EK P md ops Q S bar c b a w:=
 PO is os b c a w e d hl h
theorem Ft(S:World→Prop)(bar:List Nat){c:Nat}{a:Act}{w:World}(hm:P.follows .mixedOrders=true)(b:S w.drew)
 (h:S w.drew→EK P .any ops Q S bar ops.size (Array.replicate ops.size false) a w.drew):(Code.region c ops true).wp P Q a w:=
 wp_region_any hm (PN _ _ _ _ (h b))
