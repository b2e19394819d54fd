/- treeFails holds for every input. No condition. (part 35) -/
import Derived.Test.YtfhbmblbidcmmaaGreatYa27
set_option linter.all false
open Go.Proofs.YtfhbmblbidcmmaaGreat
namespace Go.Tr
structure TT (n:Nd):Prop where
 e:n.Ao.length≤12
 k:n.kids.length≤12
 es: ∀x∈n.Ao,0≤x.len∧x.len≤1048576∧ -1≤x.lines∧x.lines≤1048576
 ks: ∀x∈n.kids,0≤x.bytes∧x.bytes≤1048576∧ -1≤x.lines∧x.lines≤1048576∧0≤x.A7∧x.A7≤1048576
theorem TT.zero:TT Ob:=⟨by simp[Ob],by simp[Ob],by simp[Ob],by simp[Ob]⟩
theorem TT.of{n:Nd}(h:may n=true):TT n:=by
 cases hl:n.leaf with
 | true =>
  obtain ⟨a,b,d,c,e⟩:=GK h hl
  refine ⟨c,by rw[a];simp,fun x hx=>?_,by rw[a];simp⟩
  have f:=CP (b x hx)
  have g:=BS.1 (b x hx)
  omega
 | false =>
  obtain ⟨a,b,d,c,e,f⟩:=CJ h hl
  refine ⟨by rw[a];simp,c,by rw[a];simp,fun x hx=>?_⟩
  have g:=Ho (b x hx)
  omega
def Du(a:List UInt8)(no:Int):Option Nd:=
 if no<1∨1048576≤no∨(a.length:Int)<256*no+256 then none else CV no ((a.drop (256*no.toNat)).take 256)
structure Lk where
 ok:Bool
 An:Int
 Ao:List As
 Bc:List Int
variable (V:Int→Option Nd)
def Nt(p:Int):Nd:=(V p).getD Ob
variable {V}
end Go.Tr
namespace Go.Proofs.YtfhbmblbidcmmaaGreat
open Go.Dk Go.Tr
class G1 where
 n:Nat
 le:n≤1048576
variable [G1]
def Oe:Nat:=G1.n
theorem Ll:Oe≤1048576:=G1.le
theorem Has.uniq{s:Ck}{k:Int}{b c:List UInt8}(d:Has s k b)(a:Has s k c):b=c:=by
 unfold Has Bg at d a
 rcases d with d|⟨d,_,_,e⟩<;>rcases a with a|⟨a,_,_,f⟩
 ·rw[d] at a;exact Option.some.inj a
 ·rw[d] at a;cases a
 ·rw[d] at a;cases a
 rw[←e,←f]
def DB(s:TS)(p:Int)(n:Nd):Prop:=p∈s.sp.used∧ ∃b,Has s.ck p b∧CV p b=some n
theorem DB.uniq{s:TS}{p:Int}{n m:Nd}(e:DB s p n)(f:DB s p m):n=m:=by
 obtain ⟨_,b,hb,d⟩:=e
 obtain ⟨_,c,g,a⟩:=f
 obtain rfl:=hb.uniq g
 rw[d] at a
 exact Option.some.inj a
open Classical in
noncomputable def nodeAt(s:TS)(p:Int):Option Nd:=if h: ∃n,DB s p n then some h.choose else none
theorem DE{s:TS}{p:Int}{n:Nd} :nodeAt s p=some n↔DB s p n:=by
 unfold nodeAt
 split
 ·rename_i h
  constructor
  ·intro e;cases e;exact h.choose_spec
  intro hs;rw[h.choose_spec.uniq hs]
 rename_i h
 constructor
 ·intro e;cases e
 intro hs;exact absurd ⟨n,hs⟩ h
theorem CK{s s':TS}(h: ∀p n,DB s p n→DB s' p n):Le (nodeAt s) (nodeAt s'):=fun p n e=>DE.2 (h p n (DE.1 e))
def Bm(s:Sp):Nat:=Oe-s.A5.toNat-s.used.length-s.waiting.length
def Ap(s:TS):Nat:=(Bu-s.ops)/2
structure Ml (roomy:Bool) (s:TS):Prop where
 ts:Gt s
 AG:Good Oe s.ck
 res:1≤s.sp.A5
 used: ∀p∈s.sp.used,s.sp.A5≤p∧p<Oe
 roomy:roomy=true→Roomy Oe s.ck
noncomputable def W8(roomy:Bool):Env TS where
 rd:=Ah
 wt:=Ag
 V:=nodeAt
 inv:=Ml roomy
 reads s:=s.ck.reads.toNat
 room s:=Bm s.sp
 left:=Ap
 bad e:=roomy=false∧e=7
theorem H7{s:TS}{no:Int}{p:Int}{n:Nd}(h:DB s p n){a:Ck}{o:Nat}(f: ∀k b,Has s.ck k b→Has a k b):DB ⟨a,s.sp,o⟩ p n:=by
 obtain ⟨c,b,d,e⟩:=h
 exact ⟨c,b,f _ _ d,e⟩
theorem OS{s:Sp} : ∀{k:Nat}{no:Int},s.least k no=none→ ∀y,no≤y→y<no+k→s.busy y=true
 |0,no,_,y,a,b=>by omega
 | k + 1, no, h, y, a, b => by
  unfold Sp.least at h
  cases hb:s.busy no with
  | true =>
   rw[hb,if_pos rfl] at h
   by_cases e:y=no
   ·rw[e];exact hb
   exact OS h y (by omega) (by omega)
  |false=>rw[hb,if_neg (by simp)] at h;cases h
theorem OK{s:Sp}(h:s.free=none):Bm s=0:=by
 have g:=OS h
 have f:((List.range (1048576-s.A5).toNat).map fun i:Nat=>s.A5+i).Nodup:=by
  refine List.Pairwise.map _ (fun a b d=>?_) List.nodup_range
  intro e
  exact d (by omega)
 have c:((List.range (1048576-s.A5).toNat).map fun i:Nat=>s.A5+i)⊆s.used++s.waiting:=by
  intro y hy
  obtain ⟨i,hi,rfl⟩:=List.mem_map.1 hy
  have hi:=List.mem_range.1 hi
  have:=g (s.A5+i) (by omega) (by omega)
  unfold Sp.busy at this
  simpa using this
 have hl:=List.Nodup.length_le_of_subset f c
 simp only[List.length_map,List.length_range,List.length_append] at hl
 have:=Ll
 unfold Bm
 omega
theorem QG{s:Sp}{no:Int}(h:s.free=some no)(hr:0<Bm s):no<Oe:=by
 obtain ⟨j,k,l,n4⟩:=Sp.EO h
 rcases Int.lt_or_le no Oe with g|g
 · exact g
 exfalso
 have f:((List.range ((Oe:Int)-s.A5).toNat).map fun i:Nat=>s.A5+i).Nodup:=by
  refine List.Pairwise.map _ (fun a b d=>?_) List.nodup_range
  intro e
  exact d (by omega)
 have c:((List.range ((Oe:Int)-s.A5).toNat).map fun i:Nat=>s.A5+i)⊆s.used++s.waiting:=by
  intro y hy
  obtain ⟨i,hi,rfl⟩:=List.mem_map.1 hy
  have hi:=List.mem_range.1 hi
  have:=n4 (s.A5+i) (by omega) (by omega)
  unfold Sp.busy at this
  simpa using this
 have hl:=List.Nodup.length_le_of_subset f c
 simp only[List.length_map,List.length_range,List.length_append] at hl
 unfold Bm at hr
 omega
theorem Y'(r:Bool)(s:TS)(p:Int)(n:Nd)(d:Ml r s)(o:nodeAt s p=some n):Step (W8 r) s 1 0 (Ah p) (fun m s'=>m=n):=by
 obtain ⟨v,b,hb,u⟩:=DE.1 o
 obtain ⟨y,z⟩:=d.used p v
 have w:=d.res
 have B:=Ll
 unfold Step
 right
 by_cases i:s.ops<Bu
 · obtain ⟨m,hm⟩:=d.ts.ck
   have g:=Iy (no:=p) hm d.AG (by omega) (by omega)
   have j:=d.ts.get p i
   have t:=(ML hm p).2
   have f: ∀q x,DB s q x→DB ⟨(s.ck.get p).2.2,s.sp,s.ops+2⟩ q x:=fun q x h=>H7 (no:=p) h g.has
   have e:Ml r ⟨(s.ck.get p).2.2,s.sp,s.ops+2⟩:=⟨j,g.AG,d.res,d.used,fun h=>(g.roomy (d.roomy h)).2⟩
   have a:(s.ck.get p).2.2.reads.toNat≤s.ck.reads.toNat+1:=by omega
   have c:Ap s≤Ap ⟨(s.ck.get p).2.2,s.sp,s.ops+2⟩+1:=by unfold Ap;simp only;omega
   rw[FZ i]
   rcases g.O' b hb with k|⟨e0,l⟩
   ·rw[if_neg (by omega),if_neg (by omega)]
    refine ⟨.inl ⟨?_,k⟩,e,CK f,a,c⟩
    cases hr:r with
    |false=>rfl
    |true=>exact absurd k (g.roomy (d.roomy hr)).1
   rw[if_pos e0,l,u]
   exact ⟨e,CK f,a,Nat.le_add_right _ _,c,rfl⟩
 have:Ah p s= .bad:=by
  unfold Ah M.bind Mo
  rw[if_neg i]
  rfl
 rw[this]
 show Ap s<1
 unfold Ap
 omega
theorem j5(r:Bool)(s:TS)(n:Nd)(l:Ml r s)(hm:may n=true):Step (W8 r) s 0 1 (Ag n) (fun k s'=>k=Jx k.Ay n∧1≤k.Ay∧k.Ay<1048576∧nodeAt s' k.Ay=some n):=by
 obtain ⟨a,d,K,hk,D,R⟩:=KL hm
 unfold Step
 by_cases U:Bm s.sp<1
 · exact .inl U
 right
 by_cases Q:s.ops<Bu
 · have hr:Ag n s=M.bind F0 (fun t=>M.bind (DQ (if t.2=9 then 7 else t.2)) fun _=>M.bind (DQ (CQ t.1 a d).2) fun _=>M.bind (QR t.1 (CQ t.1 a d).1) fun e=>M.bind (DQ e) fun _=>M.pure ⟨t.1,(Bl n).1,(Bl n).2.1,(Bl n).2.2⟩) s:=by
    conv=>lhs;unfold Ag
    rw[K,if_neg (by simp)]
   have u:=l.ts.take Q
   cases G:s.sp.free with
   | none =>
     have O:s.sp.take=((0,9),s.sp):=by unfold Sp.take;rw[G]
     have y:Ag n s= .fault 7 ⟨s.ck,s.sp,s.ops+1⟩:=by
      rw[hr]
      unfold M.bind F0
      rw[if_pos Q,O]
      rfl
     rw[y]
     rw[O] at u
     refine ⟨.inr ?_,⟨u,l.AG,l.res,l.used,l.roomy⟩,CK fun q x h=>H7 (no:=0) h (fun _ _ h=>h),Nat.le_refl _,?_⟩
     · show Bm s.sp<1
       rw[OK G]
       omega
     show Ap s≤Ap ⟨s.ck,s.sp,s.ops+1⟩+(0+1)
     unfold Ap
     simp only
     omega
   | some no =>
     obtain ⟨n1,n2,W,_⟩:=Sp.EO G
     have u0:=l.res
     obtain ⟨m,rfl⟩: ∃m:Nat,no=m:=⟨no.toNat,by omega⟩
     have H:=QG G (by omega)
     have J:(m:Int)<1048576:=by have:=Ll;omega
     have T:CQ (m:Int) a d=(AF m a d,0):=by
      unfold CQ
      rw[if_neg (by omega),if_neg (by omega)]
      simp
     have z:s.sp.take=(((m:Int),0), { s.sp with used:=s.sp.used++ [(m:Int)],taken:=s.sp.taken++ [(m:Int)] }):=by unfold Sp.take;rw[G]
     obtain ⟨i,f⟩: ∃x:Sp,x= { s.sp with used:=s.sp.used++ [(m:Int)],taken:=s.sp.taken++ [(m:Int)] } :=⟨_,rfl⟩
     rw[←f] at z
     rw[z] at u
     have y:Ag n s=if (s.ck.put m (AF m a d)).1=0 then .ok ⟨m,(Bl n).1,(Bl n).2.1,(Bl n).2.2⟩ ⟨(s.ck.put m (AF m a d)).2,i,s.ops+2⟩ else .fault (s.ck.put m (AF m a d)).1 ⟨(s.ck.put m (AF m a d)).2,i,s.ops+2⟩:=by
      rw[hr]
      unfold M.bind F0 QR
      rw[if_pos Q,z]
      simp only[DR.bind,show¬((0:Int)=9) by omega,if_false,T,DQ,if_true,M.pure]
      by_cases w:(s.ck.put m (AF m a d)).1=0<;>simp[w,M.fail,M.pure,DR.bind]
     rw[y]
     obtain ⟨mm,I⟩:=l.ts.ck
     have g:=ND (no:=(m:Int)) (c:=AF m a d) I l.AG (by omega) J (by omega) (Hw m a D)
     have P:=u.put m (AF m a d) (by show s.ops+1≤_;omega)
     have a0:=(Qg I m (AF m a d)).2
     have L: ∀q x,DB s q x→DB ⟨(s.ck.put m (AF m a d)).2,i,s.ops+2⟩ q x:=fun q x ⟨X,b,Y,Z⟩=>by
      have hq:q≠(m:Int):=by
       rintro rfl
       unfold Sp.busy at W
       simp at W
       exact W.1 X
      exact ⟨by rw[f];exact List.mem_append_left _ X,b,g.has _ _ (.inl hq) Y,Z⟩
     have B: ∀p∈i.used,i.A5≤p∧p<Oe:=by
      rw[f]
      intro p hp
      rcases List.mem_append.1 hp with hp|hp
      · exact l.used p hp
      simp at hp;subst hp;exact ⟨n1,H⟩
     have v:Ml r ⟨(s.ck.put m (AF m a d)).2,i,s.ops+2⟩:=⟨P,g.AG,by rw[f];exact l.res,B,fun h=>(g.roomy (l.roomy h)).2⟩
     have o:Ap s≤Ap ⟨(s.ck.put m (AF m a d)).2,i,s.ops+2⟩+(0+1):=by unfold Ap;simp only;omega
     have j:(s.ck.put m (AF m a d)).2.reads.toNat≤s.ck.reads.toNat+0:=by omega
     by_cases w:(s.ck.put m (AF m a d)).1=0
     · rw[if_pos w]
       refine ⟨v,CK L,j,?_,o,rfl,by show (1:Int)≤m;omega,J,?_⟩
       · show Bm s.sp≤Bm i+1
         rw[f]
         unfold Bm
         simp only[List.length_append,List.length_cons,List.length_nil]
         omega
       refine DE.2 ⟨by rw[f];simp,AF m a d,g.put w,?_⟩
       unfold CV
       rw[Pn (by omega) (by omega) D]
       simp only[if_true,R]
     rw[if_neg w]
     refine ⟨.inl ⟨?_,(g.code.resolve_left w)⟩,v,CK L,j,o⟩
     cases hr:r with
     |false=>rfl
     |true=>exact absurd (g.roomy (l.roomy hr)).1 w
 have:Ag n s= .bad:=by
  unfold Ag M.bind F0
  rw[K,if_neg (by simp),if_neg Q]
  rfl
 rw[this]
 show Ap s<0+1
 unfold Ap
 omega
theorem Yv(r:Bool):(W8 r).Ok:=⟨Y' r,j5 r⟩
