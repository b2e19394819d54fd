/- treeFails holds for every input. No condition. (part 43) -/
import Derived.Test.YtfhbmblbidcmmaaGreatYa16
set_option linter.all false
set_option maxRecDepth 100000
set_option maxHeartbeats 2000000
namespace Go.Proofs.YtfhbmblbidcmmaaGreat
open Go.RowKit Go.Sl Go.Sort
abbrev CB:TypeId:=212
abbrev ZY:TypeId:=87
def Om(p:Int×Int):List Value:= [.int .i64 p.1,.int .i64 p.2]
def C9(l:List (Int×Int)):List Value:=l.flatMap Om
def Zl(a b:Int×Int):Bool:=decide (a.1<b.1)
theorem Ff(l:List (Int×Int)):(C9 l).length=l.length*2:=OD (f:=Om) (fun _=>rfl) l
theorem Qj{l:List (Int×Int)}{i:Nat}{p:Int×Int}(h:l[i]?=some p)(k:Nat)(a:k<2):(C9 l)[i*2+k]?=(Om p)[k]?:=K0 (f:=Om) (s:=2) (fun _=>rfl) l i k p h a
theorem X3(d:Array (Int×Int)):(flatK Om 2 d).toList=C9 d.toList:=by
 apply List.ext_getElem?
 intro t
 by_cases h:t<d.size*2
 ·have a:t<(flatK Om 2 d).size:=by simpa using h
  have b:t/2<d.size:=by omega
  have c:=get_flatK Om 2 d t h
  rw[getElem!_pos (flatK Om 2 d) t a,getElem!_pos d (t/2) b] at c
  have e:=Qj (l:=d.toList) (i:=t/2) (p:=d[t/2]) (by simp[b]) (t%2) (by omega)
  rw[show t/2*2+t%2=t by omega] at e
  rw[e,Array.getElem?_toList,Array.getElem?_eq_getElem a,c,getElem!_pos _ _ (by show t%2<2;omega),List.getElem?_eq_getElem (by show t%2<2;omega)]
 rw[Array.getElem?_toList,Array.getElem?_eq_none (by simp;omega),List.getElem?_eq_none (by rw[Ff];simp;omega)]
theorem QP(Ew a c b size:Nat)(W:World)(G:Nat→Int)(hs:W.cell? ⟨b,0,none⟩=some (.slice (some ⟨Ew,a,none⟩) size c))
 (f: ∀t,t<size→W.cell? ⟨Ew,a+t*2,none⟩=some (.int .i64 (G t))) (i j:Nat) (hi:i<size) (g:j<size) (d:size<4611686018427387904):
 Calls Tryz.prog 152 #[.int .i64 i,.int .i64 j,.pointer (some ⟨b,0,none⟩)] W fun e k=>e= .returned (.bool (decide (G i<G j)))∧ ∃q,k=W.drewN q:=by
 have l:=f i hi
 have m:=f j g
 go_enter Tryz.func152,Tryz.ntmps152
 go_wp2
 go_quiet (fail)
 go_wp2
 go_ret
 exact ⟨rfl,nq,rfl⟩
noncomputable def o0:TypeInfo:=(Tryz.prog.info? 87).get (by kernel_rfl)
noncomputable def Zn:TypeInfo:=(Tryz.prog.info? 212).get (by kernel_rfl)
theorem y0(n:Nat)(e:2≤n):Lib.swapperK n Zn 25=9:=by
 have a:Zn.hasPointers=false:=by kernel_rfl
 have b:Zn.bytes=16:=by kernel_rfl
 have c:(n==0)=false:=by simp;omega
 have d:(n==1)=false:=by simp;omega
 simp[Lib.swapperK,a,b,c,d]
theorem n8:Lib.swapperK 0 Zn 25=1:=by simp[Lib.swapperK]
theorem n9:Lib.swapperK 1 Zn 25=2:=by simp[Lib.swapperK]
theorem o8:SWO Zl where
 irrefl:=fun a=>by simp[Zl]
 trans:=fun a b c d e=>by simp only[Zl,decide_eq_true_eq] at*;omega
 ntrans:=fun a b c d e=>by simp only[Zl,decide_eq_false_iff_not] at*;omega
theorem UU{w:World}(os:Array Obj){k:Key}{r:DR}(h:Has w k r):Has (Sort.grow w os) k r:=by
 have Jm: ∀{b:Nat}{o:Obj},w.heap[b]?=some o→(Sort.grow w os).heap[b]?=some o:=fun {b o} e=>by
  rw[heap_grow_old w os (Array.getElem?_eq_some_iff.1 e).1];exact e
 cases k<;>cases r<;>first|exact h.elim|skip
 · exact Jm h
 · obtain ⟨c,t,a,d⟩:=h;exact ⟨c,t,Jm a,d⟩
 · obtain ⟨c,a,d⟩:=h;exact ⟨c,Jm a,d⟩
 exact h
theorem Sat.Zj{A:Ac}{w:World}(hs:Sat A w)(os:Array Obj):Sat A (Sort.grow w os):=by
 obtain ⟨h,ha,H⟩:=hs
 exact ⟨h,ha,fun k r e=>UU os (H k r e)⟩
instance:Inhabited (Int×Int):=⟨(0,0)⟩
theorem U0(d:Array (Int×Int)):flatK Om 2 d=(C9 d.toList).toArray:=by rw[←X3 d]
def Zy(l:List (Int×Int)):Prop:=l.Pairwise fun x y=>x.1≤y.1
theorem NP(p:Option Addr)(n c:Nat)(h:n≤1)(d:Fn)(a b:Array Value)(w:World):
 Calls Tryz.prog 151 #[.iface 87 (.slice p n c),.func d a b] w fun e f=>e= .returned (.tuple #[])∧ ∃os,f=grow w os:=by
 match n,h with
 |0,_=>exact Any.sort_Slice_tiny Tryz.PQ 87 212 o0 Zn (by kernel_rfl) (by kernel_rfl) (by kernel_rfl) (by kernel_rfl) 25 (fun _=>by kernel_rfl) p 0 c (by omega) 199 (by rw[n8];kernel_rfl) d a b w
 |1,_=>exact Any.sort_Slice_tiny Tryz.PQ 87 212 o0 Zn (by kernel_rfl) (by kernel_rfl) (by kernel_rfl) (by kernel_rfl) 25 (fun _=>by kernel_rfl) p 1 c (by omega) 200 (by rw[n9];kernel_rfl) d a b w
theorem Ty(Ew c b2 c2:Nat)(d:Array (Int×Int))(w:World)(o:2≤d.size)(f:d.size<4611686018427387904)(p:HoldsK Om 2 w Ew 0 d)(a:Ew<w.heap.size)(l:b2≠Ew)(k:b2<w.heap.size)(hs:w.cell? ⟨b2,0,none⟩=some (.slice (some ⟨Ew,0,none⟩) d.size c2)):
 Calls Tryz.prog 151 #[.iface 87 (.slice (some ⟨Ew,0,none⟩) d.size c),.func (.func 152) #[] #[.pointer (some ⟨b2,0,none⟩)]] w fun e s=>
  e= .returned (.tuple #[])∧ ∃d' n os,PermIn 0 d.size d d'∧SortedIn Zl 0 d.size d'∧s=grow (putRowK Om 2 (Sort.ahead w n) Ew 0 d') os:=by
 have b:LessReadsK Tryz.prog 152 #[.pointer (some ⟨b2,0,none⟩)] Om 2 Zl Ew 0 d.size w:=by
  intro m os dk f i j hi r
  have e:sortWorldK Om 2 w Ew 0 m dk os=putRowK Om 2 (grow (Sort.ahead w m) os) Ew 0 dk:=by
   unfold sortWorldK;rw[putRowK_grow _ _ (Sort.ahead w m) _ Ew 0 _ a]
  have g:HoldsK Om 2 (grow (Sort.ahead w m) os) Ew 0 d:=holdsK_grow _ _ _ _ Ew 0 d a (holdsK_ahead _ _ _ _ _ _ _ p)
  refine QP Ew 0 c2 b2 d.size _ (fun t=>dk[t]!.1) ?_ (fun t u=>?_) i j hi r (by omega)
  · rw[e,cell?_putRowK_other _ _ _ Ew 0 dk _ l,cell?_grow _ _ _ k]
    exact hs
  rw[e];exact ((holdsK_putRowK _ _ _ Ew 0 d dk g f).cell (i:=t) (c:=0) (by omega) (by omega)).1
 exact Any.sort_Slice_cells_sorted Tryz.PQ 87 212 o0 Zn (by kernel_rfl) (by kernel_rfl) (by kernel_rfl) (by kernel_rfl) 25 (fun _=>by kernel_rfl) Om 2 (fun _=>rfl) (by kernel_rfl) (fun _=>by kernel_rfl)
  (fun x v q=>by simp[Om] at q;rcases q with rfl|rfl<;>rfl) Zl o8 152 _
  (enters_of Tryz.func152 (by kernel_rfl) rfl) Ew 0 c d o f 207 (by rw[y0 _ o];kernel_rfl) false
  (fun args W=>run_callFunc_extern Tryz.func207 (by kernel_rfl) (by kernel_rfl) (by kernel_rfl) (e:=Extern.ReflectliteSwapper.swap false) (by kernel_rfl) args W) w b p a
theorem VB{Ew c T b2 c2:Nat}{l:List (Int×Int)}{sp:List Value}{F:Ac}{w:World}(hs:Sat (block Ew T (C9 l++sp)*F) w)(z:w.cell? ⟨b2,0,none⟩=some (.slice (some ⟨Ew,0,none⟩) l.length c2))(o:b2≠Ew)(f:b2<w.heap.size)(hm:l.length<4611686018427387904):
 Calls Tryz.prog 151 #[.iface 87 (.slice (some ⟨Ew,0,none⟩) l.length c),.func (.func 152) #[] #[.pointer (some ⟨b2,0,none⟩)]] w fun e q=>
  e= .returned (.tuple #[])∧ ∃p,p.Perm l∧Zy p∧Sat (block Ew T (C9 p++sp)*F) q:=by
 by_cases r:l.length≤1
 · refine (NP _ _ c r _ _ _ w).mono fun x q ⟨h,os,b⟩=>⟨h,l,List.Perm.refl _,?_,?_⟩
   ·match l,r with
    | [],_=>exact List.Pairwise.nil
    | [x],_=>exact List.pairwise_singleton _ _
   subst b;exact Sat.Zj hs os
 have hw:=hs.Ee
 have y:HoldsK Om 2 w Ew 0 l.toArray:=by
  show Holds id w Ew 0 (flatK Om 2 l.toArray)
  rw[U0]
  intro j a
  simp only[List.size_toArray] at a
  have u:Sat (cells Ew 0 (C9 l)*(Dl Ew T (C9 l++sp).length*(cells Ew (C9 l).length sp*F))) w:=hs.eq (by rw[De];ac_rfl)
  refine ⟨?_,by simp[World.frozen?,hw]⟩
  rw[u.DC j ((C9 l)[j]) (by simp[a])]
  simp[a]
 refine (Ty Ew c b2 c2 l.toArray w (by simp;omega) (by simpa using hm) y (Eh hw) o f (by simpa using z)).mono fun x q ⟨h,d',n,os,hp,B,b⟩=>⟨h,d'.toList,?_,?_,?_⟩
 · have d:=hp.2.2
   have s:=hp.1
   simp only[List.size_toArray] at d s
   rw[Array.extract_eq_self_of_le (by omega),Array.extract_eq_self_of_le (by simp)] at d
   simpa using d
 · have s:d'.size=l.length:=by simpa using hp.1
   refine List.pairwise_iff_getElem.2 fun i j hi a k=>?_
   have t:=B i j (Nat.zero_le _) k (by simp at a⊢;omega)
   have g:i<d'.size:=by simpa using hi
   have m:j<d'.size:=by simpa using a
   rw[getElem!_pos d' i g,getElem!_pos d' j m] at t
   simp only[Zl,decide_eq_false_iff_not] at t
   show d'.toList[i].1≤d'.toList[j].1
   simp only[Array.getElem_toList]
   omega
 subst b
 show Sat _ (grow (putRow id (Sort.ahead w n) Ew 0 (flatK Om 2 d')) os)
 rw[U0]
 have v:=RV id (xs:=C9 l) (ys:=C9 d'.toList) (n:=n) (os:=os) (sp:=sp) (F:=F) (by simpa using hs) (by rw[Ff,Ff];have:=hp.1;simp at this;simp[this])
 simpa using v
theorem FW(a b:List (Int×Int)):C9 (a++b)=C9 a++C9 b:=List.flatMap_append
theorem Jp(l:List (Int×Int))(t:Nat):(C9 l)[t]?=(l[t/2]?).map fun p=>(Om p)[t%2]!:=by
 by_cases h:t/2<l.length
 ·have a:=Qj (l:=l) (i:=t/2) (p:=l[t/2]) (by simp[h]) (t%2) (by omega)
  rw[show t/2*2+t%2=t by omega] at a
  rw[a,List.getElem?_eq_getElem h,Option.map_some,getElem!_pos _ _ (by show t%2<2;omega),List.getElem?_eq_getElem (by show t%2<2;omega)]
 rw[List.getElem?_eq_none (by rw[Ff];omega),List.getElem?_eq_none (by omega)];rfl
noncomputable def Cc:List (Int×Int)→List (Int×Int)
 | []=> []
 | p :: l => match decide (max p.1 0 < p.2) with
  |true=>(max p.1 0,p.2)::Cc l
  |false=>Cc l
noncomputable def Fq(r:Int×Int):List (Int×Int)→List (Int×Int)
 | []=> [r]
 | [p]=>match decide (r.1≤p.2) with
  |true=> [(p.1,max p.2 r.2)]
  |false=> [p,r]
 |p::q::l=>p::Fq r (q::l)
noncomputable def CO:List (Int×Int)→List (Int×Int)→List (Int×Int)
 |out,[]=>out
 |out,r::l=>CO (Fq r out) l
theorem Hn: ∀a b:List (Int×Int),Cc (a++b)=Cc a++Cc b
 | [],b=>rfl
 | p :: a, b => by
  show (match decide (max p.1 0<p.2) with|true=>(max p.1 0,p.2)::Cc (a++b)|false=>Cc (a++b))=(match decide (max p.1 0<p.2) with|true=>(max p.1 0,p.2)::Cc a|false=>Cc a)++Cc b
  rw[Hn a b]
  cases decide (max p.1 0<p.2)<;>rfl
theorem CS: ∀(l out:List (Int×Int))(r:Int×Int),CO out (l++ [r])=Fq r (CO out l)
 | [],out,r=>rfl
 |p::l,out,r=>CS l (Fq p out) r
theorem RA(r:Int×Int):Fq r []= [r]:=rfl
theorem GU(r:Int×Int): ∀(o:List (Int×Int))(p:Int×Int),Fq r (o++ [p])=(match decide (r.1≤p.2) with|true=>o++ [(p.1,max p.2 r.2)]|false=>o++ [p,r])
 | [],p=>rfl
 | [q],p=>by
  show q::Fq r [p]=_
  rw[show [p]= []++ [p] from rfl,GU r [] p]
  cases decide (r.1≤p.2)<;>rfl
 | q :: a :: o, p => by
   show q::Fq r ((a::o)++ [p])=_
   rw[GU r (a::o) p]
   cases decide (r.1≤p.2)<;>rfl
theorem YM(o:List (Int×Int))(a b z:Int):(C9 (o++ [(a,b)])).set (o.length*2+1) (.int .i64 z)=C9 (o++ [(a,z)]):=by
 rw[FW,FW,List.set_append_right _ _ (by rw[Ff];omega),Ff]
 rw[show o.length*2+1-o.length*2=1 by omega]
 rfl
theorem Xw(r:Int×Int)(o:List (Int×Int)):(Fq r o).length≤o.length+1:=by
 rcases List.eq_nil_or_concat o with rfl|⟨o',p,rfl⟩
 ·simp[Fq]
 rw[List.concat_eq_append,GU]
 cases decide (r.1≤p.2)<;>simp
theorem Qf(r:Int×Int): ∀o:List (Int×Int),Fq r o≠ []
 | []=>by simp[Fq]
 | [p]=>by
  show (match decide (r.1≤p.2) with|true=> [(p.1,max p.2 r.2)]|false=> [p,r])≠ []
  cases decide (r.1≤p.2)<;>simp
 |p::q::l=>by simp[Fq]
theorem ON: ∀(l out:List (Int×Int)),(CO out l).length≤out.length+l.length
 | [],out=>Nat.le_refl _
 | p :: l, out => by
  have a:=ON l (Fq p out)
  have b:=Xw p out
  show (CO (Fq p out) l).length≤_
  simp only[List.length_cons]
  omega
theorem Ly: ∀l:List (Int×Int),(Cc l).length≤l.length
 | []=>Nat.le_refl _
 | p :: l => by
  have:=Ly l
  unfold Cc
  split<;>simp<;>omega
theorem Vc{x y:Int}(h:max x 0<y):Cc [(x,y)]= [(max x 0,y)]:=by simp[Cc,h]
theorem SM{x y:Int}(h: ¬max x 0<y):Cc [(x,y)]= []:=by simp[Cc,h]
theorem VC(a:Option Addr)(c B:Nat)(l:List (Int×Int))(F:Ac)(w:World)(hl:l.length<4611686018427387904)
 (hs:Sat (rw CB 2 (.slice a l.length c) (C9 l)*(Sl.block B ZY [.slice a l.length c]*F)) w):
 Calls Tryz.prog 151 #[.iface 87 (.slice a l.length c),.func (.func 152) #[] #[.pointer (some ⟨B,0,none⟩)]] w fun e o=>
  e= .returned (.tuple #[])∧ ∃b,b.Perm l∧Zy b∧Sat (rw CB 2 (.slice a l.length c) (C9 b)*(Sl.block B ZY [.slice a l.length c]*F)) o:=by
 rcases hs.Cm with ⟨p,q,_⟩|⟨g,n,cap,sp,p,q,d,s,t,f⟩
 · have d:=Ff l
   rw[q] at d
   simp only[List.length_nil] at d
   have r:l= []:=List.eq_nil_of_length_eq_zero (by omega)
   subst r
   refine (NP _ _ c (by simp) _ _ _ w).mono ?_
   rintro e o ⟨rfl,os,rfl⟩
   exact ⟨rfl,[],List.Perm.refl _,List.Pairwise.nil,Sat.Zj hs os⟩
 cases p
 have k:Sat (Sl.cell B 0 (.slice (some ⟨g,0,none⟩) l.length c)*(Sl.block g CB (C9 l++sp)*(Sl.Dl B ZY 1*F))) w:=f.eq (by
  rw[show Sl.block B ZY [.slice (some ⟨g,0,none⟩) l.length c]=Sl.Dl B ZY 1*(Sl.cell B 0 (.slice (some ⟨g,0,none⟩) l.length c)*1) from rfl,Bd]
  ac_rfl)
 have m:B≠g:=fun e=>by
  subst e
  have i:=(k.take (Sl.block B CB (C9 l++sp))).Ee
  have j:=(f.eq (show _=Sl.block B ZY [.slice (some ⟨B,0,none⟩) l.length c]*(Sl.block B CB (C9 l++sp)*F) by ac_rfl)).Ee
  rw[i] at j
  simp at j
  exact absurd j.2 (by decide)
 refine (VB (b2:=B) (c2:=c) f (by simpa using k.cell) m k.lt hl).mono ?_
 rintro e o ⟨rfl,b,hp,u,i⟩
 refine ⟨rfl,b,hp,u,Sat.Fg (sp:=sp) (by rw[Ff,hp.length_eq]) (by rw[List.length_append,Ff,hp.length_eq,←Ff,←List.length_append];exact d) s t i⟩
theorem W4: ∃i,CF Tryz.prog 87 CB 2 16 i (.agg #[.int .i64 0,.int .i64 0]):=by
 exact JG Tryz.underlying87 (by kernel_rfl) rfl (by decide)
theorem Vv(v:Option Addr)(z:Nat)(d:List (Int×Int))(G:Ac)(w:World)(hl:d.length≤1073741824)(ab:Sat (rw CB 2 (.slice v d.length z) (C9 d)*G) w):
 Calls Tryz.prog 120 #[.slice v d.length z] w fun e w'=> ∃l':List (Int×Int),l'.Perm (Cc d)∧Zy l'∧ ∃(a':Option Addr)(I:Nat),e= .returned (.slice a' (CO [] l').length I)∧
  Sat (rw CB 2 (.slice a' (CO [] l').length I) (C9 (CO [] l'))*(rw CB 2 (.slice v d.length z) (C9 d)*G)) w':=by
 have a7:Sat (rw CB 2 (.slice v d.length z) (C9 d)*G) w:=ab
 clear ab
 go_enter Tryz.func120,Tryz.ntmps120
 obtain ⟨i0,EP⟩:=W4
 have a8:=a7.alloc #[.slice none 0 0] 87
 have a9:=a8.Bj (e:=CB) (s:=2)
 go_wp2
 go_loopg [12] d.length (fun g al wr=> ∃(i:Nat)(a:Option Addr)(c:Nat),al= .int .i64 i∧i≤d.length∧Aside (g=d.length-i)∧
  Sat (rw CB 2 (.slice a (Cc (d.take i)).length c) (C9 (Cc (d.take i)))*(Sl.block w.heap.size 87 [.slice a (Cc (d.take i)).length c]*(rw CB 2 (.slice v d.length z) (C9 d)*G))) wr)
 case atStart=>exact ⟨0,none,0,rfl,by omega,rfl,by simpa[Cc,C9] using a9⟩
 obtain ⟨i,a,c,rfl,hi,A,k⟩:=hrel
 haveI:=k.i
 clear a7 a8 a9
 by_cases O:i<d.length
 · have K:(i:Int)<d.length:=by omega
   obtain ⟨⟨x,y⟩,hp⟩: ∃p,d[i]=p:=⟨_,rfl⟩
   have hx:(C9 d)[i*2]?=some (.int .i64 x):=by rw[Jp,show i*2/2=i by omega,show i*2%2=0 by omega,List.getElem?_eq_getElem O,hp];rfl
   have hy:(C9 d)[i*2+1]?=some (.int .i64 y):=by rw[Jp,show (i*2+1)/2=i by omega,show (i*2+1)%2=1 by omega,List.getElem?_eq_getElem O,hp];rfl
   haveI:At (C9 d) (i*2) (.int .i64 x):=⟨hx⟩
   obtain ⟨g0,rfl⟩:=DZ (k.take (rw CB 2 (.slice v d.length z) (C9 d))) (by omega)
   haveI:=k.i
   haveI:At (C9 d) (i*2+1) (.int .i64 y):=⟨hy⟩
   have H:Aside (d.take (i+1)=d.take i++ [(x,y)]):=(by rw[List.take_add_one,List.getElem?_eq_getElem O,hp];rfl:_=_)
   by_cases hk:max x 0<y
   · have a3:(Cc (d.take i)).length≤1073741824:=by
      have:=Ly (d.take i)
      rw[List.length_take] at this
      omega
     go_wp2_with (at_builtin;go_loud (refine Aj EP rfl (.tmp 25) (.tmp 27) rfl rfl rfl (Ae (rw CB 2 (.slice a (Cc (d.take i)).length c) (C9 (Cc (d.take i))))) (Src.new (b:=wr.heap.size+1) (e:=CB) (s:=2) (vs:= [.int .i64 (max x 0),.int .i64 y]) (by rw[←show (wr.alloc (.cells #[.int .i64 (max x 0),.int .i64 y] CB)).heap.size=wr.heap.size+1 by simp];exact Ae _) rfl (by intro u T;simp at T;rcases T with rfl|rfl<;>rfl)) (by unfold maxLen;omega) (by omega) ?_;intro a' I w2 L r;haveI:=L.i;clear r))
     go_roundg (d.length-(i+1))
     case measure=>have:=A.out;omega
     refine ⟨i+1,a',I,by go_num,by omega,rfl,?_⟩
     rw[H.out,Hn,Vc (by omega),List.length_append,FW]
     exact Br (C:=Sl.block (wr.alloc (.cells #[.int .i64 (max x 0),.int .i64 y] CB)).heap.size CB [.int .i64 (max x 0),.int .i64 y]*Sl.block wr.heap.size CB [.int .i64 (max x 0),.int .i64 y]) (by
      show rw CB 2 (.slice a' ((Cc (d.take i)).length+1) I) _*_=_
      ac_rfl)
   go_wp2
   go_roundg (d.length-(i+1))
   case measure=>have:=A.out;omega
   refine ⟨i+1,a,c,by go_num,by omega,rfl,?_⟩
   rw[H.out,Hn,SM (by omega),List.append_nil]
   exact Br (C:=Sl.block wr.heap.size CB [.int .i64 (max x 0),.int .i64 y]) (by ac_rfl)
 have K: ¬(i:Int)<d.length:=by omega
 obtain rfl:i=d.length:=by omega
 rw[List.take_length] at k
 haveI:=k.i
 have a3:=Ly d
 have Y:=VC a c w.heap.size (Cc d) (rw CB 2 (.slice v d.length z) (C9 d)*G) wr (by omega) k
 obtain ⟨o,P⟩: ∃n,(Cc d).length=n:=⟨_,rfl⟩
 rw[P] at Y a3
 have ai:Aside (Sat (rw CB 2 (.slice a o c) (C9 (Cc d))*(Sl.block w.heap.size 87 [.slice a o c]*(rw CB 2 (.slice v d.length z) (C9 d)*G))) wr):=(by rw[←P];exact k:Sat _ _)
 have ag:Aside ((Cc d).length=o):=P
 haveI:=ai.out.i
 clear k P
 go_wp2_with fail
 refine Y.mono ?_
 rintro e w2 ⟨rfl,f,W,ac,X⟩
 clear Y
 have HI:Aside (f.Perm (Cc d)∧Zy f):=⟨W,ac⟩
 have aq:f.length=o:=by rw[W.length_eq];exact ag.out
 clear W ac
 haveI:=X.i
 have aa:=Sat.Bj (e:=CB) (s:=2) (X.eq (show _=rw CB 2 (.slice a o c) (C9 f)*(rw CB 2 (.slice v d.length z) (C9 d)*G)*Sl.block w.heap.size 87 [.slice a o c] by ac_rfl)).CR
 go_wp2
 go_loopg [6,36] o (fun g t6 am wr=> ∃(j:Nat)(M:Option Addr)(c2:Nat),am= .int .i64 j∧j≤o∧Aside (g=o-j∧(CO [] (f.take j)= []→M=none∧c2=0))∧t6= .slice M (CO [] (f.take j)).length c2∧
  Sat (rw CB 2 (.slice M (CO [] (f.take j)).length c2) (C9 (CO [] (f.take j)))*(rw CB 2 (.slice a o c) (C9 f)*(rw CB 2 (.slice v d.length z) (C9 d)*G))) wr)
 case atStart=>exact ⟨0,none,0,rfl,by omega,⟨rfl,fun _=>⟨rfl,rfl⟩⟩,rfl,by simpa[CO,C9] using aa⟩
 obtain ⟨j,M,c2,rfl,hj,A2,rfl,k⟩:=hrel
 clear X aa
 have ah:Aside (Sat (rw CB 2 (.slice M (CO [] (f.take j)).length c2) (C9 (CO [] (f.take j)))*(rw CB 2 (.slice a o c) (C9 f)*(rw CB 2 (.slice v d.length z) (C9 d)*G))) wr):=k
 by_cases O:j<o
 · have K:(j:Int)<o:=by omega
   have V:j<f.length:=by omega
   obtain ⟨g,rfl⟩:=DZ (k.take (rw CB 2 (.slice a o c) (C9 f))) (by omega)
   obtain ⟨⟨x,y⟩,hp⟩: ∃p,f[j]=p:=⟨_,rfl⟩
   haveI:At (C9 f) (j*2) (.int .i64 x):=⟨by rw[Jp,show j*2/2=j by omega,show j*2%2=0 by omega,List.getElem?_eq_getElem V,hp];rfl⟩
   haveI:At (C9 f) (j*2+1) (.int .i64 y):=⟨by rw[Jp,show (j*2+1)/2=j by omega,show (j*2+1)%2=1 by omega,List.getElem?_eq_getElem V,hp];rfl⟩
   have H:Aside (f.take (j+1)=f.take j++ [(x,y)]):=(by rw[List.take_add_one,List.getElem?_eq_getElem V,hp];rfl:_=_)
   have Q:(CO [] (f.take j)).length≤1073741824:=by
    have:=ON (f.take j) []
    rw[List.length_take] at this
    simp at this
    omega
   obtain ⟨out,B⟩: ∃l,CO [] (f.take j)=l:=⟨_,rfl⟩
   rw[B] at k Q
   have U:Aside (CO [] (f.take j)=out):=B
   simp only[B]
   clear B hp
   haveI:=k.i
   rcases List.eq_nil_or_concat out with rfl|⟨o',⟨t,q⟩,rfl⟩
   · have D:Sat (rw CB 2 (.slice M 0 c2) []*(rw CB 2 (.slice (some ⟨g,0,none⟩) o c) (C9 f)*(rw CB 2 (.slice v d.length z) (C9 d)*G))) wr:=k
     simp only[List.length_nil]
     haveI:=D.i
     go_wp2_with fail
     go_quiet (fail)
     go_wp2_with (at_builtin;go_loud (refine Aj EP rfl (.tmp 67) (.tmp 69) rfl rfl rfl (Ae (rw CB 2 (.slice M 0 c2) [])) (Src.new (b:=wr.heap.size+1) (e:=CB) (s:=2) (vs:= [.int .i64 x,.int .i64 y]) (by rw[←show ((wr.alloc (.cells #[.int .i64 x,.int .i64 y] CB)).drewN nq).heap.size=wr.heap.size+1 by simp];exact Ae _) rfl (by intro u T;simp at T;rcases T with rfl|rfl<;>rfl)) (by unfold maxLen;omega) (by omega) ?_;intro a' I w3 L r;haveI:=L.i;clear r))
     go_roundg (o-(j+1))
     case measure=>have:=A2.out.1;omega
     refine ⟨j+1,a',I,by go_num,by omega,⟨rfl,fun R=>?_⟩,?_,?_⟩
     · rw[H.out,CS] at R;exact absurd R (Qf _ _)
     · rw[H.out,CS,U.out];rfl
     rw[H.out,CS,U.out]
     refine Br (C:=Sl.block ((wr.alloc (.cells #[.int .i64 x,.int .i64 y] CB)).drewN nq).heap.size CB [.int .i64 x,.int .i64 y]*Sl.block wr.heap.size CB [.int .i64 x,.int .i64 y]) ?_
     show rw CB 2 (.slice a' (0+1) I) _*_=_
     ac_rfl
   rw[List.concat_eq_append] at k Q U
   have a5:(o'.concat (t,q)).length=o'.length+1:=by simp
   rw[List.length_append,List.length_singleton] at Q
   obtain ⟨m,hm⟩: ∃m,o'.length=m:=⟨_,rfl⟩
   have D:Sat (rw CB 2 (.slice M (m+1) c2) (C9 (o'++ [(t,q)]))*(rw CB 2 (.slice (some ⟨g,0,none⟩) o c) (C9 f)*(rw CB 2 (.slice v d.length z) (C9 d)*G))) wr:=by
    have:(o'++ [(t,q)]).length=m+1:=by simp[hm]
    rw[←this];exact k
   obtain ⟨g2,rfl⟩:=DZ D (by omega)
   have a6:(o'++ [(t,q)])[m]?=some (t,q):=by rw[List.getElem?_append_right (by omega)];simp[hm]
   haveI:At (C9 (o'++ [(t,q)])) (m*2) (.int .i64 t):=⟨by rw[Jp,show m*2/2=m by omega,show m*2%2=0 by omega,a6];rfl⟩
   haveI:At (C9 (o'++ [(t,q)])) (m*2+1) (.int .i64 q):=⟨by rw[Jp,show (m*2+1)/2=m by omega,show (m*2+1)%2=1 by omega,a6];rfl⟩
   rw[hm] at Q a5
   simp only[a5]
   haveI:=D.i
   by_cases a4:x≤q
   · have hd:decide (x≤q)=true:=by simpa using a4
     go_wp2_with fail
     go_quiet (fail)
     go_wp2_with fail
     go_region
     go_wp2
     go_roundg (o-(j+1))
     case measure=>have:=A2.out.1;omega
     have Z:Aside (Fq (x,y) (o'++ [(t,q)])=o'++ [(t,max q y)]):=(by
      rw[GU]
      show (match decide (x≤q) with|true=>_|false=>_)=_
      rw[hd]:_=_)
     refine ⟨j+1,some ⟨g2,0,none⟩,c2,by go_num,by omega,⟨rfl,fun R=>?_⟩,?_,?_⟩
     · rw[H.out,CS] at R;exact absurd R (Qf _ _)
     · rw[H.out,CS,U.out,Z.out];simp[hm]
     rw[H.out,CS,U.out,Z.out]
     rw[show (o'++ [(t,max q y)]).length=m+1 by simp[hm]]
     have a1:=YM o' t q (max q y)
     rw[hm] at a1
     rw[←a1]
     exact Br (C:=Sl.block wr.heap.size CB [.int .i64 x,.int .i64 y]) (by ac_rfl)
   have hd:decide (x≤q)=false:=by simpa using a4
   go_wp2_with fail
   go_quiet (fail)
   go_wp2_with (at_builtin;go_loud (refine Aj EP rfl (.tmp 67) (.tmp 69) rfl rfl rfl (Ae (rw CB 2 (.slice (some ⟨g2,0,none⟩) (m+1) c2) (C9 (o'++ [(t,q)])))) (Src.new (b:=wr.heap.size+1) (e:=CB) (s:=2) (vs:= [.int .i64 x,.int .i64 y]) (by rw[←show ((wr.alloc (.cells #[.int .i64 x,.int .i64 y] CB)).drewN nq).heap.size=wr.heap.size+1 by simp];exact Ae _) rfl (by intro u T;simp at T;rcases T with rfl|rfl<;>rfl)) (by unfold maxLen;omega) (by omega) ?_;intro a' I w3 L r;haveI:=L.i;clear r))
   go_roundg (o-(j+1))
   case measure=>have:=A2.out.1;omega
   have Z:Aside (Fq (x,y) (o'++ [(t,q)])=o'++ [(t,q)]++ [(x,y)]):=(by
    rw[GU]
    show (match decide (x≤q) with|true=>_|false=>_)=_
    rw[hd]
    simp:_=_)
   refine ⟨j+1,a',I,by go_num,by omega,⟨rfl,fun R=>?_⟩,?_,?_⟩
   · rw[H.out,CS] at R;exact absurd R (Qf _ _)
   · rw[H.out,CS,U.out,Z.out];simp[hm]
   rw[H.out,CS,U.out,Z.out,FW _ [(x,y)]]
   rw[show (o'++ [(t,q)]++ [(x,y)]).length=m+1+1 by simp[hm]]
   refine Br (C:=Sl.block ((wr.alloc (.cells #[.int .i64 x,.int .i64 y] CB)).drewN nq).heap.size CB [.int .i64 x,.int .i64 y]*Sl.block wr.heap.size CB [.int .i64 x,.int .i64 y]) ?_
   show rw CB 2 (.slice a' (m+1+1) I) (_++ [Value.int .i64 x,Value.int .i64 y])*_=_
   ac_rfl
 have K: ¬(j:Int)<o:=by omega
 have ak:j=o:=by omega
 have J:f.take j=f:=List.take_of_length_le (by omega)
 have HF:Aside (f.take j=f):=J
 clear J ak
 go_wp2
 go_ret
 have hq:=ah.out
 rw[HF.out] at hq
 rw[HF.out]
 exact ⟨f,HI.out.1,HI.out.2,M,c2,rfl,(hq.eq (show _=rw CB 2 (.slice M (CO [] f).length c2) (C9 (CO [] f))*(rw CB 2 (.slice v d.length z) (C9 d)*G)*rw CB 2 (.slice a o c) (C9 f) by ac_rfl)).CR⟩
end Go.Proofs.YtfhbmblbidcmmaaGreat
namespace Go.Proofs.YtfhbmblbidcmmaaGreat
def Gs(l:List (Int×Int))(x:Int):Prop:= ∃p∈l,p.1≤x∧x<p.2
def Fj(l:List (Int×Int)):Prop:=(∀p∈l,p.1<p.2)∧l.Pairwise fun a b=>a.2<b.1
theorem Gs.nil(x:Int): ¬Gs [] x:=fun ⟨_,h,_⟩=>by cases h
theorem Dt(p:Int×Int)(l:List (Int×Int))(x:Int):Gs (p::l) x↔(p.1≤x∧x<p.2)∨Gs l x:=by simp[Gs]
theorem Gs.perm{l b:List (Int×Int)}(h:b.Perm l)(x:Int):Gs b x↔Gs l x:=by
 constructor
 ·rintro ⟨p,hp,a⟩;exact ⟨p,h.mem_iff.1 hp,a⟩
 rintro ⟨p,hp,a⟩;exact ⟨p,h.mem_iff.2 hp,a⟩
theorem JZ(r:Int×Int): ∀(o:List (Int×Int))(b:Int×Int),b∈Fq r o→b.1=r.1∨ ∃a∈o,b.1=a.1
 | [],b,h=>by
  rw[RA] at h
  exact Or.inl (by rw[List.mem_singleton.1 h])
 | [p],b,h=>by
  rw[Fq] at h
  split at h
  · exact Or.inr ⟨p,List.mem_singleton.2 rfl,by rw[List.mem_singleton.1 h]⟩
  rcases List.mem_cons.1 h with rfl|h
  · exact Or.inr ⟨_,List.mem_singleton.2 rfl,rfl⟩
  exact Or.inl (by rw[List.mem_singleton.1 h])
 | p :: q :: l, b, h => by
   rw[Fq] at h
   rcases List.mem_cons.1 h with rfl|h
   · exact Or.inr ⟨_,List.mem_cons_self,rfl⟩
   rcases JZ r (q::l) b h with h|⟨a,ha,e⟩
   · exact Or.inl h
   exact Or.inr ⟨a,List.mem_cons_of_mem _ ha,e⟩
theorem Ps(r:Int×Int)(hr:r.1<r.2): ∀(o:List (Int×Int)),Fj o→(∀p∈o,p.1≤r.1)→Fj (Fq r o)∧ ∀x,Gs (Fq r o) x↔Gs o x∨(r.1≤x∧x<r.2)
 | [], _, _ => by
  rw[RA]
  refine ⟨⟨fun p hp=>by rw[List.mem_singleton.1 hp];exact hr,List.pairwise_singleton _ _⟩,fun x=>?_⟩
  rw[Dt]
  constructor
  · rintro (h|h)
    · exact Or.inr h
    exact absurd h (Gs.nil x)
  rintro (h|h)
  · exact absurd h (Gs.nil x)
  exact Or.inl h
 | [p], c, hp => by
  have d:=c.1 p (List.mem_singleton.2 rfl)
  have g:=hp p (List.mem_singleton.2 rfl)
  rw[Fq]
  split
  · rename_i e
    have e':r.1≤p.2:=by simpa using e
    refine ⟨⟨fun q hq=>by rw[List.mem_singleton.1 hq];show p.1<max p.2 r.2;omega,List.pairwise_singleton _ _⟩,fun x=>?_⟩
    simp only[Dt,Gs.nil,or_false]
    show p.1≤x∧x<max p.2 r.2↔_
    omega
  rename_i e
  have e': ¬r.1≤p.2:=by simpa using e
  refine ⟨⟨fun q hq=>?_,?_⟩,fun x=>?_⟩
  · rcases List.mem_cons.1 hq with rfl|hq
    · exact d
    rw[List.mem_singleton.1 hq];exact hr
  · refine List.Pairwise.cons (fun q hq=>?_) (List.pairwise_singleton _ _)
    rw[List.mem_singleton.1 hq];omega
  simp only[Dt,Gs.nil,or_false]
 | p :: q :: l, c, hp => by
   have f:Fj (q::l):=⟨fun a ha=>c.1 a (List.mem_cons_of_mem _ ha),(List.pairwise_cons.1 c.2).2⟩
   obtain ⟨d,g⟩:=Ps r hr (q::l) f fun a ha=>hp a (List.mem_cons_of_mem _ ha)
   have hq:=(List.pairwise_cons.1 c.2).1
   rw[Fq]
   refine ⟨⟨fun a ha=>?_,?_⟩,fun x=>?_⟩
   · rcases List.mem_cons.1 ha with rfl|ha
     · exact c.1 _ List.mem_cons_self
     exact d.1 a ha
   · refine List.Pairwise.cons (fun b hb=>?_) d.2
     rcases JZ r (q::l) b hb with e|⟨a,ha,e⟩
     · have i:=hq q List.mem_cons_self
       have j:=hp q (List.mem_cons_of_mem _ List.mem_cons_self)
       omega
     have i:=hq a ha
     omega
   rw[Dt,g x,Dt p (q::l),or_assoc]
theorem MT: ∀(l out:List (Int×Int)),Fj out→(∀p∈l,p.1<p.2)→Zy l→(∀p∈out,∀q∈l,p.1≤q.1)→Fj (CO out l)∧ ∀x,Gs (CO out l) x↔Gs out x∨Gs l x
 | [],out,c,_,_,_=>⟨c,fun x=>by
  show Gs out x↔_
  constructor
  · exact Or.inl
  rintro (h|h)
  · exact h
  exact absurd h (Gs.nil x)⟩
 | r :: l, out, c, hl, k, d => by
   obtain ⟨f,g⟩:=Ps r (hl r List.mem_cons_self) out c fun p hp=>d p hp r List.mem_cons_self
   have b:=List.pairwise_cons.1 k
   obtain ⟨i,j⟩:=MT l (Fq r out) f (fun p hp=>hl p (List.mem_cons_of_mem _ hp)) b.2 fun p hp q hq=>by
    rcases JZ r out p hp with e|⟨a,ha,e⟩
    ·have:=b.1 q hq;omega
    have:=d a ha q (List.mem_cons_of_mem _ hq);omega
   exact ⟨i,fun x=>by
    show Gs (CO (Fq r out) l) x↔_
    rw[j x,g x,Dt,or_assoc]⟩
theorem Lz: ∀l:List (Int×Int),∀p∈Cc l,p.1<p.2
 | [],p,h=>by cases h
 | q :: l, p, h => by
  rw[Cc] at h
  split at h
  ·rename_i e
   rcases List.mem_cons.1 h with rfl|h
   ·simpa using e
   exact Lz l p h
  exact Lz l p h
theorem OO: ∀(l:List (Int×Int))(x:Int),Gs (Cc l) x↔0≤x∧Gs l x
 | [],x=>by simp[Cc,Gs]
 | q :: l, x => by
  have b:=OO l x
  rw[Cc]
  split
  ·rename_i e
   rw[Dt,Dt,b]
   show (max q.1 0≤x∧x<q.2)∨_↔_
   constructor
   ·rintro (h|h)
    ·exact ⟨by omega,Or.inl (by omega)⟩
    exact ⟨h.1,Or.inr h.2⟩
   rintro ⟨a,h|h⟩
   ·exact Or.inl (by omega)
   exact Or.inr ⟨a,h⟩
  rename_i e
  have e': ¬max q.1 0<q.2:=by simpa using e
  rw[Dt,b]
  constructor
  ·rintro h;exact ⟨h.1,Or.inr h.2⟩
  rintro ⟨a,h|h⟩
  ·omega
  exact ⟨a,h⟩
theorem Te{a b:List (Int×Int)}(hp:b.Perm (Cc a))(e:Zy b):Fj (CO [] b)∧ ∀x,Gs (CO [] b) x↔0≤x∧Gs a x:=by
 obtain ⟨c,d⟩:=MT b [] ⟨fun p h=>(by cases h),List.Pairwise.nil⟩ (fun p h=>Lz a p (hp.mem_iff.1 h)) e (fun p h=>by cases h)
 refine ⟨c,fun x=>?_⟩
 rw[d x,Gs.perm hp x,OO]
 constructor
 ·rintro (h|h)
  ·exact absurd h (Gs.nil x)
  exact h
 exact Or.inr
theorem Rq: ∀(a b:List (Int×Int)),Fj a→Fj b→(∀x,Gs a x↔Gs b x)→a=b
 | [],[],_,_,_=>rfl
 | [],q::b,_,hb,h=>by
  have:=hb.1 q List.mem_cons_self
  exact absurd ((h q.1).2 ((Dt _ _ _).2 (Or.inl ⟨by omega,this⟩))) (Gs.nil _)
 | p :: a, [], ha, _, h => by
   have:=ha.1 p List.mem_cons_self
   exact absurd ((h p.1).1 ((Dt _ _ _).2 (Or.inl ⟨by omega,this⟩))) (Gs.nil _)
 | p :: a, q :: b, ha, hb, h => by
   have l:=ha.1 p List.mem_cons_self
   have g:=hb.1 q List.mem_cons_self
   have m:=(List.pairwise_cons.1 ha.2).1
   have n:=(List.pairwise_cons.1 hb.2).1
   have e: ∀x,Gs a x→p.2<x:=fun x ⟨r,hr,c,d⟩=>by have:=m r hr;omega
   have f: ∀x,Gs b x→q.2<x:=fun x ⟨r,hr,c,d⟩=>by have:=n r hr;omega
   simp only[Dt] at h
   have i:p.1=q.1:=by
    rcases (h p.1).1 (Or.inl ⟨by omega,l⟩) with c|c
    · rcases (h q.1).2 (Or.inl ⟨by omega,g⟩) with d|d
      · omega
      have:=e _ d;omega
    have:=f _ c
    rcases (h q.1).2 (Or.inl ⟨by omega,g⟩) with d|d
    · omega
    have:=e _ d;omega
   have j:p.2=q.2:=by
    rcases Int.lt_trichotomy p.2 q.2 with c|c|c
    · rcases (h p.2).2 (Or.inl ⟨by omega,c⟩) with d|d
      · omega
      have:=e _ d;omega
    · exact c
    rcases (h q.2).1 (Or.inl ⟨by omega,c⟩) with d|d
    · omega
    have:=f _ d;omega
   have k:p=q:=Prod.ext i j
   subst k
   rw[Rq a b ⟨fun r hr=>ha.1 r (List.mem_cons_of_mem _ hr),(List.pairwise_cons.1 ha.2).2⟩ ⟨fun r hr=>hb.1 r (List.mem_cons_of_mem _ hr),(List.pairwise_cons.1 hb.2).2⟩ fun x=>?_]
   constructor
   · intro hx
     have:=e x hx
     rcases (h x).1 (Or.inr hx) with c|c
     · omega
     exact c
   intro hx
   have:=f x hx
   rcases (h x).2 (Or.inr hx) with c|c
   · omega
   exact c
open Go.RowKit Go.Sl Go.Sort
open Go.UB (AZ)
def FU(ks:List Int):List (Int×Int):=ks.map fun k=>(k,k+1)
theorem Wn(ks:List Int)(x:Int):Gs (FU ks) x↔x∈ks:=by
 constructor
 ·rintro ⟨p,hp,a,b⟩
  obtain ⟨k,c,rfl⟩:=List.mem_map.1 hp
  have:x=k:=by simp only at a b;omega
  exact this▸c
 intro h
 exact ⟨(x,x+1),List.mem_map.2 ⟨x,h,rfl⟩,by show x≤x;omega,by show x<x+1;omega⟩
theorem Vf(M:Nat)(l:List Int)(z:Ac)(w:World)(a7:Sat (mp AZ M (I1 l)*z) w)(P': ∀k∈l,0≤k∧k<1099511627776)(hl:l.length≤1048576):
 Calls Tryz.prog 104 #[.map (some M)] w fun e w'=> ∃j:List (Int×Int),Fj j∧(∀x,Gs j x↔x∈l)∧ ∃(a':Option Addr)(t:Nat),e= .returned (.slice a' j.length t)∧
  Sat (rw CB 2 (.slice a' j.length t) (C9 j)*(mp AZ M (I1 l)*z)) w':=by
 obtain ⟨o,ho,Q⟩:=a7.Ct
 clear a7
 have hM:w.heap[M]?=some o:=Q.obj
 obtain ⟨ms,m⟩: ∃ms,I1 l=ms:=⟨_,rfl⟩
 have HM:Aside (I1 l=ms∧Fi AZ o ms):=⟨m,m▸ho⟩
 have hl:ms.length≤1048576:=by rw[←m];simpa[I1] using hl
 have hk: ∀p∈ms,0≤p.1∧p.1<1099511627776:=fun p hp=>by
  rw[←m] at hp
  obtain ⟨k,h1,rfl⟩:=List.mem_map.1 hp
  exact P' k h1
 rw[m] at ho
 have HF:Aside (∀ks:List Int,ks.Perm (ms.map (·.1))→ ∀x,x∈ks↔x∈l):=(by
  intro ks h x
  rw[h.mem_iff,←m]
  simp[I1]:_)
 clear m P'
 obtain ⟨oi,hI,H⟩:=E6 (P:=Tryz.prog) Tryz.underlying206 hM ho
 have y:Sat (raw w.heap.size oi*(raw M o*z)) (w.alloc oi):=Q.CH oi
 obtain ⟨i0,EP⟩:=W4
 go_enter Tryz.func104,Tryz.ntmps104
 go_wp2
 go_loopg [3] ms.length (fun g out wr=> ∃(a:Option Addr)(ks:List Int)(c:Nat)(q:Obj)(d:List (Int×Value)),out= .slice a ks.length c∧Aside (g=d.length∧Iter AZ M o q ms d∧(d.map (·.1)++ks).Perm (ms.map (·.1)))∧
  Sat (rw CB 2 (.slice a ks.length c) (C9 (FU ks))*(raw w.heap.size q*(raw M o*z))) wr)
 case atStart=>exact ⟨none,[],0,oi,ms,rfl,⟨rfl,hI,by simp⟩,by simpa[FU,C9] using y.Bj (e:=CB) (s:=2)⟩
 obtain ⟨a,ks,c,q,d,rfl,A,I⟩:=hrel
 obtain ⟨Y,K,V⟩:=A.out
 have R:=I.eq (B:=raw M o*(raw w.heap.size q*(z*rw CB 2 (.slice a ks.length c) (C9 (FU ks))))) (by ac_rfl)
 clear hI y H Q
 rcases Ft (P:=Tryz.prog) R K with ⟨a5,L⟩|⟨i,k,v,U,w2,hi,L,W,a6,aa⟩
 · subst a5
   have D:ks.Perm (ms.map (·.1)):=by simpa using V
   have a0:ks.length=ms.length:=by simpa using D.length_eq
   have G:(FU ks).length=ks.length:=by simp[FU]
   have f:=Vv a c (FU ks) (raw w.heap.size q*(raw M o*z)) wr (by rw[G];omega) (by rw[G];exact I)
   rw[G] at f
   have HP:Aside (ks.Perm (ms.map (·.1))∧ ∀k∈ks,0≤k):=⟨D,fun k ae=>by obtain ⟨p,hp,rfl⟩:=List.mem_map.1 (D.mem_iff.1 ae);exact (hk p hp).1⟩
   obtain ⟨n,hn⟩: ∃n,ks.length=n:=⟨_,rfl⟩
   rw[hn] at f
   simp only[hn]
   have HN:Aside (Calls Tryz.prog 120 #[.slice a n c] wr fun e w'=> ∃T:List (Int×Int),T.Perm (Cc (FU ks))∧Zy T∧ ∃(a':Option Addr)(t:Nat),e= .returned (.slice a' (CO [] T).length t)∧
    Sat (rw CB 2 (.slice a' (CO [] T).length t) (C9 (CO [] T))*(rw CB 2 (.slice a n c) (C9 (FU ks))*(raw w.heap.size q*(raw M o*z)))) w'):=f
   clear R K A D a0 I f V G hn
   go_wp2_with fail
   refine HN.out.mono ?_
   rintro e w3 ⟨T,a4,a8,a',t,rfl,y⟩
   have r:=Te a4 a8
   obtain ⟨j,O⟩: ∃j,CO [] T=j:=⟨_,rfl⟩
   rw[O] at r y
   simp only[O]
   have HR:Aside (Fj j∧(∀x,Gs j x↔x∈l)∧Sat (rw CB 2 (.slice a' j.length t) (C9 j)*(mp AZ M (I1 l)*z)) w3):=⟨r.1,fun x=>by
    rw[r.2 x,Wn,HF.out ks HP.out.1 x]
    exact ⟨fun h=>h.2,fun h=>⟨HP.out.2 x ((HF.out ks HP.out.1 x).2 h),h⟩⟩,by
    rw[HM.out.1]
    have h9:=(y.eq (show _=rw CB 2 (.slice a' j.length t) (C9 j)*(raw M o*z)*(rw CB 2 (.slice a n c) (C9 (FU ks))*raw w.heap.size q) by ac_rfl)).CR
    exact (Sat.Dn HM.out.2 (h9.eq (show _=raw M o*(rw CB 2 (.slice a' j.length t) (C9 j)*z) by ac_rfl))).eq (by ac_rfl)⟩
   clear y r O a4 a8
   go_wp2
   go_ret
   exact ⟨j,HR.out.1,HR.out.2.1,a',t,rfl,HR.out.2.2⟩
 have J:(k,v)∈d:=List.mem_of_getElem? hi
 have Z:k∈ms.map (·.1):=V.mem_iff.1 (by simp only[List.mem_append,List.mem_map];exact .inl ⟨_,J,rfl⟩)
 obtain ⟨P',XZ⟩:0≤k∧k<1099511627776:=by obtain ⟨p,hp,rfl⟩:=List.mem_map.1 Z;exact hk p hp
 have a2:(d.eraseIdx i).length<d.length:=by
  have:=(List.getElem?_eq_some_iff.1 hi).1
  rw[List.length_eraseIdx];split<;>omega
 have a1:d.length+ks.length=ms.length:=by simpa using V.length_eq
 have X:((d.eraseIdx i).map (·.1)++(ks++ [k])).Perm (ms.map (·.1)):=by
  refine List.Perm.trans ?_ V
  have h1:=(DY d i _ hi).map (·.1)
  simp only[List.map_cons] at h1
  have h2:((d.eraseIdx i).map (·.1)++(ks++ [k])).Perm (k::((d.eraseIdx i).map (·.1)++ks)):=by
   rw[←List.append_assoc]
   exact List.perm_append_singleton _ _
  exact h2.trans ((h1.append_right ks).symm)
 have HL:Aside ((d.eraseIdx i).length<d.length∧gk=d.length):=⟨a2,Y⟩
 have HI:Aside (Iter AZ M o U ms (d.eraseIdx i)∧((d.eraseIdx i).map (·.1)++(ks++ [k])).Perm (ms.map (·.1))):=⟨W,X⟩
 have ah:Sat (rw CB 2 (.slice a ks.length c) (C9 (FU ks))*(raw w.heap.size U*(raw M o*z))) w2:=a6.eq (by ac_rfl)
 have a0:ks.length≤1048576:=by omega
 clear R K A I a2 Y W hi V X J Z a1 a6
 haveI:=ah.i
 go_wp2_with (at_builtin;go_loud (refine Aj EP rfl (.tmp 11) (.tmp 16) rfl rfl rfl (Ae (rw CB 2 (.slice a ks.length c) (C9 (FU ks)))) (Src.new (b:=w2.heap.size) (e:=CB) (s:=2) (vs:= [.int .i64 k,.int .i64 (k+1)]) (Ae _) rfl (by intro u hu;simp at hu;rcases hu with rfl|rfl<;>rfl)) (by unfold maxLen;omega) (by omega) ?_;intro a' t w3 ai a3;haveI:=ai.i;clear a3))
 go_roundg (d.eraseIdx i).length
 case measure=>have:=HL.out;omega
 refine ⟨a',ks++ [k],t,U,_,by simp,⟨rfl,HI.out.1,HI.out.2⟩,?_⟩
 rw[show FU (ks++ [k])=FU ks++ [(k,k+1)] by simp[FU],FW,List.length_append]
 exact Br (C:=Sl.block w2.heap.size CB [.int .i64 k,.int .i64 (k+1)]) (by
  show rw CB 2 (.slice a' (ks.length+1) t) _*_=_
  ac_rfl)
end Go.Proofs.YtfhbmblbidcmmaaGreat
namespace Go.Proofs.YtfhbmblbidcmmaaGreat
open Go.RowKit Go.Sl Go.Dk Go.Tr
open Go.UB (AZ)
theorem T3(S:Nat)(s:Sp)(F:Ac)(w:World)(hs:Sat (BA S s*F) w)(m: ∀k∈s.used,0≤k∧k<1099511627776)(hl:s.used.length≤1048576):
 Calls Tryz.prog 38 #[.pointer (some ⟨S,0,none⟩)] w fun e q=> ∃a:List (Int×Int),Fj a∧(∀x,Gs a x↔x∈s.used)∧ ∃(a':Option Addr)(b:Nat),e= .returned (.slice a' a.length b)∧
  Sat (rw CB 2 (.slice a' a.length b) (C9 a)*(BA S s*F)) q:=by
 obtain ⟨U,Wt,v,g⟩:=Sat.H3 hs
 have j:Sat (coreS S U Wt v s.A5*(mp AZ U (I1 s.used)*(mp AZ Wt (I1 s.waiting)*(rw ED 1 v (ints s.taken)*F)))) w:=g.eq (by unfold E9;ac_rfl)
 have c:=Vf U s.used (coreS S U Wt v s.A5*(mp AZ Wt (I1 s.waiting)*(rw ED 1 v (ints s.taken)*F))) w (j.eq (by ac_rfl)) m hl
 haveI:=j.i
 clear hs g m hl
 go_enter Tryz.func38,Tryz.ntmps38
 go_wp2_with fail
 refine c.mono ?_
 rintro e o ⟨a,n,l,a',b,rfl,d⟩
 have f:Aside (Fj a∧(∀x,Gs a x↔x∈s.used)∧Sat (rw CB 2 (.slice a' a.length b) (C9 a)*(BA S s*F)) o):=⟨n,l,by
  have p:Sat (E9 S U Wt v s*(rw CB 2 (.slice a' a.length b) (C9 a)*F)) o:=d.eq (by unfold E9;ac_rfl)
  exact (Sat.FX p).eq (by ac_rfl)⟩
 clear c n l d
 go_wp2
 go_ret
 exact ⟨a,f.out.1,f.out.2.1,a',b,rfl,f.out.2.2⟩
end Go.Proofs.YtfhbmblbidcmmaaGreat
namespace Go.Proofs.YtfhbmblbidcmmaaGreat
open Go.RowKit Go.Sl Go.Dk Go.Tr
