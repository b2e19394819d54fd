/- censusSound holds for every input. No condition. (part 33) -/
import Derived.Test.YtfhbmblbidcmmaaGreatWa12
set_option linter.all false
set_option maxRecDepth 100000
set_option maxHeartbeats 2000000
namespace Go.Proofs.YtfhbmblbidcmmaaGreat
open Go.RowKit Go.Sl Go.Sort
abbrev D0:TypeId:=212
abbrev Xz:TypeId:=87
def KX(p:Int×Int):List Value:= [.int .i64 p.1,.int .i64 p.2]
def B9(l:List (Int×Int)):List Value:=l.flatMap KX
def gP(a b:Int×Int):Bool:=decide (a.1<b.1)
theorem E9(l:List (Int×Int)):(B9 l).length=l.length*2:=M0 (f:=KX) (fun _=>rfl) l
theorem EJ{l:List (Int×Int)}{i:Nat}{p:Int×Int}(h:l[i]?=some p)(k:Nat)(a:k<2):(B9 l)[i*2+k]?=(KX p)[k]?:=JX (f:=KX) (s:=2) (fun _=>rfl) l i k p h a
theorem bO(d:Array (Int×Int)):(flatK KX 2 d).toList=B9 d.toList:=by
 apply List.ext_getElem?
 intro t
 by_cases h:t<d.size*2
 ·have h1:t<(flatK KX 2 d).size:=by simpa using h
  have a:t/2<d.size:=by omega
  have b:=get_flatK KX 2 d t h
  rw[getElem!_pos (flatK KX 2 d) t h1,getElem!_pos d (t/2) a] at b
  have c:=EJ (l:=d.toList) (i:=t/2) (p:=d[t/2]) (by simp[a]) (t%2) (by omega)
  rw[show t/2*2+t%2=t by omega] at c
  rw[c,Array.getElem?_toList,Array.getElem?_eq_getElem h1,b,getElem!_pos _ _ (by show t%2<2;omega),List.getElem?_eq_getElem (by show t%2<2;omega)]
 rw[Array.getElem?_toList,Array.getElem?_eq_none (by simp;omega),List.getElem?_eq_none (by rw[E9];simp;omega)]
theorem TV(ET a c b size:Nat)(W:World)(G:Nat→Int)(hs:W.cell? ⟨b,0,none⟩=some (.slice (some ⟨ET,a,none⟩) size c))
 (f: ∀t,t<size→W.cell? ⟨ET,a+t*2,none⟩=some (.int .i64 (G t))) (i j:Nat) (hi:i<size) (g:j<size) (d:size<4611686018427387904):
 Calls Tryz.prog 152 #[.int .i64 i,.int .i64 j,.pointer (some ⟨b,0,none⟩)] W fun e k=>e= .returned (.bool (decide (G i<G j)))∧ ∃q,k=W.drewN q:=by
 have l:=f i hi
 have m:=f j g
 go_enter Tryz.func152,Tryz.ntmps152
 go_wp2
 go_quiet (fail)
 go_wp2
 go_ret
 exact ⟨rfl,nq,rfl⟩
noncomputable def mO:TypeInfo:=(Tryz.prog.info? 87).get (by kernel_rfl)
noncomputable def gT:TypeInfo:=(Tryz.prog.info? 212).get (by kernel_rfl)
theorem nT(n:Nat)(e:2≤n):Lib.swapperK n gT 25=9:=by
 have a:gT.hasPointers=false:=by kernel_rfl
 have b:gT.bytes=16:=by kernel_rfl
 have c:(n==0)=false:=by simp;omega
 have d:(n==1)=false:=by simp;omega
 simp[Lib.swapperK,a,b,c,d]
theorem mM:Lib.swapperK 0 gT 25=1:=by simp[Lib.swapperK]
theorem mN:Lib.swapperK 1 gT 25=2:=by simp[Lib.swapperK]
theorem mQ:SWO gP where
 irrefl:=fun a=>by simp[gP]
 trans:=fun a b c h1 d=>by simp only[gP,decide_eq_true_eq] at*;omega
 ntrans:=fun a b c h1 d=>by simp only[gP,decide_eq_false_iff_not] at*;omega
theorem YH{w:World}(os:Array Obj){k:Key}{r:Fu}(h:Has w k r):Has (Sort.grow w os) k r:=by
 have Fq: ∀{b:Nat}{o:Obj},w.heap[b]?=some o→(Sort.grow w os).heap[b]?=some o:=fun {b o} e=>by
  rw[heap_grow_old w os (Array.getElem?_eq_some_iff.1 e).1];exact e
 cases k<;>cases r<;>first|exact h.elim|skip
 · exact Fq h
 · obtain ⟨c,t,h1,a⟩:=h;exact ⟨c,t,Fq h1,a⟩
 · obtain ⟨c,h1,a⟩:=h;exact ⟨c,Fq h1,a⟩
 exact h
theorem Sat.gM{A:Ab}{w:World}(hs:Sat A w)(os:Array Obj):Sat A (Sort.grow w os):=by
 obtain ⟨h,ha,H⟩:=hs
 exact ⟨h,ha,fun k r e=>YH os (H k r e)⟩
instance:Inhabited (Int×Int):=⟨(0,0)⟩
theorem Ye(d:Array (Int×Int)):flatK KX 2 d=(B9 d.toList).toArray:=by rw[←bO d]
def iF(l:List (Int×Int)):Prop:=l.Pairwise fun x y=>x.1≤y.1
theorem PD(p:Option Addr)(n c:Nat)(h:n≤1)(lf:Fn)(a b:Array Value)(w:World):
 Calls Tryz.prog 151 #[.iface 87 (.slice p n c),.func lf a b] w fun e d=>e= .returned (.tuple #[])∧ ∃os,d=grow w os:=by
 match n,h with
 |0,_=>exact Any.sort_Slice_tiny Tryz.RY 87 212 mO gT (by kernel_rfl) (by kernel_rfl) (by kernel_rfl) (by kernel_rfl) 25 (fun _=>by kernel_rfl) p 0 c (by omega) 199 (by rw[mM];kernel_rfl) lf a b w
 |1,_=>exact Any.sort_Slice_tiny Tryz.RY 87 212 mO gT (by kernel_rfl) (by kernel_rfl) (by kernel_rfl) (by kernel_rfl) 25 (fun _=>by kernel_rfl) p 1 c (by omega) 200 (by rw[mN];kernel_rfl) lf a b w
theorem WY(ET c b2 c2:Nat)(d:Array (Int×Int))(w:World)(o:2≤d.size)(f:d.size<4611686018427387904)(p:HoldsK KX 2 w ET 0 d)(a:ET<w.heap.size)(l:b2≠ET)(k:b2<w.heap.size)(hs:w.cell? ⟨b2,0,none⟩=some (.slice (some ⟨ET,0,none⟩) d.size c2)):
 Calls Tryz.prog 151 #[.iface 87 (.slice (some ⟨ET,0,none⟩) d.size c),.func (.func 152) #[] #[.pointer (some ⟨b2,0,none⟩)]] w fun e s=>
  e= .returned (.tuple #[])∧ ∃d' n os,PermIn 0 d.size d d'∧SortedIn gP 0 d.size d'∧s=grow (putRowK KX 2 (Sort.ahead w n) ET 0 d') os:=by
 have b:LessReadsK Tryz.prog 152 #[.pointer (some ⟨b2,0,none⟩)] KX 2 gP ET 0 d.size w:=by
  intro m os dk f i j hi r
  have e:sortWorldK KX 2 w ET 0 m dk os=putRowK KX 2 (grow (Sort.ahead w m) os) ET 0 dk:=by
   unfold sortWorldK;rw[putRowK_grow _ _ (Sort.ahead w m) _ ET 0 _ a]
  have g:HoldsK KX 2 (grow (Sort.ahead w m) os) ET 0 d:=holdsK_grow _ _ _ _ ET 0 d a (holdsK_ahead _ _ _ _ _ _ _ p)
  refine TV ET 0 c2 b2 d.size _ (fun t=>dk[t]!.1) ?_ (fun t u=>?_) i j hi r (by omega)
  · rw[e,cell?_putRowK_other _ _ _ ET 0 dk _ l,cell?_grow _ _ _ k]
    exact hs
  rw[e];exact ((holdsK_putRowK _ _ _ ET 0 d dk g f).cell (i:=t) (c:=0) (by omega) (by omega)).1
 exact Any.sort_Slice_cells_sorted Tryz.RY 87 212 mO gT (by kernel_rfl) (by kernel_rfl) (by kernel_rfl) (by kernel_rfl) 25 (fun _=>by kernel_rfl) KX 2 (fun _=>rfl) (by kernel_rfl) (fun _=>by kernel_rfl)
  (fun x v q=>by simp[KX] at q;rcases q with rfl|rfl<;>rfl) gP mQ 152 _
  (enters_of Tryz.func152 (by kernel_rfl) rfl) ET 0 c d o f 207 (by rw[nT _ o];kernel_rfl) false
  (fun args W=>run_callFunc_extern Tryz.func207 (by kernel_rfl) (by kernel_rfl) (by kernel_rfl) (e:=Extern.ReflectliteSwapper.swap false) (by kernel_rfl) args W) w b p a
theorem Z5{ET c T b2 c2:Nat}{l:List (Int×Int)}{sp:List Value}{F:Ab}{w:World}(hs:Sat (block ET T (B9 l++sp)*F) w)(v:w.cell? ⟨b2,0,none⟩=some (.slice (some ⟨ET,0,none⟩) l.length c2))(m:b2≠ET)(d:b2<w.heap.size)(hm:l.length<4611686018427387904):
 Calls Tryz.prog 151 #[.iface 87 (.slice (some ⟨ET,0,none⟩) l.length c),.func (.func 152) #[] #[.pointer (some ⟨b2,0,none⟩)]] w fun e o=>
  e= .returned (.tuple #[])∧ ∃l',l'.Perm l∧iF l'∧Sat (block ET T (B9 l'++sp)*F) o:=by
 by_cases p:l.length≤1
 · refine (PD _ _ c p _ _ _ w).mono fun x o ⟨h,os,b⟩=>⟨h,l,List.Perm.refl _,?_,?_⟩
   ·match l,p with
    | [],_=>exact List.Pairwise.nil
    | [x],_=>exact List.pairwise_singleton _ _
   subst b;exact Sat.gM hs os
 have hw:=hs.EC
 have u:HoldsK KX 2 w ET 0 l.toArray:=by
  show Holds id w ET 0 (flatK KX 2 l.toArray)
  rw[Ye]
  intro j a
  simp only[List.size_toArray] at a
  have s:Sat (cells ET 0 (B9 l)*(Ev ET T (B9 l++sp).length*(cells ET (B9 l).length sp*F))) w:=hs.eq (by rw[D3];ac_rfl)
  refine ⟨?_,by simp[World.frozen?,hw]⟩
  rw[s.DV j ((B9 l)[j]) (by simp[a])]
  simp[a]
 refine (WY ET c b2 c2 l.toArray w (by simp;omega) (by simpa using hm) u (Gh hw) m d (by simpa using v)).mono fun x o ⟨h,d',n,os,hp,y,b⟩=>⟨h,d'.toList,?_,?_,?_⟩
 · have h1:=hp.2.2
   have q:=hp.1
   simp only[List.size_toArray] at h1 q
   rw[Array.extract_eq_self_of_le (by omega),Array.extract_eq_self_of_le (by simp)] at h1
   simpa using h1
 · have q:d'.size=l.length:=by simpa using hp.1
   refine List.pairwise_iff_getElem.2 fun i j hi a g=>?_
   have r:=y i j (Nat.zero_le _) g (by simp at a⊢;omega)
   have f:i<d'.size:=by simpa using hi
   have k:j<d'.size:=by simpa using a
   rw[getElem!_pos d' i f,getElem!_pos d' j k] at r
   simp only[gP,decide_eq_false_iff_not] at r
   show d'.toList[i].1≤d'.toList[j].1
   simp only[Array.getElem_toList]
   omega
 subst b
 show Sat _ (grow (putRow id (Sort.ahead w n) ET 0 (flatK KX 2 d')) os)
 rw[Ye]
 have t:=Vh id (xs:=B9 l) (ys:=B9 d'.toList) (n:=n) (os:=os) (sp:=sp) (F:=F) (by simpa using hs) (by rw[E9,E9];have:=hp.1;simp at this;simp[this])
 simpa using t
theorem IQ(a b:List (Int×Int)):B9 (a++b)=B9 a++B9 b:=List.flatMap_append
theorem Kh(l:List (Int×Int))(t:Nat):(B9 l)[t]?=(l[t/2]?).map fun p=>(KX p)[t%2]!:=by
 by_cases h:t/2<l.length
 ·have a:=EJ (l:=l) (i:=t/2) (p:=l[t/2]) (by simp[h]) (t%2) (by omega)
  rw[show t/2*2+t%2=t by omega] at a
  rw[a,List.getElem?_eq_getElem h,Option.map_some,getElem!_pos _ _ (by show t%2<2;omega),List.getElem?_eq_getElem (by show t%2<2;omega)]
 rw[List.getElem?_eq_none (by rw[E9];omega),List.getElem?_eq_none (by omega)];rfl
noncomputable def Cv:List (Int×Int)→List (Int×Int)
 | []=> []
 | p :: l => match decide (max p.1 0 < p.2) with
  |true=>(max p.1 0,p.2)::Cv l
  |false=>Cv l
noncomputable def FE(r:Int×Int):List (Int×Int)→List (Int×Int)
 | []=> [r]
 | [p]=>match decide (r.1≤p.2) with
  |true=> [(p.1,max p.2 r.2)]
  |false=> [p,r]
 |p::q::l=>p::FE r (q::l)
noncomputable def D4:List (Int×Int)→List (Int×Int)→List (Int×Int)
 |out,[]=>out
 |out,r::l=>D4 (FE r out) l
theorem I2: ∀a b:List (Int×Int),Cv (a++b)=Cv a++Cv b
 | [],b=>rfl
 | p :: a, b => by
  show (match decide (max p.1 0<p.2) with|true=>(max p.1 0,p.2)::Cv (a++b)|false=>Cv (a++b))=(match decide (max p.1 0<p.2) with|true=>(max p.1 0,p.2)::Cv a|false=>Cv a)++Cv b
  rw[I2 a b]
  cases decide (max p.1 0<p.2)<;>rfl
theorem Dh: ∀(l out:List (Int×Int))(r:Int×Int),D4 out (l++ [r])=FE r (D4 out l)
 | [],out,r=>rfl
 |p::l,out,r=>Dh l (FE p out) r
theorem U8(r:Int×Int):FE r []= [r]:=rfl
theorem Ic(r:Int×Int): ∀(o:List (Int×Int))(p:Int×Int),FE r (o++ [p])=(match decide (r.1≤p.2) with|true=>o++ [(p.1,max p.2 r.2)]|false=>o++ [p,r])
 | [],p=>rfl
 | [q],p=>by
  show q::FE r [p]=_
  rw[show [p]= []++ [p] from rfl,Ic r [] p]
  cases decide (r.1≤p.2)<;>rfl
 | q :: a :: o, p => by
   show q::FE r ((a::o)++ [p])=_
   rw[Ic r (a::o) p]
   cases decide (r.1≤p.2)<;>rfl
theorem fF(o:List (Int×Int))(a b z:Int):(B9 (o++ [(a,b)])).set (o.length*2+1) (.int .i64 z)=B9 (o++ [(a,z)]):=by
 rw[IQ,IQ,List.set_append_right _ _ (by rw[E9];omega),E9]
 rw[show o.length*2+1-o.length*2=1 by omega]
 rfl
theorem bF(r:Int×Int)(o:List (Int×Int)):(FE r o).length≤o.length+1:=by
 rcases List.eq_nil_or_concat o with rfl|⟨o',p,rfl⟩
 ·simp[FE]
 rw[List.concat_eq_append,Ic]
 cases decide (r.1≤p.2)<;>simp
theorem S0(r:Int×Int): ∀o:List (Int×Int),FE r o≠ []
 | []=>by simp[FE]
 | [p]=>by
  show (match decide (r.1≤p.2) with|true=> [(p.1,max p.2 r.2)]|false=> [p,r])≠ []
  cases decide (r.1≤p.2)<;>simp
 |p::q::l=>by simp[FE]
theorem QE: ∀(l out:List (Int×Int)),(D4 out l).length≤out.length+l.length
 | [],out=>Nat.le_refl _
 | p :: l, out => by
  have h1:=QE l (FE p out)
  have a:=bF p out
  show (D4 (FE p out) l).length≤_
  simp only[List.length_cons]
  omega
theorem M5: ∀l:List (Int×Int),(Cv l).length≤l.length
 | []=>Nat.le_refl _
 | p :: l => by
  have:=M5 l
  unfold Cv
  split<;>simp<;>omega
theorem YS{x y:Int}(h:max x 0<y):Cv [(x,y)]= [(max x 0,y)]:=by simp[Cv,h]
theorem Wg{x y:Int}(h: ¬max x 0<y):Cv [(x,y)]= []:=by simp[Cv,h]
theorem Z8(a:Option Addr)(c B:Nat)(l:List (Int×Int))(F:Ab)(w:World)(hl:l.length<4611686018427387904)
 (hs:Sat (rw D0 2 (.slice a l.length c) (B9 l)*(Sl.block B Xz [.slice a l.length c]*F)) w):
 Calls Tryz.prog 151 #[.iface 87 (.slice a l.length c),.func (.func 152) #[] #[.pointer (some ⟨B,0,none⟩)]] w fun e m=>
  e= .returned (.tuple #[])∧ ∃l',l'.Perm l∧iF l'∧Sat (rw D0 2 (.slice a l.length c) (B9 l')*(Sl.block B Xz [.slice a l.length c]*F)) m:=by
 rcases hs.Cr with ⟨o,p,_⟩|⟨g,n,cap,sp,o,p,b,q,r,d⟩
 · have b:=E9 l
   rw[p] at b
   simp only[List.length_nil] at b
   have h0:l= []:=List.eq_nil_of_length_eq_zero (by omega)
   subst h0
   refine (PD _ _ c (by simp) _ _ _ w).mono ?_
   rintro e m ⟨rfl,os,rfl⟩
   exact ⟨rfl,[],List.Perm.refl _,List.Pairwise.nil,Sat.gM hs os⟩
 cases o
 have j:Sat (Sl.cell B 0 (.slice (some ⟨g,0,none⟩) l.length c)*(Sl.block g D0 (B9 l++sp)*(Sl.Ev B Xz 1*F))) w:=d.eq (by
  rw[show Sl.block B Xz [.slice (some ⟨g,0,none⟩) l.length c]=Sl.Ev B Xz 1*(Sl.cell B 0 (.slice (some ⟨g,0,none⟩) l.length c)*1) from rfl,Bg]
  ac_rfl)
 have k:B≠g:=fun e=>by
  subst e
  have f:=(j.take (Sl.block B D0 (B9 l++sp))).EC
  have i:=(d.eq (show _=Sl.block B Xz [.slice (some ⟨B,0,none⟩) l.length c]*(Sl.block B D0 (B9 l++sp)*F) by ac_rfl)).EC
  rw[f] at i
  simp at i
  exact absurd i.2 (by decide)
 refine (Z5 (b2:=B) (c2:=c) d (by simpa using j.cell) k j.lt hl).mono ?_
 rintro e m ⟨rfl,l',hp,s,f⟩
 refine ⟨rfl,l',hp,s,Sat.EA (sp:=sp) (by rw[E9,hp.length_eq]) (by rw[List.length_append,E9,hp.length_eq,←E9,←List.length_append];exact b) q r f⟩
theorem j6: ∃i,C8 Tryz.prog 87 D0 2 16 i (.agg #[.int .i64 0,.int .i64 0]):=by
 exact Iu Tryz.underlying87 (by kernel_rfl) rfl (by decide)
theorem Zl(t:Option Addr)(c0:Nat)(d:List (Int×Int))(z:Ab)(w:World)(hl:d.length≤1073741824)(a6:Sat (rw D0 2 (.slice t d.length c0) (B9 d)*z) w):
 Calls Tryz.prog 120 #[.slice t d.length c0] w fun e w'=> ∃l':List (Int×Int),l'.Perm (Cv d)∧iF l'∧ ∃(a':Option Addr)(B:Nat),e= .returned (.slice a' (D4 [] l').length B)∧
  Sat (rw D0 2 (.slice a' (D4 [] l').length B) (B9 (D4 [] l'))*(rw D0 2 (.slice t d.length c0) (B9 d)*z)) w':=by
 have a1:Sat (rw D0 2 (.slice t d.length c0) (B9 d)*z) w:=a6
 clear a6
 go_enter Tryz.func120,Tryz.ntmps120
 obtain ⟨i0,EP⟩:=j6
 have a3:=a1.alloc #[.slice none 0 0] 87
 have a4:=a3.AG (e:=D0) (s:=2)
 go_wp2
 go_loopg [12] d.length (fun g af wr=> ∃(i:Nat)(a:Option Addr)(c:Nat),af= .int .i64 i∧i≤d.length∧Aside (g=d.length-i)∧
  Sat (rw D0 2 (.slice a (Cv (d.take i)).length c) (B9 (Cv (d.take i)))*(Sl.block w.heap.size 87 [.slice a (Cv (d.take i)).length c]*(rw D0 2 (.slice t d.length c0) (B9 d)*z))) wr)
 case atStart=>exact ⟨0,none,0,rfl,by omega,rfl,by simpa[Cv,B9] using a4⟩
 obtain ⟨i,a,c,rfl,hi,A,k⟩:=hrel
 haveI:=k.i
 clear a1 a3 a4
 by_cases J:i<d.length
 · have G:(i:Int)<d.length:=by omega
   obtain ⟨⟨x,y⟩,hp⟩:=Aq (d[i])
   have hx:(B9 d)[i*2]?=some (.int .i64 x):=by rw[Kh,show i*2/2=i by omega,show i*2%2=0 by omega,List.getElem?_eq_getElem J,hp];rfl
   have hy:(B9 d)[i*2+1]?=some (.int .i64 y):=by rw[Kh,show (i*2+1)/2=i by omega,show (i*2+1)%2=1 by omega,List.getElem?_eq_getElem J,hp];rfl
   haveI:At (B9 d) (i*2) (.int .i64 x):=⟨hx⟩
   obtain ⟨g0,rfl⟩:=Dv (k.take (rw D0 2 (.slice t d.length c0) (B9 d))) (by omega)
   haveI:=k.i
   haveI:At (B9 d) (i*2+1) (.int .i64 y):=⟨hy⟩
   have v:Aside (d.take (i+1)=d.take i++ [(x,y)]):=(by rw[List.take_add_one,List.getElem?_eq_getElem J,hp];rfl:_=_)
   by_cases hk:max x 0<y
   · have W:(Cv (d.take i)).length≤1073741824:=by
      have:=M5 (d.take i)
      rw[List.length_take] at this
      omega
     go_wp2_with (at_builtin;go_loud (refine Af EP rfl (.tmp 25) (.tmp 27) rfl rfl rfl (Ae (rw D0 2 (.slice a (Cv (d.take i)).length c) (B9 (Cv (d.take i))))) (Src.new (b:=wr.heap.size+1) (e:=D0) (s:=2) (vs:= [.int .i64 (max x 0),.int .i64 y]) (by rw[←show (wr.alloc (.cells #[.int .i64 (max x 0),.int .i64 y] D0)).heap.size=wr.heap.size+1 by simp];exact Ae _) rfl (by intro u M;simp at M;rcases M with rfl|rfl<;>rfl)) (by unfold maxLen;omega) (by omega) ?_;intro a' B w2 H o;haveI:=H.i;clear o))
     go_roundg (d.length-(i+1))
     case measure=>have:=A.out;omega
     refine ⟨i+1,a',B,by go_num,by omega,rfl,?_⟩
     rw[v.out,I2,YS (by omega),List.length_append,IQ]
     exact Ax (C:=Sl.block (wr.alloc (.cells #[.int .i64 (max x 0),.int .i64 y] D0)).heap.size D0 [.int .i64 (max x 0),.int .i64 y]*Sl.block wr.heap.size D0 [.int .i64 (max x 0),.int .i64 y]) (by
      show rw D0 2 (.slice a' ((Cv (d.take i)).length+1) B) _*_=_
      ac_rfl)
   go_wp2
   go_roundg (d.length-(i+1))
   case measure=>have:=A.out;omega
   refine ⟨i+1,a,c,by go_num,by omega,rfl,?_⟩
   rw[v.out,I2,Wg (by omega),List.append_nil]
   exact Ax (C:=Sl.block wr.heap.size D0 [.int .i64 (max x 0),.int .i64 y]) (by ac_rfl)
 have G: ¬(i:Int)<d.length:=by omega
 obtain rfl:i=d.length:=by omega
 rw[List.take_length] at k
 haveI:=k.i
 have W:=M5 d
 have T:=Z8 a c w.heap.size (Cv d) (rw D0 2 (.slice t d.length c0) (B9 d)*z) wr (by omega) k
 obtain ⟨n,K⟩:=Aq ((Cv d).length)
 rw[K] at T W
 have ac:Aside (Sat (rw D0 2 (.slice a n c) (B9 (Cv d))*(Sl.block w.heap.size 87 [.slice a n c]*(rw D0 2 (.slice t d.length c0) (B9 d)*z))) wr):=(by rw[←K];exact k:Sat _ _)
 have aa:=As K
 haveI:=ac.out.i
 clear k K
 go_wp2_with fail
 refine T.mono ?_
 rintro e w2 ⟨rfl,f,Q,a7,R⟩
 clear T
 have HI:Aside (f.Perm (Cv d)∧iF f):=⟨Q,a7⟩
 have ak:f.length=n:=by rw[Q.length_eq];exact aa.out
 clear Q a7
 haveI:=R.i
 have a5:=Sat.AG (e:=D0) (s:=2) (R.eq (show _=rw D0 2 (.slice a n c) (B9 f)*(rw D0 2 (.slice t d.length c0) (B9 d)*z)*Sl.block w.heap.size 87 [.slice a n c] by ac_rfl)).Dx
 go_wp2
 go_loopg [6,36] n (fun g t6 ag wr=> ∃(j:Nat)(I:Option Addr)(c2:Nat),ag= .int .i64 j∧j≤n∧Aside (g=n-j∧(D4 [] (f.take j)= []→I=none∧c2=0))∧t6= .slice I (D4 [] (f.take j)).length c2∧
  Sat (rw D0 2 (.slice I (D4 [] (f.take j)).length c2) (B9 (D4 [] (f.take j)))*(rw D0 2 (.slice a n c) (B9 f)*(rw D0 2 (.slice t d.length c0) (B9 d)*z))) wr)
 case atStart=>exact ⟨0,none,0,rfl,by omega,⟨rfl,fun _=>⟨rfl,rfl⟩⟩,rfl,by simpa[D4,B9] using a5⟩
 obtain ⟨j,I,c2,rfl,hj,A2,rfl,k⟩:=hrel
 clear R a5
 have ab:=As k
 by_cases J:j<n
 · have G:(j:Int)<n:=by omega
   have P:j<f.length:=by omega
   obtain ⟨g,rfl⟩:=Dv (k.take (rw D0 2 (.slice a n c) (B9 f))) (by omega)
   obtain ⟨⟨x,y⟩,hp⟩:=Aq (f[j])
   haveI:At (B9 f) (j*2) (.int .i64 x):=⟨by rw[Kh,show j*2/2=j by omega,show j*2%2=0 by omega,List.getElem?_eq_getElem P,hp];rfl⟩
   haveI:At (B9 f) (j*2+1) (.int .i64 y):=⟨by rw[Kh,show (j*2+1)/2=j by omega,show (j*2+1)%2=1 by omega,List.getElem?_eq_getElem P,hp];rfl⟩
   have v:Aside (f.take (j+1)=f.take j++ [(x,y)]):=(by rw[List.take_add_one,List.getElem?_eq_getElem P,hp];rfl:_=_)
   have L:(D4 [] (f.take j)).length≤1073741824:=by
    have:=QE (f.take j) []
    rw[List.length_take] at this
    simp at this
    omega
   obtain ⟨out,q⟩:=Aq (D4 [] (f.take j))
   rw[q] at k L
   have O:=As q
   simp only[q]
   clear q hp
   haveI:=k.i
   rcases List.eq_nil_or_concat out with rfl|⟨o',⟨p,l⟩,rfl⟩
   · have r:Sat (rw D0 2 (.slice I 0 c2) []*(rw D0 2 (.slice (some ⟨g,0,none⟩) n c) (B9 f)*(rw D0 2 (.slice t d.length c0) (B9 d)*z))) wr:=k
     simp only[List.length_nil]
     haveI:=r.i
     go_wp2_with fail
     go_quiet (fail)
     go_wp2_with (at_builtin;go_loud (refine Af EP rfl (.tmp 67) (.tmp 69) rfl rfl rfl (Ae (rw D0 2 (.slice I 0 c2) [])) (Src.new (b:=wr.heap.size+1) (e:=D0) (s:=2) (vs:= [.int .i64 x,.int .i64 y]) (by rw[←show ((wr.alloc (.cells #[.int .i64 x,.int .i64 y] D0)).drewN nq).heap.size=wr.heap.size+1 by simp];exact Ae _) rfl (by intro u M;simp at M;rcases M with rfl|rfl<;>rfl)) (by unfold maxLen;omega) (by omega) ?_;intro a' B w3 H o;haveI:=H.i;clear o))
     go_roundg (n-(j+1))
     case measure=>have:=A2.out.1;omega
     refine ⟨j+1,a',B,by go_num,by omega,⟨rfl,fun h0=>?_⟩,?_,?_⟩
     · rw[v.out,Dh] at h0;exact absurd h0 (S0 _ _)
     · rw[v.out,Dh,O.out];rfl
     rw[v.out,Dh,O.out]
     refine Ax (C:=Sl.block ((wr.alloc (.cells #[.int .i64 x,.int .i64 y] D0)).drewN nq).heap.size D0 [.int .i64 x,.int .i64 y]*Sl.block wr.heap.size D0 [.int .i64 x,.int .i64 y]) ?_
     show rw D0 2 (.slice a' (0+1) B) _*_=_
     ac_rfl
   rw[List.concat_eq_append] at k L O
   have Y:(o'.concat (p,l)).length=o'.length+1:=by simp
   rw[List.length_append,List.length_singleton] at L
   obtain ⟨m,hm⟩:=Aq o'.length
   have r:Sat (rw D0 2 (.slice I (m+1) c2) (B9 (o'++ [(p,l)]))*(rw D0 2 (.slice (some ⟨g,0,none⟩) n c) (B9 f)*(rw D0 2 (.slice t d.length c0) (B9 d)*z))) wr:=by
    have:(o'++ [(p,l)]).length=m+1:=by simp[hm]
    rw[←this];exact k
   obtain ⟨g2,rfl⟩:=Dv r (by omega)
   have Z:(o'++ [(p,l)])[m]?=some (p,l):=by rw[List.getElem?_append_right (by omega)];simp[hm]
   haveI:At (B9 (o'++ [(p,l)])) (m*2) (.int .i64 p):=⟨by rw[Kh,show m*2/2=m by omega,show m*2%2=0 by omega,Z];rfl⟩
   haveI:At (B9 (o'++ [(p,l)])) (m*2+1) (.int .i64 l):=⟨by rw[Kh,show (m*2+1)/2=m by omega,show (m*2+1)%2=1 by omega,Z];rfl⟩
   rw[hm] at L Y
   simp only[Y]
   haveI:=r.i
   by_cases X:x≤l
   · have hd:decide (x≤l)=true:=by simpa using X
     go_wp2_with fail
     go_quiet (fail)
     go_wp2_with fail
     go_region
     go_wp2
     go_roundg (n-(j+1))
     case measure=>have:=A2.out.1;omega
     have U:Aside (FE (x,y) (o'++ [(p,l)])=o'++ [(p,max l y)]):=(by
      rw[Ic]
      show (match decide (x≤l) with|true=>_|false=>_)=_
      rw[hd]:_=_)
     refine ⟨j+1,some ⟨g2,0,none⟩,c2,by go_num,by omega,⟨rfl,fun h0=>?_⟩,?_,?_⟩
     · rw[v.out,Dh] at h0;exact absurd h0 (S0 _ _)
     · rw[v.out,Dh,O.out,U.out];simp[hm]
     rw[v.out,Dh,O.out,U.out]
     rw[show (o'++ [(p,max l y)]).length=m+1 by simp[hm]]
     have V:=fF o' p l (max l y)
     rw[hm] at V
     rw[←V]
     exact Ax (C:=Sl.block wr.heap.size D0 [.int .i64 x,.int .i64 y]) (by ac_rfl)
   have hd:decide (x≤l)=false:=by simpa using X
   go_wp2_with fail
   go_quiet (fail)
   go_wp2_with (at_builtin;go_loud (refine Af EP rfl (.tmp 67) (.tmp 69) rfl rfl rfl (Ae (rw D0 2 (.slice (some ⟨g2,0,none⟩) (m+1) c2) (B9 (o'++ [(p,l)])))) (Src.new (b:=wr.heap.size+1) (e:=D0) (s:=2) (vs:= [.int .i64 x,.int .i64 y]) (by rw[←show ((wr.alloc (.cells #[.int .i64 x,.int .i64 y] D0)).drewN nq).heap.size=wr.heap.size+1 by simp];exact Ae _) rfl (by intro u M;simp at M;rcases M with rfl|rfl<;>rfl)) (by unfold maxLen;omega) (by omega) ?_;intro a' B w3 H o;haveI:=H.i;clear o))
   go_roundg (n-(j+1))
   case measure=>have:=A2.out.1;omega
   have U:Aside (FE (x,y) (o'++ [(p,l)])=o'++ [(p,l)]++ [(x,y)]):=(by
    rw[Ic]
    show (match decide (x≤l) with|true=>_|false=>_)=_
    rw[hd]
    simp:_=_)
   refine ⟨j+1,a',B,by go_num,by omega,⟨rfl,fun h0=>?_⟩,?_,?_⟩
   · rw[v.out,Dh] at h0;exact absurd h0 (S0 _ _)
   · rw[v.out,Dh,O.out,U.out];simp[hm]
   rw[v.out,Dh,O.out,U.out,IQ _ [(x,y)]]
   rw[show (o'++ [(p,l)]++ [(x,y)]).length=m+1+1 by simp[hm]]
   refine Ax (C:=Sl.block ((wr.alloc (.cells #[.int .i64 x,.int .i64 y] D0)).drewN nq).heap.size D0 [.int .i64 x,.int .i64 y]*Sl.block wr.heap.size D0 [.int .i64 x,.int .i64 y]) ?_
   show rw D0 2 (.slice a' (m+1+1) B) (_++ [Value.int .i64 x,Value.int .i64 y])*_=_
   ac_rfl
 have G: ¬(j:Int)<n:=by omega
 have ae:j=n:=by omega
 have D:f.take j=f:=List.take_of_length_le (by omega)
 have HF:=As D
 clear D ae
 go_wp2
 go_ret
 have hq:=ab.out
 rw[HF.out] at hq
 rw[HF.out]
 exact ⟨f,HI.out.1,HI.out.2,I,c2,rfl,(hq.eq (show _=rw D0 2 (.slice I (D4 [] f).length c2) (B9 (D4 [] f))*(rw D0 2 (.slice t d.length c0) (B9 d)*z)*rw D0 2 (.slice a n c) (B9 f) by ac_rfl)).Dx⟩
end Go.Proofs.YtfhbmblbidcmmaaGreat
namespace Go.Proofs.YtfhbmblbidcmmaaGreat
def Mh(l:List (Int×Int))(x:Int):Prop:= ∃p∈l,p.1≤x∧x<p.2
def Ku(l:List (Int×Int)):Prop:=(∀p∈l,p.1<p.2)∧l.Pairwise fun a b=>a.2<b.1
theorem Mh.nil(x:Int): ¬Mh [] x:=fun ⟨_,h,_⟩=>by cases h
theorem F5(p:Int×Int)(l:List (Int×Int))(x:Int):Mh (p::l) x↔(p.1≤x∧x<p.2)∨Mh l x:=by simp[Mh]
theorem Mh.perm{l l':List (Int×Int)}(h:l'.Perm l)(x:Int):Mh l' x↔Mh l x:=by
 constructor
 ·rintro ⟨p,hp,h1⟩;exact ⟨p,h.mem_iff.1 hp,h1⟩
 rintro ⟨p,hp,h1⟩;exact ⟨p,h.mem_iff.2 hp,h1⟩
theorem KS(r:Int×Int): ∀(o:List (Int×Int))(b:Int×Int),b∈FE r o→b.1=r.1∨ ∃a∈o,b.1=a.1
 | [],b,h=>by simp_all[U8]
 | [p],b,h=>by grind [FE]
 | p :: q :: l, b, h => by
  rcases List.mem_cons.1 h with rfl|h
  ·simp
  rcases KS r (q::l) b h with h|⟨a,ha,e⟩
  ·omega
  grind
theorem Rk(r:Int×Int)(hr:r.1<r.2): ∀(o:List (Int×Int)),Ku o→(∀p∈o,p.1≤r.1)→Ku (FE r o)∧ ∀x,Mh (FE r o) x↔Mh o x∨(r.1≤x∧x<r.2)
 | [],_,_=>by
  rw[U8]
  refine ⟨⟨fun p hp=>by rw[List.mem_singleton.1 hp];exact hr,List.pairwise_singleton _ _⟩,fun x=>?_⟩
  grind [F5]
 | [p], c, hp => by
  have h1:=c.1 p (List.mem_singleton.2 rfl)
  have f:=hp p (List.mem_singleton.2 rfl)
  rw[FE]
  split
  · rename_i e
    have e':r.1≤p.2:=by simpa using e
    refine ⟨⟨fun q hq=>by rw[List.mem_singleton.1 hq];show p.1<max p.2 r.2;omega,List.pairwise_singleton _ _⟩,fun x=>?_⟩
    simp only[F5,Mh.nil,or_false]
    omega
  rename_i e
  refine ⟨⟨fun q hq=>?_,?_⟩,fun x=>?_⟩
  · grind
  · simp_all
  simp[F5,Mh.nil,or_false]
 | p :: q :: l, c, hp => by
   have d:Ku (q::l):=⟨fun a ha=>c.1 a (List.mem_cons_of_mem _ ha),(List.pairwise_cons.1 c.2).2⟩
   obtain ⟨h1,f⟩:=Rk r hr (q::l) d fun a ha=>hp a (List.mem_cons_of_mem _ ha)
   have hq:=(List.pairwise_cons.1 c.2).1
   rw[FE]
   refine ⟨⟨fun a ha=>?_,?_⟩,fun x=>?_⟩
   · rcases List.mem_cons.1 ha with rfl|ha
     ·exact c.1 _ List.mem_cons_self
     exact h1.1 a ha
   · refine List.Pairwise.cons (fun b hb=>?_) h1.2
     rcases KS r (q::l) b hb with e|⟨a,ha,e⟩
     ·grind
     grind
   simp_all[F5,or_assoc]
theorem OL: ∀(l out:List (Int×Int)),Ku out→(∀p∈l,p.1<p.2)→iF l→(∀p∈out,∀q∈l,p.1≤q.1)→Ku (D4 out l)∧ ∀x,Mh (D4 out l) x↔Mh out x∨Mh l x
 | [],out,b,_,_,_=>⟨b,fun x=>by
  show Mh out x↔_
  constructor
  · simp_all
  rintro (h|h)
  · omega
  exact absurd h (Mh.nil x)⟩
 | r :: l, out, b, hl, j, i => by
   obtain ⟨h1,d⟩:=Rk r (hl r List.mem_cons_self) out b fun p hp=>i p hp r List.mem_cons_self
   have c:=List.pairwise_cons.1 j
   obtain ⟨f,g⟩:=OL l (FE r out) h1 (fun p hp=>hl p (List.mem_cons_of_mem _ hp)) c.2 fun p hp q hq=>by
    rcases KS r out p hp with e|⟨a,ha,e⟩
    ·grind
    grind
   exact ⟨f,fun x=>by
    show Mh (D4 (FE r out) l) x↔_
    rw[g x,d x,F5,or_assoc]⟩
theorem M6: ∀l:List (Int×Int),∀p∈Cv l,p.1<p.2
 | [],p,h=>by cases h
 | q :: l, p, h => by
  rw[Cv] at h
  split at h
  ·rename_i e
   rcases List.mem_cons.1 h with rfl|h
   ·simp_all
   exact M6 l p h
  exact M6 l p h
theorem QF: ∀(l:List (Int×Int))(x:Int),Mh (Cv l) x↔0≤x∧Mh l x
 | [],x=>by simp[Cv,Mh]
 | q :: l, x => by
  have a:=QF l x
  rw[Cv]
  split
  ·rename_i e
   rw[F5,F5,a]
   grind
  rename_i e
  rw[F5,a]
  grind
theorem Wz{a l':List (Int×Int)}(hp:l'.Perm (Cv a))(c:iF l'):Ku (D4 [] l')∧ ∀x,Mh (D4 [] l') x↔0≤x∧Mh a x:=by
 obtain ⟨h1,b⟩:=OL l' [] ⟨fun p h=>(by cases h),List.Pairwise.nil⟩ (fun p h=>M6 a p (hp.mem_iff.1 h)) c (fun p h=>by cases h)
 refine ⟨h1,fun x=>?_⟩
 rw[b x,Mh.perm hp x,QF]
 constructor
 ·rintro (h|h)
  ·exact absurd h (Mh.nil x)
  exact h
 exact Or.inr
open Go.RowKit Go.Sl Go.Sort
open Go.PS (A9)
def EZ(ks:List Int):List (Int×Int):=ks.map fun k=>(k,k+1)
theorem T'(ks:List Int)(x:Int):Mh (EZ ks) x↔x∈ks:=by
 constructor
 ·rintro ⟨p,hp,h1,a⟩
  obtain ⟨k,b,rfl⟩:=List.mem_map.1 hp
  have:x=k:=by simp only at h1 a;omega
  exact this▸b
 intro h
 exact ⟨(x,x+1),List.mem_map.2 ⟨x,h,rfl⟩,by show x≤x;omega,by show x<x+1;omega⟩
end Go.Proofs.YtfhbmblbidcmmaaGreat
namespace Go.Proofs.YtfhbmblbidcmmaaGreat
open Go.RowKit Go.Sl Go.Dk Go.Tr
open Go.PS (A9)
end Go.Proofs.YtfhbmblbidcmmaaGreat
namespace Go.Proofs.YtfhbmblbidcmmaaGreat
open Go.RowKit Go.Sl Go.Dk Go.Tr
