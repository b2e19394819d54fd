/- censusPages holds for every input. No condition. (part 38) -/
import Derived.Test.YtfhbmblbidcmmaaGreatVa15
set_option linter.all false
set_option maxRecDepth 100000
set_option maxHeartbeats 2000000
namespace Go.Proofs.YtfhbmblbidcmmaaGreat
open Go.RowKit Go.Sl Go.Sort
abbrev Ds:TypeId:=212
abbrev X8:TypeId:=87
def KX(p:Int×Int):List Value:= [.int .i64 p.1,.int .i64 p.2]
def BD(l:List (Int×Int)):List Value:=l.flatMap KX
def iF(a b:Int×Int):Bool:=decide (a.1<b.1)
theorem EA(l:List (Int×Int)):(BD l).length=l.length*2:=My (f:=KX) (fun _=>rfl) l
theorem Fb{l:List (Int×Int)}{i:Nat}{p:Int×Int}(h:l[i]?=some p)(k:Nat)(a:k<2):(BD l)[i*2+k]?=(KX p)[k]?:=JU (f:=KX) (s:=2) (fun _=>rfl) l i k p h a
theorem cS(d:Array (Int×Int)):(flatK KX 2 d).toList=BD d.toList:=by
 apply List.ext_getElem?
 intro t
 by_cases h:t<d.size*2
 ·have h1:t<(flatK KX 2 d).size:=by simpa using h
  have a:t/2<d.size:=by omega
  have b:=get_flatK KX 2 d t h
  rw[getElem!_pos (flatK KX 2 d) t h1,getElem!_pos d (t/2) a] at b
  have c:=Fb (l:=d.toList) (i:=t/2) (p:=d[t/2]) (by simp[a]) (t%2) (by omega)
  rw[show t/2*2+t%2=t by omega] at c
  rw[c,Array.getElem?_toList,Array.getElem?_eq_getElem h1,b,getElem!_pos _ _ (by show t%2<2;omega),List.getElem?_eq_getElem (by show t%2<2;omega)]
 rw[Array.getElem?_toList,Array.getElem?_eq_none (by simp;omega),List.getElem?_eq_none (by rw[EA];simp;omega)]
theorem Ue(ET a c b size:Nat)(W:World)(G:Nat→Int)(hs:W.cell? ⟨b,0,none⟩=some (.slice (some ⟨ET,a,none⟩) size c))
 (f: ∀t,t<size→W.cell? ⟨ET,a+t*2,none⟩=some (.int .i64 (G t))) (i j:Nat) (hi:i<size) (g:j<size) (d:size<4611686018427387904):
 Calls Tryz.prog 152 #[.int .i64 i,.int .i64 j,.pointer (some ⟨b,0,none⟩)] W fun e k=>e= .returned (.bool (decide (G i<G j)))∧ ∃q,k=W.drewN q:=by
 have l:=f i hi
 have m:=f j g
 go_enter Tryz.func152,Tryz.ntmps152
 go_wp2
 go_quiet (fail)
 go_wp2
 go_ret
 exact ⟨rfl,nq,rfl⟩
noncomputable def nE:TypeInfo:=(Tryz.prog.info? 87).get (by kernel_rfl)
noncomputable def iH:TypeInfo:=(Tryz.prog.info? 212).get (by kernel_rfl)
theorem oI(n:Nat)(e:2≤n):Lib.swapperK n iH 25=9:=by
 have a:iH.hasPointers=false:=by kernel_rfl
 have b:iH.bytes=16:=by kernel_rfl
 have c:(n==0)=false:=by simp;omega
 have d:(n==1)=false:=by simp;omega
 simp[Lib.swapperK,a,b,c,d]
theorem mY:Lib.swapperK 0 iH 25=1:=by simp[Lib.swapperK]
theorem mZ:Lib.swapperK 1 iH 25=2:=by simp[Lib.swapperK]
theorem nG:SWO iF where
 irrefl:=fun a=>by simp[iF]
 trans:=fun a b c h1 d=>by simp only[iF,decide_eq_true_eq] at*;omega
 ntrans:=fun a b c h1 d=>by simp only[iF,decide_eq_false_iff_not] at*;omega
theorem YW{w:World}(os:Array Obj){k:Key}{r:Fx}(h:Has w k r):Has (Sort.grow w os) k r:=by
 have Ja: ∀{b:Nat}{o:Obj},w.heap[b]?=some o→(Sort.grow w os).heap[b]?=some o:=fun {b o} e=>by
  rw[heap_grow_old w os (Array.getElem?_eq_some_iff.1 e).1];exact e
 cases k<;>cases r<;>first|exact h.elim|skip
 · exact Ja h
 · obtain ⟨c,t,h1,a⟩:=h;exact ⟨c,t,Ja h1,a⟩
 · obtain ⟨c,h1,a⟩:=h;exact ⟨c,Ja h1,a⟩
 exact h
theorem Sat.iA{A:Ab}{w:World}(hs:Sat A w)(os:Array Obj):Sat A (Sort.grow w os):=by
 obtain ⟨h,ha,H⟩:=hs
 exact ⟨h,ha,fun k r e=>YW os (H k r e)⟩
instance:Inhabited (Int×Int):=⟨(0,0)⟩
theorem Yo(d:Array (Int×Int)):flatK KX 2 d=(BD d.toList).toArray:=by rw[←cS d]
def iX(l:List (Int×Int)):Prop:=l.Pairwise fun x y=>x.1≤y.1
theorem PH(p:Option Addr)(n c:Nat)(h:n≤1)(lf:Fn)(a b:Array Value)(w:World):
 Calls Tryz.prog 151 #[.iface 87 (.slice p n c),.func lf a b] w fun e d=>e= .returned (.tuple #[])∧ ∃os,d=grow w os:=by
 match n,h with
 |0,_=>exact Any.sort_Slice_tiny Tryz.Sf 87 212 nE iH (by kernel_rfl) (by kernel_rfl) (by kernel_rfl) (by kernel_rfl) 25 (fun _=>by kernel_rfl) p 0 c (by omega) 199 (by rw[mY];kernel_rfl) lf a b w
 |1,_=>exact Any.sort_Slice_tiny Tryz.Sf 87 212 nE iH (by kernel_rfl) (by kernel_rfl) (by kernel_rfl) (by kernel_rfl) 25 (fun _=>by kernel_rfl) p 1 c (by omega) 200 (by rw[mZ];kernel_rfl) lf a b w
theorem Xh(ET c b2 c2:Nat)(d:Array (Int×Int))(w:World)(o:2≤d.size)(f:d.size<4611686018427387904)(p:HoldsK KX 2 w ET 0 d)(a:ET<w.heap.size)(l:b2≠ET)(k:b2<w.heap.size)(hs:w.cell? ⟨b2,0,none⟩=some (.slice (some ⟨ET,0,none⟩) d.size c2)):
 Calls Tryz.prog 151 #[.iface 87 (.slice (some ⟨ET,0,none⟩) d.size c),.func (.func 152) #[] #[.pointer (some ⟨b2,0,none⟩)]] w fun e s=>
  e= .returned (.tuple #[])∧ ∃d' n os,PermIn 0 d.size d d'∧SortedIn iF 0 d.size d'∧s=grow (putRowK KX 2 (Sort.ahead w n) ET 0 d') os:=by
 have b:LessReadsK Tryz.prog 152 #[.pointer (some ⟨b2,0,none⟩)] KX 2 iF ET 0 d.size w:=by
  intro m os dk f i j hi r
  have e:sortWorldK KX 2 w ET 0 m dk os=putRowK KX 2 (grow (Sort.ahead w m) os) ET 0 dk:=by
   unfold sortWorldK;rw[putRowK_grow _ _ (Sort.ahead w m) _ ET 0 _ a]
  have g:HoldsK KX 2 (grow (Sort.ahead w m) os) ET 0 d:=holdsK_grow _ _ _ _ ET 0 d a (holdsK_ahead _ _ _ _ _ _ _ p)
  refine Ue ET 0 c2 b2 d.size _ (fun t=>dk[t]!.1) ?_ (fun t u=>?_) i j hi r (by omega)
  · rw[e,cell?_putRowK_other _ _ _ ET 0 dk _ l,cell?_grow _ _ _ k]
    exact hs
  rw[e];exact ((holdsK_putRowK _ _ _ ET 0 d dk g f).cell (i:=t) (c:=0) (by omega) (by omega)).1
 exact Any.sort_Slice_cells_sorted Tryz.Sf 87 212 nE iH (by kernel_rfl) (by kernel_rfl) (by kernel_rfl) (by kernel_rfl) 25 (fun _=>by kernel_rfl) KX 2 (fun _=>rfl) (by kernel_rfl) (fun _=>by kernel_rfl)
  (fun x v q=>by simp[KX] at q;rcases q with rfl|rfl<;>rfl) iF nG 152 _
  (enters_of Tryz.func152 (by kernel_rfl) rfl) ET 0 c d o f 207 (by rw[oI _ o];kernel_rfl) false
  (fun args W=>run_callFunc_extern Tryz.func207 (by kernel_rfl) (by kernel_rfl) (by kernel_rfl) (e:=Extern.ReflectliteSwapper.swap false) (by kernel_rfl) args W) w b p a
theorem ZL{ET c T b2 c2:Nat}{l:List (Int×Int)}{sp:List Value}{F:Ab}{w:World}(hs:Sat (block ET T (BD l++sp)*F) w)(v:w.cell? ⟨b2,0,none⟩=some (.slice (some ⟨ET,0,none⟩) l.length c2))(m:b2≠ET)(d:b2<w.heap.size)(hm:l.length<4611686018427387904):
 Calls Tryz.prog 151 #[.iface 87 (.slice (some ⟨ET,0,none⟩) l.length c),.func (.func 152) #[] #[.pointer (some ⟨b2,0,none⟩)]] w fun e o=>
  e= .returned (.tuple #[])∧ ∃l',l'.Perm l∧iX l'∧Sat (block ET T (BD l'++sp)*F) o:=by
 by_cases p:l.length≤1
 · refine (PH _ _ c p _ _ _ w).mono fun x o ⟨h,os,b⟩=>⟨h,l,List.Perm.refl _,?_,?_⟩
   ·match l,p with
    | [],_=>exact List.Pairwise.nil
    | [x],_=>exact List.pairwise_singleton _ _
   subst b;exact Sat.iA hs os
 have hw:=hs.ED
 have u:HoldsK KX 2 w ET 0 l.toArray:=by
  show Holds id w ET 0 (flatK KX 2 l.toArray)
  rw[Yo]
  intro j a
  simp only[List.size_toArray] at a
  have s:Sat (cells ET 0 (BD l)*(Ew ET T (BD l++sp).length*(cells ET (BD l).length sp*F))) w:=hs.eq (by rw[D2];ac_rfl)
  refine ⟨?_,by simp[World.frozen?,hw]⟩
  rw[s.DW j ((BD l)[j]) (by simp[a])]
  simp[a]
 refine (Xh ET c b2 c2 l.toArray w (by simp;omega) (by simpa using hm) u (Gm hw) m d (by simpa using v)).mono fun x o ⟨h,d',n,os,hp,y,b⟩=>⟨h,d'.toList,?_,?_,?_⟩
 · have h1:=hp.2.2
   have q:=hp.1
   simp only[List.size_toArray] at h1 q
   rw[Array.extract_eq_self_of_le (by omega),Array.extract_eq_self_of_le (by simp)] at h1
   simpa using h1
 · have q:d'.size=l.length:=by simpa using hp.1
   refine List.pairwise_iff_getElem.2 fun i j hi a g=>?_
   have r:=y i j (Nat.zero_le _) g (by simp at a⊢;omega)
   have f:i<d'.size:=by simpa using hi
   have k:j<d'.size:=by simpa using a
   rw[getElem!_pos d' i f,getElem!_pos d' j k] at r
   simp only[iF,decide_eq_false_iff_not] at r
   show d'.toList[i].1≤d'.toList[j].1
   simp only[Array.getElem_toList]
   omega
 subst b
 show Sat _ (grow (putRow id (Sort.ahead w n) ET 0 (flatK KX 2 d')) os)
 rw[Yo]
 have t:=Vs id (xs:=BD l) (ys:=BD d'.toList) (n:=n) (os:=os) (sp:=sp) (F:=F) (by simpa using hs) (by rw[EA,EA];have:=hp.1;simp at this;simp[this])
 simpa using t
theorem II(a b:List (Int×Int)):BD (a++b)=BD a++BD b:=List.flatMap_append
theorem Kc(l:List (Int×Int))(t:Nat):(BD l)[t]?=(l[t/2]?).map fun p=>(KX p)[t%2]!:=by
 by_cases h:t/2<l.length
 ·have a:=Fb (l:=l) (i:=t/2) (p:=l[t/2]) (by simp[h]) (t%2) (by omega)
  rw[show t/2*2+t%2=t by omega] at a
  rw[a,List.getElem?_eq_getElem h,Option.map_some,getElem!_pos _ _ (by show t%2<2;omega),List.getElem?_eq_getElem (by show t%2<2;omega)]
 rw[List.getElem?_eq_none (by rw[EA];omega),List.getElem?_eq_none (by omega)];rfl
noncomputable def Ct:List (Int×Int)→List (Int×Int)
 | []=> []
 | p :: l => match decide (max p.1 0 < p.2) with
  |true=>(max p.1 0,p.2)::Ct l
  |false=>Ct l
noncomputable def FF(r:Int×Int):List (Int×Int)→List (Int×Int)
 | []=> [r]
 | [p]=>match decide (r.1≤p.2) with
  |true=> [(p.1,max p.2 r.2)]
  |false=> [p,r]
 |p::q::l=>p::FF r (q::l)
noncomputable def Df:List (Int×Int)→List (Int×Int)→List (Int×Int)
 |out,[]=>out
 |out,r::l=>Df (FF r out) l
theorem Iz: ∀a b:List (Int×Int),Ct (a++b)=Ct a++Ct b
 | [],b=>rfl
 | p :: a, b => by
  show (match decide (max p.1 0<p.2) with|true=>(max p.1 0,p.2)::Ct (a++b)|false=>Ct (a++b))=(match decide (max p.1 0<p.2) with|true=>(max p.1 0,p.2)::Ct a|false=>Ct a)++Ct b
  rw[Iz a b]
  cases decide (max p.1 0<p.2)<;>rfl
theorem Dl: ∀(l out:List (Int×Int))(r:Int×Int),Df out (l++ [r])=FF r (Df out l)
 | [],out,r=>rfl
 |p::l,out,r=>Dl l (FF p out) r
theorem UI(r:Int×Int):FF r []= [r]:=rfl
theorem H7(r:Int×Int): ∀(o:List (Int×Int))(p:Int×Int),FF r (o++ [p])=(match decide (r.1≤p.2) with|true=>o++ [(p.1,max p.2 r.2)]|false=>o++ [p,r])
 | [],p=>rfl
 | [q],p=>by
  show q::FF r [p]=_
  rw[show [p]= []++ [p] from rfl,H7 r [] p]
  cases decide (r.1≤p.2)<;>rfl
 | q :: a :: o, p => by
   show q::FF r ((a::o)++ [p])=_
   rw[H7 r (a::o) p]
   cases decide (r.1≤p.2)<;>rfl
theorem fZ(o:List (Int×Int))(a b z:Int):(BD (o++ [(a,b)])).set (o.length*2+1) (.int .i64 z)=BD (o++ [(a,z)]):=by
 rw[II,II,List.set_append_right _ _ (by rw[EA];omega),EA]
 rw[show o.length*2+1-o.length*2=1 by omega]
 rfl
theorem cG(r:Int×Int)(o:List (Int×Int)):(FF r o).length≤o.length+1:=by
 rcases List.eq_nil_or_concat o with rfl|⟨o',p,rfl⟩
 ·simp[FF]
 rw[List.concat_eq_append,H7]
 cases decide (r.1≤p.2)<;>simp
theorem S8(r:Int×Int): ∀o:List (Int×Int),FF r o≠ []
 | []=>by simp[FF]
 | [p]=>by
  show (match decide (r.1≤p.2) with|true=> [(p.1,max p.2 r.2)]|false=> [p,r])≠ []
  cases decide (r.1≤p.2)<;>simp
 |p::q::l=>by simp[FF]
theorem QM: ∀(l out:List (Int×Int)),(Df out l).length≤out.length+l.length
 | [],out=>Nat.le_refl _
 | p :: l, out => by
  have h1:=QM l (FF p out)
  have a:=cG p out
  show (Df (FF p out) l).length≤_
  simp only[List.length_cons]
  omega
theorem M3: ∀l:List (Int×Int),(Ct l).length≤l.length
 | []=>Nat.le_refl _
 | p :: l => by
  have:=M3 l
  unfold Ct
  split<;>simp<;>omega
theorem Zg{x y:Int}(h:max x 0<y):Ct [(x,y)]= [(max x 0,y)]:=by simp[Ct,h]
theorem Wo{x y:Int}(h: ¬max x 0<y):Ct [(x,y)]= []:=by simp[Ct,h]
theorem ZO(a:Option Addr)(c B:Nat)(l:List (Int×Int))(F:Ab)(w:World)(hl:l.length<4611686018427387904)
 (hs:Sat (rw Ds 2 (.slice a l.length c) (BD l)*(Sl.block B X8 [.slice a l.length c]*F)) w):
 Calls Tryz.prog 151 #[.iface 87 (.slice a l.length c),.func (.func 152) #[] #[.pointer (some ⟨B,0,none⟩)]] w fun e m=>
  e= .returned (.tuple #[])∧ ∃l',l'.Perm l∧iX l'∧Sat (rw Ds 2 (.slice a l.length c) (BD l')*(Sl.block B X8 [.slice a l.length c]*F)) m:=by
 rcases hs.Cr with ⟨o,p,_⟩|⟨g,n,cap,sp,o,p,b,q,r,d⟩
 · have b:=EA l
   rw[p] at b
   simp only[List.length_nil] at b
   have h0:l= []:=List.eq_nil_of_length_eq_zero (by omega)
   subst h0
   refine (PH _ _ c (by simp) _ _ _ w).mono ?_
   rintro e m ⟨rfl,os,rfl⟩
   exact ⟨rfl,[],List.Perm.refl _,List.Pairwise.nil,Sat.iA hs os⟩
 cases o
 have j:Sat (Sl.cell B 0 (.slice (some ⟨g,0,none⟩) l.length c)*(Sl.block g Ds (BD l++sp)*(Sl.Ew B X8 1*F))) w:=d.eq (by
  rw[show Sl.block B X8 [.slice (some ⟨g,0,none⟩) l.length c]=Sl.Ew B X8 1*(Sl.cell B 0 (.slice (some ⟨g,0,none⟩) l.length c)*1) from rfl,Bm]
  ac_rfl)
 have k:B≠g:=fun e=>by
  subst e
  have f:=(j.take (Sl.block B Ds (BD l++sp))).ED
  have i:=(d.eq (show _=Sl.block B X8 [.slice (some ⟨B,0,none⟩) l.length c]*(Sl.block B Ds (BD l++sp)*F) by ac_rfl)).ED
  rw[f] at i
  simp at i
  exact absurd i.2 (by decide)
 refine (ZL (b2:=B) (c2:=c) d (by simpa using j.cell) k j.lt hl).mono ?_
 rintro e m ⟨rfl,l',hp,s,f⟩
 refine ⟨rfl,l',hp,s,Sat.EB (sp:=sp) (by rw[EA,hp.length_eq]) (by rw[List.length_append,EA,hp.length_eq,←EA,←List.length_append];exact b) q r f⟩
theorem o6: ∃i,C8 Tryz.prog 87 Ds 2 16 i (.agg #[.int .i64 0,.int .i64 0]):=by
 exact Iq Tryz.underlying87 (by kernel_rfl) rfl (by decide)
theorem Zz(q:Option Addr)(c0:Nat)(d:List (Int×Int))(v:Ab)(w:World)(hl:d.length≤1073741824)(a6:Sat (rw Ds 2 (.slice q d.length c0) (BD d)*v) w):
 Calls Tryz.prog 120 #[.slice q d.length c0] w fun e w'=> ∃l':List (Int×Int),l'.Perm (Ct d)∧iX l'∧ ∃(a':Option Addr)(B:Nat),e= .returned (.slice a' (Df [] l').length B)∧
  Sat (rw Ds 2 (.slice a' (Df [] l').length B) (BD (Df [] l'))*(rw Ds 2 (.slice q d.length c0) (BD d)*v)) w':=by
 have a1:Sat (rw Ds 2 (.slice q d.length c0) (BD d)*v) w:=a6
 clear a6
 go_enter Tryz.func120,Tryz.ntmps120
 obtain ⟨i0,EP⟩:=o6
 have a3:=a1.alloc #[.slice none 0 0] 87
 have a4:=a3.AE (e:=Ds) (s:=2)
 go_wp2
 go_loopg [12] d.length (fun g af wr=> ∃(i:Nat)(a:Option Addr)(c:Nat),af= .int .i64 i∧i≤d.length∧Aside (g=d.length-i)∧
  Sat (rw Ds 2 (.slice a (Ct (d.take i)).length c) (BD (Ct (d.take i)))*(Sl.block w.heap.size 87 [.slice a (Ct (d.take i)).length c]*(rw Ds 2 (.slice q d.length c0) (BD d)*v))) wr)
 case atStart=>exact ⟨0,none,0,rfl,by omega,rfl,by simpa[Ct,BD] using a4⟩
 obtain ⟨i,a,c,rfl,hi,A,k⟩:=hrel
 haveI:=k.i
 clear a1 a3 a4
 by_cases J:i<d.length
 · have G:(i:Int)<d.length:=by omega
   obtain ⟨⟨x,y⟩,hp⟩:=Aq (d[i])
   have hx:(BD d)[i*2]?=some (.int .i64 x):=by rw[Kc,show i*2/2=i by omega,show i*2%2=0 by omega,List.getElem?_eq_getElem J,hp];rfl
   have hy:(BD d)[i*2+1]?=some (.int .i64 y):=by rw[Kc,show (i*2+1)/2=i by omega,show (i*2+1)%2=1 by omega,List.getElem?_eq_getElem J,hp];rfl
   haveI:At (BD d) (i*2) (.int .i64 x):=⟨hx⟩
   obtain ⟨g0,rfl⟩:=Dh (k.take (rw Ds 2 (.slice q d.length c0) (BD d))) (by omega)
   haveI:=k.i
   haveI:At (BD d) (i*2+1) (.int .i64 y):=⟨hy⟩
   have z:Aside (d.take (i+1)=d.take i++ [(x,y)]):=(by rw[List.take_add_one,List.getElem?_eq_getElem J,hp];rfl:_=_)
   by_cases hk:max x 0<y
   · have W:(Ct (d.take i)).length≤1073741824:=by
      have:=M3 (d.take i)
      rw[List.length_take] at this
      omega
     go_wp2_with (at_builtin;go_loud (refine Af EP rfl (.tmp 25) (.tmp 27) rfl rfl rfl (Ae (rw Ds 2 (.slice a (Ct (d.take i)).length c) (BD (Ct (d.take i))))) (Src.new (b:=wr.heap.size+1) (e:=Ds) (s:=2) (vs:= [.int .i64 (max x 0),.int .i64 y]) (by rw[←show (wr.alloc (.cells #[.int .i64 (max x 0),.int .i64 y] Ds)).heap.size=wr.heap.size+1 by simp];exact Ae _) rfl (by intro u M;simp at M;rcases M with rfl|rfl<;>rfl)) (by unfold maxLen;omega) (by omega) ?_;intro a' B w2 H o;haveI:=H.i;clear o))
     go_roundg (d.length-(i+1))
     case measure=>have:=A.out;omega
     refine ⟨i+1,a',B,by go_num,by omega,rfl,?_⟩
     rw[z.out,Iz,Zg (by omega),List.length_append,II]
     exact A4 (C:=Sl.block (wr.alloc (.cells #[.int .i64 (max x 0),.int .i64 y] Ds)).heap.size Ds [.int .i64 (max x 0),.int .i64 y]*Sl.block wr.heap.size Ds [.int .i64 (max x 0),.int .i64 y]) (by
      show rw Ds 2 (.slice a' ((Ct (d.take i)).length+1) B) _*_=_
      ac_rfl)
   go_wp2
   go_roundg (d.length-(i+1))
   case measure=>have:=A.out;omega
   refine ⟨i+1,a,c,by go_num,by omega,rfl,?_⟩
   rw[z.out,Iz,Wo (by omega),List.append_nil]
   exact A4 (C:=Sl.block wr.heap.size Ds [.int .i64 (max x 0),.int .i64 y]) (by ac_rfl)
 have G: ¬(i:Int)<d.length:=by omega
 obtain rfl:i=d.length:=by omega
 rw[List.take_length] at k
 haveI:=k.i
 have W:=M3 d
 have T:=ZO a c w.heap.size (Ct d) (rw Ds 2 (.slice q d.length c0) (BD d)*v) wr (by omega) k
 obtain ⟨l,K⟩:=Aq ((Ct d).length)
 rw[K] at T W
 have ac:Aside (Sat (rw Ds 2 (.slice a l c) (BD (Ct d))*(Sl.block w.heap.size 87 [.slice a l c]*(rw Ds 2 (.slice q d.length c0) (BD d)*v))) wr):=(by rw[←K];exact k:Sat _ _)
 have aa:Aside ((Ct d).length=l):=K
 haveI:=ac.out.i
 clear k K
 go_wp2_with fail
 refine T.mono ?_
 rintro e w2 ⟨rfl,f,Q,a7,R⟩
 clear T
 have HI:Aside (f.Perm (Ct d)∧iX f):=⟨Q,a7⟩
 have ak:f.length=l:=by rw[Q.length_eq];exact aa.out
 clear Q a7
 haveI:=R.i
 have a5:=Sat.AE (e:=Ds) (s:=2) (R.eq (show _=rw Ds 2 (.slice a l c) (BD f)*(rw Ds 2 (.slice q d.length c0) (BD d)*v)*Sl.block w.heap.size 87 [.slice a l c] by ac_rfl)).Dn
 go_wp2
 go_loopg [6,36] l (fun g t6 ag wr=> ∃(j:Nat)(I:Option Addr)(c2:Nat),ag= .int .i64 j∧j≤l∧Aside (g=l-j∧(Df [] (f.take j)= []→I=none∧c2=0))∧t6= .slice I (Df [] (f.take j)).length c2∧
  Sat (rw Ds 2 (.slice I (Df [] (f.take j)).length c2) (BD (Df [] (f.take j)))*(rw Ds 2 (.slice a l c) (BD f)*(rw Ds 2 (.slice q d.length c0) (BD d)*v))) wr)
 case atStart=>exact ⟨0,none,0,rfl,by omega,⟨rfl,fun _=>⟨rfl,rfl⟩⟩,rfl,by simpa[Df,BD] using a5⟩
 obtain ⟨j,I,c2,rfl,hj,A2,rfl,k⟩:=hrel
 clear R a5
 have ab:Aside (Sat (rw Ds 2 (.slice I (Df [] (f.take j)).length c2) (BD (Df [] (f.take j)))*(rw Ds 2 (.slice a l c) (BD f)*(rw Ds 2 (.slice q d.length c0) (BD d)*v))) wr):=k
 by_cases J:j<l
 · have G:(j:Int)<l:=by omega
   have P:j<f.length:=by omega
   obtain ⟨g,rfl⟩:=Dh (k.take (rw Ds 2 (.slice a l c) (BD f))) (by omega)
   obtain ⟨⟨x,y⟩,hp⟩:=Aq (f[j])
   haveI:At (BD f) (j*2) (.int .i64 x):=⟨by rw[Kc,show j*2/2=j by omega,show j*2%2=0 by omega,List.getElem?_eq_getElem P,hp];rfl⟩
   haveI:At (BD f) (j*2+1) (.int .i64 y):=⟨by rw[Kc,show (j*2+1)/2=j by omega,show (j*2+1)%2=1 by omega,List.getElem?_eq_getElem P,hp];rfl⟩
   have z:Aside (f.take (j+1)=f.take j++ [(x,y)]):=(by rw[List.take_add_one,List.getElem?_eq_getElem P,hp];rfl:_=_)
   have L:(Df [] (f.take j)).length≤1073741824:=by
    have:=QM (f.take j) []
    rw[List.length_take] at this
    simp at this
    omega
   obtain ⟨out,r⟩:=Aq (Df [] (f.take j))
   rw[r] at k L
   have O:Aside (Df [] (f.take j)=out):=r
   simp only[r]
   clear r hp
   haveI:=k.i
   rcases List.eq_nil_or_concat out with rfl|⟨o',⟨p,n⟩,rfl⟩
   · have t:Sat (rw Ds 2 (.slice I 0 c2) []*(rw Ds 2 (.slice (some ⟨g,0,none⟩) l c) (BD f)*(rw Ds 2 (.slice q d.length c0) (BD d)*v))) wr:=k
     simp only[List.length_nil]
     haveI:=t.i
     go_wp2_with fail
     go_quiet (fail)
     go_wp2_with (at_builtin;go_loud (refine Af EP rfl (.tmp 67) (.tmp 69) rfl rfl rfl (Ae (rw Ds 2 (.slice I 0 c2) [])) (Src.new (b:=wr.heap.size+1) (e:=Ds) (s:=2) (vs:= [.int .i64 x,.int .i64 y]) (by rw[←show ((wr.alloc (.cells #[.int .i64 x,.int .i64 y] Ds)).drewN nq).heap.size=wr.heap.size+1 by simp];exact Ae _) rfl (by intro u M;simp at M;rcases M with rfl|rfl<;>rfl)) (by unfold maxLen;omega) (by omega) ?_;intro a' B w3 H o;haveI:=H.i;clear o))
     go_roundg (l-(j+1))
     case measure=>have:=A2.out.1;omega
     refine ⟨j+1,a',B,by go_num,by omega,⟨rfl,fun h0=>?_⟩,?_,?_⟩
     · rw[z.out,Dl] at h0;exact absurd h0 (S8 _ _)
     · rw[z.out,Dl,O.out];rfl
     rw[z.out,Dl,O.out]
     refine A4 (C:=Sl.block ((wr.alloc (.cells #[.int .i64 x,.int .i64 y] Ds)).drewN nq).heap.size Ds [.int .i64 x,.int .i64 y]*Sl.block wr.heap.size Ds [.int .i64 x,.int .i64 y]) ?_
     show rw Ds 2 (.slice a' (0+1) B) _*_=_
     ac_rfl
   rw[List.concat_eq_append] at k L O
   have Y:(o'.concat (p,n)).length=o'.length+1:=by simp
   rw[List.length_append,List.length_singleton] at L
   obtain ⟨m,hm⟩:=Aq o'.length
   have t:Sat (rw Ds 2 (.slice I (m+1) c2) (BD (o'++ [(p,n)]))*(rw Ds 2 (.slice (some ⟨g,0,none⟩) l c) (BD f)*(rw Ds 2 (.slice q d.length c0) (BD d)*v))) wr:=by
    have:(o'++ [(p,n)]).length=m+1:=by simp[hm]
    rw[←this];exact k
   obtain ⟨g2,rfl⟩:=Dh t (by omega)
   have Z:(o'++ [(p,n)])[m]?=some (p,n):=by rw[List.getElem?_append_right (by omega)];simp[hm]
   haveI:At (BD (o'++ [(p,n)])) (m*2) (.int .i64 p):=⟨by rw[Kc,show m*2/2=m by omega,show m*2%2=0 by omega,Z];rfl⟩
   haveI:At (BD (o'++ [(p,n)])) (m*2+1) (.int .i64 n):=⟨by rw[Kc,show (m*2+1)/2=m by omega,show (m*2+1)%2=1 by omega,Z];rfl⟩
   rw[hm] at L Y
   simp only[Y]
   haveI:=t.i
   by_cases X:x≤n
   · have hd:decide (x≤n)=true:=by simpa using X
     go_wp2_with fail
     go_quiet (fail)
     go_wp2_with fail
     go_region
     go_wp2
     go_roundg (l-(j+1))
     case measure=>have:=A2.out.1;omega
     have U:Aside (FF (x,y) (o'++ [(p,n)])=o'++ [(p,max n y)]):=(by
      rw[H7]
      show (match decide (x≤n) with|true=>_|false=>_)=_
      rw[hd]:_=_)
     refine ⟨j+1,some ⟨g2,0,none⟩,c2,by go_num,by omega,⟨rfl,fun h0=>?_⟩,?_,?_⟩
     · rw[z.out,Dl] at h0;exact absurd h0 (S8 _ _)
     · rw[z.out,Dl,O.out,U.out];simp[hm]
     rw[z.out,Dl,O.out,U.out]
     rw[show (o'++ [(p,max n y)]).length=m+1 by simp[hm]]
     have V:=fZ o' p n (max n y)
     rw[hm] at V
     rw[←V]
     exact A4 (C:=Sl.block wr.heap.size Ds [.int .i64 x,.int .i64 y]) (by ac_rfl)
   have hd:decide (x≤n)=false:=by simpa using X
   go_wp2_with fail
   go_quiet (fail)
   go_wp2_with (at_builtin;go_loud (refine Af EP rfl (.tmp 67) (.tmp 69) rfl rfl rfl (Ae (rw Ds 2 (.slice (some ⟨g2,0,none⟩) (m+1) c2) (BD (o'++ [(p,n)])))) (Src.new (b:=wr.heap.size+1) (e:=Ds) (s:=2) (vs:= [.int .i64 x,.int .i64 y]) (by rw[←show ((wr.alloc (.cells #[.int .i64 x,.int .i64 y] Ds)).drewN nq).heap.size=wr.heap.size+1 by simp];exact Ae _) rfl (by intro u M;simp at M;rcases M with rfl|rfl<;>rfl)) (by unfold maxLen;omega) (by omega) ?_;intro a' B w3 H o;haveI:=H.i;clear o))
   go_roundg (l-(j+1))
   case measure=>have:=A2.out.1;omega
   have U:Aside (FF (x,y) (o'++ [(p,n)])=o'++ [(p,n)]++ [(x,y)]):=(by
    rw[H7]
    show (match decide (x≤n) with|true=>_|false=>_)=_
    rw[hd]
    simp:_=_)
   refine ⟨j+1,a',B,by go_num,by omega,⟨rfl,fun h0=>?_⟩,?_,?_⟩
   · rw[z.out,Dl] at h0;exact absurd h0 (S8 _ _)
   · rw[z.out,Dl,O.out,U.out];simp[hm]
   rw[z.out,Dl,O.out,U.out,II _ [(x,y)]]
   rw[show (o'++ [(p,n)]++ [(x,y)]).length=m+1+1 by simp[hm]]
   refine A4 (C:=Sl.block ((wr.alloc (.cells #[.int .i64 x,.int .i64 y] Ds)).drewN nq).heap.size Ds [.int .i64 x,.int .i64 y]*Sl.block wr.heap.size Ds [.int .i64 x,.int .i64 y]) ?_
   show rw Ds 2 (.slice a' (m+1+1) B) (_++ [Value.int .i64 x,Value.int .i64 y])*_=_
   ac_rfl
 have G: ¬(j:Int)<l:=by omega
 have ae:j=l:=by omega
 have D:f.take j=f:=List.take_of_length_le (by omega)
 have HF:Aside (f.take j=f):=D
 clear D ae
 go_wp2
 go_ret
 have hq:=ab.out
 rw[HF.out] at hq
 rw[HF.out]
 exact ⟨f,HI.out.1,HI.out.2,I,c2,rfl,(hq.eq (show _=rw Ds 2 (.slice I (Df [] f).length c2) (BD (Df [] f))*(rw Ds 2 (.slice q d.length c0) (BD d)*v)*rw Ds 2 (.slice a l c) (BD f) by ac_rfl)).Dn⟩
end Go.Proofs.YtfhbmblbidcmmaaGreat
namespace Go.Proofs.YtfhbmblbidcmmaaGreat
def Mg(l:List (Int×Int))(x:Int):Prop:= ∃p∈l,p.1≤x∧x<p.2
def Kq(l:List (Int×Int)):Prop:=(∀p∈l,p.1<p.2)∧l.Pairwise fun a b=>a.2<b.1
theorem Mg.nil(x:Int): ¬Mg [] x:=fun ⟨_,h,_⟩=>by cases h
theorem F7(p:Int×Int)(l:List (Int×Int))(x:Int):Mg (p::l) x↔(p.1≤x∧x<p.2)∨Mg l x:=by simp[Mg]
theorem Mg.perm{l l':List (Int×Int)}(h:l'.Perm l)(x:Int):Mg l' x↔Mg l x:=by
 constructor
 ·rintro ⟨p,hp,h1⟩;exact ⟨p,h.mem_iff.1 hp,h1⟩
 rintro ⟨p,hp,h1⟩;exact ⟨p,h.mem_iff.2 hp,h1⟩
theorem KS(r:Int×Int): ∀(o:List (Int×Int))(b:Int×Int),b∈FF r o→b.1=r.1∨ ∃a∈o,b.1=a.1
 | [],b,h=>by simp_all[UI]
 | [p],b,h=>by grind [FF]
 | p :: q :: l, b, h => by
  rcases List.mem_cons.1 h with rfl|h
  ·simp
  rcases KS r (q::l) b h with h|⟨a,ha,e⟩
  ·omega
  grind
theorem Rr(r:Int×Int)(hr:r.1<r.2): ∀(o:List (Int×Int)),Kq o→(∀p∈o,p.1≤r.1)→Kq (FF r o)∧ ∀x,Mg (FF r o) x↔Mg o x∨(r.1≤x∧x<r.2)
 | [],_,_=>by
  rw[UI]
  refine ⟨⟨fun p hp=>by rw[List.mem_singleton.1 hp];exact hr,List.pairwise_singleton _ _⟩,fun x=>?_⟩
  grind [F7]
 | [p], c, hp => by
  have h1:=c.1 p (List.mem_singleton.2 rfl)
  have f:=hp p (List.mem_singleton.2 rfl)
  rw[FF]
  split
  · rename_i e
    have e':r.1≤p.2:=by simpa using e
    refine ⟨⟨fun q hq=>by rw[List.mem_singleton.1 hq];show p.1<max p.2 r.2;omega,List.pairwise_singleton _ _⟩,fun x=>?_⟩
    simp only[F7,Mg.nil,or_false]
    omega
  rename_i e
  refine ⟨⟨fun q hq=>?_,?_⟩,fun x=>?_⟩
  · grind
  · simp_all
  simp[F7,Mg.nil,or_false]
 | p :: q :: l, c, hp => by
   have d:Kq (q::l):=⟨fun a ha=>c.1 a (List.mem_cons_of_mem _ ha),(List.pairwise_cons.1 c.2).2⟩
   obtain ⟨h1,f⟩:=Rr r hr (q::l) d fun a ha=>hp a (List.mem_cons_of_mem _ ha)
   have hq:=(List.pairwise_cons.1 c.2).1
   rw[FF]
   refine ⟨⟨fun a ha=>?_,?_⟩,fun x=>?_⟩
   · rcases List.mem_cons.1 ha with rfl|ha
     ·exact c.1 _ List.mem_cons_self
     exact h1.1 a ha
   · refine List.Pairwise.cons (fun b hb=>?_) h1.2
     rcases KS r (q::l) b hb with e|⟨a,ha,e⟩
     ·grind
     grind
   simp_all[F7,or_assoc]
theorem ON: ∀(l out:List (Int×Int)),Kq out→(∀p∈l,p.1<p.2)→iX l→(∀p∈out,∀q∈l,p.1≤q.1)→Kq (Df out l)∧ ∀x,Mg (Df out l) x↔Mg out x∨Mg l x
 | [],out,b,_,_,_=>⟨b,fun x=>by
  show Mg out x↔_
  constructor
  · simp_all
  rintro (h|h)
  · omega
  exact absurd h (Mg.nil x)⟩
 | r :: l, out, b, hl, j, i => by
   obtain ⟨h1,d⟩:=Rr r (hl r List.mem_cons_self) out b fun p hp=>i p hp r List.mem_cons_self
   have c:=List.pairwise_cons.1 j
   obtain ⟨f,g⟩:=ON l (FF r out) h1 (fun p hp=>hl p (List.mem_cons_of_mem _ hp)) c.2 fun p hp q hq=>by
    rcases KS r out p hp with e|⟨a,ha,e⟩
    ·grind
    grind
   exact ⟨f,fun x=>by
    show Mg (Df (FF r out) l) x↔_
    rw[g x,d x,F7,or_assoc]⟩
theorem M4: ∀l:List (Int×Int),∀p∈Ct l,p.1<p.2
 | [],p,h=>by cases h
 | q :: l, p, h => by
  rw[Ct] at h
  split at h
  ·rename_i e
   rcases List.mem_cons.1 h with rfl|h
   ·simp_all
   exact M4 l p h
  exact M4 l p h
theorem QN: ∀(l:List (Int×Int))(x:Int),Mg (Ct l) x↔0≤x∧Mg l x
 | [],x=>by simp[Ct,Mg]
 | q :: l, x => by
  have a:=QN l x
  rw[Ct]
  split
  ·rename_i e
   rw[F7,F7,a]
   grind
  rename_i e
  rw[F7,a]
  grind
theorem W9{a l':List (Int×Int)}(hp:l'.Perm (Ct a))(c:iX l'):Kq (Df [] l')∧ ∀x,Mg (Df [] l') x↔0≤x∧Mg a x:=by
 obtain ⟨h1,b⟩:=ON l' [] ⟨fun p h=>(by cases h),List.Pairwise.nil⟩ (fun p h=>M4 a p (hp.mem_iff.1 h)) c (fun p h=>by cases h)
 refine ⟨h1,fun x=>?_⟩
 rw[b x,Mg.perm hp x,QN]
 constructor
 ·rintro (h|h)
  ·exact absurd h (Mg.nil x)
  exact h
 exact Or.inr
open Go.RowKit Go.Sl Go.Sort
open Go.PW (A8)
def Fa(ks:List Int):List (Int×Int):=ks.map fun k=>(k,k+1)
theorem l0(ks:List Int)(x:Int):Mg (Fa ks) x↔x∈ks:=by
 constructor
 ·rintro ⟨p,hp,h1,a⟩
  obtain ⟨k,b,rfl⟩:=List.mem_map.1 hp
  have:x=k:=by simp only at h1 a;omega
  exact this▸b
 intro h
 exact ⟨(x,x+1),List.mem_map.2 ⟨x,h,rfl⟩,by show x≤x;omega,by show x<x+1;omega⟩
end Go.Proofs.YtfhbmblbidcmmaaGreat
namespace Go.Proofs.YtfhbmblbidcmmaaGreat
open Go.RowKit Go.Sl Go.Dk Go.Tr
open Go.PW (A8)
end Go.Proofs.YtfhbmblbidcmmaaGreat
namespace Go.Proofs.YtfhbmblbidcmmaaGreat
open Go.RowKit Go.Sl Go.Dk Go.Tr
