/- censusPages holds for every input. No condition. (part 40) -/
import Derived.Test.YtfhbmblbidcmmaaGreatVa26
set_option linter.all false
open Go.Proofs.YtfhbmblbidcmmaaGreat
namespace Go.Tr
def Ko(l:List Int)(L:Int):Int:=l.foldl (fun L x=>(if x<0 then-1099511627776 else L)+x) L
def Nr(a L b:Int):Prop:=(0≤a∧L=a∧a≤b)∨(a= -1∧ -1099511627777≤L∧L≤ -1099511627776+b)
theorem Zj{a L b x y:Int}(h:Nr a L b)(h1: -1≤x)(c:x≤y)(d:0≤y):Nr (DU a x) ((if x<0 then-1099511627776 else L)+x) (b+y):=by grind [Nr,DU]
theorem Sj{α:Type}(c K8:α→Int): ∀(l:List α){a L b:Int},Nr a L b→(∀e∈l,-1≤c e∧c e≤K8 e∧0≤K8 e)→Nr ((l.map c).foldl DU a) (Ko (l.map c) L) (b+(l.map K8).sum)
 | [],a,L,b,h,_=>by simpa[Ko] using h
 | e :: l, a, L, b, h, hl => by
  have h1:=hl e (List.mem_cons_self ..)
  have d:=Sj c K8 l (Zj h h1.1 h1.2.1 h1.2.2) fun e f=>hl e (List.mem_cons_of_mem _ f)
  rw[List.map_cons,List.foldl_cons,List.map_cons,List.sum_cons]
  rw[show b+(K8 e+(l.map K8).sum)=b+K8 e+(l.map K8).sum by omega]
  exact d
theorem Zh{a L b:Int}(h:Nr a L b)(hb:b≤1048576):max L (-1)=a:=by grind [Nr]
theorem Zi(l:List Int)(x L:Int):Ko (l++ [x]) L=(if x<0 then-1099511627776 else Ko l L)+x:=by simp[Ko,List.foldl_append]
def Gu(n:Nd):Int×Int×Int:=(Aa n.Ag+Bd n.kids,max (Ko (n.kids.map (·.lines)) (Ko (n.Ag.map (·.lines)) 0)) (-1),n.Ag.length+Bl n.kids)
theorem US{n:Nd}(h:may n=true):Gu n=AR n:=by
 have hs:AR n=(Aa n.Ag+Bd n.kids,(n.kids.map (·.lines)).foldl DU ((n.Ag.map (·.lines)).foldl DU 0),n.Ag.length+Bl n.kids):=by simp_all[AR]
 rw[hs]
 have h0:Nr 0 0 0:= .inl ⟨by omega,rfl,by omega⟩
 have c: ∀e∈n.Ag,-1≤e.lines∧e.lines≤e.len∧0≤e.len:=by cases hl:n.leaf with
  |true=>intro e a;have:=Eb ((BS h hl).2.1 e a);omega
  |false=>rw[(B9 h hl).1];intro e a;cases a
 have d: ∀k∈n.kids,-1≤k.lines∧k.lines≤k.bytes∧0≤k.bytes:=by cases hl:n.leaf with
  |true=>rw[(BS h hl).1];intro e a;cases a
  |false=>intro e a;have:=Ec ((B9 h hl).2.1 e a);omega
 have hb:Aa n.Ag+Bd n.kids≤1048576:=by cases hl:n.leaf with
  |true=>rw[(BS h hl).1];have:=(BS h hl).2.2.2.2;have:Bd []=0:=rfl;omega
  |false=>rw[(B9 h hl).1];have:=(B9 h hl).2.2.2.2.1;have:Aa []=0:=rfl;omega
 have h1:=Sj (fun x:Kd=>x.lines) (fun x:Kd=>x.bytes) n.kids (Sj (fun x:Ar=>x.lines) (fun x:Ar=>x.len) n.Ag h0 c) d
 have b:=Zh h1 (by unfold Aa Bd at hb;omega)
 simp[Gu,b]
structure Eu (n:Nd):Prop where
 e:n.Ag.length≤12
 k:n.kids.length≤12
 es: ∀x∈n.Ag,0≤x.len∧x.len≤1048576∧ -1≤x.lines∧x.lines≤1048576
 ks: ∀x∈n.kids,0≤x.bytes∧x.bytes≤1048576∧ -1≤x.lines∧x.lines≤1048576∧0≤x.A7∧x.A7≤1048576
theorem Eu.zero:Eu Hb:=⟨by simp[Hb],by simp[Hb],by simp[Hb],by simp[Hb]⟩
theorem Eu.of{n:Nd}(h:may n=true):Eu n:=by cases hl:n.leaf with
 | true =>
  obtain ⟨h1,a,c,b,d⟩:=BS h hl
  refine ⟨b,by rw[h1];simp,fun x hx=>?_,by rw[h1];simp⟩
  have e:=Cl.1 (a x hx)
  omega
 | false =>
  obtain ⟨h1,a,c,b,d,f⟩:=B9 h hl
  refine ⟨by rw[h1];simp,b,by rw[h1];simp,fun x hx=>?_⟩
  have e:=Ec (a x hx)
  omega
theorem Ya{α:Type}(a:α→Int){l:List α}{i:Nat}{x:α}(h:l[i]?=some x)(L:Int):Ko ((l.take (i+1)).map a) L=(if a x<0 then-1099511627776 else Ko ((l.take i).map a) L)+a x:=by
 rw[AA h,List.map_append]
 exact Zi _ _ _
def As(file:List UInt8)(no:Int):Option Nd:=
 if no<1∨1048576≤no∨(file.length:Int)<256*no+256 then none else CR no ((file.drop (256*no.toNat)).take 256)
structure Lk where
 ok:Bool
 Am:Int
 Ag:List Ar
 Az:List Int
def Fm:Lk:=⟨false,0,[],[]⟩
variable (V:Int→Option Nd)
def Bx(p:Int):Nd:=(V p).getD Hb
def GS(x:Lk)(s:Int×Int×Int)(first:Bool)(k:Kd)(o:Lk):Option Lk:=
 if x.ok=false∨s.1≠k.bytes∨s.2.1≠k.lines∨s.2.2≠k.A7∨(first=false∧x.Am+1≠o.Am) then none
 else if 1024<(o.Ag++x.Ag).length then none
 else some ⟨true,x.Am+1,o.Ag++x.Ag,o.Az++x.Az⟩
def B8(bl:Int→Lk):List Kd→Bool→Lk→Lk
 | [],_,o=>o
 | k :: ks, first, o => match GS (bl k.Ap) (Gu (Bx V k.Ap)) first k o with
  |none=>Fm
  |some o'=>B8 bl ks false o'
def AN:Nat→Int→Bool→Lk
 |0,_,_=>Fm
 | f + 1, no, top => match V no with
  |none=>Fm
  |some n=>if top=false∧many n<4 then Fm else B8 V (fun p=>AN f p false) n.kids true ⟨true,0,n.Ag,[no]⟩
def A9(root:Int):Lk:=
 if root=0 then ⟨true,0,[],[]⟩ else
  if (AN V 13 root true).ok=false∨(join (AN V 13 root true).Ag).length≠(AN V 13 root true).Ag.length then Fm else AN V 13 root true
variable {V}
theorem GK{x:Lk}{s:Int×Int×Int}{first:Bool}{k:Kd}{o o':Lk}(h:GS x s first k o=some o'):x.ok=true∧s=(k.bytes,k.lines,k.A7)∧(first=false→x.Am+1=o.Am)∧(o.Ag++x.Ag).length≤1024∧o'=⟨true,x.Am+1,o.Ag++x.Ag,o.Az++x.Az⟩:=by
 unfold GS at h
 grind
structure PY (top:Bool) (f:Nat) (x:Lk):Prop where
 h0:0≤x.Am
 h1:x.Am≤f
 Ag:x.Ag.length≤1036
 Az:x.Az.length≤1+x.Ag.length
 low:top=false→x.ok=true→x.Az.length+1≤x.Ag.length
 may: ∀e∈x.Ag,Ai e=true
theorem OV(top:Bool)(f:Nat):PY top f Fm:=⟨by simp[Fm],by simp[Fm],by simp[Fm],by simp[Fm],by simp[Fm],by simp[Fm]⟩
theorem UQ{bl:Int→Lk}{f:Nat}(hb: ∀p,PY false f (bl p)): ∀(ks:List Kd)(first:Bool)(o:Lk)(m:Nat),0≤o.Am→o.Am≤f+1→o.Ag.length≤1036→o.Az.length+m≤1+o.Ag.length→(∀e∈o.Ag,Ai e=true)→o.ok=true→PY true (f+1) (B8 V bl ks first o)∧((B8 V bl ks first o).ok=true→(B8 V bl ks first o).Az.length+(m+ks.length)≤1+(B8 V bl ks first o).Ag.length)
 | [],_,o,m,h1,j,l,n,i,q=>⟨⟨h1,by exact_mod_cast j,l,by show o.Az.length≤1+o.Ag.length;omega,by simp,i⟩,fun _=>by simpa[B8] using n⟩
 | k :: ks, first, o, m, h1, j, l, n, i, q => by
  unfold B8
  cases hr:GS (bl k.Ap) (Gu (Bx V k.Ap)) first k o with
  |none=>exact ⟨OV _ _,fun h=>by simp[Fm] at h⟩
  | some o' =>
   obtain ⟨a,b,c,d,rfl⟩:=GK hr
   have g:=hb k.Ap
   have s:=g.low rfl a
   have:=UQ hb ks false ⟨true,(bl k.Ap).Am+1,o.Ag++(bl k.Ap).Ag,o.Az++(bl k.Ap).Az⟩ (m+1) (by have:=g.h0;show 0≤(bl k.Ap).Am+1;omega) (by have:=g.h1;show (bl k.Ap).Am+1≤_;omega) (by show (o.Ag++(bl k.Ap).Ag).length≤1036;omega) (by simp only[List.length_append];omega) (fun e r=>(List.mem_append.1 r).elim (i e) (g.may e)) rfl
   grind
theorem Gb(c: ∀p n,V p=some n→may n=true): ∀(f:Nat)(p:Int)(top:Bool),PY top f (AN V f p top)
 |0,_,top=>OV top 0
 | f + 1, p, top => by
  unfold AN
  cases i:V p with
  |none=>exact OV _ _
  | some n =>
   simp only
   split
   ·exact OV _ _
   next h1=>
   have hm:=c p n i
   cases hl:n.leaf with
   | true =>
    obtain ⟨a,b,d,e,g⟩:=BS hm hl
    rw[a]
    refine ⟨by simp[B8],by simp only[B8];omega,by simp only[B8];omega,by simp[B8],fun j _=>?_,b⟩
    simp only[B8,List.length_singleton]
    have: ¬many n<4:=fun h=>h1 ⟨j,h⟩
    unfold many at this
    grind
   | false =>
    obtain ⟨a,b,d,e,g,k⟩:=B9 hm hl
    rw[a]
    have:=UQ (V:=V) (fun q=>Gb c f q false) n.kids true ⟨true,0,[],[p]⟩ 0 (by simp) (by simp only;omega) (by simp) (by simp) (by simp) rfl
    refine ⟨this.1.h0,this.1.h1,this.1.Ag,this.1.Az,fun _ h=>?_,this.1.may⟩
    grind
theorem EX{file:List UInt8}{p:Int}{n:Nd}(h:As file p=some n):may n=true:=by
 unfold As at h
 split at h
 ·grind
 exact I6 h
end Go.Tr
open Go.Proofs.YtfhbmblbidcmmaaGreat
namespace Go.Tr
theorem TV(o:List Ar)(x:Ar):(A6 o x).length≤o.length+1:=by grind [A6,List.length_append,List.length_dropLast,List.length_singleton]
theorem TJ: ∀(l o:List Ar),(l.foldl A6 o).length≤o.length+l.length
 | [],o=>by simp
 | x :: l, o => by
  have h1:=TJ l (A6 o x)
  have a:=TV o x
  grind
theorem IY : ∀(l o : List Ar), AH o → (l.foldl A6 o).length = o.length + l.length → AH (o ++ l)
 | [],o,e,_=>by simpa using e
 | x :: l, o, e, h => by
  have h1:=TJ l (A6 o x)
  simp only[List.foldl_cons,List.length_cons] at h
  have d : A6 o x = o ++ [x] ∧ AH (o ++ [x]) := by
   unfold A6 at h h1⊢
   cases f:o.getLast? with
   |none=>rw[List.getLast?_eq_none_iff.1 f];exact ⟨rfl,trivial⟩
   | some a =>
    simp only at h h1⊢
    cases hm:meets a x with
    |true=>grind
    | false =>
     refine ⟨rfl,Gk e trivial fun c b g j hb=>?_⟩
     simp_all
  have i:=IY l (o++ [x]) d.2 (by rw[←d.1,h,d.1];simp;omega)
  simp_all
theorem Gj{l:List Ar} :(join l).length=l.length↔AH l:=
 ⟨fun h=>by have:=IY l [] trivial (by simpa[join] using h);simpa using this,fun h=>by rw[GD h]⟩
structure Sn where
 h:Int
 count:Int
 first:Ar
 last:Ar
def e0:Ar:=⟨0,0,0,0⟩
def JH:Sn:=⟨0,0,e0,e0⟩
def FL(y:Sn)(s:Int×Int×Int)(first:Bool)(k:Kd)(x:Sn):Option Sn:=
 if s≠(k.bytes,k.lines,k.A7)∨(first=false∧(y.h+1≠x.h∨meets x.last y.first=true)) then none
 else if 1024<x.count+y.count then none
 else some ⟨if first then y.h+1 else x.h,x.count+y.count,if first then y.first else x.first,y.last⟩
variable (V:Int→Option Nd)
def DV(ch:Int→Option Sn):List Kd→Bool→Sn→Option Sn
 | [],_,x=>some x
 | k :: ks, first, x => match ch k.Ap with
  |none=>none
  | some y => match FL y (AR (Bx V k.Ap)) first k x with
   |none=>none
   |some a=>DV ch ks false a
def FH(ch:Int→Option Sn)(n:Nd)(top:Bool):Option Sn:=
 if top=false∧many n<4 then none
 else if n.leaf then (if (join n.Ag).length≠n.Ag.length then none else some ⟨0,n.Ag.length,n.Ag.headD e0,n.Ag.getLastD e0⟩)
 else DV V ch n.kids true JH
def DX:Nat→Int→Bool→Option Sn
 |0,_,_=>none
 | f + 1, no, top => match V no with
  |none=>none
  |some n=>FH V (fun p=>DX f p false) n top
variable {V}
theorem FU{y:Sn}{s:Int×Int×Int}{first:Bool}{k:Kd}{x a:Sn}(h:FL y s first k x=some a):s=(k.bytes,k.lines,k.A7)∧(first=false→y.h+1=x.h∧meets x.last y.first=false)∧x.count+y.count≤1024∧a=⟨y.h+1,x.count+y.count,if first then y.first else x.first,y.last⟩:=by
 unfold FL at h
 grind
structure Qb (x:Sn) (l:List Ar):Prop where
 ne:l≠ []
 join:AH l
 count:x.count=l.length
 first:l.head?=some x.first
 last:l.getLast?=some x.last
structure St (first:Bool) (x:Sn) (o:Lk):Prop where
 ok:o.ok=true
 one:first=true→o.Ag= []∧x.count=0
 more:first=false→Qb x o.Ag∧x.h=o.Am
theorem ZE{x:Lk}{s:Int×Int×Int}{first:Bool}{k:Kd}{o:Lk}(h1:x.ok=true)(a:s=(k.bytes,k.lines,k.A7))(b:first=false→x.Am+1=o.Am)(c:(o.Ag++x.Ag).length≤1024):GS x s first k o=some ⟨true,x.Am+1,o.Ag++x.Ag,o.Az++x.Az⟩:=by
 unfold GS
 simp_all
theorem eN{y:Sn}{s:Int×Int×Int}{first:Bool}{k:Kd}{x:Sn}(h1:s=(k.bytes,k.lines,k.A7))(b:first=false→y.h+1=x.h∧meets x.last y.first=false)(c:x.count+y.count≤1024): ∃a,FL y s first k x=some a:=by
 unfold FL
 simp_all
theorem Qb.two{x y:Sn}{l m:List Ar}(h:Qb x l)(g:Qb y m)(hm:meets x.last y.first=false):Qb ⟨y.h+1,x.count+y.count,x.first,y.last⟩ (l++m):=by
 refine ⟨by simp[h.ne],Gk h.join g.join fun a b d c e=>?_,by simp[h.count,g.count],?_,?_⟩
 ·rw[h.last] at c
  have:=g.first
  simp_all
 ·simp[h.first]
 simp[g.last]
theorem Qb.len{x:Sn}{l:List Ar}(h:Qb x l):1≤l.length:=List.length_pos_iff.2 h.ne
section
variable {ch:Int→Option Sn} {bl:Int→Lk}
structure Ti (V:Int→Option Nd) (ch:Int→Option Sn) (bl:Int→Lk) (p:Int):Prop where
 a: ∀y,ch p=some y→(bl p).ok=true∧(bl p).Am=y.h∧Qb y (bl p).Ag
 b:(bl p).ok=true→AH (bl p).Ag→ ∃y,ch p=some y
 sum:(bl p).ok=true→Gu (Bx V p)=AR (Bx V p)
 ne:(bl p).ok=true→(bl p).Ag≠ []
theorem XU{first:Bool}{k:Kd}{x g y:Sn}{o:Lk}(f:Ti V ch bl k.Ap)(hs:St first x o)(h1:ch k.Ap=some y)(i:FL y (AR (Bx V k.Ap)) first k x=some g): ∃o',GS (bl k.Ap) (Gu (Bx V k.Ap)) first k o=some o'∧St false g o':=by
 obtain ⟨c,d,b⟩:=f.a y h1
 obtain ⟨c1,c2,c3,rfl⟩:=FU i
 have j:(o.Ag++(bl k.Ap).Ag).length≤1024:=by
  rw[List.length_append]
  have:=b.count
  cases first with
  |true=>rw[(hs.one rfl).1];have:=(hs.one rfl).2;simp;omega
  |false=>have:=(hs.more rfl).1.count;omega
 refine ⟨_,ZE c (by rw[f.sum c,c1]) (fun e=>by rw[d,(c2 e).1,(hs.more e).2]) j,rfl,fun e=>(Bool.noConfusion e),fun _=>⟨?_,by rw[d]⟩⟩
 cases first with
 | true =>
   rw[(hs.one rfl).1,List.nil_append]
   have:=(hs.one rfl).2
   exact ⟨b.ne,b.join,by simp only;rw[this,b.count];omega,b.first,b.last⟩
 |false=>exact (hs.more rfl).1.two b (c2 rfl).2
theorem fG{first:Bool}{k:Kd}{x:Sn}{o o':Lk}(c:Ti V ch bl k.Ap)(hs:St first x o)(h1:GS (bl k.Ap) (Gu (Bx V k.Ap)) first k o=some o')(d:AH o'.Ag): ∃y j,ch k.Ap=some y∧FL y (AR (Bx V k.Ap)) first k x=some j:=by
 obtain ⟨c1,c2,c3,c4,rfl⟩:=GK h1
 obtain ⟨y,hy⟩:=c.b c1 (AH.right d)
 obtain ⟨n,l,g⟩:=c.a y hy
 rw[List.length_append] at c4
 have p:=g.count
 have f:first=false→meets x.last y.first=false:=fun e=>by
  obtain ⟨b,B,m⟩: ∃b B,(bl k.Ap).Ag=b::B:=by cases hq:(bl k.Ap).Ag with
   |nil=>exact absurd hq (c.ne c1)
   |cons b B=>exact ⟨b,B,rfl⟩
  have i:=g.first
  rw[m] at i d
  cases i
  exact AH.meet d (hs.more e).1.last
 obtain ⟨j,hx⟩:=eN (y:=y) (s:=AR (Bx V k.Ap)) (first:=first) (k:=k) (x:=x) (by rw[←c.sum c1,c2]) (fun e=>⟨by rw[←l,c3 e,(hs.more e).2],f e⟩) (by
  cases first with
  |true=>have:=(hs.one rfl).2;omega
  |false=>have:=(hs.more rfl).1.count;omega)
 simp_all
theorem KT: ∀(ks:List Kd)(first:Bool)(o:Lk),(B8 V bl ks first o).ok=true→ ∃t,(B8 V bl ks first o).Ag=o.Ag++t
 | [],_,o,_=>⟨[],by simp[B8]⟩
 | k :: ks, first, o, h => by
  unfold B8 at h⊢
  cases hr:GS (bl k.Ap) (Gu (Bx V k.Ap)) first k o with
  |none=>rw[hr] at h;simp[Fm] at h
  | some o' =>
   rw[hr] at h
   obtain ⟨_,_,_,_,rfl⟩:=GK hr
   obtain ⟨t,a⟩:=KT ks false _ h
   simp_all
theorem Ua: ∀(ks:List Kd)(first:Bool)(x z:Sn)(o:Lk),(∀k∈ks,Ti V ch bl k.Ap)→St first x o→(ks≠ []∨first=false)→DV V ch ks first x=some z→St false z (B8 V bl ks first o)
 | [],first,x,z,o,_,hs,h,a=>by
  have:first=false:=h.elim (fun e=>absurd rfl e) id
  subst this
  cases a
  exact hs
 | k :: ks, first, x, z, o, d, hs, _, a => by
   unfold DV at a
   cases b:ch k.Ap with
   |none=>rw[b] at a;cases a
   | some y =>
    rw[b] at a
    simp only at a
    cases hx:FL y (AR (Bx V k.Ap)) first k x with
    |none=>rw[hx] at a;cases a
    | some g =>
     rw[hx] at a
     obtain ⟨o',f,c⟩:=XU (d k (List.mem_cons_self ..)) hs b hx
     unfold B8
     rw[f]
     exact Ua ks false g z o' (fun k h=>d k (List.mem_cons_of_mem _ h)) c (.inr rfl) a
theorem TZ: ∀(ks:List Kd)(first:Bool)(x:Sn)(o:Lk),(∀k∈ks,Ti V ch bl k.Ap)→St first x o→(B8 V bl ks first o).ok=true→AH (B8 V bl ks first o).Ag→ ∃z,DV V ch ks first x=some z
 | [],first,x,o,_,_,_,_=>⟨x,rfl⟩
 | k :: ks, first, x, o, b, hs, h1, a => by
  unfold B8 at h1 a
  cases hr:GS (bl k.Ap) (Gu (Bx V k.Ap)) first k o with
  |none=>rw[hr] at h1;simp[Fm] at h1
  | some o' =>
   rw[hr] at h1 a
   obtain ⟨t,f⟩:=KT ks false o' h1
   have e:AH o'.Ag:=by rw[f] at a;exact a.left
   obtain ⟨y,g,hy,hx⟩:=fG (b k (List.mem_cons_self ..)) hs hr e
   obtain ⟨j,d,c⟩:=XU (b k (List.mem_cons_self ..)) hs hy hx
   rw[hr] at d
   cases d
   obtain ⟨z,i⟩:=TZ ks false g o' (fun k h=>b k (List.mem_cons_of_mem _ h)) c h1 a
   unfold DV
   simp_all
end
theorem ZM{l:List Ar}(h:l≠ [])(b:AH l):Qb ⟨0,l.length,l.headD e0,l.getLastD e0⟩ l:=by
 refine ⟨h,b,rfl,?_,?_⟩
 ·cases l with
  |nil=>exact absurd rfl h
  |cons a l=>rfl
 cases l with
 |nil=>exact absurd rfl h
 |cons a l=>rw[List.getLastD_eq_getLast?,List.getLast?_cons];rfl
theorem RX(l: ∀p n,V p=some n→may n=true): ∀(f:Nat)(p:Int)(top:Bool),
 (∀y,DX V f p top=some y→(AN V f p top).ok=true∧(AN V f p top).Am=y.h∧Qb y (AN V f p top).Ag)∧
 ((AN V f p top).ok=true→(V p).isSome∧(AN V f p top).Ag≠ []∧(AH (AN V f p top).Ag→ ∃y,DX V f p top=some y))
 |0,p,top=>⟨fun y h=>by simp[DX] at h,fun h=>by simp[AN,Fm] at h⟩
 | f + 1, p, top => by
  unfold DX AN
  cases w:V p with
  |none=>exact ⟨fun y h=>by simp at h,fun h=>by simp[Fm] at h⟩
  | some n =>
   simp only
   have hm:=l p n w
   have o: ∀q,Ti V (fun p=>DX V f p false) (fun p=>AN V f p false) q:=fun q=>by
    obtain ⟨b,c⟩:=RX l f q false
    refine ⟨b,fun h1 v=>(c h1).2.2 v,fun h=>?_,fun h=>(c h).2.1⟩
    obtain ⟨m,hq⟩:=Option.isSome_iff_exists.1 (c h).1
    unfold Bx
    rw[hq]
    exact US (l q m hq)
   unfold FH
   by_cases r:top=false∧many n<4
   · simp_all[Fm]
   rw[if_neg r,if_neg r]
   cases hl:n.leaf with
   | true =>
     obtain ⟨b,c,i,s,u⟩:=BS hm hl
     have a:=List.length_pos_iff.1 i
     rw[b]
     simp only[if_true,B8]
     refine ⟨fun y hy=>?_,fun _=>⟨rfl,a,fun d=>?_⟩⟩
     ·split at hy
      ·grind
      next d=>
      cases hy
      exact ⟨trivial,rfl,ZM a (Gj.1 (by simpa using d))⟩
     rw[if_neg (by rw[Gj.2 d];simp)]
     simp
   | false =>
     obtain ⟨b,c,i,s,u,x⟩:=B9 hm hl
     have a:n.kids≠ []:=by intro e;rw[e] at i;simp at i
     rw[b]
     have hs:St true JH ⟨true,0,[],[p]⟩:=⟨rfl,fun _=>⟨rfl,rfl⟩,fun e=>Bool.noConfusion e⟩
     refine ⟨fun y hy=>?_,fun h=>⟨rfl,?_,fun d=>TZ n.kids true JH _ (fun k _=>o k.Ap) hs h d⟩⟩
     ·have j:=Ua n.kids true JH y _ (fun k _=>o k.Ap) hs (.inl a) hy
      exact ⟨j.ok,(j.more rfl).2.symm,(j.more rfl).1⟩
     cases g:n.kids with
     |nil=>exact absurd g a
     | cons k ks =>
      rw[g] at h
      unfold B8 at h⊢
      cases hr:GS (AN V f k.Ap false) (Gu (Bx V k.Ap)) true k ⟨true,0,[],[p]⟩ with
      |none=>simp only[hr] at h;simp[Fm] at h
      | some o' =>
       simp only[hr] at h⊢
       obtain ⟨t,z⟩:=KT ks false o' h
       obtain ⟨c1,_,_,_,rfl⟩:=GK hr
       have:=(o k.Ap).ne c1
       simp_all
theorem j'(f: ∀p n,V p=some n→may n=true){root:Int}(h0:root≠0):(A9 V root).ok=true↔ ∃y,DX V 13 root true=some y:=by
 obtain ⟨d,e⟩:=RX f 13 root true
 unfold A9
 rw[if_neg h0]
 constructor
 ·intro h
  split at h
  ·simp[Fm] at h
  next h1=>
  simp only[not_or,Decidable.not_not] at h1
  exact (e h).2.2 (Gj.1 h1.2)
 rintro ⟨y,hy⟩
 obtain ⟨a,b,c⟩:=d y hy
 rw[if_neg (by rw[a,Gj.2 c.join];simp)]
 exact a
end Go.Tr
open Go.Proofs.YtfhbmblbidcmmaaGreat
namespace Go.Tr
variable {V:Int→Option Nd}
theorem Dj(ch:Int→Option Sn)(k:Kd)(ks:List Kd)(first:Bool)(x:Sn):DV V ch (k::ks) first x=match ch k.Ap with
 |none=>none
 | some y => match FL y (AR (Bx V k.Ap)) first k x with
  |none=>none
  |some a=>DV V ch ks false a:=rfl
theorem K9{ch ch':Int→Option Sn} : ∀(ks:List Kd)(first:Bool)(x z:Sn),(∀p y,ch p=some y→y.h+1=z.h→ch' p=some y)→DV V ch ks first x=some z→DV V ch' ks first x=some z∧(first=false→z.h=x.h)
 | [],first,x,z,_,h=>by cases h;exact ⟨rfl,fun _=>rfl⟩
 | k :: ks, first, x, z, b, h => by
  rw[Dj] at h
  cases hy:ch k.Ap with
  |none=>rw[hy] at h;cases h
  | some y =>
   rw[hy] at h
   simp only at h
   cases hx:FL y (AR (Bx V k.Ap)) first k x with
   |none=>rw[hx] at h;cases h
   | some d =>
    rw[hx] at h
    simp only at h
    obtain ⟨h1,c⟩:=K9 ks false d z b h
    obtain ⟨c1,c2,c3,rfl⟩:=FU hx
    have a:=c rfl
    refine ⟨?_,fun e=>by rw[a,(c2 e).1]⟩
    rw[Dj,b k.Ap y hy a.symm]
    simp only[hx]
    exact h1
theorem MY{ch:Int→Option Sn}{k:Kd}{ks:List Kd}{first:Bool}{x z:Sn}(h:DV V ch (k::ks) first x=some z): ∃y,ch k.Ap=some y∧z.h=y.h+1:=by
 rw[Dj] at h
 cases hy:ch k.Ap with
 |none=>rw[hy] at h;cases h
 | some y =>
  rw[hy] at h
  simp only at h
  cases hx:FL y (AR (Bx V k.Ap)) first k x with
  |none=>rw[hx] at h;cases h
  | some a =>
   rw[hx] at h
   obtain ⟨c1,c2,c3,rfl⟩:=FU hx
   exact ⟨y,rfl,(K9 (ch':=ch) ks false _ z (fun _ _ h _=>h) h).2 rfl⟩
theorem Eo(e: ∀p n,V p=some n→may n=true): ∀(f:Nat)(p:Int)(top:Bool)(y:Sn),DX V f p top=some y→0≤y.h∧y.h<f∧ ∀g:Nat,y.h<g→DX V g p top=some y
 |0,p,top,y,h=>by simp[DX] at h
 | f + 1, p, top, y, h => by
  unfold DX at h
  cases d:V p with
  |none=>rw[d] at h;cases h
  | some n =>
   rw[d] at h
   simp only at h
   have hm:=e p n d
   have b: ∀g:Nat,DX V (g+1) p top=FH V (fun p=>DX V g p false) n top:=fun g=>by
    show (match V p with|none=>none|some n=>FH V (fun p=>DX V g p false) n top)=_
    rw[d]
   unfold FH at h b
   by_cases c:top=false∧many n<4
   · rw[if_pos c] at h;cases h
   rw[if_neg c] at h
   cases hl:n.leaf with
   | true =>
     rw[hl,if_pos rfl] at h
     split at h
     ·cases h
     next hj=>
     cases h
     refine ⟨by simp,by simp only;omega,fun g j=>?_⟩
     cases g with
     |zero=>simp at j
     |succ g=>rw[b,if_neg c,hl,if_pos rfl,if_neg hj]
   | false =>
     rw[hl,if_neg (by simp)] at h
     obtain ⟨o,r,i,s,t,u⟩:=B9 hm hl
     cases a:n.kids with
     |nil=>rw[a] at i;simp at i
     | cons k ks =>
      rw[a] at h
      obtain ⟨m,hy1,v⟩:=MY h
      obtain ⟨w,x,B⟩:=Eo e f k.Ap false m hy1
      refine ⟨by omega,by omega,fun g j=>?_⟩
      cases g with
      |zero=>omega
      | succ g =>
       rw[b,if_neg c,hl,if_neg (by simp),a]
       exact (K9 (k::ks) true JH y (fun q z hq l=>(Eo e f q false z hq).2.2 g (by omega)) h).1
def MU(V:Int→Option Nd)(p:Int)(top:Bool)(y:Sn):Prop:= ∃f,DX V f p top=some y
theorem MU.at(a: ∀p n,V p=some n→may n=true){p:Int}{top:Bool}{y:Sn}(h:MU V p top y){f:Nat}(b:y.h<f):DX V f p top=some y:=by
 obtain ⟨g,c⟩:=h
 exact (Eo a g p top y c).2.2 f b
theorem MU.of(a: ∀p n,V p=some n→may n=true){p:Int}{top:Bool}{y z:Sn}(h:MU V p top y){f:Nat}(c:DX V f p top=some z):z=y:=by
 obtain ⟨g,b⟩:=h
 have h1:=(Eo a g p top y b).2.2 (max f g) (by have:=(Eo a g p top y b).2.1;omega)
 have d:=(Eo a f p top z c).2.2 (max f g) (by have:=(Eo a f p top z c).2.1;omega)
 simp_all
theorem MU.h0(a: ∀p n,V p=some n→may n=true){p:Int}{top:Bool}{y:Sn}(h:MU V p top y):0≤y.h:=by
 obtain ⟨g,b⟩:=h
 exact (Eo a g p top y b).1
theorem MU.is{p:Int}{top:Bool}{y:Sn}(h:MU V p top y): ∃n,V p=some n:=by
 obtain ⟨g,a⟩:=h
 cases g with
 |zero=>simp[DX] at a
 | succ g =>
  unfold DX at a
  cases b:V p with
  |none=>rw[b] at a;cases a
  |some n=>exact ⟨n,rfl⟩
structure VG (V:Int→Option Nd) (f:Nat) (n:Nd) (j:Nat) (x:Sn):Prop where
 nQ: ∃g0:Nat,∀g:Nat,g0≤g→DV V (fun p=>DX V g p false) n.kids true JH=DV V (fun p=>DX V g p false) (n.kids.drop j) (j==0) x
 lE:DV V (fun p=>DX V f p false) n.kids true JH=none∨DV V (fun p=>DX V f p false) n.kids true JH=DV V (fun p=>DX V f p false) (n.kids.drop j) (j==0) x
theorem VG.zero(f:Nat)(n:Nd):VG V f n 0 JH:=⟨⟨0,fun _ _=>rfl⟩,.inr rfl⟩
theorem VG.nil{f:Nat}{n:Nd}{j:Nat}{x:Sn}(h:VG V f n j x)(e:DV V (fun p=>DX V f p false) (n.kids.drop j) (j==0) x=none):DV V (fun p=>DX V f p false) n.kids true JH=none:=h.lE.elim id fun g=>g.trans e
theorem Lp{α:Type}{l:List α}{j:Nat}{k:α}(c:l[j]?=some k):l.drop j=k::l.drop (j+1):=by
 obtain ⟨a,b⟩:=List.getElem?_eq_some_iff.1 c
 rw[List.drop_eq_getElem_cons a,b]
theorem VG.mS{f:Nat}{n:Nd}{j:Nat}{x:Sn}{k:Kd}(h:VG V f n j x)(a:n.kids[j]?=some k)(e:DX V f k.Ap false=none):DV V (fun p=>DX V f p false) n.kids true JH=none:=h.nil (by
 rw[Lp a,Dj,e])
theorem VG.iN(a: ∀p n,V p=some n→may n=true){f:Nat}{n:Nd}{j:Nat}{x y:Sn}{k:Kd}(h:VG V f n j x)(c:n.kids[j]?=some k)(hy:MU V k.Ap false y)(e:FL y (AR (Bx V k.Ap)) (j==0) k x=Option.none):DV V (fun p=>DX V f p false) n.kids true JH=Option.none:=h.nil (by
 rw[Lp c,Dj]
 cases b:DX V f k.Ap false with
 |none=>rfl
 | some z =>
  obtain rfl:=hy.of a b
  simp only[e])
theorem VG.next(a: ∀p n,V p=some n→may n=true){f:Nat}{n:Nd}{j:Nat}{x y l:Sn}{k:Kd}(h:VG V f n j x)(i:n.kids[j]?=some k)(hy:MU V k.Ap false y)(e:FL y (AR (Bx V k.Ap)) (j==0) k x=some l):VG V f n (j+1) l:=by
 have d:((j+1==0)=false):=by simp
 refine ⟨?_,?_⟩
 ·obtain ⟨g0,o⟩:=h.nQ
  obtain ⟨c,b⟩:=id hy
  refine ⟨max g0 c,fun g q=>?_⟩
  rw[o g (by omega),Lp i,Dj,hy.at a (show y.h<(g:Int) by have:=(Eo a c _ _ _ b).2.1;omega)]
  simp only[e,d]
 rcases h.lE with h1|h1
 ·exact .inl h1
 rw[h1,Lp i,Dj]
 cases m:DX V f k.Ap false with
 |none=>exact .inl rfl
 | some z =>
  obtain rfl:=hy.of a m
  simp only[e,d]
  exact .inr trivial
theorem VG.done{f:Nat}{n:Nd}{x:Sn}{p:Int}{top:Bool}(h:VG V f n n.kids.length x)(hp:V p=some n)(hl:n.leaf=false)(a: ¬(top=false∧many n<4)):MU V p top x:=by
 obtain ⟨g0,b⟩:=h.nQ
 refine ⟨g0+1,?_⟩
 show (match V p with|none=>none|some n=>FH V (fun p=>DX V g0 p false) n top)=_
 rw[hp]
 simp only
 unfold FH
 rw[if_neg a,hl,if_neg (by simp),b g0 (Nat.le_refl _),List.drop_length]
 rfl
theorem O2{f:Nat}{p:Int}{top:Bool}{n:Nd}(hp:V p=some n)(hl:n.leaf=false)(h:DV V (fun p=>DX V f p false) n.kids true JH=Option.none):DX V (f+1) p top=Option.none:=by
 show (match V p with|none=>none|some n=>FH V (fun p=>DX V f p false) n top)=_
 simp[hp,FH,hl,h]
theorem XC{f:Nat}{p:Int}{top:Bool}{n:Nd}(hp:V p=some n)(a:top=false∧many n<4):DX V (f+1) p top=Option.none:=by
 show (match V p with|none=>none|some n=>FH V (fun p=>DX V f p false) n top)=_
 simp_all[FH]
theorem O1{f:Nat}{p:Int}{top:Bool}{n:Nd}(hp:V p=some n)(hl:n.leaf=true)(a: ¬(top=false∧many n<4)):DX V (f+1) p top=if (join n.Ag).length≠n.Ag.length then Option.none else some ⟨0,n.Ag.length,n.Ag.headD e0,n.Ag.getLastD e0⟩:=by
 show (match V p with|none=>none|some n=>FH V (fun p=>DX V f p false) n top)=_
 unfold FH
 grind
theorem T0{f:Nat}{p:Int}{top:Bool}(hp:V p=Option.none):DX V f p top=Option.none:=by cases f with
 |zero=>rfl
 | succ f =>
  show (match V p with|none=>none|some n=>FH V (fun p=>DX V f p false) n top)=_
  grind
end Go.Tr
open Go.Proofs.YtfhbmblbidcmmaaGreat
namespace Go.Tr
variable {V:Int→Option Nd}
theorem MX{ch:Int→Option Sn}(a: ∀p y,ch p=some y→1≤y.count): ∀(ks:List Kd)(first:Bool)(x z:Sn),DV V ch ks first x=some z→x.count+ks.length≤z.count
 | [],first,x,z,h=>by cases h;simp
 | k :: ks, first, x, z, h => by
  rw[Dj] at h
  cases hy:ch k.Ap with
  |none=>rw[hy] at h;cases h
  | some y =>
   rw[hy] at h
   simp only at h
   cases hx:FL y (AR (Bx V k.Ap)) first k x with
   |none=>rw[hx] at h;cases h
   | some b =>
    rw[hx] at h
    have h1:=MX a ks false b z h
    obtain ⟨c1,c2,c3,rfl⟩:=FU hx
    grind
theorem RW(c: ∀p n,V p=some n→may n=true): ∀(f:Nat)(p:Int)(top:Bool)(y:Sn),DX V f p top=some y→1≤y.count∧y.h+1≤y.count
 |0,p,top,y,h=>by simp[DX] at h
 | f + 1, p, top, y, h => by
  unfold DX at h
  cases d:V p with
  |none=>rw[d] at h;cases h
  | some n =>
   rw[d] at h
   simp only at h
   have hm:=c p n d
   unfold FH at h
   by_cases m:top=false∧many n<4
   ·simp_all
   rw[if_neg m] at h
   cases hl:n.leaf with
   | true =>
    obtain ⟨g,i,b,j,l⟩:=BS hm hl
    grind
   | false =>
    rw[hl,if_neg (by simp)] at h
    obtain ⟨g,i,b,j,l,r⟩:=B9 hm hl
    cases a:n.kids with
    |nil=>rw[a] at b;simp at b
    | cons k ks =>
     rw[a] at h b
     obtain ⟨e,hy1,t⟩:=MY h
     rw[Dj,hy1] at h
     simp only at h
     cases hx:FL e (AR (Bx V k.Ap)) true k JH with
     |none=>rw[hx] at h;cases h
     | some o =>
      rw[hx] at h
      have h1:=MX (fun q z hq=>(RW c f q false z hq).1) ks false o y h
      obtain ⟨c1,c2,c3,rfl⟩:=FU hx
      have s:=RW c f k.Ap false e hy1
      have e0:JH.count=0:=rfl
      grind
theorem O0{ch:Int→Option Sn} : ∀(ks:List Kd)(first:Bool)(x z:Sn),(ks= []→x.count≤1024)→DV V ch ks first x=some z→z.count≤1024
 | [],first,x,z,hx,h=>by cases h;exact hx rfl
 | k :: ks, first, x, z, _, h => by
  rw[Dj] at h
  cases hy:ch k.Ap with
  |none=>rw[hy] at h;cases h
  | some y =>
   rw[hy] at h
   simp only at h
   cases hx:FL y (AR (Bx V k.Ap)) first k x with
   |none=>rw[hx] at h;cases h
   | some a =>
    rw[hx] at h
    obtain ⟨c1,c2,c3,rfl⟩:=FU hx
    exact O0 ks false _ z (fun _=>c3) h
theorem j9(c: ∀p n,V p=some n→may n=true){f:Nat}{p:Int}{top:Bool}{y:Sn}(h:DX V f p top=some y):y.count≤1024:=by cases f with
 |zero=>simp[DX] at h
 | succ f =>
  unfold DX at h
  cases a:V p with
  |none=>rw[a] at h;cases h
  | some n =>
   rw[a] at h
   simp only at h
   unfold FH at h
   by_cases b:top=false∧many n<4
   ·simp_all
   rw[if_neg b] at h
   cases hl:n.leaf with
   | true =>
    have:=(BS (c p n a) hl).2.2.2.1
    grind
   | false =>
    rw[hl,if_neg (by simp)] at h
    exact O0 n.kids true JH y (fun _=>by simp[JH]) h
structure mM (y:Sn):Prop where
 c1:1≤y.count
 c2:y.count≤1036
 h1:y.h+1≤y.count
 h0:0≤y.h
 first:Ai y.first=true
 last:Ai y.last=true
theorem MU.low(g: ∀p n,V p=some n→may n=true){p:Int}{top:Bool}{y:Sn}(h:MU V p top y):mM y:=by
 obtain ⟨f,j⟩:=id h
 obtain ⟨a,b⟩:=RW g f p top y j
 obtain ⟨c,d,e⟩:=(RX g f p top).1 y j
 have i:=Gb g f p top
 have h1:=e.count
 have k:=i.Ag
 exact ⟨a,by omega,b,h.h0 g,i.may _ (List.mem_of_mem_head? e.first),i.may _ (List.mem_of_getLast? e.last)⟩
def F9(k:Int):List (Int×Sn)→Option Sn
 | []=>none
 |p::l=>if k=p.1 then some p.2 else F9 k l
def M5(k:Int)(y:Sn):List (Int×Sn)→List (Int×Sn)
 | []=> [(k,y)]
 |p::l=>if k=p.1 then (k,y)::l else p::M5 k y l
def Kn(V:Int→Option Nd)(K:List (Int×Sn)):Prop:= ∀p∈K,MU V p.1 false p.2
theorem Lz{k:Int}{y:Sn} : ∀{K:List (Int×Sn)},F9 k K=some y→(k,y)∈K
 | [],h=>by cases h
 | p :: l, h => by
  unfold F9 at h
  split at h
  ·grind
  exact List.mem_cons_of_mem _ (Lz h)
theorem L0{k:Int}{y:Sn}{q:Int×Sn} : ∀{K:List (Int×Sn)},q∈M5 k y K→q=(k,y)∨q∈K
 | [],h=>by simp[M5] at h;exact .inl h
 | p :: l, h => by
  unfold M5 at h
  split at h
  ·grind
  rcases List.mem_cons.1 h with h|h
  ·simp_all
  exact (L0 h).imp id (List.mem_cons_of_mem _)
theorem Kn.put{K:List (Int×Sn)}(h:Kn V K){k:Int}{y:Sn}(hy:MU V k false y):Kn V (M5 k y K):=fun p hp=>by
 rcases L0 hp with e|e
 ·simp_all
 exact h p e
theorem Kn.get{K:List (Int×Sn)}(h:Kn V K){k:Int}{y:Sn}(hy:F9 k K=some y):MU V k false y:=h _ (Lz hy)
def Qj(K:List (Int×Sn))(i:Nat):Bool:=K.any fun p=>p.1==(i:Int)
theorem OD(k:Int)(y:Sn)(i:Nat): ∀K,Qj (M5 k y K) i=(Qj K i||k==(i:Int))
 | []=>by simp[Qj,M5]
 | p :: l => by
  unfold M5
  split
  ·next e=>
   simp only[Qj,List.any_cons,e]
   cases (p.1==(i:Int))<;>cases (l.any fun p=>p.1==(i:Int))<;>rfl
  have:=OD k y i l
  simp only[Qj,List.any_cons] at this⊢
  grind
theorem Lx{k:Int} : ∀{K:List (Int×Sn)}{i:Nat},F9 k K=none→(i:Int)=k→Qj K i=false
 | [],i,_,_=>rfl
 | p :: l, i, h, e => by
  unfold F9 at h
  split at h
  ·grind
  next hn=>
  simp only[Qj,List.any_cons,Bool.or_eq_false_iff]
  exact ⟨by rw[beq_eq_false_iff_ne];intro c;exact hn (by rw[c,e]),Lx h e⟩
theorem Ng{α:Type}{p q:α→Bool}{a:α} : ∀{l:List α},(∀x∈l,q x=true→p x=true)→a∈l→p a=true→q a=false→(l.filter q).length+1≤(l.filter p).length
 | [],_,h,_,_=>by cases h
 | x :: l, hq, ha, h1, b => by
  have c:(l.filter q).length≤(l.filter p).length:=by
   clear ha h1 b
   induction l with
   |nil=>simp
   |cons y l d=>grind
  rcases List.mem_cons.1 ha with e|e
  · simp_all
  have d:=Ng (fun x hx=>hq x (List.mem_cons_of_mem _ hx)) e h1 b
  grind
def fr(N:Nat)(K:List (Int×Sn)):Nat:=((List.range N).filter fun i=>!Qj K i).length
theorem p'{N:Nat}{K:List (Int×Sn)}{k:Int}{y:Sn}(h:F9 k K=none)(h0:0≤k)(h1:k<N):fr N (M5 k y K)+1≤fr N K:=by
 refine Ng (a:=k.toNat) (fun x _ hx=>?_) (List.mem_range.2 (by omega)) ?_ ?_
 ·simp_all[OD]
 ·rw[Lx h (by omega)];rfl
 grind [OD]
theorem hH(N:Nat)(K:List (Int×Sn)):fr N K≤N:=by grind [fr]
end Go.Tr
namespace Go.Proofs.YtfhbmblbidcmmaaGreat
open Go.Tr Go.Sl
def dD(y:Sn):List Value:= .int .i64 y.h:: .int .i64 y.count::(Dw y.first++Dw y.last)
def Xi(y:Sn):Value:= .agg #[.int .i64 y.h,.int .i64 y.count,.int .i64 y.first.src,.int .i64 y.first.pos,.int .i64 y.first.len,.int .i64 y.first.lines,.int .i64 y.last.src,.int .i64 y.last.pos,.int .i64 y.last.len,.int .i64 y.last.lines]
def kn(K:List (Int×Sn)):List (Int×Value):=K.map fun p=>(p.1,Xi p.2)
theorem Og(k:Int): ∀K,Cp k (kn K)=(F9 k K).map Xi
 | []=>rfl
 | p :: l => by
  show (if k=p.1 then some (Xi p.2) else Cp k (kn l))=_
  unfold F9
  split
  ·rfl
  exact Og k l
theorem Sv(k:Int)(y:Sn): ∀K,CW k (Xi y) (kn K)=kn (M5 k y K)
 | []=>rfl
 | p :: l => by
  show (if k=p.1 then (k,Xi y)::kn l else (p.1,Xi p.2)::CW k (Xi y) (kn l))=_
  unfold M5
  split
  ·rfl
  rw[Sv k y l];rfl
