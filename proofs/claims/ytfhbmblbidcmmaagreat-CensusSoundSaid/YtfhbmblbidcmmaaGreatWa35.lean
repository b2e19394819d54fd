/- censusSound holds for every input. No condition. (part 35) -/
import Derived.Test.YtfhbmblbidcmmaaGreatWa23
set_option linter.all false
open Go.Proofs.YtfhbmblbidcmmaaGreat
namespace Go.Tr
def Kr(l:List Int)(L:Int):Int:=l.foldl (fun L x=>(if x<0 then-1099511627776 else L)+x) L
def Nr(a L b:Int):Prop:=(0≤a∧L=a∧a≤b)∨(a= -1∧ -1099511627777≤L∧L≤ -1099511627776+b)
theorem YV{a L b x y:Int}(h:Nr a L b)(h1: -1≤x)(c:x≤y)(d:0≤y):Nr (DT a x) ((if x<0 then-1099511627776 else L)+x) (b+y):=by grind [Nr,DT]
theorem Sc{α:Type}(c Hi:α→Int): ∀(l:List α){a L b:Int},Nr a L b→(∀e∈l,-1≤c e∧c e≤Hi e∧0≤Hi e)→Nr ((l.map c).foldl DT a) (Kr (l.map c) L) (b+(l.map Hi).sum)
 | [],a,L,b,h,_=>by simpa[Kr] using h
 | e :: l, a, L, b, h, hl => by
  have h1:=hl e (List.mem_cons_self ..)
  have d:=Sc c Hi l (YV h h1.1 h1.2.1 h1.2.2) fun e f=>hl e (List.mem_cons_of_mem _ f)
  rw[List.map_cons,List.foldl_cons,List.map_cons,List.sum_cons]
  rw[show b+(Hi e+(l.map Hi).sum)=b+Hi e+(l.map Hi).sum by omega]
  exact d
theorem YT{a L b:Int}(h:Nr a L b)(hb:b≤1048576):max L (-1)=a:=by grind [Nr]
theorem YU(l:List Int)(x L:Int):Kr (l++ [x]) L=(if x<0 then-1099511627776 else Kr l L)+x:=by simp[Kr,List.foldl_append]
def GW(n:Nd):Int×Int×Int:=(Aa n.Ag+Bc n.kids,max (Kr (n.kids.map (·.lines)) (Kr (n.Ag.map (·.lines)) 0)) (-1),n.Ag.length+Bj n.kids)
theorem UI{n:Nd}(h:may n=true):GW n=AZ n:=by
 have hs:AZ n=(Aa n.Ag+Bc n.kids,(n.kids.map (·.lines)).foldl DT ((n.Ag.map (·.lines)).foldl DT 0),n.Ag.length+Bj n.kids):=by simp_all[AZ]
 rw[hs]
 have h0:Nr 0 0 0:= .inl ⟨by omega,rfl,by omega⟩
 have c: ∀e∈n.Ag,-1≤e.lines∧e.lines≤e.len∧0≤e.len:=by cases hl:n.leaf with
  |true=>intro e a;have:=Ec ((BS h hl).2.1 e a);omega
  |false=>rw[(B7 h hl).1];intro e a;cases a
 have d: ∀k∈n.kids,-1≤k.lines∧k.lines≤k.bytes∧0≤k.bytes:=by cases hl:n.leaf with
  |true=>rw[(BS h hl).1];intro e a;cases a
  |false=>intro e a;have:=Ed ((B7 h hl).2.1 e a);omega
 have hb:Aa n.Ag+Bc n.kids≤1048576:=by cases hl:n.leaf with
  |true=>rw[(BS h hl).1];have:=(BS h hl).2.2.2.2;have:Bc []=0:=rfl;omega
  |false=>rw[(B7 h hl).1];have:=(B7 h hl).2.2.2.2.1;have:Aa []=0:=rfl;omega
 have h1:=Sc (fun x:Kd=>x.lines) (fun x:Kd=>x.bytes) n.kids (Sc (fun x:Av=>x.lines) (fun x:Av=>x.len) n.Ag h0 c) d
 have b:=YT h1 (by unfold Aa Bc at hb;omega)
 simp[GW,b]
structure EM (n:Nd):Prop where
 e:n.Ag.length≤12
 k:n.kids.length≤12
 es: ∀x∈n.Ag,0≤x.len∧x.len≤1048576∧ -1≤x.lines∧x.lines≤1048576
 ks: ∀x∈n.kids,0≤x.bytes∧x.bytes≤1048576∧ -1≤x.lines∧x.lines≤1048576∧0≤x.AA∧x.AA≤1048576
theorem EM.zero:EM I9:=⟨by simp[I9],by simp[I9],by simp[I9],by simp[I9]⟩
theorem EM.of{n:Nd}(h:may n=true):EM n:=by cases hl:n.leaf with
 | true =>
  obtain ⟨h1,a,c,b,d⟩:=BS h hl
  refine ⟨b,by rw[h1];simp,fun x hx=>?_,by rw[h1];simp⟩
  have e:=Cb.1 (a x hx)
  omega
 | false =>
  obtain ⟨h1,a,c,b,d,f⟩:=B7 h hl
  refine ⟨by rw[h1];simp,b,by rw[h1];simp,fun x hx=>?_⟩
  have e:=Ed (a x hx)
  omega
theorem XQ{α:Type}(a:α→Int){l:List α}{i:Nat}{x:α}(h:l[i]?=some x)(L:Int):Kr ((l.take (i+1)).map a) L=(if a x<0 then-1099511627776 else Kr ((l.take i).map a) L)+a x:=by
 rw[AB h,List.map_append]
 exact YU _ _ _
def Aw(file:List UInt8)(no:Int):Option Nd:=
 if no<1∨1048576≤no∨(file.length:Int)<256*no+256 then none else CU no ((file.drop (256*no.toNat)).take 256)
structure Lk where
 ok:Bool
 Al:Int
 Ag:List Av
 A7:List Int
def Fh:Lk:=⟨false,0,[],[]⟩
variable (V:Int→Option Nd)
def BA(p:Int):Nd:=(V p).getD I9
def GV(x:Lk)(s:Int×Int×Int)(first:Bool)(k:Kd)(o:Lk):Option Lk:=
 if x.ok=false∨s.1≠k.bytes∨s.2.1≠k.lines∨s.2.2≠k.AA∨(first=false∧x.Al+1≠o.Al) then none
 else if 1024<(o.Ag++x.Ag).length then none
 else some ⟨true,x.Al+1,o.Ag++x.Ag,o.A7++x.A7⟩
def B6(bl:Int→Lk):List Kd→Bool→Lk→Lk
 | [],_,o=>o
 | k :: ks, first, o => match GV (bl k.Au) (GW (BA V k.Au)) first k o with
  |none=>Fh
  |some o'=>B6 bl ks false o'
def AP:Nat→Int→Bool→Lk
 |0,_,_=>Fh
 | f + 1, no, top => match V no with
  |none=>Fh
  |some n=>if top=false∧many n<4 then Fh else B6 V (fun p=>AP f p false) n.kids true ⟨true,0,n.Ag,[no]⟩
def AJ(root:Int):Lk:=
 if root=0 then ⟨true,0,[],[]⟩ else
  if (AP V 13 root true).ok=false∨(join (AP V 13 root true).Ag).length≠(AP V 13 root true).Ag.length then Fh else AP V 13 root true
variable {V}
theorem GK{x:Lk}{s:Int×Int×Int}{first:Bool}{k:Kd}{o o':Lk}(h:GV x s first k o=some o'):x.ok=true∧s=(k.bytes,k.lines,k.AA)∧(first=false→x.Al+1=o.Al)∧(o.Ag++x.Ag).length≤1024∧o'=⟨true,x.Al+1,o.Ag++x.Ag,o.A7++x.A7⟩:=by
 unfold GV at h
 grind
structure RC (top:Bool) (f:Nat) (x:Lk):Prop where
 h0:0≤x.Al
 h1:x.Al≤f
 Ag:x.Ag.length≤1036
 A7:x.A7.length≤1+x.Ag.length
 low:top=false→x.ok=true→x.A7.length+1≤x.Ag.length
 may: ∀e∈x.Ag,Ah e=true
theorem OT(top:Bool)(f:Nat):RC top f Fh:=⟨by simp[Fh],by simp[Fh],by simp[Fh],by simp[Fh],by simp[Fh],by simp[Fh]⟩
theorem UG{bl:Int→Lk}{f:Nat}(hb: ∀p,RC false f (bl p)): ∀(ks:List Kd)(first:Bool)(o:Lk)(m:Nat),0≤o.Al→o.Al≤f+1→o.Ag.length≤1036→o.A7.length+m≤1+o.Ag.length→(∀e∈o.Ag,Ah e=true)→o.ok=true→RC true (f+1) (B6 V bl ks first o)∧((B6 V bl ks first o).ok=true→(B6 V bl ks first o).A7.length+(m+ks.length)≤1+(B6 V bl ks first o).Ag.length)
 | [],_,o,m,h1,j,l,n,i,q=>⟨⟨h1,by exact_mod_cast j,l,by show o.A7.length≤1+o.Ag.length;omega,by simp,i⟩,fun _=>by simpa[B6] using n⟩
 | k :: ks, first, o, m, h1, j, l, n, i, q => by
  unfold B6
  cases hr:GV (bl k.Au) (GW (BA V k.Au)) first k o with
  |none=>exact ⟨OT _ _,fun h=>by simp[Fh] at h⟩
  | some o' =>
   obtain ⟨a,b,c,d,rfl⟩:=GK hr
   have g:=hb k.Au
   have s:=g.low rfl a
   have:=UG hb ks false ⟨true,(bl k.Au).Al+1,o.Ag++(bl k.Au).Ag,o.A7++(bl k.Au).A7⟩ (m+1) (by have:=g.h0;show 0≤(bl k.Au).Al+1;omega) (by have:=g.h1;show (bl k.Au).Al+1≤_;omega) (by show (o.Ag++(bl k.Au).Ag).length≤1036;omega) (by simp only[List.length_append];omega) (fun e r=>(List.mem_append.1 r).elim (i e) (g.may e)) rfl
   grind
theorem FX(c: ∀p n,V p=some n→may n=true): ∀(f:Nat)(p:Int)(top:Bool),RC top f (AP V f p top)
 |0,_,top=>OT top 0
 | f + 1, p, top => by
  unfold AP
  cases i:V p with
  |none=>exact OT _ _
  | some n =>
   simp only
   split
   ·exact OT _ _
   next h1=>
   have hm:=c p n i
   cases hl:n.leaf with
   | true =>
    obtain ⟨a,b,d,e,g⟩:=BS hm hl
    rw[a]
    refine ⟨by simp[B6],by simp only[B6];omega,by simp only[B6];omega,by simp[B6],fun j _=>?_,b⟩
    simp only[B6,List.length_singleton]
    have: ¬many n<4:=fun h=>h1 ⟨j,h⟩
    unfold many at this
    grind
   | false =>
    obtain ⟨a,b,d,e,g,k⟩:=B7 hm hl
    rw[a]
    have:=UG (V:=V) (fun q=>FX c f q false) n.kids true ⟨true,0,[],[p]⟩ 0 (by simp) (by simp only;omega) (by simp) (by simp) (by simp) rfl
    refine ⟨this.1.h0,this.1.h1,this.1.Ag,this.1.A7,fun _ h=>?_,this.1.may⟩
    grind
theorem FJ{file:List UInt8}{p:Int}{n:Nd}(h:Aw file p=some n):may n=true:=by
 unfold Aw at h
 split at h
 ·grind
 exact IB h
end Go.Tr
open Go.Proofs.YtfhbmblbidcmmaaGreat
namespace Go.Tr
theorem TH(o:List Av)(x:Av):(A8 o x).length≤o.length+1:=by grind [A8,List.length_append,List.length_dropLast,List.length_singleton]
theorem T7: ∀(l o:List Av),(l.foldl A8 o).length≤o.length+l.length
 | [],o=>by simp
 | x :: l, o => by
  have h1:=T7 l (A8 o x)
  have a:=TH o x
  grind
theorem Jf : ∀(l o : List Av), AL o → (l.foldl A8 o).length = o.length + l.length → AL (o ++ l)
 | [],o,e,_=>by simpa using e
 | x :: l, o, e, h => by
  have h1:=T7 l (A8 o x)
  simp only[List.foldl_cons,List.length_cons] at h
  have d : A8 o x = o ++ [x] ∧ AL (o ++ [x]) := by
   unfold A8 at h h1⊢
   cases f:o.getLast? with
   |none=>rw[List.getLast?_eq_none_iff.1 f];exact ⟨rfl,trivial⟩
   | some a =>
    simp only at h h1⊢
    cases hm:meets a x with
    |true=>grind
    | false =>
     refine ⟨rfl,Gf e trivial fun c b g j hb=>?_⟩
     simp_all
  have i:=Jf l (o++ [x]) d.2 (by rw[←d.1,h,d.1];simp;omega)
  simp_all
theorem Ge{l:List Av} :(join l).length=l.length↔AL l:=
 ⟨fun h=>by have:=Jf l [] trivial (by simpa[join] using h);simpa using this,fun h=>by rw[GC h]⟩
structure Sn where
 h:Int
 count:Int
 first:Av
 last:Av
def e0:Av:=⟨0,0,0,0⟩
def Ks:Sn:=⟨0,0,e0,e0⟩
def Gw(y:Sn)(s:Int×Int×Int)(first:Bool)(k:Kd)(x:Sn):Option Sn:=
 if s≠(k.bytes,k.lines,k.AA)∨(first=false∧(y.h+1≠x.h∨meets x.last y.first=true)) then none
 else if 1024<x.count+y.count then none
 else some ⟨if first then y.h+1 else x.h,x.count+y.count,if first then y.first else x.first,y.last⟩
variable (V:Int→Option Nd)
def DU(ch:Int→Option Sn):List Kd→Bool→Sn→Option Sn
 | [],_,x=>some x
 | k :: ks, first, x => match ch k.Au with
  |none=>none
  | some y => match Gw y (AZ (BA V k.Au)) first k x with
   |none=>none
   |some a=>DU ch ks false a
def FH(ch:Int→Option Sn)(n:Nd)(top:Bool):Option Sn:=
 if top=false∧many n<4 then none
 else if n.leaf then (if (join n.Ag).length≠n.Ag.length then none else some ⟨0,n.Ag.length,n.Ag.headD e0,n.Ag.getLastD e0⟩)
 else DU V ch n.kids true Ks
def DW:Nat→Int→Bool→Option Sn
 |0,_,_=>none
 | f + 1, no, top => match V no with
  |none=>none
  |some n=>FH V (fun p=>DW f p false) n top
variable {V}
theorem FP{y:Sn}{s:Int×Int×Int}{first:Bool}{k:Kd}{x a:Sn}(h:Gw y s first k x=some a):s=(k.bytes,k.lines,k.AA)∧(first=false→y.h+1=x.h∧meets x.last y.first=false)∧x.count+y.count≤1024∧a=⟨y.h+1,x.count+y.count,if first then y.first else x.first,y.last⟩:=by
 unfold Gw at h
 grind
structure PV (x:Sn) (l:List Av):Prop where
 ne:l≠ []
 join:AL l
 count:x.count=l.length
 first:l.head?=some x.first
 last:l.getLast?=some x.last
structure St (first:Bool) (x:Sn) (o:Lk):Prop where
 ok:o.ok=true
 one:first=true→o.Ag= []∧x.count=0
 more:first=false→PV x o.Ag∧x.h=o.Al
theorem Z0{x:Lk}{s:Int×Int×Int}{first:Bool}{k:Kd}{o:Lk}(h1:x.ok=true)(a:s=(k.bytes,k.lines,k.AA))(b:first=false→x.Al+1=o.Al)(c:(o.Ag++x.Ag).length≤1024):GV x s first k o=some ⟨true,x.Al+1,o.Ag++x.Ag,o.A7++x.A7⟩:=by
 unfold GV
 simp_all
theorem dS{y:Sn}{s:Int×Int×Int}{first:Bool}{k:Kd}{x:Sn}(h1:s=(k.bytes,k.lines,k.AA))(b:first=false→y.h+1=x.h∧meets x.last y.first=false)(c:x.count+y.count≤1024): ∃a,Gw y s first k x=some a:=by
 unfold Gw
 simp_all
theorem PV.two{x y:Sn}{l m:List Av}(h:PV x l)(g:PV y m)(hm:meets x.last y.first=false):PV ⟨y.h+1,x.count+y.count,x.first,y.last⟩ (l++m):=by
 refine ⟨by simp[h.ne],Gf h.join g.join fun a b d c e=>?_,by simp[h.count,g.count],?_,?_⟩
 ·rw[h.last] at c
  have:=g.first
  simp_all
 ·simp[h.first]
 simp[g.last]
theorem PV.len{x:Sn}{l:List Av}(h:PV x l):1≤l.length:=List.length_pos_iff.2 h.ne
section
variable {ch:Int→Option Sn} {bl:Int→Lk}
structure Tb (V:Int→Option Nd) (ch:Int→Option Sn) (bl:Int→Lk) (p:Int):Prop where
 a: ∀y,ch p=some y→(bl p).ok=true∧(bl p).Al=y.h∧PV y (bl p).Ag
 b:(bl p).ok=true→AL (bl p).Ag→ ∃y,ch p=some y
 sum:(bl p).ok=true→GW (BA V p)=AZ (BA V p)
 ne:(bl p).ok=true→(bl p).Ag≠ []
theorem XK{first:Bool}{k:Kd}{x g y:Sn}{o:Lk}(f:Tb V ch bl k.Au)(hs:St first x o)(h1:ch k.Au=some y)(i:Gw y (AZ (BA V k.Au)) first k x=some g): ∃o',GV (bl k.Au) (GW (BA V k.Au)) first k o=some o'∧St false g o':=by
 obtain ⟨c,d,b⟩:=f.a y h1
 obtain ⟨c1,c2,c3,rfl⟩:=FP i
 have j:(o.Ag++(bl k.Au).Ag).length≤1024:=by
  rw[List.length_append]
  have:=b.count
  cases first with
  |true=>rw[(hs.one rfl).1];have:=(hs.one rfl).2;simp;omega
  |false=>have:=(hs.more rfl).1.count;omega
 refine ⟨_,Z0 c (by rw[f.sum c,c1]) (fun e=>by rw[d,(c2 e).1,(hs.more e).2]) j,rfl,fun e=>(Bool.noConfusion e),fun _=>⟨?_,by rw[d]⟩⟩
 cases first with
 | true =>
   rw[(hs.one rfl).1,List.nil_append]
   have:=(hs.one rfl).2
   exact ⟨b.ne,b.join,by simp only;rw[this,b.count];omega,b.first,b.last⟩
 |false=>exact (hs.more rfl).1.two b (c2 rfl).2
theorem eM{first:Bool}{k:Kd}{x:Sn}{o o':Lk}(c:Tb V ch bl k.Au)(hs:St first x o)(h1:GV (bl k.Au) (GW (BA V k.Au)) first k o=some o')(d:AL o'.Ag): ∃y j,ch k.Au=some y∧Gw y (AZ (BA V k.Au)) first k x=some j:=by
 obtain ⟨c1,c2,c3,c4,rfl⟩:=GK h1
 obtain ⟨y,hy⟩:=c.b c1 (AL.right d)
 obtain ⟨n,l,g⟩:=c.a y hy
 rw[List.length_append] at c4
 have p:=g.count
 have f:first=false→meets x.last y.first=false:=fun e=>by
  obtain ⟨b,B,m⟩: ∃b B,(bl k.Au).Ag=b::B:=by cases hq:(bl k.Au).Ag with
   |nil=>exact absurd hq (c.ne c1)
   |cons b B=>exact ⟨b,B,rfl⟩
  have i:=g.first
  rw[m] at i d
  cases i
  exact AL.meet d (hs.more e).1.last
 obtain ⟨j,hx⟩:=dS (y:=y) (s:=AZ (BA V k.Au)) (first:=first) (k:=k) (x:=x) (by rw[←c.sum c1,c2]) (fun e=>⟨by rw[←l,c3 e,(hs.more e).2],f e⟩) (by
  cases first with
  |true=>have:=(hs.one rfl).2;omega
  |false=>have:=(hs.more rfl).1.count;omega)
 simp_all
theorem KT: ∀(ks:List Kd)(first:Bool)(o:Lk),(B6 V bl ks first o).ok=true→ ∃t,(B6 V bl ks first o).Ag=o.Ag++t
 | [],_,o,_=>⟨[],by simp[B6]⟩
 | k :: ks, first, o, h => by
  unfold B6 at h⊢
  cases hr:GV (bl k.Au) (GW (BA V k.Au)) first k o with
  |none=>rw[hr] at h;simp[Fh] at h
  | some o' =>
   rw[hr] at h
   obtain ⟨_,_,_,_,rfl⟩:=GK hr
   obtain ⟨t,a⟩:=KT ks false _ h
   simp_all
theorem TQ: ∀(ks:List Kd)(first:Bool)(x z:Sn)(o:Lk),(∀k∈ks,Tb V ch bl k.Au)→St first x o→(ks≠ []∨first=false)→DU V ch ks first x=some z→St false z (B6 V bl ks first o)
 | [],first,x,z,o,_,hs,h,a=>by
  have:first=false:=h.elim (fun e=>absurd rfl e) id
  subst this
  cases a
  exact hs
 | k :: ks, first, x, z, o, d, hs, _, a => by
   unfold DU at a
   cases b:ch k.Au with
   |none=>rw[b] at a;cases a
   | some y =>
    rw[b] at a
    simp only at a
    cases hx:Gw y (AZ (BA V k.Au)) first k x with
    |none=>rw[hx] at a;cases a
    | some g =>
     rw[hx] at a
     obtain ⟨o',f,c⟩:=XK (d k (List.mem_cons_self ..)) hs b hx
     unfold B6
     rw[f]
     exact TQ ks false g z o' (fun k h=>d k (List.mem_cons_of_mem _ h)) c (.inr rfl) a
theorem TO: ∀(ks:List Kd)(first:Bool)(x:Sn)(o:Lk),(∀k∈ks,Tb V ch bl k.Au)→St first x o→(B6 V bl ks first o).ok=true→AL (B6 V bl ks first o).Ag→ ∃z,DU V ch ks first x=some z
 | [],first,x,o,_,_,_,_=>⟨x,rfl⟩
 | k :: ks, first, x, o, b, hs, h1, a => by
  unfold B6 at h1 a
  cases hr:GV (bl k.Au) (GW (BA V k.Au)) first k o with
  |none=>rw[hr] at h1;simp[Fh] at h1
  | some o' =>
   rw[hr] at h1 a
   obtain ⟨t,f⟩:=KT ks false o' h1
   have e:AL o'.Ag:=by rw[f] at a;exact a.left
   obtain ⟨y,g,hy,hx⟩:=eM (b k (List.mem_cons_self ..)) hs hr e
   obtain ⟨j,d,c⟩:=XK (b k (List.mem_cons_self ..)) hs hy hx
   rw[hr] at d
   cases d
   obtain ⟨z,i⟩:=TO ks false g o' (fun k h=>b k (List.mem_cons_of_mem _ h)) c h1 a
   unfold DU
   simp_all
end
theorem Z6{l:List Av}(h:l≠ [])(b:AL l):PV ⟨0,l.length,l.headD e0,l.getLastD e0⟩ l:=by
 refine ⟨h,b,rfl,?_,?_⟩
 ·cases l with
  |nil=>exact absurd rfl h
  |cons a l=>rfl
 cases l with
 |nil=>exact absurd rfl h
 |cons a l=>rw[List.getLastD_eq_getLast?,List.getLast?_cons];rfl
theorem RP(l: ∀p n,V p=some n→may n=true): ∀(f:Nat)(p:Int)(top:Bool),
 (∀y,DW V f p top=some y→(AP V f p top).ok=true∧(AP V f p top).Al=y.h∧PV y (AP V f p top).Ag)∧
 ((AP V f p top).ok=true→(V p).isSome∧(AP V f p top).Ag≠ []∧(AL (AP V f p top).Ag→ ∃y,DW V f p top=some y))
 |0,p,top=>⟨fun y h=>by simp[DW] at h,fun h=>by simp[AP,Fh] at h⟩
 | f + 1, p, top => by
  unfold DW AP
  cases w:V p with
  |none=>exact ⟨fun y h=>by simp at h,fun h=>by simp[Fh] at h⟩
  | some n =>
   simp only
   have hm:=l p n w
   have o: ∀q,Tb V (fun p=>DW V f p false) (fun p=>AP V f p false) q:=fun q=>by
    obtain ⟨b,c⟩:=RP l f q false
    refine ⟨b,fun h1 v=>(c h1).2.2 v,fun h=>?_,fun h=>(c h).2.1⟩
    obtain ⟨m,hq⟩:=Option.isSome_iff_exists.1 (c h).1
    unfold BA
    rw[hq]
    exact UI (l q m hq)
   unfold FH
   by_cases r:top=false∧many n<4
   · simp_all[Fh]
   rw[if_neg r,if_neg r]
   cases hl:n.leaf with
   | true =>
     obtain ⟨b,c,i,s,u⟩:=BS hm hl
     have a:=List.length_pos_iff.1 i
     rw[b]
     simp only[if_true,B6]
     refine ⟨fun y hy=>?_,fun _=>⟨rfl,a,fun d=>?_⟩⟩
     ·split at hy
      ·grind
      next d=>
      cases hy
      exact ⟨trivial,rfl,Z6 a (Ge.1 (by simpa using d))⟩
     rw[if_neg (by rw[Ge.2 d];simp)]
     simp
   | false =>
     obtain ⟨b,c,i,s,u,x⟩:=B7 hm hl
     have a:n.kids≠ []:=by intro e;rw[e] at i;simp at i
     rw[b]
     have hs:St true Ks ⟨true,0,[],[p]⟩:=⟨rfl,fun _=>⟨rfl,rfl⟩,fun e=>Bool.noConfusion e⟩
     refine ⟨fun y hy=>?_,fun h=>⟨rfl,?_,fun d=>TO n.kids true Ks _ (fun k _=>o k.Au) hs h d⟩⟩
     ·have j:=TQ n.kids true Ks y _ (fun k _=>o k.Au) hs (.inl a) hy
      exact ⟨j.ok,(j.more rfl).2.symm,(j.more rfl).1⟩
     cases g:n.kids with
     |nil=>exact absurd g a
     | cons k ks =>
      rw[g] at h
      unfold B6 at h⊢
      cases hr:GV (AP V f k.Au false) (GW (BA V k.Au)) true k ⟨true,0,[],[p]⟩ with
      |none=>simp only[hr] at h;simp[Fh] at h
      | some o' =>
       simp only[hr] at h⊢
       obtain ⟨t,z⟩:=KT ks false o' h
       obtain ⟨c1,_,_,_,rfl⟩:=GK hr
       have:=(o k.Au).ne c1
       simp_all
theorem P'(f: ∀p n,V p=some n→may n=true){root:Int}(h0:root≠0):(AJ V root).ok=true↔ ∃y,DW V 13 root true=some y:=by
 obtain ⟨d,e⟩:=RP f 13 root true
 unfold AJ
 rw[if_neg h0]
 constructor
 ·intro h
  split at h
  ·simp[Fh] at h
  next h1=>
  simp only[not_or,Decidable.not_not] at h1
  exact (e h).2.2 (Ge.1 h1.2)
 rintro ⟨y,hy⟩
 obtain ⟨a,b,c⟩:=d y hy
 rw[if_neg (by rw[a,Ge.2 c.join];simp)]
 exact a
end Go.Tr
open Go.Proofs.YtfhbmblbidcmmaaGreat
namespace Go.Tr
variable {V:Int→Option Nd}
theorem Dg(ch:Int→Option Sn)(k:Kd)(ks:List Kd)(first:Bool)(x:Sn):DU V ch (k::ks) first x=match ch k.Au with
 |none=>none
 | some y => match Gw y (AZ (BA V k.Au)) first k x with
  |none=>none
  |some a=>DU V ch ks false a:=rfl
theorem K9{ch ch':Int→Option Sn} : ∀(ks:List Kd)(first:Bool)(x z:Sn),(∀p y,ch p=some y→y.h+1=z.h→ch' p=some y)→DU V ch ks first x=some z→DU V ch' ks first x=some z∧(first=false→z.h=x.h)
 | [],first,x,z,_,h=>by cases h;exact ⟨rfl,fun _=>rfl⟩
 | k :: ks, first, x, z, b, h => by
  rw[Dg] at h
  cases hy:ch k.Au with
  |none=>rw[hy] at h;cases h
  | some y =>
   rw[hy] at h
   simp only at h
   cases hx:Gw y (AZ (BA V k.Au)) first k x with
   |none=>rw[hx] at h;cases h
   | some d =>
    rw[hx] at h
    simp only at h
    obtain ⟨h1,c⟩:=K9 ks false d z b h
    obtain ⟨c1,c2,c3,rfl⟩:=FP hx
    have a:=c rfl
    refine ⟨?_,fun e=>by rw[a,(c2 e).1]⟩
    rw[Dg,b k.Au y hy a.symm]
    simp only[hx]
    exact h1
theorem MY{ch:Int→Option Sn}{k:Kd}{ks:List Kd}{first:Bool}{x z:Sn}(h:DU V ch (k::ks) first x=some z): ∃y,ch k.Au=some y∧z.h=y.h+1:=by
 rw[Dg] at h
 cases hy:ch k.Au with
 |none=>rw[hy] at h;cases h
 | some y =>
  rw[hy] at h
  simp only at h
  cases hx:Gw y (AZ (BA V k.Au)) first k x with
  |none=>rw[hx] at h;cases h
  | some a =>
   rw[hx] at h
   obtain ⟨c1,c2,c3,rfl⟩:=FP hx
   exact ⟨y,rfl,(K9 (ch':=ch) ks false _ z (fun _ _ h _=>h) h).2 rfl⟩
theorem En(e: ∀p n,V p=some n→may n=true): ∀(f:Nat)(p:Int)(top:Bool)(y:Sn),DW V f p top=some y→0≤y.h∧y.h<f∧ ∀g:Nat,y.h<g→DW V g p top=some y
 |0,p,top,y,h=>by simp[DW] at h
 | f + 1, p, top, y, h => by
  unfold DW at h
  cases d:V p with
  |none=>rw[d] at h;cases h
  | some n =>
   rw[d] at h
   simp only at h
   have hm:=e p n d
   have b: ∀g:Nat,DW V (g+1) p top=FH V (fun p=>DW V g p false) n top:=fun g=>by
    show (match V p with|none=>none|some n=>FH V (fun p=>DW V g p false) n top)=_
    rw[d]
   unfold FH at h b
   by_cases c:top=false∧many n<4
   · rw[if_pos c] at h;cases h
   rw[if_neg c] at h
   cases hl:n.leaf with
   | true =>
     rw[hl,if_pos rfl] at h
     split at h
     ·cases h
     next hj=>
     cases h
     refine ⟨by simp,by simp only;omega,fun g j=>?_⟩
     cases g with
     |zero=>simp at j
     |succ g=>rw[b,if_neg c,hl,if_pos rfl,if_neg hj]
   | false =>
     rw[hl,if_neg (by simp)] at h
     obtain ⟨o,r,i,s,t,u⟩:=B7 hm hl
     cases a:n.kids with
     |nil=>rw[a] at i;simp at i
     | cons k ks =>
      rw[a] at h
      obtain ⟨m,hy1,v⟩:=MY h
      obtain ⟨w,x,B⟩:=En e f k.Au false m hy1
      refine ⟨by omega,by omega,fun g j=>?_⟩
      cases g with
      |zero=>omega
      | succ g =>
       rw[b,if_neg c,hl,if_neg (by simp),a]
       exact (K9 (k::ks) true Ks y (fun q z hq l=>(En e f q false z hq).2.2 g (by omega)) h).1
def MU(V:Int→Option Nd)(p:Int)(top:Bool)(y:Sn):Prop:= ∃f,DW V f p top=some y
theorem MU.at(a: ∀p n,V p=some n→may n=true){p:Int}{top:Bool}{y:Sn}(h:MU V p top y){f:Nat}(b:y.h<f):DW V f p top=some y:=by
 obtain ⟨g,c⟩:=h
 exact (En a g p top y c).2.2 f b
theorem MU.of(a: ∀p n,V p=some n→may n=true){p:Int}{top:Bool}{y z:Sn}(h:MU V p top y){f:Nat}(c:DW V f p top=some z):z=y:=by
 obtain ⟨g,b⟩:=h
 have h1:=(En a g p top y b).2.2 (max f g) (by have:=(En a g p top y b).2.1;omega)
 have d:=(En a f p top z c).2.2 (max f g) (by have:=(En a f p top z c).2.1;omega)
 simp_all
theorem MU.h0(a: ∀p n,V p=some n→may n=true){p:Int}{top:Bool}{y:Sn}(h:MU V p top y):0≤y.h:=by
 obtain ⟨g,b⟩:=h
 exact (En a g p top y b).1
theorem MU.is{p:Int}{top:Bool}{y:Sn}(h:MU V p top y): ∃n,V p=some n:=by
 obtain ⟨g,a⟩:=h
 cases g with
 |zero=>simp[DW] at a
 | succ g =>
  unfold DW at a
  cases b:V p with
  |none=>rw[b] at a;cases a
  |some n=>exact ⟨n,rfl⟩
structure V4 (V:Int→Option Nd) (f:Nat) (n:Nd) (j:Nat) (x:Sn):Prop where
 mY: ∃g0:Nat,∀g:Nat,g0≤g→DU V (fun p=>DW V g p false) n.kids true Ks=DU V (fun p=>DW V g p false) (n.kids.drop j) (j==0) x
 kQ:DU V (fun p=>DW V f p false) n.kids true Ks=none∨DU V (fun p=>DW V f p false) n.kids true Ks=DU V (fun p=>DW V f p false) (n.kids.drop j) (j==0) x
theorem V4.zero(f:Nat)(n:Nd):V4 V f n 0 Ks:=⟨⟨0,fun _ _=>rfl⟩,.inr rfl⟩
theorem V4.nil{f:Nat}{n:Nd}{j:Nat}{x:Sn}(h:V4 V f n j x)(e:DU V (fun p=>DW V f p false) (n.kids.drop j) (j==0) x=none):DU V (fun p=>DW V f p false) n.kids true Ks=none:=h.kQ.elim id fun g=>g.trans e
theorem Lr{α:Type}{l:List α}{j:Nat}{k:α}(c:l[j]?=some k):l.drop j=k::l.drop (j+1):=by
 obtain ⟨a,b⟩:=List.getElem?_eq_some_iff.1 c
 rw[List.drop_eq_getElem_cons a,b]
theorem V4.mE{f:Nat}{n:Nd}{j:Nat}{x:Sn}{k:Kd}(h:V4 V f n j x)(a:n.kids[j]?=some k)(e:DW V f k.Au false=none):DU V (fun p=>DW V f p false) n.kids true Ks=none:=h.nil (by
 rw[Lr a,Dg,e])
theorem V4.gX(a: ∀p n,V p=some n→may n=true){f:Nat}{n:Nd}{j:Nat}{x y:Sn}{k:Kd}(h:V4 V f n j x)(c:n.kids[j]?=some k)(hy:MU V k.Au false y)(e:Gw y (AZ (BA V k.Au)) (j==0) k x=Option.none):DU V (fun p=>DW V f p false) n.kids true Ks=Option.none:=h.nil (by
 rw[Lr c,Dg]
 cases b:DW V f k.Au false with
 |none=>rfl
 | some z =>
  obtain rfl:=hy.of a b
  simp only[e])
theorem V4.next(a: ∀p n,V p=some n→may n=true){f:Nat}{n:Nd}{j:Nat}{x y l:Sn}{k:Kd}(h:V4 V f n j x)(i:n.kids[j]?=some k)(hy:MU V k.Au false y)(e:Gw y (AZ (BA V k.Au)) (j==0) k x=some l):V4 V f n (j+1) l:=by
 have d:((j+1==0)=false):=by simp
 refine ⟨?_,?_⟩
 ·obtain ⟨g0,o⟩:=h.mY
  obtain ⟨c,b⟩:=id hy
  refine ⟨max g0 c,fun g q=>?_⟩
  rw[o g (by omega),Lr i,Dg,hy.at a (show y.h<(g:Int) by have:=(En a c _ _ _ b).2.1;omega)]
  simp only[e,d]
 rcases h.kQ with h1|h1
 ·exact .inl h1
 rw[h1,Lr i,Dg]
 cases m:DW V f k.Au false with
 |none=>exact .inl rfl
 | some z =>
  obtain rfl:=hy.of a m
  simp only[e,d]
  exact .inr trivial
theorem V4.done{f:Nat}{n:Nd}{x:Sn}{p:Int}{top:Bool}(h:V4 V f n n.kids.length x)(hp:V p=some n)(hl:n.leaf=false)(a: ¬(top=false∧many n<4)):MU V p top x:=by
 obtain ⟨g0,b⟩:=h.mY
 refine ⟨g0+1,?_⟩
 show (match V p with|none=>none|some n=>FH V (fun p=>DW V g0 p false) n top)=_
 rw[hp]
 simp only
 unfold FH
 rw[if_neg a,hl,if_neg (by simp),b g0 (Nat.le_refl _),List.drop_length]
 rfl
theorem O2{f:Nat}{p:Int}{top:Bool}{n:Nd}(hp:V p=some n)(hl:n.leaf=false)(h:DU V (fun p=>DW V f p false) n.kids true Ks=Option.none):DW V (f+1) p top=Option.none:=by
 show (match V p with|none=>none|some n=>FH V (fun p=>DW V f p false) n top)=_
 simp[hp,FH,hl,h]
theorem X3{f:Nat}{p:Int}{top:Bool}{n:Nd}(hp:V p=some n)(a:top=false∧many n<4):DW V (f+1) p top=Option.none:=by
 show (match V p with|none=>none|some n=>FH V (fun p=>DW V f p false) n top)=_
 simp_all[FH]
theorem O1{f:Nat}{p:Int}{top:Bool}{n:Nd}(hp:V p=some n)(hl:n.leaf=true)(a: ¬(top=false∧many n<4)):DW V (f+1) p top=if (join n.Ag).length≠n.Ag.length then Option.none else some ⟨0,n.Ag.length,n.Ag.headD e0,n.Ag.getLastD e0⟩:=by
 show (match V p with|none=>none|some n=>FH V (fun p=>DW V f p false) n top)=_
 unfold FH
 grind
theorem Tt{f:Nat}{p:Int}{top:Bool}(hp:V p=Option.none):DW V f p top=Option.none:=by cases f with
 |zero=>rfl
 | succ f =>
  show (match V p with|none=>none|some n=>FH V (fun p=>DW V f p false) n top)=_
  grind
end Go.Tr
open Go.Proofs.YtfhbmblbidcmmaaGreat
namespace Go.Tr
variable {V:Int→Option Nd}
theorem MX{ch:Int→Option Sn}(a: ∀p y,ch p=some y→1≤y.count): ∀(ks:List Kd)(first:Bool)(x z:Sn),DU V ch ks first x=some z→x.count+ks.length≤z.count
 | [],first,x,z,h=>by cases h;simp
 | k :: ks, first, x, z, h => by
  rw[Dg] at h
  cases hy:ch k.Au with
  |none=>rw[hy] at h;cases h
  | some y =>
   rw[hy] at h
   simp only at h
   cases hx:Gw y (AZ (BA V k.Au)) first k x with
   |none=>rw[hx] at h;cases h
   | some b =>
    rw[hx] at h
    have h1:=MX a ks false b z h
    obtain ⟨c1,c2,c3,rfl⟩:=FP hx
    grind
theorem RO(c: ∀p n,V p=some n→may n=true): ∀(f:Nat)(p:Int)(top:Bool)(y:Sn),DW V f p top=some y→1≤y.count∧y.h+1≤y.count
 |0,p,top,y,h=>by simp[DW] at h
 | f + 1, p, top, y, h => by
  unfold DW at h
  cases d:V p with
  |none=>rw[d] at h;cases h
  | some n =>
   rw[d] at h
   simp only at h
   have hm:=c p n d
   unfold FH at h
   by_cases m:top=false∧many n<4
   ·simp_all
   rw[if_neg m] at h
   cases hl:n.leaf with
   | true =>
    obtain ⟨g,i,b,j,l⟩:=BS hm hl
    grind
   | false =>
    rw[hl,if_neg (by simp)] at h
    obtain ⟨g,i,b,j,l,r⟩:=B7 hm hl
    cases a:n.kids with
    |nil=>rw[a] at b;simp at b
    | cons k ks =>
     rw[a] at h b
     obtain ⟨e,hy1,t⟩:=MY h
     rw[Dg,hy1] at h
     simp only at h
     cases hx:Gw e (AZ (BA V k.Au)) true k Ks with
     |none=>rw[hx] at h;cases h
     | some o =>
      rw[hx] at h
      have h1:=MX (fun q z hq=>(RO c f q false z hq).1) ks false o y h
      obtain ⟨c1,c2,c3,rfl⟩:=FP hx
      have s:=RO c f k.Au false e hy1
      have e0:Ks.count=0:=rfl
      grind
theorem O0{ch:Int→Option Sn} : ∀(ks:List Kd)(first:Bool)(x z:Sn),(ks= []→x.count≤1024)→DU V ch ks first x=some z→z.count≤1024
 | [],first,x,z,hx,h=>by cases h;exact hx rfl
 | k :: ks, first, x, z, _, h => by
  rw[Dg] at h
  cases hy:ch k.Au with
  |none=>rw[hy] at h;cases h
  | some y =>
   rw[hy] at h
   simp only at h
   cases hx:Gw y (AZ (BA V k.Au)) first k x with
   |none=>rw[hx] at h;cases h
   | some a =>
    rw[hx] at h
    obtain ⟨c1,c2,c3,rfl⟩:=FP hx
    exact O0 ks false _ z (fun _=>c3) h
theorem O'(c: ∀p n,V p=some n→may n=true){f:Nat}{p:Int}{top:Bool}{y:Sn}(h:DW V f p top=some y):y.count≤1024:=by cases f with
 |zero=>simp[DW] at h
 | succ f =>
  unfold DW at h
  cases a:V p with
  |none=>rw[a] at h;cases h
  | some n =>
   rw[a] at h
   simp only at h
   unfold FH at h
   by_cases b:top=false∧many n<4
   ·simp_all
   rw[if_neg b] at h
   cases hl:n.leaf with
   | true =>
    have:=(BS (c p n a) hl).2.2.2.1
    grind
   | false =>
    rw[hl,if_neg (by simp)] at h
    exact O0 n.kids true Ks y (fun _=>by simp[Ks]) h
structure mT (y:Sn):Prop where
 c1:1≤y.count
 c2:y.count≤1036
 h1:y.h+1≤y.count
 h0:0≤y.h
 first:Ah y.first=true
 last:Ah y.last=true
theorem MU.low(g: ∀p n,V p=some n→may n=true){p:Int}{top:Bool}{y:Sn}(h:MU V p top y):mT y:=by
 obtain ⟨f,j⟩:=id h
 obtain ⟨a,b⟩:=RO g f p top y j
 obtain ⟨c,d,e⟩:=(RP g f p top).1 y j
 have i:=FX g f p top
 have h1:=e.count
 have k:=i.Ag
 exact ⟨a,by omega,b,h.h0 g,i.may _ (List.mem_of_mem_head? e.first),i.may _ (List.mem_of_getLast? e.last)⟩
def Gx(k:Int):List (Int×Sn)→Option Sn
 | []=>none
 |p::l=>if k=p.1 then some p.2 else Gx k l
def M7(k:Int)(y:Sn):List (Int×Sn)→List (Int×Sn)
 | []=> [(k,y)]
 |p::l=>if k=p.1 then (k,y)::l else p::M7 k y l
def Ml(V:Int→Option Nd)(K:List (Int×Sn)):Prop:= ∀p∈K,MU V p.1 false p.2
theorem L1{k:Int}{y:Sn} : ∀{K:List (Int×Sn)},Gx k K=some y→(k,y)∈K
 | [],h=>by cases h
 | p :: l, h => by
  unfold Gx at h
  split at h
  ·grind
  exact List.mem_cons_of_mem _ (L1 h)
theorem L2{k:Int}{y:Sn}{q:Int×Sn} : ∀{K:List (Int×Sn)},q∈M7 k y K→q=(k,y)∨q∈K
 | [],h=>by simp[M7] at h;exact .inl h
 | p :: l, h => by
  unfold M7 at h
  split at h
  ·grind
  rcases List.mem_cons.1 h with h|h
  ·simp_all
  exact (L2 h).imp id (List.mem_cons_of_mem _)
theorem Ml.put{K:List (Int×Sn)}(h:Ml V K){k:Int}{y:Sn}(hy:MU V k false y):Ml V (M7 k y K):=fun p hp=>by
 rcases L2 hp with e|e
 ·simp_all
 exact h p e
theorem Ml.get{K:List (Int×Sn)}(h:Ml V K){k:Int}{y:Sn}(hy:Gx k K=some y):MU V k false y:=h _ (L1 hy)
def Qc(K:List (Int×Sn))(i:Nat):Bool:=K.any fun p=>p.1==(i:Int)
theorem OC(k:Int)(y:Sn)(i:Nat): ∀K,Qc (M7 k y K) i=(Qc K i||k==(i:Int))
 | []=>by simp[Qc,M7]
 | p :: l => by
  unfold M7
  split
  ·next e=>
   simp only[Qc,List.any_cons,e]
   cases (p.1==(i:Int))<;>cases (l.any fun p=>p.1==(i:Int))<;>rfl
  have:=OC k y i l
  simp only[Qc,List.any_cons] at this⊢
  grind
theorem Lz{k:Int} : ∀{K:List (Int×Sn)}{i:Nat},Gx k K=none→(i:Int)=k→Qc K i=false
 | [],i,_,_=>rfl
 | p :: l, i, h, e => by
  unfold Gx at h
  split at h
  ·grind
  next hn=>
  simp only[Qc,List.any_cons,Bool.or_eq_false_iff]
  exact ⟨by rw[beq_eq_false_iff_ne];intro c;exact hn (by rw[c,e]),Lz h e⟩
theorem Ng{α:Type}{p q:α→Bool}{a:α} : ∀{l:List α},(∀x∈l,q x=true→p x=true)→a∈l→p a=true→q a=false→(l.filter q).length+1≤(l.filter p).length
 | [],_,h,_,_=>by cases h
 | x :: l, hq, ha, h1, b => by
  have c:(l.filter q).length≤(l.filter p).length:=by
   clear ha h1 b
   induction l with
   |nil=>simp
   |cons y l d=>grind
  rcases List.mem_cons.1 ha with e|e
  · simp_all
  have d:=Ng (fun x hx=>hq x (List.mem_cons_of_mem _ hx)) e h1 b
  grind
def fr(N:Nat)(K:List (Int×Sn)):Nat:=((List.range N).filter fun i=>!Qc K i).length
theorem k'{N:Nat}{K:List (Int×Sn)}{k:Int}{y:Sn}(h:Gx k K=none)(h0:0≤k)(h1:k<N):fr N (M7 k y K)+1≤fr N K:=by
 refine Ng (a:=k.toNat) (fun x _ hx=>?_) (List.mem_range.2 (by omega)) ?_ ?_
 ·simp_all[OC]
 ·rw[Lz h (by omega)];rfl
 grind [OC]
theorem gJ(N:Nat)(K:List (Int×Sn)):fr N K≤N:=by grind [fr]
end Go.Tr
namespace Go.Proofs.YtfhbmblbidcmmaaGreat
open Go.Tr Go.Sl
def bX(y:Sn):List Value:= .int .i64 y.h:: .int .i64 y.count::(Dq y.first++Dq y.last)
def WZ(y:Sn):Value:= .agg #[.int .i64 y.h,.int .i64 y.count,.int .i64 y.first.src,.int .i64 y.first.pos,.int .i64 y.first.len,.int .i64 y.first.lines,.int .i64 y.last.src,.int .i64 y.last.pos,.int .i64 y.last.len,.int .i64 y.last.lines]
def kn(K:List (Int×Sn)):List (Int×Value):=K.map fun p=>(p.1,WZ p.2)
theorem Oh(k:Int): ∀K,Cq k (kn K)=(Gx k K).map WZ
 | []=>rfl
 | p :: l => by
  show (if k=p.1 then some (WZ p.2) else Cq k (kn l))=_
  unfold Gx
  split
  ·rfl
  exact Oh k l
theorem Sj(k:Int)(y:Sn): ∀K,CT k (WZ y) (kn K)=kn (M7 k y K)
 | []=>rfl
 | p :: l => by
  show (if k=p.1 then (k,WZ y)::kn l else (p.1,WZ p.2)::CT k (WZ y) (kn l))=_
  unfold M7
  split
  ·rfl
  rw[Sj k y l];rfl
