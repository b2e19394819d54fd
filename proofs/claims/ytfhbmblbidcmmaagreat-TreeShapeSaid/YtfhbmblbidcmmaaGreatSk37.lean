/- treeShape holds for every input. No condition. (part 37) -/
import Derived.Test.YtfhbmblbidcmmaaGreatSk27
set_option linter.all false
open Go.Proofs.YtfhbmblbidcmmaaGreat
namespace Go.Tr
def JV(l:List Int)(L:Int):Int:=l.foldl (fun L x=>(if x<0 then-1099511627776 else L)+x) L
def M9(a L b:Int):Prop:=(0≤a∧L=a∧a≤b)∨(a= -1∧ -1099511627777≤L∧L≤ -1099511627776+b)
theorem X7{a L b x y:Int}(h:M9 a L b)(h1: -1≤x)(c:x≤y)(d:0≤y):M9 (Ed a x) ((if x<0 then-1099511627776 else L)+x) (b+y):=by grind [M9,Ed]
theorem Rg{α:Type}(d c:α→Int): ∀(l:List α){a L b:Int},M9 a L b→(∀e∈l,-1≤d e∧d e≤c e∧0≤c e)→M9 ((l.map d).foldl Ed a) (JV (l.map d) L) (b+(l.map c).sum)
 | [],a,L,b,h,_=>by simpa[JV] using h
 | e :: l, a, L, b, h, hl => by
  have h1:=hl e (List.mem_cons_self ..)
  have f:=Rg d c l (X7 h h1.1 h1.2.1 h1.2.2) fun e g=>hl e (List.mem_cons_of_mem _ g)
  rw[List.map_cons,List.foldl_cons,List.map_cons,List.sum_cons]
  rw[show b+(c e+(l.map c).sum)=b+c e+(l.map c).sum by omega]
  exact f
theorem X5{a L b:Int}(h:M9 a L b)(hb:b≤1048576):max L (-1)=a:=by grind [M9]
theorem X6(l:List Int)(x L:Int):JV (l++ [x]) L=(if x<0 then-1099511627776 else JV l L)+x:=by simp[JV,List.foldl_append]
def Gl(n:Nd):Int×Int×Int:=(Aa n.Ag+B7 n.kids,max (JV (n.kids.map (·.lines)) (JV (n.Ag.map (·.lines)) 0)) (-1),n.Ag.length+Be n.kids)
theorem TJ{n:Nd}(h:may n=true):Gl n=AS n:=by
 have hs:AS n=(Aa n.Ag+B7 n.kids,(n.kids.map (·.lines)).foldl Ed ((n.Ag.map (·.lines)).foldl Ed 0),n.Ag.length+Be n.kids):=by simp_all[AS]
 rw[hs]
 have h0:M9 0 0 0:= .inl ⟨by omega,rfl,by omega⟩
 have c: ∀e∈n.Ag,-1≤e.lines∧e.lines≤e.len∧0≤e.len:=by cases hl:n.leaf with
  |true=>intro e a;have:=DJ ((Cm h hl).2.1 e a);omega
  |false=>rw[(BB h hl).1];intro e a;cases a
 have d: ∀k∈n.kids,-1≤k.lines∧k.lines≤k.bytes∧0≤k.bytes:=by cases hl:n.leaf with
  |true=>rw[(Cm h hl).1];intro e a;cases a
  |false=>intro e a;have:=Dy ((BB h hl).2.1 e a);omega
 have hb:Aa n.Ag+B7 n.kids≤1048576:=by cases hl:n.leaf with
  |true=>rw[(Cm h hl).1];have:=(Cm h hl).2.2.2.2;have:B7 []=0:=rfl;omega
  |false=>rw[(BB h hl).1];have:=(BB h hl).2.2.2.2.1;have:Aa []=0:=rfl;omega
 have h1:=Rg (fun x:Kd=>x.lines) (fun x:Kd=>x.bytes) n.kids (Rg (fun x:Au=>x.lines) (fun x:Au=>x.len) n.Ag h0 c) d
 have b:=X5 h1 (by unfold Aa B7 at hb;omega)
 simp[Gl,b]
structure Eb (n:Nd):Prop where
 e:n.Ag.length≤12
 k:n.kids.length≤12
 es: ∀x∈n.Ag,0≤x.len∧x.len≤1048576∧ -1≤x.lines∧x.lines≤1048576
 ks: ∀x∈n.kids,0≤x.bytes∧x.bytes≤1048576∧ -1≤x.lines∧x.lines≤1048576∧0≤x.A4∧x.A4≤1048576
theorem Eb.zero:Eb GP:=⟨by simp[GP],by simp[GP],by simp[GP],by simp[GP]⟩
theorem Eb.of{n:Nd}(h:may n=true):Eb n:=by cases hl:n.leaf with
 | true =>
  obtain ⟨h1,a,c,b,d⟩:=Cm h hl
  refine ⟨b,by rw[h1];simp,fun x hx=>?_,by rw[h1];simp⟩
  have e:=C9.1 (a x hx)
  omega
 | false =>
  obtain ⟨h1,a,c,b,d,f⟩:=BB h hl
  refine ⟨by rw[h1];simp,b,by rw[h1];simp,fun x hx=>?_⟩
  have e:=Dy (a x hx)
  omega
theorem W8{α:Type}(a:α→Int){l:List α}{i:Nat}{x:α}(h:l[i]?=some x)(L:Int):JV ((l.take (i+1)).map a) L=(if a x<0 then-1099511627776 else JV ((l.take i).map a) L)+a x:=by
 rw[A9 h,List.map_append]
 exact X6 _ _ _
def Ax(a:List UInt8)(no:Int):Option Nd:=
 if no<1∨1048576≤no∨(a.length:Int)<256*no+256 then none else CR no ((a.drop (256*no.toNat)).take 256)
structure Lk where
 ok:Bool
 Am:Int
 Ag:List Au
 A7:List Int
def GO:Lk:=⟨false,0,[],[]⟩
variable (V:Int→Option Nd)
def Bz(p:Int):Nd:=(V p).getD GP
def IJ(x:Lk)(s:Int×Int×Int)(first:Bool)(k:Kd)(o:Lk):Option Lk:=
 if x.ok=false∨s.1≠k.bytes∨s.2.1≠k.lines∨s.2.2≠k.A4∨(first=false∧x.Am+1≠o.Am) then none
 else if 1024<(o.Ag++x.Ag).length then none
 else some ⟨true,x.Am+1,o.Ag++x.Ag,o.A7++x.A7⟩
def BS(bl:Int→Lk):List Kd→Bool→Lk→Lk
 | [],_,o=>o
 | k :: ks, first, o => match IJ (bl k.As) (Gl (Bz V k.As)) first k o with
  |none=>GO
  |some o'=>BS bl ks false o'
def Ba:Nat→Int→Bool→Lk
 |0,_,_=>GO
 | f + 1, no, top => match V no with
  |none=>GO
  |some n=>if top=false∧many n<4 then GO else BS V (fun p=>Ba f p false) n.kids true ⟨true,0,n.Ag,[no]⟩
def CM(root:Int):Lk:=
 if root=0 then ⟨true,0,[],[]⟩ else
  if (Ba V 13 root true).ok=false∨(join (Ba V 13 root true).Ag).length≠(Ba V 13 root true).Ag.length then GO else Ba V 13 root true
variable {V}
theorem Lx{x:Lk}{s:Int×Int×Int}{first:Bool}{k:Kd}{o o':Lk}(h:IJ x s first k o=some o'):x.ok=true∧s=(k.bytes,k.lines,k.A4)∧(first=false→x.Am+1=o.Am)∧(o.Ag++x.Ag).length≤1024∧o'=⟨true,x.Am+1,o.Ag++x.Ag,o.A7++x.A7⟩:=by
 unfold IJ at h
 grind
structure Pe (top:Bool) (f:Nat) (x:Lk):Prop where
 h0:0≤x.Am
 h1:x.Am≤f
 Ag:x.Ag.length≤1036
 A7:x.A7.length≤1+x.Ag.length
 low:top=false→x.ok=true→x.A7.length+1≤x.Ag.length
 may: ∀e∈x.Ag,Ah e=true
theorem Oe(top:Bool)(f:Nat):Pe top f GO:=⟨by simp[GO],by simp[GO],by simp[GO],by simp[GO],by simp[GO],by simp[GO]⟩
theorem TG{bl:Int→Lk}{f:Nat}(hb: ∀p,Pe false f (bl p)): ∀(ks:List Kd)(first:Bool)(o:Lk)(m:Nat),0≤o.Am→o.Am≤f+1→o.Ag.length≤1036→o.A7.length+m≤1+o.Ag.length→(∀e∈o.Ag,Ah e=true)→o.ok=true→Pe true (f+1) (BS V bl ks first o)∧((BS V bl ks first o).ok=true→(BS V bl ks first o).A7.length+(m+ks.length)≤1+(BS V bl ks first o).Ag.length)
 | [],_,o,m,h1,j,l,n,i,q=>⟨⟨h1,by exact_mod_cast j,l,by show o.A7.length≤1+o.Ag.length;omega,by simp,i⟩,fun _=>by simpa[BS] using n⟩
 | k :: ks, first, o, m, h1, j, l, n, i, q => by
  unfold BS
  cases hr:IJ (bl k.As) (Gl (Bz V k.As)) first k o with
  |none=>exact ⟨Oe _ _,fun h=>by simp[GO] at h⟩
  | some o' =>
   obtain ⟨a,b,c,d,rfl⟩:=Lx hr
   have g:=hb k.As
   have s:=g.low rfl a
   have:=TG hb ks false ⟨true,(bl k.As).Am+1,o.Ag++(bl k.As).Ag,o.A7++(bl k.As).A7⟩ (m+1) (by have:=g.h0;show 0≤(bl k.As).Am+1;omega) (by have:=g.h1;show (bl k.As).Am+1≤_;omega) (by show (o.Ag++(bl k.As).Ag).length≤1036;omega) (by simp only[List.length_append];omega) (fun e r=>(List.mem_append.1 r).elim (i e) (g.may e)) rfl
   grind
theorem FQ(c: ∀p n,V p=some n→may n=true): ∀(f:Nat)(p:Int)(top:Bool),Pe top f (Ba V f p top)
 |0,_,top=>Oe top 0
 | f + 1, p, top => by
  unfold Ba
  cases i:V p with
  |none=>exact Oe _ _
  | some n =>
   simp only
   split
   ·exact Oe _ _
   next h1=>
   have hm:=c p n i
   cases hl:n.leaf with
   | true =>
    obtain ⟨a,b,d,e,g⟩:=Cm hm hl
    rw[a]
    refine ⟨by simp[BS],by simp only[BS];omega,by simp only[BS];omega,by simp[BS],fun j _=>?_,b⟩
    simp only[BS,List.length_singleton]
    have: ¬many n<4:=fun h=>h1 ⟨j,h⟩
    unfold many at this
    grind
   | false =>
    obtain ⟨a,b,d,e,g,k⟩:=BB hm hl
    rw[a]
    have:=TG (V:=V) (fun q=>FQ c f q false) n.kids true ⟨true,0,[],[p]⟩ 0 (by simp) (by simp only;omega) (by simp) (by simp) (by simp) rfl
    refine ⟨this.1.h0,this.1.h1,this.1.Ag,this.1.A7,fun _ h=>?_,this.1.may⟩
    grind
theorem FE{a:List UInt8}{p:Int}{n:Nd}(h:Ax a p=some n):may n=true:=by
 unfold Ax at h
 split at h
 ·grind
 exact Ku h
end Go.Tr
open Go.Proofs.YtfhbmblbidcmmaaGreat
namespace Go.Tr
theorem SB(o:List Au)(x:Au):(A5 o x).length≤o.length+1:=by grind [A5,List.length_append,List.length_dropLast,List.length_singleton]
theorem S6: ∀(l o:List Au),(l.foldl A5 o).length≤o.length+l.length
 | [],o=>by simp
 | x :: l, o => by
  have h1:=S6 l (A5 o x)
  have a:=SB o x
  grind
theorem I9 : ∀(l o : List Au), AF o → (l.foldl A5 o).length = o.length + l.length → AF (o ++ l)
 | [],o,e,_=>by simpa using e
 | x :: l, o, e, h => by
  have h1:=S6 l (A5 o x)
  simp only[List.foldl_cons,List.length_cons] at h
  have d : A5 o x = o ++ [x] ∧ AF (o ++ [x]) := by
   unfold A5 at h h1⊢
   cases f:o.getLast? with
   |none=>rw[List.getLast?_eq_none_iff.1 f];exact ⟨rfl,trivial⟩
   | some a =>
    simp only at h h1⊢
    cases hm:meets a x with
    |true=>grind
    | false =>
     refine ⟨rfl,FZ e trivial fun c b g j hb=>?_⟩
     simp_all
  have i:=I9 l (o++ [x]) d.2 (by rw[←d.1,h,d.1];simp;omega)
  simp_all
theorem Fw{l:List Au} :(join l).length=l.length↔AF l:=
 ⟨fun h=>by have:=I9 l [] trivial (by simpa[join] using h);simpa using this,fun h=>by rw[Gt h]⟩
structure Sn where
 h:Int
 count:Int
 first:Au
 last:Au
def e0:Au:=⟨0,0,0,0⟩
def J0:Sn:=⟨0,0,e0,e0⟩
def FC(y:Sn)(s:Int×Int×Int)(first:Bool)(k:Kd)(x:Sn):Option Sn:=
 if s≠(k.bytes,k.lines,k.A4)∨(first=false∧(y.h+1≠x.h∨meets x.last y.first=true)) then none
 else if 1024<x.count+y.count then none
 else some ⟨if first then y.h+1 else x.h,x.count+y.count,if first then y.first else x.first,y.last⟩
variable (V:Int→Option Nd)
def DF(ch:Int→Option Sn):List Kd→Bool→Sn→Option Sn
 | [],_,x=>some x
 | k :: ks, first, x => match ch k.As with
  |none=>none
  | some y => match FC y (AS (Bz V k.As)) first k x with
   |none=>none
   |some a=>DF ch ks false a
def F8(ch:Int→Option Sn)(n:Nd)(top:Bool):Option Sn:=
 if top=false∧many n<4 then none
 else if n.leaf then (if (join n.Ag).length≠n.Ag.length then none else some ⟨0,n.Ag.length,n.Ag.headD e0,n.Ag.getLastD e0⟩)
 else DF V ch n.kids true J0
def Ee:Nat→Int→Bool→Option Sn
 |0,_,_=>none
 | f + 1, no, top => match V no with
  |none=>none
  |some n=>F8 V (fun p=>Ee f p false) n top
variable {V}
theorem FL{y:Sn}{s:Int×Int×Int}{first:Bool}{k:Kd}{x a:Sn}(h:FC y s first k x=some a):s=(k.bytes,k.lines,k.A4)∧(first=false→y.h+1=x.h∧meets x.last y.first=false)∧x.count+y.count≤1024∧a=⟨y.h+1,x.count+y.count,if first then y.first else x.first,y.last⟩:=by
 unfold FC at h
 grind
structure Pk (x:Sn) (l:List Au):Prop where
 ne:l≠ []
 join:AF l
 count:x.count=l.length
 first:l.head?=some x.first
 last:l.getLast?=some x.last
structure St (first:Bool) (x:Sn) (o:Lk):Prop where
 ok:o.ok=true
 one:first=true→o.Ag= []∧x.count=0
 more:first=false→Pk x o.Ag∧x.h=o.Am
theorem Qy{x:Lk}{s:Int×Int×Int}{first:Bool}{k:Kd}{o:Lk}(h1:x.ok=true)(a:s=(k.bytes,k.lines,k.A4))(b:first=false→x.Am+1=o.Am)(c:(o.Ag++x.Ag).length≤1024):IJ x s first k o=some ⟨true,x.Am+1,o.Ag++x.Ag,o.A7++x.A7⟩:=by
 unfold IJ
 simp_all
theorem l9{y:Sn}{s:Int×Int×Int}{first:Bool}{k:Kd}{x:Sn}(h1:s=(k.bytes,k.lines,k.A4))(b:first=false→y.h+1=x.h∧meets x.last y.first=false)(c:x.count+y.count≤1024): ∃a,FC y s first k x=some a:=by
 unfold FC
 simp_all
theorem Pk.two{x y:Sn}{l m:List Au}(h:Pk x l)(g:Pk y m)(hm:meets x.last y.first=false):Pk ⟨y.h+1,x.count+y.count,x.first,y.last⟩ (l++m):=by
 refine ⟨by simp[h.ne],FZ h.join g.join fun a b d c e=>?_,by simp[h.count,g.count],?_,?_⟩
 ·rw[h.last] at c
  have:=g.first
  simp_all
 ·simp[h.first]
 simp[g.last]
theorem Pk.len{x:Sn}{l:List Au}(h:Pk x l):1≤l.length:=List.length_pos_iff.2 h.ne
section
variable {ch:Int→Option Sn} {bl:Int→Lk}
structure RZ (V:Int→Option Nd) (ch:Int→Option Sn) (bl:Int→Lk) (p:Int):Prop where
 a: ∀y,ch p=some y→(bl p).ok=true∧(bl p).Am=y.h∧Pk y (bl p).Ag
 b:(bl p).ok=true→AF (bl p).Ag→ ∃y,ch p=some y
 sum:(bl p).ok=true→Gl (Bz V p)=AS (Bz V p)
 ne:(bl p).ok=true→(bl p).Ag≠ []
theorem W3{first:Bool}{k:Kd}{x g y:Sn}{o:Lk}(f:RZ V ch bl k.As)(hs:St first x o)(h1:ch k.As=some y)(i:FC y (AS (Bz V k.As)) first k x=some g): ∃o',IJ (bl k.As) (Gl (Bz V k.As)) first k o=some o'∧St false g o':=by
 obtain ⟨c,d,b⟩:=f.a y h1
 obtain ⟨c1,c2,c3,rfl⟩:=FL i
 have j:(o.Ag++(bl k.As).Ag).length≤1024:=by
  rw[List.length_append]
  have:=b.count
  cases first with
  |true=>rw[(hs.one rfl).1];have:=(hs.one rfl).2;simp;omega
  |false=>have:=(hs.more rfl).1.count;omega
 refine ⟨_,Qy c (by rw[f.sum c,c1]) (fun e=>by rw[d,(c2 e).1,(hs.more e).2]) j,rfl,fun e=>(Bool.noConfusion e),fun _=>⟨?_,by rw[d]⟩⟩
 cases first with
 | true =>
   rw[(hs.one rfl).1,List.nil_append]
   have:=(hs.one rfl).2
   exact ⟨b.ne,b.join,by simp only;rw[this,b.count];omega,b.first,b.last⟩
 |false=>exact (hs.more rfl).1.two b (c2 rfl).2
theorem y0{first:Bool}{k:Kd}{x:Sn}{o o':Lk}(c:RZ V ch bl k.As)(hs:St first x o)(h1:IJ (bl k.As) (Gl (Bz V k.As)) first k o=some o')(d:AF o'.Ag): ∃y j,ch k.As=some y∧FC y (AS (Bz V k.As)) first k x=some j:=by
 obtain ⟨c1,c2,c3,c4,rfl⟩:=Lx h1
 obtain ⟨y,hy⟩:=c.b c1 (AF.right d)
 obtain ⟨n,l,g⟩:=c.a y hy
 rw[List.length_append] at c4
 have p:=g.count
 have f:first=false→meets x.last y.first=false:=fun e=>by
  obtain ⟨b,B,m⟩: ∃b B,(bl k.As).Ag=b::B:=by cases hq:(bl k.As).Ag with
   |nil=>exact absurd hq (c.ne c1)
   |cons b B=>exact ⟨b,B,rfl⟩
  have i:=g.first
  rw[m] at i d
  cases i
  exact AF.meet d (hs.more e).1.last
 obtain ⟨j,hx⟩:=l9 (y:=y) (s:=AS (Bz V k.As)) (first:=first) (k:=k) (x:=x) (by rw[←c.sum c1,c2]) (fun e=>⟨by rw[←l,c3 e,(hs.more e).2],f e⟩) (by
  cases first with
  |true=>have:=(hs.one rfl).2;omega
  |false=>have:=(hs.more rfl).1.count;omega)
 simp_all
theorem K0: ∀(ks:List Kd)(first:Bool)(o:Lk),(BS V bl ks first o).ok=true→ ∃t,(BS V bl ks first o).Ag=o.Ag++t
 | [],_,o,_=>⟨[],by simp[BS]⟩
 | k :: ks, first, o, h => by
  unfold BS at h⊢
  cases hr:IJ (bl k.As) (Gl (Bz V k.As)) first k o with
  |none=>rw[hr] at h;simp[GO] at h
  | some o' =>
   rw[hr] at h
   obtain ⟨_,_,_,_,rfl⟩:=Lx hr
   obtain ⟨t,a⟩:=K0 ks false _ h
   simp_all
theorem SJ: ∀(ks:List Kd)(first:Bool)(x z:Sn)(o:Lk),(∀k∈ks,RZ V ch bl k.As)→St first x o→(ks≠ []∨first=false)→DF V ch ks first x=some z→St false z (BS V bl ks first o)
 | [],first,x,z,o,_,hs,h,a=>by
  have:first=false:=h.elim (fun e=>absurd rfl e) id
  subst this
  cases a
  exact hs
 | k :: ks, first, x, z, o, d, hs, _, a => by
   unfold DF at a
   cases b:ch k.As with
   |none=>rw[b] at a;cases a
   | some y =>
    rw[b] at a
    simp only at a
    cases hx:FC y (AS (Bz V k.As)) first k x with
    |none=>rw[hx] at a;cases a
    | some g =>
     rw[hx] at a
     obtain ⟨o',f,c⟩:=W3 (d k (List.mem_cons_self ..)) hs b hx
     unfold BS
     rw[f]
     exact SJ ks false g z o' (fun k h=>d k (List.mem_cons_of_mem _ h)) c (.inr rfl) a
theorem SI: ∀(ks:List Kd)(first:Bool)(x:Sn)(o:Lk),(∀k∈ks,RZ V ch bl k.As)→St first x o→(BS V bl ks first o).ok=true→AF (BS V bl ks first o).Ag→ ∃z,DF V ch ks first x=some z
 | [],first,x,o,_,_,_,_=>⟨x,rfl⟩
 | k :: ks, first, x, o, b, hs, h1, a => by
  unfold BS at h1 a
  cases hr:IJ (bl k.As) (Gl (Bz V k.As)) first k o with
  |none=>rw[hr] at h1;simp[GO] at h1
  | some o' =>
   rw[hr] at h1 a
   obtain ⟨t,f⟩:=K0 ks false o' h1
   have e:AF o'.Ag:=by rw[f] at a;exact a.left
   obtain ⟨y,g,hy,hx⟩:=y0 (b k (List.mem_cons_self ..)) hs hr e
   obtain ⟨j,d,c⟩:=W3 (b k (List.mem_cons_self ..)) hs hy hx
   rw[hr] at d
   cases d
   obtain ⟨z,i⟩:=SI ks false g o' (fun k h=>b k (List.mem_cons_of_mem _ h)) c h1 a
   unfold DF
   simp_all
end
theorem Yj{l:List Au}(h:l≠ [])(b:AF l):Pk ⟨0,l.length,l.headD e0,l.getLastD e0⟩ l:=by
 refine ⟨h,b,rfl,?_,?_⟩
 ·cases l with
  |nil=>exact absurd rfl h
  |cons a l=>rfl
 cases l with
 |nil=>exact absurd rfl h
 |cons a l=>rw[List.getLastD_eq_getLast?,List.getLast?_cons];rfl
theorem QV(l: ∀p n,V p=some n→may n=true): ∀(f:Nat)(p:Int)(top:Bool),
 (∀y,Ee V f p top=some y→(Ba V f p top).ok=true∧(Ba V f p top).Am=y.h∧Pk y (Ba V f p top).Ag)∧
 ((Ba V f p top).ok=true→(V p).isSome∧(Ba V f p top).Ag≠ []∧(AF (Ba V f p top).Ag→ ∃y,Ee V f p top=some y))
 |0,p,top=>⟨fun y h=>by simp[Ee] at h,fun h=>by simp[Ba,GO] at h⟩
 | f + 1, p, top => by
  unfold Ee Ba
  cases w:V p with
  |none=>exact ⟨fun y h=>by simp at h,fun h=>by simp[GO] at h⟩
  | some n =>
   simp only
   have hm:=l p n w
   have o: ∀q,RZ V (fun p=>Ee V f p false) (fun p=>Ba V f p false) q:=fun q=>by
    obtain ⟨b,c⟩:=QV l f q false
    refine ⟨b,fun h1 v=>(c h1).2.2 v,fun h=>?_,fun h=>(c h).2.1⟩
    obtain ⟨m,hq⟩:=Option.isSome_iff_exists.1 (c h).1
    unfold Bz
    rw[hq]
    exact TJ (l q m hq)
   unfold F8
   by_cases r:top=false∧many n<4
   · simp_all[GO]
   rw[if_neg r,if_neg r]
   cases hl:n.leaf with
   | true =>
     obtain ⟨b,c,i,s,u⟩:=Cm hm hl
     have a:=List.length_pos_iff.1 i
     rw[b]
     simp only[if_true,BS]
     refine ⟨fun y hy=>?_,fun _=>⟨rfl,a,fun d=>?_⟩⟩
     ·split at hy
      ·grind
      next d=>
      cases hy
      exact ⟨trivial,rfl,Yj a (Fw.1 (by simpa using d))⟩
     rw[if_neg (by rw[Fw.2 d];simp)]
     simp
   | false =>
     obtain ⟨b,c,i,s,u,x⟩:=BB hm hl
     have a:n.kids≠ []:=by intro e;rw[e] at i;simp at i
     rw[b]
     have hs:St true J0 ⟨true,0,[],[p]⟩:=⟨rfl,fun _=>⟨rfl,rfl⟩,fun e=>Bool.noConfusion e⟩
     refine ⟨fun y hy=>?_,fun h=>⟨rfl,?_,fun d=>SI n.kids true J0 _ (fun k _=>o k.As) hs h d⟩⟩
     ·have j:=SJ n.kids true J0 y _ (fun k _=>o k.As) hs (.inl a) hy
      exact ⟨j.ok,(j.more rfl).2.symm,(j.more rfl).1⟩
     cases g:n.kids with
     |nil=>exact absurd g a
     | cons k ks =>
      rw[g] at h
      unfold BS at h⊢
      cases hr:IJ (Ba V f k.As false) (Gl (Bz V k.As)) true k ⟨true,0,[],[p]⟩ with
      |none=>simp only[hr] at h;simp[GO] at h
      | some o' =>
       simp only[hr] at h⊢
       obtain ⟨t,z⟩:=K0 ks false o' h
       obtain ⟨c1,_,_,_,rfl⟩:=Lx hr
       have:=(o k.As).ne c1
       simp_all
theorem YL(f: ∀p n,V p=some n→may n=true){root:Int}(h0:root≠0):(CM V root).ok=true↔ ∃y,Ee V 13 root true=some y:=by
 obtain ⟨d,e⟩:=QV f 13 root true
 unfold CM
 rw[if_neg h0]
 constructor
 ·intro h
  split at h
  ·simp[GO] at h
  next h1=>
  simp only[not_or,Decidable.not_not] at h1
  exact (e h).2.2 (Fw.1 h1.2)
 rintro ⟨y,hy⟩
 obtain ⟨a,b,c⟩:=d y hy
 rw[if_neg (by rw[a,Fw.2 c.join];simp)]
 exact a
end Go.Tr
open Go.Proofs.YtfhbmblbidcmmaaGreat
namespace Go.Tr
variable {V:Int→Option Nd}
theorem Da(ch:Int→Option Sn)(k:Kd)(ks:List Kd)(first:Bool)(x:Sn):DF V ch (k::ks) first x=match ch k.As with
 |none=>none
 | some y => match FC y (AS (Bz V k.As)) first k x with
  |none=>none
  |some a=>DF V ch ks false a:=rfl
theorem Kh{ch ch':Int→Option Sn} : ∀(ks:List Kd)(first:Bool)(x z:Sn),(∀p y,ch p=some y→y.h+1=z.h→ch' p=some y)→DF V ch ks first x=some z→DF V ch' ks first x=some z∧(first=false→z.h=x.h)
 | [],first,x,z,_,h=>by cases h;exact ⟨rfl,fun _=>rfl⟩
 | k :: ks, first, x, z, b, h => by
  rw[Da] at h
  cases hy:ch k.As with
  |none=>rw[hy] at h;cases h
  | some y =>
   rw[hy] at h
   simp only at h
   cases hx:FC y (AS (Bz V k.As)) first k x with
   |none=>rw[hx] at h;cases h
   | some d =>
    rw[hx] at h
    simp only at h
    obtain ⟨h1,c⟩:=Kh ks false d z b h
    obtain ⟨c1,c2,c3,rfl⟩:=FL hx
    have a:=c rfl
    refine ⟨?_,fun e=>by rw[a,(c2 e).1]⟩
    rw[Da,b k.As y hy a.symm]
    simp only[hx]
    exact h1
theorem Mw{ch:Int→Option Sn}{k:Kd}{ks:List Kd}{first:Bool}{x z:Sn}(h:DF V ch (k::ks) first x=some z): ∃y,ch k.As=some y∧z.h=y.h+1:=by
 rw[Da] at h
 cases hy:ch k.As with
 |none=>rw[hy] at h;cases h
 | some y =>
  rw[hy] at h
  simp only at h
  cases hx:FC y (AS (Bz V k.As)) first k x with
  |none=>rw[hx] at h;cases h
  | some a =>
   rw[hx] at h
   obtain ⟨c1,c2,c3,rfl⟩:=FL hx
   exact ⟨y,rfl,(Kh (ch':=ch) ks false _ z (fun _ _ h _=>h) h).2 rfl⟩
theorem DV(e: ∀p n,V p=some n→may n=true): ∀(f:Nat)(p:Int)(top:Bool)(y:Sn),Ee V f p top=some y→0≤y.h∧y.h<f∧ ∀g:Nat,y.h<g→Ee V g p top=some y
 |0,p,top,y,h=>by simp[Ee] at h
 | f + 1, p, top, y, h => by
  unfold Ee at h
  cases d:V p with
  |none=>rw[d] at h;cases h
  | some n =>
   rw[d] at h
   simp only at h
   have hm:=e p n d
   have b: ∀g:Nat,Ee V (g+1) p top=F8 V (fun p=>Ee V g p false) n top:=fun g=>by
    show (match V p with|none=>none|some n=>F8 V (fun p=>Ee V g p false) n top)=_
    rw[d]
   unfold F8 at h b
   by_cases c:top=false∧many n<4
   · rw[if_pos c] at h;cases h
   rw[if_neg c] at h
   cases hl:n.leaf with
   | true =>
     rw[hl,if_pos rfl] at h
     split at h
     ·cases h
     next hj=>
     cases h
     refine ⟨by simp,by simp only;omega,fun g j=>?_⟩
     cases g with
     |zero=>simp at j
     |succ g=>rw[b,if_neg c,hl,if_pos rfl,if_neg hj]
   | false =>
     rw[hl,if_neg (by simp)] at h
     obtain ⟨o,r,i,s,t,u⟩:=BB hm hl
     cases a:n.kids with
     |nil=>rw[a] at i;simp at i
     | cons k ks =>
      rw[a] at h
      obtain ⟨m,hy1,v⟩:=Mw h
      obtain ⟨w,x,B⟩:=DV e f k.As false m hy1
      refine ⟨by omega,by omega,fun g j=>?_⟩
      cases g with
      |zero=>omega
      | succ g =>
       rw[b,if_neg c,hl,if_neg (by simp),a]
       exact (Kh (k::ks) true J0 y (fun q z hq l=>(DV e f q false z hq).2.2 g (by omega)) h).1
def Ms(V:Int→Option Nd)(p:Int)(top:Bool)(y:Sn):Prop:= ∃f,Ee V f p top=some y
theorem Ms.at(a: ∀p n,V p=some n→may n=true){p:Int}{top:Bool}{y:Sn}(h:Ms V p top y){f:Nat}(b:y.h<f):Ee V f p top=some y:=by
 obtain ⟨g,c⟩:=h
 exact (DV a g p top y c).2.2 f b
theorem Ms.of(a: ∀p n,V p=some n→may n=true){p:Int}{top:Bool}{y z:Sn}(h:Ms V p top y){f:Nat}(c:Ee V f p top=some z):z=y:=by
 obtain ⟨g,b⟩:=h
 have h1:=(DV a g p top y b).2.2 (max f g) (by have:=(DV a g p top y b).2.1;omega)
 have d:=(DV a f p top z c).2.2 (max f g) (by have:=(DV a f p top z c).2.1;omega)
 simp_all
theorem Ms.h0(a: ∀p n,V p=some n→may n=true){p:Int}{top:Bool}{y:Sn}(h:Ms V p top y):0≤y.h:=by
 obtain ⟨g,b⟩:=h
 exact (DV a g p top y b).1
theorem Ms.is{p:Int}{top:Bool}{y:Sn}(h:Ms V p top y): ∃n,V p=some n:=by
 obtain ⟨g,a⟩:=h
 cases g with
 |zero=>simp[Ee] at a
 | succ g =>
  unfold Ee at a
  cases b:V p with
  |none=>rw[b] at a;cases a
  |some n=>exact ⟨n,rfl⟩
structure U9 (V:Int→Option Nd) (f:Nat) (n:Nd) (j:Nat) (x:Sn):Prop where
 gL: ∃g0:Nat,∀g:Nat,g0≤g→DF V (fun p=>Ee V g p false) n.kids true J0=DF V (fun p=>Ee V g p false) (n.kids.drop j) (j==0) x
 eT:DF V (fun p=>Ee V f p false) n.kids true J0=none∨DF V (fun p=>Ee V f p false) n.kids true J0=DF V (fun p=>Ee V f p false) (n.kids.drop j) (j==0) x
theorem U9.zero(f:Nat)(n:Nd):U9 V f n 0 J0:=⟨⟨0,fun _ _=>rfl⟩,.inr rfl⟩
theorem U9.nil{f:Nat}{n:Nd}{j:Nat}{x:Sn}(h:U9 V f n j x)(e:DF V (fun p=>Ee V f p false) (n.kids.drop j) (j==0) x=none):DF V (fun p=>Ee V f p false) n.kids true J0=none:=h.eT.elim id fun g=>g.trans e
theorem KM{α:Type}{l:List α}{j:Nat}{k:α}(c:l[j]?=some k):l.drop j=k::l.drop (j+1):=by
 obtain ⟨a,b⟩:=List.getElem?_eq_some_iff.1 c
 rw[List.drop_eq_getElem_cons a,b]
theorem U9.fX{f:Nat}{n:Nd}{j:Nat}{x:Sn}{k:Kd}(h:U9 V f n j x)(a:n.kids[j]?=some k)(e:Ee V f k.As false=none):DF V (fun p=>Ee V f p false) n.kids true J0=none:=h.nil (by
 rw[KM a,Da,e])
theorem U9.cO(a: ∀p n,V p=some n→may n=true){f:Nat}{n:Nd}{j:Nat}{x y:Sn}{k:Kd}(h:U9 V f n j x)(c:n.kids[j]?=some k)(hy:Ms V k.As false y)(e:FC y (AS (Bz V k.As)) (j==0) k x=Option.none):DF V (fun p=>Ee V f p false) n.kids true J0=Option.none:=h.nil (by
 rw[KM c,Da]
 cases b:Ee V f k.As false with
 |none=>rfl
 | some z =>
  obtain rfl:=hy.of a b
  simp only[e])
theorem U9.next(a: ∀p n,V p=some n→may n=true){f:Nat}{n:Nd}{j:Nat}{x y l:Sn}{k:Kd}(h:U9 V f n j x)(i:n.kids[j]?=some k)(hy:Ms V k.As false y)(e:FC y (AS (Bz V k.As)) (j==0) k x=some l):U9 V f n (j+1) l:=by
 have d:((j+1==0)=false):=by simp
 refine ⟨?_,?_⟩
 ·obtain ⟨g0,o⟩:=h.gL
  obtain ⟨c,b⟩:=id hy
  refine ⟨max g0 c,fun g q=>?_⟩
  rw[o g (by omega),KM i,Da,hy.at a (show y.h<(g:Int) by have:=(DV a c _ _ _ b).2.1;omega)]
  simp only[e,d]
 rcases h.eT with h1|h1
 ·exact .inl h1
 rw[h1,KM i,Da]
 cases m:Ee V f k.As false with
 |none=>exact .inl rfl
 | some z =>
  obtain rfl:=hy.of a m
  simp only[e,d]
  exact .inr trivial
theorem U9.done{f:Nat}{n:Nd}{x:Sn}{p:Int}{top:Bool}(h:U9 V f n n.kids.length x)(hp:V p=some n)(hl:n.leaf=false)(a: ¬(top=false∧many n<4)):Ms V p top x:=by
 obtain ⟨g0,b⟩:=h.gL
 refine ⟨g0+1,?_⟩
 show (match V p with|none=>none|some n=>F8 V (fun p=>Ee V g0 p false) n top)=_
 rw[hp]
 simp only
 unfold F8
 rw[if_neg a,hl,if_neg (by simp),b g0 (Nat.le_refl _),List.drop_length]
 rfl
theorem NG{f:Nat}{p:Int}{top:Bool}{n:Nd}(hp:V p=some n)(hl:n.leaf=false)(h:DF V (fun p=>Ee V f p false) n.kids true J0=Option.none):Ee V (f+1) p top=Option.none:=by
 show (match V p with|none=>none|some n=>F8 V (fun p=>Ee V f p false) n top)=_
 simp[hp,F8,hl,h]
theorem Wl{f:Nat}{p:Int}{top:Bool}{n:Nd}(hp:V p=some n)(a:top=false∧many n<4):Ee V (f+1) p top=Option.none:=by
 show (match V p with|none=>none|some n=>F8 V (fun p=>Ee V f p false) n top)=_
 simp_all[F8]
theorem NF{f:Nat}{p:Int}{top:Bool}{n:Nd}(hp:V p=some n)(hl:n.leaf=true)(a: ¬(top=false∧many n<4)):Ee V (f+1) p top=if (join n.Ag).length≠n.Ag.length then Option.none else some ⟨0,n.Ag.length,n.Ag.headD e0,n.Ag.getLastD e0⟩:=by
 show (match V p with|none=>none|some n=>F8 V (fun p=>Ee V f p false) n top)=_
 unfold F8
 grind
theorem Sq{f:Nat}{p:Int}{top:Bool}(hp:V p=Option.none):Ee V f p top=Option.none:=by cases f with
 |zero=>rfl
 | succ f =>
  show (match V p with|none=>none|some n=>F8 V (fun p=>Ee V f p false) n top)=_
  grind
end Go.Tr
open Go.Proofs.YtfhbmblbidcmmaaGreat
namespace Go.Tr
variable {V:Int→Option Nd}
theorem Mv{ch:Int→Option Sn}(a: ∀p y,ch p=some y→1≤y.count): ∀(ks:List Kd)(first:Bool)(x z:Sn),DF V ch ks first x=some z→x.count+ks.length≤z.count
 | [],first,x,z,h=>by cases h;simp
 | k :: ks, first, x, z, h => by
  rw[Da] at h
  cases hy:ch k.As with
  |none=>rw[hy] at h;cases h
  | some y =>
   rw[hy] at h
   simp only at h
   cases hx:FC y (AS (Bz V k.As)) first k x with
   |none=>rw[hx] at h;cases h
   | some b =>
    rw[hx] at h
    have h1:=Mv a ks false b z h
    obtain ⟨c1,c2,c3,rfl⟩:=FL hx
    grind
theorem QU(c: ∀p n,V p=some n→may n=true): ∀(f:Nat)(p:Int)(top:Bool)(y:Sn),Ee V f p top=some y→1≤y.count∧y.h+1≤y.count
 |0,p,top,y,h=>by simp[Ee] at h
 | f + 1, p, top, y, h => by
  unfold Ee at h
  cases d:V p with
  |none=>rw[d] at h;cases h
  | some n =>
   rw[d] at h
   simp only at h
   have hm:=c p n d
   unfold F8 at h
   by_cases m:top=false∧many n<4
   ·simp_all
   rw[if_neg m] at h
   cases hl:n.leaf with
   | true =>
    obtain ⟨g,i,b,j,l⟩:=Cm hm hl
    grind
   | false =>
    rw[hl,if_neg (by simp)] at h
    obtain ⟨g,i,b,j,l,r⟩:=BB hm hl
    cases a:n.kids with
    |nil=>rw[a] at b;simp at b
    | cons k ks =>
     rw[a] at h b
     obtain ⟨e,hy1,t⟩:=Mw h
     rw[Da,hy1] at h
     simp only at h
     cases hx:FC e (AS (Bz V k.As)) true k J0 with
     |none=>rw[hx] at h;cases h
     | some o =>
      rw[hx] at h
      have h1:=Mv (fun q z hq=>(QU c f q false z hq).1) ks false o y h
      obtain ⟨c1,c2,c3,rfl⟩:=FL hx
      have s:=QU c f k.As false e hy1
      have e0:J0.count=0:=rfl
      grind
theorem N3{ch:Int→Option Sn} : ∀(ks:List Kd)(first:Bool)(x z:Sn),(ks= []→x.count≤1024)→DF V ch ks first x=some z→z.count≤1024
 | [],first,x,z,hx,h=>by cases h;exact hx rfl
 | k :: ks, first, x, z, _, h => by
  rw[Da] at h
  cases hy:ch k.As with
  |none=>rw[hy] at h;cases h
  | some y =>
   rw[hy] at h
   simp only at h
   cases hx:FC y (AS (Bz V k.As)) first k x with
   |none=>rw[hx] at h;cases h
   | some a =>
    rw[hx] at h
    obtain ⟨c1,c2,c3,rfl⟩:=FL hx
    exact N3 ks false _ z (fun _=>c3) h
theorem YK(c: ∀p n,V p=some n→may n=true){f:Nat}{p:Int}{top:Bool}{y:Sn}(h:Ee V f p top=some y):y.count≤1024:=by cases f with
 |zero=>simp[Ee] at h
 | succ f =>
  unfold Ee at h
  cases a:V p with
  |none=>rw[a] at h;cases h
  | some n =>
   rw[a] at h
   simp only at h
   unfold F8 at h
   by_cases b:top=false∧many n<4
   ·simp_all
   rw[if_neg b] at h
   cases hl:n.leaf with
   | true =>
    have:=(Cm (c p n a) hl).2.2.2.1
    grind
   | false =>
    rw[hl,if_neg (by simp)] at h
    exact N3 n.kids true J0 y (fun _=>by simp[J0]) h
structure fS (y:Sn):Prop where
 c1:1≤y.count
 c2:y.count≤1036
 h1:y.h+1≤y.count
 h0:0≤y.h
 first:Ah y.first=true
 last:Ah y.last=true
theorem Ms.low(g: ∀p n,V p=some n→may n=true){p:Int}{top:Bool}{y:Sn}(h:Ms V p top y):fS y:=by
 obtain ⟨f,j⟩:=id h
 obtain ⟨a,b⟩:=QU g f p top y j
 obtain ⟨c,d,e⟩:=(QV g f p top).1 y j
 have i:=FQ g f p top
 have h1:=e.count
 have k:=i.Ag
 exact ⟨a,by omega,b,h.h0 g,i.may _ (List.mem_of_mem_head? e.first),i.may _ (List.mem_of_getLast? e.last)⟩
def Fy(k:Int):List (Int×Sn)→Option Sn
 | []=>none
 |p::l=>if k=p.1 then some p.2 else Fy k l
def LS(k:Int)(y:Sn):List (Int×Sn)→List (Int×Sn)
 | []=> [(k,y)]
 |p::l=>if k=p.1 then (k,y)::l else p::LS k y l
def JU(V:Int→Option Nd)(K:List (Int×Sn)):Prop:= ∀p∈K,Ms V p.1 false p.2
theorem KX{k:Int}{y:Sn} : ∀{K:List (Int×Sn)},Fy k K=some y→(k,y)∈K
 | [],h=>by cases h
 | p :: l, h => by
  unfold Fy at h
  split at h
  ·grind
  exact List.mem_cons_of_mem _ (KX h)
theorem KY{k:Int}{y:Sn}{q:Int×Sn} : ∀{K:List (Int×Sn)},q∈LS k y K→q=(k,y)∨q∈K
 | [],h=>by simp[LS] at h;exact .inl h
 | p :: l, h => by
  unfold LS at h
  split at h
  ·grind
  rcases List.mem_cons.1 h with h|h
  ·simp_all
  exact (KY h).imp id (List.mem_cons_of_mem _)
theorem JU.put{K:List (Int×Sn)}(h:JU V K){k:Int}{y:Sn}(hy:Ms V k false y):JU V (LS k y K):=fun p hp=>by
 rcases KY hp with e|e
 ·simp_all
 exact h p e
theorem JU.get{K:List (Int×Sn)}(h:JU V K){k:Int}{y:Sn}(hy:Fy k K=some y):Ms V k false y:=h _ (KX hy)
def Ps(K:List (Int×Sn))(i:Nat):Bool:=K.any fun p=>p.1==(i:Int)
theorem NQ(k:Int)(y:Sn)(i:Nat): ∀K,Ps (LS k y K) i=(Ps K i||k==(i:Int))
 | []=>by simp[Ps,LS]
 | p :: l => by
  unfold LS
  split
  ·next e=>
   simp only[Ps,List.any_cons,e]
   cases (p.1==(i:Int))<;>cases (l.any fun p=>p.1==(i:Int))<;>rfl
  have:=NQ k y i l
  simp only[Ps,List.any_cons] at this⊢
  grind
theorem KV{k:Int} : ∀{K:List (Int×Sn)}{i:Nat},Fy k K=none→(i:Int)=k→Ps K i=false
 | [],i,_,_=>rfl
 | p :: l, i, h, e => by
  unfold Fy at h
  split at h
  ·grind
  next hn=>
  simp only[Ps,List.any_cons,Bool.or_eq_false_iff]
  exact ⟨by rw[beq_eq_false_iff_ne];intro c;exact hn (by rw[c,e]),KV h e⟩
theorem M3{α:Type}{p q:α→Bool}{a:α} : ∀{l:List α},(∀x∈l,q x=true→p x=true)→a∈l→p a=true→q a=false→(l.filter q).length+1≤(l.filter p).length
 | [],_,h,_,_=>by cases h
 | x :: l, hq, ha, h1, b => by
  have c:(l.filter q).length≤(l.filter p).length:=by
   clear ha h1 b
   induction l with
   |nil=>simp
   |cons y l d=>grind
  rcases List.mem_cons.1 ha with e|e
  · simp_all
  have d:=M3 (fun x hx=>hq x (List.mem_cons_of_mem _ hx)) e h1 b
  grind
def fr(N:Nat)(K:List (Int×Sn)):Nat:=((List.range N).filter fun i=>!Ps K i).length
theorem Zc{N:Nat}{K:List (Int×Sn)}{k:Int}{y:Sn}(h:Fy k K=none)(h0:0≤k)(h1:k<N):fr N (LS k y K)+1≤fr N K:=by
 refine M3 (a:=k.toNat) (fun x _ hx=>?_) (List.mem_range.2 (by omega)) ?_ ?_
 ·simp_all[NQ]
 ·rw[KV h (by omega)];rfl
 grind [NQ]
theorem bW(N:Nat)(K:List (Int×Sn)):fr N K≤N:=by grind [fr]
end Go.Tr
namespace Go.Proofs.YtfhbmblbidcmmaaGreat
open Go.Tr Go.Sl
def J'(y:Sn):List Value:= .int .i64 y.h:: .int .i64 y.count::(Cx y.first++Cx y.last)
def VI(y:Sn):Value:= .agg #[.int .i64 y.h,.int .i64 y.count,.int .i64 y.first.src,.int .i64 y.first.pos,.int .i64 y.first.len,.int .i64 y.first.lines,.int .i64 y.last.src,.int .i64 y.last.pos,.int .i64 y.last.len,.int .i64 y.last.lines]
def kn(K:List (Int×Sn)):List (Int×Value):=K.map fun p=>(p.1,VI p.2)
theorem Ng(k:Int): ∀K,CK k (kn K)=(Fy k K).map VI
 | []=>rfl
 | p :: l => by
  show (if k=p.1 then some (VI p.2) else CK k (kn l))=_
  unfold Fy
  split
  ·rfl
  exact Ng k l
theorem Ro(k:Int)(y:Sn): ∀K,EO k (VI y) (kn K)=kn (LS k y K)
 | []=>rfl
 | p :: l => by
  show (if k=p.1 then (k,VI y)::kn l else (p.1,VI p.2)::EO k (VI y) (kn l))=_
  unfold LS
  split
  ·rfl
  rw[Ro k y l];rfl
end Go.Proofs.YtfhbmblbidcmmaaGreat
namespace Go.Proofs.YtfhbmblbidcmmaaGreat
open Go.Dk Go.Tr
class EZ where
 n:Nat
 le:n≤1048576
variable [EZ]
def Wf:Nat:=EZ.n
theorem LF:Wf≤1048576:=EZ.le
theorem Has.uniq{s:Ck}{k:Int}{b c:List UInt8}(h1:Has s k b)(a:Has s k c):b=c:=by
 unfold Has BU at h1 a
 grind
def EY(s:TS)(p:Int)(n:Nd):Prop:=p∈s.sp.used∧ ∃b,Has s.ck p b∧CR p b=some n
theorem EY.uniq{s:TS}{p:Int}{n m:Nd}(h1:EY s p n)(a:EY s p m):n=m:=by
 obtain ⟨_,b,hb,e⟩:=h1
 obtain ⟨_,c,d,f⟩:=a
 obtain rfl:=hb.uniq d
 simp_all
open Classical in
noncomputable def nodeAt(s:TS)(p:Int):Option Nd:=if h: ∃n,EY s p n then some h.choose else none
theorem Fi{s:TS}{p:Int}{n:Nd} :nodeAt s p=some n↔EY s p n:=by
 unfold nodeAt
 split
 ·rename_i h
  constructor
  ·grind
  intro hs;rw[h.choose_spec.uniq hs]
 simp_all
theorem FO{s s':TS}(h: ∀p n,EY s p n→EY s' p n):Le (nodeAt s) (nodeAt s'):=fun p n e=>Fi.2 (h p n (Fi.1 e))
def Cn(s:Sp):Nat:=Wf-s.AO.toNat-s.used.length-s.waiting.length
def AL(s:TS):Nat:=(B8-s.ops)/2
structure Fs (roomy:Bool) (s:TS):Prop where
 ts:Pa s
 Bk:Good Wf s.ck
 res:1≤s.sp.AO
 used: ∀p∈s.sp.used,s.sp.AO≤p∧p<Wf
 roomy:roomy=true→Roomy Wf s.ck
noncomputable def o8(roomy:Bool):Env TS where
 rd:=Ai
 wt:=Ak
 V:=nodeAt
 inv:=Fs roomy
 reads s:=s.ck.reads.toNat
 room s:=Cn s.sp
 left:=AL
 bad e:=roomy=false∧e=7
theorem KA{s:TS}{no:Int}{p:Int}{n:Nd}(h:EY s p n){a:Ck}{o:Nat}(e: ∀k b,Has s.ck k b→Has a k b):EY ⟨a,s.sp,o⟩ p n:=by
 obtain ⟨h1,b,c,d⟩:=h
 exact ⟨h1,b,e _ _ c,d⟩
theorem Qc{s:Sp} : ∀{k:Nat}{no:Int},s.least k no=none→ ∀y,no≤y→y<no+k→s.busy y=true
 |0,no,_,y,h1,a=>by omega
 | k + 1, no, h, y, h1, a => by
  unfold Sp.least at h
  cases hb:s.busy no with
  | true =>
   rw[hb,if_pos rfl] at h
   by_cases e:y=no
   ·simp_all
   exact Qc h y (by omega) (by omega)
  |false=>rw[hb,if_neg (by simp)] at h;cases h
theorem Xu{s:Sp}(h:s.free=none):Cn s=0:=by
 have h1:=Qc h
 have d:((List.range (1048576-s.AO).toNat).map fun i:Nat=>s.AO+i).Nodup:=by
  refine List.Pairwise.map _ (fun a b e=>?_) List.nodup_range
  omega
 have c:((List.range (1048576-s.AO).toNat).map fun i:Nat=>s.AO+i)⊆s.used++s.waiting:=by
  intro y hy
  obtain ⟨i,hi,rfl⟩:=List.mem_map.1 hy
  have hi:=List.mem_range.1 hi
  have:=h1 (s.AO+i) (by omega) (by omega)
  simp_all[Sp.busy]
 have hl:=List.Nodup.length_le_of_subset d c
 have:=LF
 grind [Cn]
theorem Zd{s:Sp}{no:Int}(h:s.free=some no)(hr:0<Cn s):no<Wf:=by
 obtain ⟨j,k,l,n4⟩:=Sp.Ih h
 rcases Int.lt_or_le no Wf with g|g
 · exact g
 exfalso
 have f:((List.range ((Wf:Int)-s.AO).toNat).map fun i:Nat=>s.AO+i).Nodup:=by
  refine List.Pairwise.map _ (fun a b d=>?_) List.nodup_range
  intro e
  exact d (by omega)
 have c:((List.range ((Wf:Int)-s.AO).toNat).map fun i:Nat=>s.AO+i)⊆s.used++s.waiting:=by
  intro y hy
  obtain ⟨i,hi,rfl⟩:=List.mem_map.1 hy
  have hi:=List.mem_range.1 hi
  have:=n4 (s.AO+i) (by omega) (by omega)
  unfold Sp.busy at this
  simpa using this
 have hl:=List.Nodup.length_le_of_subset f c
 simp only[List.length_map,List.length_range,List.length_append] at hl
 unfold Cn at hr
 omega
theorem eW(r:Bool)(s:TS)(p:Int)(n:Nd)(d:Fs r s)(o:nodeAt s p=some n):Step (o8 r) s 1 0 (Ai p) (fun m s'=>m=n):=by
 obtain ⟨v,b,hb,u⟩:=Fi.1 o
 obtain ⟨y,z⟩:=d.used p v
 have w:=d.res
 have B:=LF
 right
 by_cases i:s.ops<B8
 · obtain ⟨m,hm⟩:=d.ts.ck
   have g:=KT (no:=p) hm d.Bk (by omega) (by omega)
   have j:=d.ts.get p i
   have t:=(US hm p).2
   have f: ∀q x,EY s q x→EY ⟨(s.ck.get p).2.2,s.sp,s.ops+2⟩ q x:=fun q x h=>KA (no:=p) h g.has
   have e:Fs r ⟨(s.ck.get p).2.2,s.sp,s.ops+2⟩:=⟨j,g.Bk,d.res,d.used,fun h=>(g.roomy (d.roomy h)).2⟩
   have a:(s.ck.get p).2.2.reads.toNat≤s.ck.reads.toNat+1:=by omega
   have c:AL s≤AL ⟨(s.ck.get p).2.2,s.sp,s.ops+2⟩+1:=by unfold AL;simp only;omega
   rw[Ht i]
   rcases g.fJ b hb with k|⟨e0,l⟩
   ·rw[if_neg (by omega),if_neg (by omega)]
    refine ⟨.inl ⟨?_,k⟩,e,FO f,a,c⟩
    cases hr:r with
    |false=>rfl
    |true=>exact absurd k (g.roomy (d.roomy hr)).1
   rw[if_pos e0,l,u]
   exact ⟨e,FO f,a,Nat.le_add_right _ _,c,rfl⟩
 have:Ai p s= .bad:=by
  unfold Ai M.bind Rk
  rw[if_neg i]
  rfl
 rw[this]
 show AL s<1
 simp_all[AL]
theorem fF(r:Bool)(s:TS)(n:Nd)(i:Fs r s)(hm:may n=true):Step (o8 r) s 0 1 (Ak n) (fun k s'=>k=IZ k.As n∧1≤k.As∧k.As<1048576∧nodeAt s' k.As=some n):=by
 obtain ⟨kind,body,H,Y,y,O⟩:=Rs hm
 unfold Step
 by_cases Q:Cn s.sp<1
 · exact .inl Q
 right
 by_cases L:s.ops<B8
 · have hr:Ak n s=M.bind IA (fun t=>M.bind (EU (if t.2=9 then 7 else t.2)) fun _=>M.bind (EU (Bt t.1 kind body).2) fun _=>M.bind (XE t.1 (Bt t.1 kind body).1) fun e=>M.bind (EU e) fun _=>M.pure ⟨t.1,(AS n).1,(AS n).2.1,(AS n).2.2⟩) s:=by
    simp[Ak,H]
   have l:=i.ts.take L
   cases z:s.sp.free with
   | none =>
     have J:s.sp.take=((0,9),s.sp):=by unfold Sp.take;rw[z]
     have u:Ak n s= .fault 7 ⟨s.ck,s.sp,s.ops+1⟩:=by
      rw[hr]
      unfold M.bind IA
      rw[if_pos L,J]
      rfl
     rw[u]
     rw[J] at l
     refine ⟨.inr ?_,⟨l,i.Bk,i.res,i.used,i.roomy⟩,FO fun q x h=>KA (no:=0) h (fun _ _ h=>h),Nat.le_refl _,?_⟩
     · show Cn s.sp<1
       rw[Xu z]
       simp
     show AL s≤AL ⟨s.ck,s.sp,s.ops+1⟩+(0+1)
     grind [AL]
   | some no =>
     obtain ⟨X,n2,R,_⟩:=Sp.Ih z
     have u0:=i.res
     obtain ⟨m,rfl⟩: ∃m:Nat,no=m:=⟨no.toNat,by omega⟩
     have B:=Zd z (by omega)
     have G:(m:Int)<1048576:=by have:=LF;omega
     have P:Bt (m:Int) kind body=(AU m kind body,0):=by grind [Bt]
     have v:s.sp.take=(((m:Int),0), { s.sp with used:=s.sp.used++ [(m:Int)],taken:=s.sp.taken++ [(m:Int)] }):=by unfold Sp.take;rw[z]
     obtain ⟨d,a⟩: ∃x:Sp,x= { s.sp with used:=s.sp.used++ [(m:Int)],taken:=s.sp.taken++ [(m:Int)] } :=⟨_,rfl⟩
     rw[←a] at v
     rw[v] at l
     have u:Ak n s=if (s.ck.put m (AU m kind body)).1=0 then .ok ⟨m,(AS n).1,(AS n).2.1,(AS n).2.2⟩ ⟨(s.ck.put m (AU m kind body)).2,d,s.ops+2⟩ else .fault (s.ck.put m (AU m kind body)).1 ⟨(s.ck.put m (AU m kind body)).2,d,s.ops+2⟩:=by
      rw[hr]
      unfold M.bind IA XE
      rw[if_pos L,v]
      simp only[EX.bind,show¬((0:Int)=9) by omega,if_false,P,EU,if_true,M.pure]
      by_cases h0:(s.ck.put m (AU m kind body)).1=0<;>simp[h0,M.fail,M.pure,EX.bind]
     rw[u]
     obtain ⟨Z,D⟩:=i.ts.ck
     have g:=ZP (no:=(m:Int)) (c:=AU m kind body) D i.Bk (by omega) G (by omega) (Ir m kind y)
     have K:=l.put m (AU m kind body) (by show s.ops+1≤_;omega)
     have W:=(Vx D m (AU m kind body)).2
     have I: ∀q x,EY s q x→EY ⟨(s.ck.put m (AU m kind body)).2,d,s.ops+2⟩ q x:=fun q x ⟨h1,b,T,U⟩=>by
      have hq:q≠(m:Int):=by
       rintro rfl
       unfold Sp.busy at R
       simp at R
       exact R.1 h1
      exact ⟨by rw[a];exact List.mem_append_left _ h1,b,g.has _ _ (.inl hq) T,U⟩
     have w: ∀p∈d.used,d.AO≤p∧p<Wf:=by
      rw[a]
      intro p hp
      rcases List.mem_append.1 hp with hp|hp
      · exact i.used p hp
      simp at hp;subst hp;exact ⟨X,B⟩
     have o:Fs r ⟨(s.ck.put m (AU m kind body)).2,d,s.ops+2⟩:=⟨K,g.Bk,by rw[a];exact i.res,w,fun h=>(g.roomy (i.roomy h)).2⟩
     have j:AL s≤AL ⟨(s.ck.put m (AU m kind body)).2,d,s.ops+2⟩+(0+1):=by unfold AL;simp only;omega
     have f:(s.ck.put m (AU m kind body)).2.reads.toNat≤s.ck.reads.toNat+0:=by omega
     by_cases h0:(s.ck.put m (AU m kind body)).1=0
     · rw[if_pos h0]
       refine ⟨o,FO I,f,?_,j,rfl,by show (1:Int)≤m;omega,G,?_⟩
       · show Cn s.sp≤Cn d+1
         rw[a]
         unfold Cn
         simp only[List.length_append,List.length_cons,List.length_nil]
         omega
       refine Fi.2 ⟨by rw[a];simp,AU m kind body,g.put h0,?_⟩
       unfold CR
       rw[Qt (by omega) (by omega) y]
       simp only[if_true,O]
     rw[if_neg h0]
     refine ⟨.inl ⟨?_,(g.code.resolve_left h0)⟩,o,FO I,f,j⟩
     cases hr:r with
     |false=>rfl
     |true=>exact absurd (g.roomy (i.roomy hr)).1 h0
 have:Ak n s= .bad:=by
  unfold Ak M.bind IA
  rw[H,if_neg (by simp),if_neg L]
  rfl
 rw[this]
 show AL s<0+1
 unfold AL
 omega
theorem KO(r:Bool):(o8 r).Ok:=⟨eW r,fF r⟩
