/- treeShape holds for every input. No condition. (part 40) -/
import Derived.Test.YtfhbmblbidcmmaaGreatSk36
import Derived.Test.YtfhbmblbidcmmaaGreatSk39
set_option linter.all false
namespace Go.Tr
variable {V:Int→Option Nd}
def Pt(V:Int→Option Nd):Nat→Int→List Int→Prop
 |0=>fun no ps=>(∃n,V no=some n∧n.kids= [])∧ps= [no]
 |h+1=>fun no ps=> ∃(n:Nd)(a:List (List Int)),V no=some n∧n.kids≠ []∧F2 (fun(k:Kd) pl=>Pt V h k.As pl) n.kids a∧ps=no::a.flatten
theorem F2.eq{α β:Type}{R R':α→β→Prop}(e: ∀a b c,R a b→R' a c→b=c): ∀{l:List α}{m m':List β},F2 R l m→F2 R' l m'→m=m'
 | [],[],[],_,_=>rfl
 |a::l,b::m,c::m',h,d=>by rw[e a b c h.1 d.1,F2.eq e h.2 d.2]
 | [],_::_,_,h,_=>h.elim
 | [],[],_::_,_,h=>h.elim
 |_::_,[],_,h,_=>h.elim
 |_::_,_::_,[],_,h=>h.elim
theorem F2.mem{α β:Type}{R:α→β→Prop} : ∀{l:List α}{m:List β},F2 R l m→ ∀b∈m,∃a∈l,R a b
 | [],[],_,b,h=>by cases h
 | a :: l, c :: m, h, b, hb => by
  rcases List.mem_cons.1 hb with rfl|hb
  ·exact ⟨a,List.mem_cons_self,h.1⟩
  obtain ⟨x,hx,hr⟩:=F2.mem h.2 b hb
  grind
 | [],_::_,h,_,_=>h.elim
 |_::_,[],h,_,_=>h.elim
theorem Pt.uniq : ∀{h j : Nat}{no : Int}{ps l : List Int}, Pt V h no ps → Pt V j no l → h = j ∧ ps = l
 |0,0,_,_,_,⟨_,e⟩,⟨_,e'⟩=>⟨rfl,by rw[e,e']⟩
 |0,j+1,_,_,_,⟨⟨n,a,b⟩,_⟩,⟨m,g,c,d,_⟩=>by simp_all
 |h+1,0,_,_,_,⟨m,g,c,d,_⟩,⟨⟨n,a,b⟩,_⟩=>by simp_all
 | h + 1, j + 1, _, _, _, ⟨m, g, c, d, f, e⟩, ⟨m', i, q, d', o, e'⟩ => by
  rw[c] at q;cases q
  have t : h = j := by cases r : m.kids with
   |nil=>exact absurd r d
   | cons k ks =>
    rw[r] at f o
    cases g with
    |nil=>exact f.elim
    | cons p g => cases i with
     |nil=>exact o.elim
     |cons u i=>exact (Pt.uniq f.1 o.1).1
  subst t
  have:=F2.eq (R:=fun(k:Kd) pl=>Pt V h k.As pl) (R':=fun(k:Kd) pl=>Pt V h k.As pl) (fun a b c h1 s=>(Pt.uniq h1 s).2) f o
  simp_all
theorem Pt.self{h:Nat}{no:Int}{ps:List Int}(hp:Pt V h no ps):no∈ps:=by cases h with
 |zero=>rw[hp.2];exact List.mem_singleton.2 rfl
 |succ h=>obtain ⟨_,_,_,_,_,e⟩:=hp;rw[e];exact List.mem_cons_self
theorem Pt.node{h:Nat}{no:Int}{ps:List Int}(hp:Pt V h no ps): ∃n,V no=some n:=by cases h with
 |zero=>exact ⟨_,hp.1.choose_spec.1⟩
 |succ h=>obtain ⟨n,_,e,_⟩:=hp;exact ⟨n,e⟩
theorem Pt.mem: ∀{h:Nat}{no:Int}{ps:List Int},Pt V h no ps→ ∀x∈ps,∃d c,d≤h∧Pt V d x c
 | 0, no, ps, hp, x, hx => by
  have e:=hp.2
  grind
 | h + 1, no, ps, hp, x, hx => by
  obtain ⟨n,j,a,b,f,e⟩:=id hp
  rw[e] at hx
  rcases List.mem_cons.1 hx with rfl|hx
  ·grind
  obtain ⟨pl,g,hx⟩:=List.mem_flatten.1 hx
  obtain ⟨k,_,i⟩:=f.mem pl g
  obtain ⟨d,c,h1,l⟩:=Pt.mem i x hx
  grind
theorem Pt.DT{h:Nat}{no:Int}{n:Nd}{a:List (List Int)}(f:F2 (fun(k:Kd) pl=>Pt V h k.As pl) n.kids a): ∀x∈a.flatten,∃d c,d≤h∧Pt V d x c:=fun x hx=>by
 obtain ⟨pl,b,hx⟩:=List.mem_flatten.1 hx
 obtain ⟨k,_,e⟩:=f.mem pl b
 exact Pt.mem e x hx
def bS(V:Int→Option Nd)(h:Nat)(l:List Int):Prop:= ∀p∈l,∀a ps,a≤h→Pt V a p ps→ ∀x∈ps,x∈l
theorem bS.nil(h:Nat):bS V h []:=fun p hp=>by cases hp
open Go.Proofs.YtfhbmblbidcmmaaGreat
variable [EZ]
structure cT (V:Int→Option Nd) (h m:Nat) (ps l:List Int) (s:TS) (l':List Int) (s':TS):Prop where
 i7:GC V m s'
 sp:s'.sp=s.sp
 dk:s'.ck.d=s.ck.d
 more: ∀x∈l,x∈l'
 all: ∀x∈ps,x∈l'
 Zl: ∀x∈l',x∈l∨x∈ps
 len:l'.length≤l.length+ps.length
 gG:bS V h l'
theorem SH{V:Int→Option Nd}{f h:Nat}(d: ∀(no:Int)(ps l:List Int)(m:Nat)(s:TS),Pt V h no ps→GC V (m+ps.length) s→bS V h l→l.length+ps.length≤1048577→ ∃l' s',BF Ai f no l s= .ok l' s'∧cT V h m ps l s l' s'):
 ∀(ks:List Kd)(a:List (List Int))(l:List Int)(m:Nat)(s:TS),F2 (fun(k:Kd) pl=>Pt V h k.As pl) ks a→GC V (m+a.flatten.length) s→bS V h l→l.length+a.flatten.length≤1048577→
  ∃l' s',Gv (BF Ai f) ks l s= .ok l' s'∧cT V h m a.flatten l s l' s'
 | [],[],l,m,s,_,hr,hw,_=>⟨l,s,rfl,hr.less (by simp),rfl,rfl,fun x h=>h,by simp,fun x h=> .inl h,by simp,hw⟩
 | k :: ks, p :: a, l, m, s, e, hr, hw, hl => by
   rw[List.flatten_cons,List.length_append] at hr hl
   obtain ⟨l1,s1,g,b⟩:=d k.As p l (m+a.flatten.length) s e.1 (by rw[show m+a.flatten.length+p.length=m+(p.length+a.flatten.length) by omega];exact hr) hw (by omega)
   obtain ⟨l2,s2,i,c⟩:=SH d ks a l1 m s1 e.2 b.i7 b.gG (by have:=b.len;omega)
   refine ⟨l2,s2,?_,c.i7,c.sp.trans b.sp,c.dk.trans b.dk,fun x hx=>c.more x (b.more x hx),fun x hx=>?_,fun x hx=>?_,?_,c.gG⟩
   ·show M.bind (BF Ai f k.As l) (Gv (BF Ai f) ks) s=_
    unfold M.bind
    rw[g]
    exact i
   ·rw[List.flatten_cons] at hx
    rcases List.mem_append.1 hx with hx|hx
    ·exact c.more x (b.all x hx)
    exact c.all x hx
   ·rw[List.flatten_cons]
    rcases c.Zl x hx with hx|hx
    ·rcases b.Zl x hx with hx|hx
     ·simp_all
     simp_all
    simp_all
   have:=b.len
   have:=c.len
   grind
 | [],_::_,_,_,_,h,_,_,_=>h.elim
 |_::_,[],_,_,_,h,_,_,_=>h.elim
theorem O3{V:Int→Option Nd}(D: ∀p n,V p=some n→1≤p∧p<1048576): ∀(f h:Nat)(no:Int)(ps l:List Int)(m:Nat)(s:TS),h<f→Pt V h no ps→GC V (m+ps.length) s→bS V h l→l.length+ps.length≤1048577→
 ∃l' s',BF Ai f no l s= .ok l' s'∧cT V h m ps l s l' s'
 |0,h,_,_,_,_,_,G,_,_,_,_=>absurd G (by omega)
 | f + 1, h, no, ps, l, m, s, G, hp, hr, hw, hl => by
  have k:=hp.self
  obtain ⟨n,r⟩:=hp.node
  obtain ⟨O,b2⟩:=D no n r
  have H:=List.length_pos_of_mem k
  obtain ⟨s1,r1,o,i,B⟩:=(show GC V ((m+ps.length-1)+1) s by rw[show m+ps.length-1+1=m+ps.length by omega];exact hr).read (p:=no) (by omega)
  rw[r] at B
  have e:BF Ai (f+1) no l s=(if l.contains no=true then M.pure l else if 1048576<l.length∨no<0∨1099511627776≤no then (fun _=> .bad) else Gv (BF Ai f) n.kids (l++ [no])) s1:=by
   conv=>lhs;unfold BF M.bind
   rw[B]
   rfl
  by_cases t:l.contains no=true
  · have u:no∈l:=by simpa using t
    refine ⟨l,s1,by rw[e,if_pos t];rfl,r1.less (by omega),o,i,fun x h=>h,hw no u h ps (Nat.le_refl _) hp,fun x h=> .inl h,by omega,hw⟩
  rw[if_neg t,if_neg (by omega)] at e
  cases h with
  | zero =>
    obtain ⟨⟨n',q,y⟩,rfl⟩:=hp
    rw[r] at q;cases q
    rw[y] at e
    refine ⟨l++ [no],s1,e,r1.less (by simp),o,i,fun x h=>List.mem_append_left _ h,fun x h=>List.mem_append_right _ h,fun x h=>List.mem_append.1 h,by simp,fun p a g c j b x hx=>?_⟩
    rcases List.mem_append.1 a with a|a
    · exact List.mem_append_left _ (hw p a g c j b x hx)
    obtain rfl:g=0:=by omega
    rw[b.2,List.mem_singleton] at hx
    simp_all
  | succ h =>
    obtain ⟨n',w,q,y,z,rfl⟩:=id hp
    rw[r] at q;cases q
    rw[List.length_cons] at hr hl r1
    have hw1:bS V h (l++ [no]):=fun p a g c j b x hx=>by
     rcases List.mem_append.1 a with a|a
     · exact List.mem_append_left _ (hw p a g c (by omega) b x hx)
     rw[List.mem_singleton.1 a] at b
     have:=(b.uniq hp).1
     omega
    obtain ⟨l2,s2,I,d⟩:=SH (f:=f) (h:=h) (fun no ps l m s hp hr hw hl=>O3 D f h no ps l m s (by omega) hp hr hw hl) n.kids w (l++ [no]) m s1 z (r1.less (by omega)) hw1 (by rw[List.length_append,List.length_singleton];omega)
    refine ⟨l2,s2,by rw[e];exact I,d.i7,d.sp.trans o,d.dk.trans i,fun x h=>d.more x (List.mem_append_left _ h),fun x hx=>?_,fun x hx=>?_,?_,fun p a g c j b x hx=>?_⟩
    · rcases List.mem_cons.1 hx with rfl|hx
      · exact d.more _ (List.mem_append_right _ (List.mem_singleton.2 rfl))
      exact d.all x hx
    · rcases d.Zl x hx with hx|hx
      · grind
      simp_all
    · have:=d.len
      grind
    rcases Nat.lt_or_ge h g with K|v
    · obtain rfl:g=h+1:=by omega
      rcases d.Zl p a with a|a
      · rcases List.mem_append.1 a with a|a
        ·exact d.more x (List.mem_append_left _ (hw p a _ c (Nat.le_refl _) b x hx))
        rw[List.mem_singleton.1 a] at b
        rw[(b.uniq hp).2] at hx
        rcases List.mem_cons.1 hx with rfl|hx
        ·simp_all
        exact d.all x hx
      obtain ⟨P,L,Q,J⟩:=Pt.DT (no:=no) z p a
      have:=(b.uniq J).1
      omega
    exact d.gG p a g c v b x hx
end Go.Tr
namespace Go.Tr
variable {V:Int→Option Nd}
theorem TH{bl:Int→Lk}(hb: ∀p,(bl p).ok=true→ ∃h:Nat,(bl p).Am=h∧Pt V h p (bl p).A7): ∀(ks:List Kd)(first:Bool)(o:Lk),(BS V bl ks first o).ok=true→
 (first=false∨ks= []→(BS V bl ks first o).Am=o.Am)∧ ∃e,(BS V bl ks first o).A7=o.A7++e.flatten∧F2 (fun(k:Kd) pl=> ∃h:Nat,(h:Int)+1=(BS V bl ks first o).Am∧(bl k.As).ok=true∧(bl k.As).Am=h∧Pt V h k.As pl) ks e
 | [],first,o,h=>⟨fun _=>rfl,[],by simp[BS],trivial⟩
 | k :: ks, first, o, h => by
  unfold BS at h⊢
  cases hr:IJ (bl k.As) (Gl (Bz V k.As)) first k o with
  |none=>rw[hr] at h;simp[GO] at h
  | some o' =>
   rw[hr] at h
   obtain ⟨a,b,c,d,rfl⟩:=Lx hr
   obtain ⟨g,e,i,j⟩:=TH hb ks false _ h
   have l:=g (.inl rfl)
   obtain ⟨q,f,m⟩:=hb k.As a
   refine ⟨fun hx=>?_,(bl k.As).A7::e,by rw[i,List.flatten_cons,List.append_assoc],⟨q,by rw[l,←f],a,f,m⟩,j⟩
   simp_all
theorem Me(g: ∀p n,V p=some n→may n=true): ∀(f:Nat)(no:Int)(top:Bool),(Ba V f no top).ok=true→ ∃h:Nat,h<f∧(Ba V f no top).Am=h∧Pt V h no (Ba V f no top).A7
 |0,no,top,h=>by simp[Ba,GO] at h
 | f + 1, no, top, h => by
  unfold Ba at h⊢
  cases d:V no with
  |none=>rw[d] at h;simp[GO] at h
  | some n =>
   rw[d] at h
   simp only at h⊢
   by_cases o:top=false∧many n<4
   ·simp_all[GO]
   rw[if_neg o] at h⊢
   obtain ⟨r,a,m,b⟩:=TH (V:=V) (bl:=fun p=>Ba V f p false) (fun p hp=>by obtain ⟨q,i,e,l⟩:=Me g f p false hp;exact ⟨q,e,l⟩) n.kids true _ h
   cases c:n.kids with
   |nil=>exact ⟨0,by omega,rfl,⟨n,d,c⟩,rfl⟩
   | cons k ks =>
    rw[c] at m b h
    cases a with
    |nil=>exact b.elim
    | cons pl a =>
     obtain ⟨⟨q,i,e,l,v⟩,_⟩:=id b
     obtain ⟨u,w,x,_⟩:=Me g f k.As false e
     refine ⟨q+1,by omega,by rw[←i];omega,n,pl::a,d,by rw[c];simp,?_,?_⟩
     ·rw[c]
      exact b.mono fun k pl ⟨j,s,_,_,t⟩=>by grind
     simp_all
theorem aS{V:Int→Option Nd}{k:Kd}{n:Nd}(h1:V k.As=some n)(a:may n=true)(b:k=IZ k.As n):Gl (Bz V k.As)=(k.bytes,k.lines,k.A4):=by
 unfold Bz
 rw[h1]
 show Gl n=_
 rw[TJ a]
 conv=>rhs;rw[b]
 rfl
theorem Sub.head{v:Int→Option Nd}{h lo hi:Nat}{k:Kd}{l:List Au}(hs:Sub v h lo hi k l): ∃n,v k.As=some n∧may n=true∧k=IZ k.As n:=by cases h with
 |zero=>exact ⟨_,hs.1,hs.2.1,hs.2.2.2.2.1⟩
 |succ h=>obtain ⟨ks,ls,h1,a,c,d,b,e⟩:=hs;exact ⟨_,h1,a,b⟩
theorem Up{v V:Int→Option Nd}{h f:Nat}(hb: ∀(k:Kd)(l:List Au),Sub v h 4 12 k l→ ∃ps,Ba V f k.As false=⟨true,h,l,ps⟩∧ ∀p∈ps,(v p).isSome)(i:Le v V):
 ∀(ks:List Kd)(ls:List (List Au))(first:Bool)(a:Int)(es:List Au)(c:List Int),F2 (Sub v h 4 12) ks ls→(first=false→a=h+1)→(ks= []→a=h+1)→(es++ls.flatten).length≤1024→
  ∃ps,BS V (fun p=>Ba V f p false) ks first ⟨true,a,es,c⟩=⟨true,h+1,es++ls.flatten,c++ps⟩∧ ∀p∈ps,(v p).isSome
 | [],[],first,a,es,c,_,_,d,_=>⟨[],by rw[d rfl];simp[BS],by simp⟩
 | k :: ks, l :: ls, first, a, es, c, hs, d, _, hl => by
   obtain ⟨g,j,t⟩:=hb k l hs.1
   obtain ⟨n,m,o,q⟩:=hs.1.head
   have b:=aS (i _ _ m) o q
   rw[List.flatten_cons] at hl⊢
   obtain ⟨r,s,u⟩:=Up hb i ks ls false ((h:Int)+1) (es++l) (c++g) hs.2 (fun _=>rfl) (fun _=>rfl) (by rw[List.append_assoc];exact hl)
   unfold BS
   rw[j,b,Qy rfl rfl (fun e=>by show (h:Int)+1=a;rw[d e]) (by show (es++l).length≤1024;rw[←List.append_assoc,List.length_append] at hl;omega)]
   grind
 | [],_::_,_,_,_,_,h,_,_,_=>h.elim
 |_::_,[],_,_,_,_,h,_,_,_=>h.elim
theorem QC{v V:Int→Option Nd}(b:Le v V): ∀(h f:Nat)(top:Bool)(lo hi:Nat)(k:Kd)(l:List Au),h<f→(top=false→4≤lo)→Sub v h lo hi k l→ ∃ps,Ba V f k.As top=⟨true,h,l,ps⟩∧ ∀p∈ps,(v p).isSome
 |_,0,_,_,_,_,_,c,_,_=>absurd c (by omega)
 | 0, f + 1, top, lo, hi, k, l, c, i, hs => by
  obtain ⟨h1,d,j,m,n,o,q⟩:=hs
  refine ⟨[k.As],?_,fun p hp=>by rw[List.mem_singleton.1 hp,h1];rfl⟩
  unfold Ba
  rw[b _ _ h1]
  grind [many,BS]
 | h + 1, f + 1, top, lo, hi, k, l, c, i, hs => by
  have a:=hs.Cp.fit.2.2
  obtain ⟨ks,ls,h1,d,j,m,n,o,q,r,g⟩:=hs
  obtain ⟨m1,t,m3,u,w,x⟩:=BB d rfl
  obtain ⟨ps,e,hp⟩:=Up (v:=v) (V:=V) (f:=f) (h:=h) (fun k l hs=>QC b h f false 4 12 k l (by omega) (fun _=>by omega) hs) b ks ls true 0 [] [k.As] r (fun e=>Bool.noConfusion e) (fun e=>by rw[e] at m3;simp at m3) (by rw[List.nil_append,←g];exact a)
  refine ⟨k.As::ps,?_,fun p s=>?_⟩
  ·unfold Ba
   rw[b _ _ h1]
   simp only
   rw[if_neg (fun hx=>by have:=i hx.1;have:=hx.2;unfold many at this;simp at this;omega),e,g]
   rfl
  grind
theorem bD{v V:Int→Option Nd}(d:Le v V){r:Int}{l:List Au}(h:Rt v r l)(c:AF l):(CM V r).ok=true∧(CM V r).Ag=l∧ ∀p∈(CM V r).A7,(v p).isSome:=by
 by_cases h0:r=0
 ·unfold CM
  rw[if_pos h0]
  refine ⟨rfl,?_,by simp⟩
  rcases h with ⟨_,rfl⟩|⟨b,k,e,hs⟩
  ·rfl
  exfalso
  obtain ⟨n,f,g,i⟩:=hs.head
  have:=Dy hs.Cp.may
  omega
 rcases h with ⟨e,_⟩|⟨b,k,e,hs⟩
 ·exact absurd e h0
 have:=hs.low
 obtain ⟨ps,a,hp⟩:=QC d b 13 true 1 12 k l (by omega) (fun e=>Bool.noConfusion e) hs
 rw[e] at a
 unfold CM
 rw[if_neg h0,a]
 simp only
 rw[if_neg (by rw[Fw.2 c];simp)]
 exact ⟨rfl,rfl,hp⟩
theorem ZR(a: ∀p n,V p=some n→may n=true)(r:Int):Pe true 13 (CM V r):=by
 unfold CM
 split
 ·exact ⟨by simp,by simp,by simp,by simp,by simp,by simp⟩
 split
 ·exact Oe _ _
 exact FQ a 13 r true
theorem bL(b: ∀p n,V p=some n→may n=true){r:Int}(h0:r≠0)(h:(CM V r).ok=true): ∃c:Nat,c<13∧Pt V c r (CM V r).A7∧(CM V r).A7.length≤1037:=by
 unfold CM at h⊢
 rw[if_neg h0] at h⊢
 split at h
 ·simp[GO] at h
 next h1=>
 rw[if_neg h1]
 obtain ⟨q,d,f,e⟩:=Me b 13 r true h
 have a:=FQ b 13 r true
 have:=a.A7
 have:=a.Ag
 exact ⟨q,d,e,by omega⟩
open Go.Proofs.YtfhbmblbidcmmaaGreat
variable [EZ]
