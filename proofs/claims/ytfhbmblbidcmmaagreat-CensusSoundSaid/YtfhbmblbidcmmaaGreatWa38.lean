/- censusSound holds for every input. No condition. (part 38) -/
import Derived.Test.YtfhbmblbidcmmaaGreatWa34
import Derived.Test.YtfhbmblbidcmmaaGreatWa37
set_option linter.all false
set_option maxHeartbeats 4000000
namespace Go.Tr
variable {V:Int→Option Nd}
def Pt(V:Int→Option Nd):Nat→Int→List Int→Prop
 |0=>fun no ps=>(∃n,V no=some n∧n.kids= [])∧ps= [no]
 |h+1=>fun no ps=> ∃(n:Nd)(a:List (List Int)),V no=some n∧n.kids≠ []∧F2 (fun(k:Kd) pl=>Pt V h k.Au pl) n.kids a∧ps=no::a.flatten
theorem F2.eq{α β:Type}{R R':α→β→Prop}(f: ∀a b c,R a b→R' a c→b=c): ∀{l:List α}{m m':List β},F2 R l m→F2 R' l m'→m=m'
 | [],[],[],_,_=>rfl
 |a::l,b::m,c::m',h,e=>by rw[f a b c h.1 e.1,F2.eq f h.2 e.2]
 | [],_::_,_,h,_=>h.elim
 | [],[],_::_,_,h=>h.elim
 |_::_,[],_,h,_=>h.elim
 |_::_,_::_,[],_,h=>h.elim
theorem F2.mem{α β:Type}{R:α→β→Prop} : ∀{l:List α}{m:List β},F2 R l m→ ∀b∈m,∃a∈l,R a b
 | [],[],_,b,h=>by cases h
 | a :: l, c :: m, h, b, hb => by
  rcases List.mem_cons.1 hb with rfl|hb
  ·exact ⟨a,List.mem_cons_self,h.1⟩
  obtain ⟨x,hx,hr⟩:=F2.mem h.2 b hb
  grind
 | [],_::_,h,_,_=>h.elim
 |_::_,[],h,_,_=>h.elim
theorem Pt.uniq : ∀{h j : Nat}{no : Int}{ps l : List Int}, Pt V h no ps → Pt V j no l → h = j ∧ ps = l
 |0,0,_,_,_,⟨_,e⟩,⟨_,e'⟩=>⟨rfl,by rw[e,e']⟩
 |0,j+1,_,_,_,⟨⟨n,a,b⟩,_⟩,⟨m,g,c,d,_⟩=>by simp_all
 |h+1,0,_,_,_,⟨m,g,c,d,_⟩,⟨⟨n,a,b⟩,_⟩=>by simp_all
 | h + 1, j + 1, _, _, _, ⟨m, g, c, d, f, e⟩, ⟨m', i, q, d', o, e'⟩ => by
  rw[c] at q;cases q
  have u : h = j := by cases r : m.kids with
   |nil=>exact absurd r d
   | cons k ks =>
    rw[r] at f o
    cases g with
    |nil=>exact f.elim
    | cons p g => cases i with
     |nil=>exact o.elim
     |cons v i=>exact (Pt.uniq f.1 o.1).1
  subst u
  have:=F2.eq (R:=fun(k:Kd) pl=>Pt V h k.Au pl) (R':=fun(k:Kd) pl=>Pt V h k.Au pl) (fun a b c h1 s=>(Pt.uniq h1 s).2) f o
  simp_all
theorem Pt.self{h:Nat}{no:Int}{ps:List Int}(hp:Pt V h no ps):no∈ps:=by cases h with
 |zero=>rw[hp.2];exact List.mem_singleton.2 rfl
 |succ h=>obtain ⟨_,_,_,_,_,e⟩:=hp;rw[e];exact List.mem_cons_self
theorem Pt.node{h:Nat}{no:Int}{ps:List Int}(hp:Pt V h no ps): ∃n,V no=some n:=by cases h with
 |zero=>exact ⟨_,hp.1.choose_spec.1⟩
 |succ h=>obtain ⟨n,_,e,_⟩:=hp;exact ⟨n,e⟩
theorem Pt.mem: ∀{h:Nat}{no:Int}{ps:List Int},Pt V h no ps→ ∀x∈ps,∃g c,g≤h∧Pt V g x c
 | 0, no, ps, hp, x, hx => by
  have e:=hp.2
  grind
 | h + 1, no, ps, hp, x, hx => by
  obtain ⟨n,l,a,b,f,e⟩:=id hp
  rw[e] at hx
  rcases List.mem_cons.1 hx with rfl|hx
  ·grind
  obtain ⟨pl,i,hx⟩:=List.mem_flatten.1 hx
  obtain ⟨k,_,j⟩:=f.mem pl i
  obtain ⟨g,c,h1,m⟩:=Pt.mem j x hx
  grind
theorem Pt.ER{h:Nat}{no:Int}{n:Nd}{a:List (List Int)}(f:F2 (fun(k:Kd) pl=>Pt V h k.Au pl) n.kids a): ∀x∈a.flatten,∃e c,e≤h∧Pt V e x c:=fun x hx=>by
 obtain ⟨pl,b,hx⟩:=List.mem_flatten.1 hx
 obtain ⟨k,_,g⟩:=f.mem pl b
 exact Pt.mem g x hx
def gE(V:Int→Option Nd)(h:Nat)(l:List Int):Prop:= ∀p∈l,∀a ps,a≤h→Pt V a p ps→ ∀x∈ps,x∈l
theorem gE.nil(h:Nat):gE V h []:=fun p hp=>by cases hp
open Go.Proofs.YtfhbmblbidcmmaaGreat
variable [Em]
structure hS (V:Int→Option Nd) (h m:Nat) (ps l:List Int) (s:TS) (l':List Int) (s':TS):Prop where
 Qi:D2 V m s'
 sp:s'.sp=s.sp
 dk:s'.ck.d=s.ck.d
 more: ∀x∈l,x∈l'
 all: ∀x∈ps,x∈l'
 n7: ∀x∈l',x∈l∨x∈ps
 len:l'.length≤l.length+ps.length
 mR:gE V h l'
theorem TN{V:Int→Option Nd}{f h:Nat}(e: ∀(no:Int)(ps l:List Int)(m:Nat)(s:TS),Pt V h no ps→D2 V (m+ps.length) s→gE V h l→l.length+ps.length≤1048577→ ∃l' s',Bl Ak f no l s= .ok l' s'∧hS V h m ps l s l' s'):
 ∀(ks:List Kd)(a:List (List Int))(l:List Int)(m:Nat)(s:TS),F2 (fun(k:Kd) pl=>Pt V h k.Au pl) ks a→D2 V (m+a.flatten.length) s→gE V h l→l.length+a.flatten.length≤1048577→
  ∃l' s',F7 (Bl Ak f) ks l s= .ok l' s'∧hS V h m a.flatten l s l' s'
 | [],[],l,m,s,_,hr,hw,_=>⟨l,s,rfl,hr.less (by simp),rfl,rfl,fun x h=>h,by simp,fun x h=> .inl h,by simp,hw⟩
 | k :: ks, p :: a, l, m, s, g, hr, hw, hl => by
   rw[List.flatten_cons,List.length_append] at hr hl
   obtain ⟨l1,s1,i,b⟩:=e k.Au p l (m+a.flatten.length) s g.1 (by rw[show m+a.flatten.length+p.length=m+(p.length+a.flatten.length) by omega];exact hr) hw (by omega)
   obtain ⟨l2,s2,j,c⟩:=TN e ks a l1 m s1 g.2 b.Qi b.mR (by have:=b.len;omega)
   refine ⟨l2,s2,?_,c.Qi,c.sp.trans b.sp,c.dk.trans b.dk,fun x hx=>c.more x (b.more x hx),fun x hx=>?_,fun x hx=>?_,?_,c.mR⟩
   ·show M.bind (Bl Ak f k.Au l) (F7 (Bl Ak f) ks) s=_
    unfold M.bind
    rw[i]
    exact j
   ·rw[List.flatten_cons] at hx
    rcases List.mem_append.1 hx with hx|hx
    ·exact c.more x (b.all x hx)
    exact c.all x hx
   ·rw[List.flatten_cons]
    rcases c.n7 x hx with hx|hx
    ·rcases b.n7 x hx with hx|hx
     ·simp_all
     simp_all
    simp_all
   have:=b.len
   have:=c.len
   grind
 | [],_::_,_,_,_,h,_,_,_=>h.elim
 |_::_,[],_,_,_,h,_,_,_=>h.elim
theorem Pu{V:Int→Option Nd}(J: ∀p n,V p=some n→1≤p∧p<1048576): ∀(f h:Nat)(no:Int)(ps l:List Int)(m:Nat)(s:TS),h<f→Pt V h no ps→D2 V (m+ps.length) s→gE V h l→l.length+ps.length≤1048577→
 ∃l' s',Bl Ak f no l s= .ok l' s'∧hS V h m ps l s l' s'
 |0,h,_,_,_,_,_,K,_,_,_,_=>absurd K (by omega)
 | f + 1, h, no, ps, l, m, s, K, hp, hr, hw, hl => by
  have o:=hp.self
  obtain ⟨n,u⟩:=hp.node
  obtain ⟨U,b2⟩:=J no n u
  have L:=List.length_pos_of_mem o
  obtain ⟨s1,r1,q,j,I⟩:=(show D2 V ((m+ps.length-1)+1) s by rw[show m+ps.length-1+1=m+ps.length by omega];exact hr).read (p:=no) (by omega)
  rw[u] at I
  have g:Bl Ak (f+1) no l s=(if l.contains no=true then M.pure l else if 1048576<l.length∨no<0∨1099511627776≤no then (fun _=> .bad) else F7 (Bl Ak f) n.kids (l++ [no])) s1:=by
   conv=>lhs;unfold Bl M.bind
   rw[I]
   rfl
  by_cases v:l.contains no=true
  · have y:no∈l:=by simpa using v
    refine ⟨l,s1,by rw[g,if_pos v];rfl,r1.less (by omega),q,j,fun x h=>h,hw no y h ps (Nat.le_refl _) hp,fun x h=> .inl h,by omega,hw⟩
  rw[if_neg v,if_neg (by omega)] at g
  cases h with
  | zero =>
    obtain ⟨⟨n',r,G⟩,rfl⟩:=hp
    rw[u] at r;cases r
    rw[G] at g
    refine ⟨l++ [no],s1,g,r1.less (by simp),q,j,fun x h=>List.mem_append_left _ h,fun x h=>List.mem_append_right _ h,fun x h=>List.mem_append.1 h,by simp,fun p a i c k b x hx=>?_⟩
    rcases List.mem_append.1 a with a|a
    · exact List.mem_append_left _ (hw p a i c k b x hx)
    obtain rfl:i=0:=by omega
    rw[b.2,List.mem_singleton] at hx
    simp_all
  | succ h =>
    obtain ⟨n',D,r,G,H,rfl⟩:=id hp
    rw[u] at r;cases r
    rw[List.length_cons] at hr hl r1
    have hw1:gE V h (l++ [no]):=fun p a i c k b x hx=>by
     rcases List.mem_append.1 a with a|a
     · exact List.mem_append_left _ (hw p a i c (by omega) b x hx)
     rw[List.mem_singleton.1 a] at b
     have:=(b.uniq hp).1
     omega
    obtain ⟨l2,s2,O,e⟩:=TN (f:=f) (h:=h) (fun no ps l m s hp hr hw hl=>Pu J f h no ps l m s (by omega) hp hr hw hl) n.kids D (l++ [no]) m s1 H (r1.less (by omega)) hw1 (by rw[List.length_append,List.length_singleton];omega)
    refine ⟨l2,s2,by rw[g];exact O,e.Qi,e.sp.trans q,e.dk.trans j,fun x h=>e.more x (List.mem_append_left _ h),fun x hx=>?_,fun x hx=>?_,?_,fun p a i c k b x hx=>?_⟩
    · rcases List.mem_cons.1 hx with rfl|hx
      · exact e.more _ (List.mem_append_right _ (List.mem_singleton.2 rfl))
      exact e.all x hx
    · rcases e.n7 x hx with hx|hx
      · grind
      simp_all
    · have:=e.len
      grind
    rcases Nat.lt_or_ge h i with R|B
    · obtain rfl:i=h+1:=by omega
      rcases e.n7 p a with a|a
      · rcases List.mem_append.1 a with a|a
        ·exact e.more x (List.mem_append_left _ (hw p a _ c (Nat.le_refl _) b x hx))
        rw[List.mem_singleton.1 a] at b
        rw[(b.uniq hp).2] at hx
        rcases List.mem_cons.1 hx with rfl|hx
        ·simp_all
        exact e.all x hx
      obtain ⟨W,T,X,Q⟩:=Pt.ER (no:=no) H p a
      have:=(b.uniq Q).1
      omega
    exact e.mR p a i c B b x hx
end Go.Tr
namespace Go.Tr
variable {V:Int→Option Nd}
theorem UH{bl:Int→Lk}(hb: ∀p,(bl p).ok=true→ ∃h:Nat,(bl p).Al=h∧Pt V h p (bl p).A7): ∀(ks:List Kd)(first:Bool)(o:Lk),(B6 V bl ks first o).ok=true→
 (first=false∨ks= []→(B6 V bl ks first o).Al=o.Al)∧ ∃e,(B6 V bl ks first o).A7=o.A7++e.flatten∧F2 (fun(k:Kd) pl=> ∃h:Nat,(h:Int)+1=(B6 V bl ks first o).Al∧(bl k.Au).ok=true∧(bl k.Au).Al=h∧Pt V h k.Au pl) ks e
 | [],first,o,h=>⟨fun _=>rfl,[],by simp[B6],trivial⟩
 | k :: ks, first, o, h => by
  unfold B6 at h⊢
  cases hr:GV (bl k.Au) (GW (BA V k.Au)) first k o with
  |none=>rw[hr] at h;simp[Fh] at h
  | some o' =>
   rw[hr] at h
   obtain ⟨a,b,c,d,rfl⟩:=GK hr
   obtain ⟨g,e,i,j⟩:=UH hb ks false _ h
   have l:=g (.inl rfl)
   obtain ⟨q,f,m⟩:=hb k.Au a
   refine ⟨fun hx=>?_,(bl k.Au).A7::e,by rw[i,List.flatten_cons,List.append_assoc],⟨q,by rw[l,←f],a,f,m⟩,j⟩
   simp_all
theorem MI(i: ∀p n,V p=some n→may n=true): ∀(f:Nat)(no:Int)(top:Bool),(AP V f no top).ok=true→ ∃h:Nat,h<f∧(AP V f no top).Al=h∧Pt V h no (AP V f no top).A7
 |0,no,top,h=>by simp[AP,Fh] at h
 | f + 1, no, top, h => by
  unfold AP at h⊢
  cases e:V no with
  |none=>rw[e] at h;simp[Fh] at h
  | some n =>
   rw[e] at h
   simp only at h⊢
   by_cases r:top=false∧many n<4
   ·simp_all[Fh]
   rw[if_neg r] at h⊢
   obtain ⟨s,a,o,b⟩:=UH (V:=V) (bl:=fun p=>AP V f p false) (fun p hp=>by obtain ⟨q,l,g,m⟩:=MI i f p false hp;exact ⟨q,g,m⟩) n.kids true _ h
   cases c:n.kids with
   |nil=>exact ⟨0,by omega,rfl,⟨n,e,c⟩,rfl⟩
   | cons k ks =>
    rw[c] at o b h
    cases a with
    |nil=>exact b.elim
    | cons pl a =>
     obtain ⟨⟨q,l,g,m,y⟩,_⟩:=id b
     obtain ⟨x,B,D,_⟩:=MI i f k.Au false g
     refine ⟨q+1,by omega,by rw[←l];omega,n,pl::a,e,by rw[c];simp,?_,?_⟩
     ·rw[c]
      exact b.mono fun k pl ⟨j,u,_,_,v⟩=>by grind
     simp_all
theorem LW(a: ∀p n,V p=some n→may n=true)(r:Int):RC true 13 (AJ V r):=by
 unfold AJ
 split
 ·exact ⟨by simp,by simp,by simp,by simp,by simp,by simp⟩
 split
 ·exact OT _ _
 exact FX a 13 r true
theorem fW(b: ∀p n,V p=some n→may n=true){r:Int}(h0:r≠0)(h:(AJ V r).ok=true): ∃c:Nat,c<13∧Pt V c r (AJ V r).A7∧(AJ V r).A7.length≤1037:=by
 unfold AJ at h⊢
 rw[if_neg h0] at h⊢
 split at h
 ·simp[Fh] at h
 next h1=>
 rw[if_neg h1]
 obtain ⟨q,e,g,f⟩:=MI b 13 r true h
 have a:=FX b 13 r true
 have:=a.A7
 have:=a.Ag
 exact ⟨q,e,f,by omega⟩
open Go.Proofs.YtfhbmblbidcmmaaGreat
variable [Em]
def Te(V:Int→Option Nd)(U l:List Int)(m:Nat)(s:TS):Fu TS (List Int)→Prop
 | .ok l' s'=>(∀x∈l',x∈U)∧l'.Nodup∧l.length≤l'.length∧D2 V (m+13*(U.length-l'.length)) s'∧s'.sp=s.sp∧s'.ck.d=s.ck.d
 | .fault e s'=>e=13∧D2 V 0 s'∧s'.sp=s.sp∧s'.ck.d=s.ck.d
 | .bad=>False
theorem OR{V:Int→Option Nd}{U:List Int}{f:Nat}(j: ∀(no:Int)(l:List Int)(m:Nat)(s:TS),no≠0→(∀x∈l,x∈U)→l.Nodup→D2 V (m+1+13*(U.length-l.length)) s→Te V U l m s (Bl Ak f no l s)):
 ∀(ks:List Kd)(l:List Int)(m:Nat)(s:TS),(∀k∈ks,k.Au≠0)→(∀x∈l,x∈U)→l.Nodup→D2 V (m+ks.length+13*(U.length-l.length)) s→Te V U l m s (F7 (Bl Ak f) ks l s)
 | [],l,m,s,_,h1,b,hr=>⟨h1,b,Nat.le_refl _,hr,rfl,rfl⟩
 | k :: ks, l, m, s, o, h1, b, hr => by
  have h:=j k.Au l (m+ks.length) s (o k List.mem_cons_self) h1 b (hr.less (by rw[List.length_cons];omega))
  have e:F7 (Bl Ak f) (k::ks) l s=(Bl Ak f k.Au l s).bind (F7 (Bl Ak f) ks):=rfl
  rw[e]
  cases hm:Bl Ak f k.Au l s with
  |bad=>rw[hm] at h;exact h.elim
  |fault n s1=>rw[hm] at h;exact h
  | ok l1 s1 =>
   rw[hm] at h
   obtain ⟨p,q,r,u,c,i⟩:=h
   have g:=OR j ks l1 m s1 (fun k h=>o k (List.mem_cons_of_mem _ h)) p q u
   show Te V U l m s (F7 (Bl Ak f) ks l1 s1)
   cases a:F7 (Bl Ak f) ks l1 s1 with
   |bad=>rw[a] at g;exact g.elim
   |fault n s2=>rw[a] at g;exact ⟨g.1,g.2.1,g.2.2.1.trans c,g.2.2.2.trans i⟩
   | ok l2 s2 =>
    rw[a] at g
    exact ⟨g.1,g.2.1,Nat.le_trans r g.2.2.1,g.2.2.2.1,g.2.2.2.2.1.trans c,g.2.2.2.2.2.trans i⟩
theorem LO{V:Int→Option Nd}{U:List Int}(D: ∀p n,V p=some n→1≤p∧p<1048576∧may n=true∧p∈U)(Q:U.length≤1048576): ∀(f:Nat)(no:Int)(l:List Int)(m:Nat)(s:TS),no≠0→(∀x∈l,x∈U)→l.Nodup→D2 V (m+1+13*(U.length-l.length)) s→
 Te V U l m s (Bl Ak f no l s)
 |0,no,l,m,s,_,_,_,hr=>⟨rfl,hr.less (by omega),rfl,rfl⟩
 | f + 1, no, l, m, s, h0, h1, u, hr => by
  obtain ⟨s1,r1,j,i,O⟩:=(show D2 V ((m+13*(U.length-l.length))+1) s by rw[show m+13*(U.length-l.length)+1=m+1+13*(U.length-l.length) by omega];exact hr).read h0
  have y:Bl Ak (f+1) no l s=(UO (V no) s1).bind fun n=>if l.contains no=true then M.pure l else if 1048576<l.length∨no<0∨1099511627776≤no then (fun _=> .bad) else F7 (Bl Ak f) n.kids (l++ [no]):=by simp[Bl,M.bind,O]
  rw[y]
  cases W:V no with
  |none=>exact ⟨rfl,r1.less (by omega),j,i⟩
  | some n =>
   obtain ⟨X,b2,r,B⟩:=D no n W
   show Te V U l m s ((if l.contains no=true then M.pure l else if 1048576<l.length∨no<0∨1099511627776≤no then (fun _=> .bad) else F7 (Bl Ak f) n.kids (l++ [no])) s1)
   by_cases v:l.contains no=true
   · rw[if_pos v]
     exact ⟨h1,u,Nat.le_refl _,r1,j,i⟩
   have o:no∉l:=by simpa using v
   have q:(l++ [no]).length≤U.length:=List.Nodup.length_le_of_subset (by rw[List.nodup_append];exact ⟨u,by simp,fun a ha b hb=>by rw[List.mem_singleton.1 hb];intro e;exact o (e▸ha)⟩) (fun x hx=>by
    rcases List.mem_append.1 hx with hx|hx
    · simp_all
    rw[List.mem_singleton.1 hx];exact B)
   rw[List.length_append,List.length_singleton] at q
   rw[if_neg v,if_neg (by omega)]
   have T:n.kids.length≤12:=by cases hl:n.leaf with
    |true=>rw[(BS r hl).1];simp
    |false=>exact (B7 r hl).2.2.2.1
   have mF: ∀k∈n.kids,k.Au≠0:=by cases hl:n.leaf with
    |true=>rw[(BS r hl).1];simp
    |false=>intro k R;have:=Ed ((B7 r hl).2.1 k R);omega
   have g:=OR (fun no l m s a b c d=>LO D Q f no l m s a b c d) n.kids (l++ [no]) m s1 mF (fun x hx=>by
    rcases List.mem_append.1 hx with hx|hx
    · simp_all
    rw[List.mem_singleton.1 hx];exact B) (by rw[List.nodup_append];exact ⟨u,by simp,fun a ha b hb=>by rw[List.mem_singleton.1 hb];intro e;exact o (e▸ha)⟩) (r1.less (by rw[List.length_append,List.length_singleton];omega))
   cases hm:F7 (Bl Ak f) n.kids (l++ [no]) s1 with
   |bad=>rw[hm] at g;exact g.elim
   |fault e s2=>rw[hm] at g;exact ⟨g.1,g.2.1,g.2.2.1.trans j,g.2.2.2.trans i⟩
   | ok l2 s2 =>
     rw[hm] at g
     obtain ⟨G,H,I,J,K,L⟩:=g
     exact ⟨G,H,by rw[List.length_append] at I;omega,J,K.trans j,L.trans i⟩
end Go.Tr
namespace Go.Tr
variable {V:Int→Option Nd}
theorem Rm{bl:Int→Lk}(hb: ∀p,(bl p).ok=true→ ∃n,V p=some n∧Aa (bl p).Ag=Aa n.Ag+Bc n.kids): ∀(ks:List Kd)(first:Bool)(o:Lk),(B6 V bl ks first o).ok=true→Aa (B6 V bl ks first o).Ag=Aa o.Ag+Bc ks
 | [],first,o,h=>by simp[B6,Bc]
 | k :: ks, first, o, h => by
  unfold B6 at h⊢
  cases hr:GV (bl k.Au) (GW (BA V k.Au)) first k o with
  |none=>rw[hr] at h;simp[Fh] at h
  | some o' =>
   rw[hr] at h
   simp only at h⊢
   obtain ⟨a,b,c,d,rfl⟩:=GK hr
   obtain ⟨n,g,i⟩:=hb k.Au a
   rw[Rm hb ks false _ h]
   simp only
   rw[Ao,i]
   have e:Aa n.Ag+Bc n.kids=k.bytes:=by
    have:=congrArg Prod.fst b
    unfold BA at this
    rw[g] at this
    exact this
   have f:Bc (k::ks)=k.bytes+Bc ks:=by simp[Bc]
   rw[e,f]
   omega
theorem P2: ∀(f:Nat)(no:Int)(top:Bool),(AP V f no top).ok=true→ ∃n,V no=some n∧Aa (AP V f no top).Ag=Aa n.Ag+Bc n.kids
 |0,no,top,h=>by simp[AP,Fh] at h
 | f + 1, no, top, h => by
  unfold AP at h⊢
  cases b:V no with
  |none=>rw[b] at h;simp[Fh] at h
  | some n =>
   rw[b] at h
   simp only at h⊢
   by_cases a:top=false∧many n<4
   ·rw[if_pos a] at h;simp[Fh] at h
   rw[if_neg a] at h⊢
   exact ⟨n,rfl,Rm (fun p hp=>P2 f p false hp) n.kids true _ h⟩
theorem Nz{r:Int}(h0:r≠0)(h:(AJ V r).ok=true):AJ V r=AP V 13 r true:=by
 unfold AJ at h⊢
 rw[if_neg h0] at h⊢
 split at h
 ·simp[Fh] at h
 next h1=>rw[if_neg h1]
def Lt(V:Int→Option Nd):Nat→Int→Nat→List Av→Prop
 |0=>fun _ _ _=>False
 |h+1=>fun no c es=> ∃(n:Nd)(a:List (Nat×List Av)),V no=some n∧F2 (fun(k:Kd)(b:Nat×List Av)=>Lt V h k.Au b.1 b.2) n.kids a∧c=1+(a.map (·.1)).sum∧es=n.Ag++(a.map (·.2)).flatten
theorem UF{V:Int→Option Nd}{f:Nat}{bl:Int→Lk}(hb: ∀p,(bl p).ok=true→Lt V f p (bl p).A7.length (bl p).Ag): ∀(ks:List Kd)(first:Bool)(o:Lk),(B6 V bl ks first o).ok=true→
 ∃e:List (Nat×List Av),F2 (fun(k:Kd)(g:Nat×List Av)=>Lt V f k.Au g.1 g.2) ks e∧(B6 V bl ks first o).Ag=o.Ag++(e.map (·.2)).flatten∧(B6 V bl ks first o).A7.length=o.A7.length+(e.map (·.1)).sum
 | [],first,o,h=>⟨[],trivial,by simp[B6],by simp[B6]⟩
 | k :: ks, first, o, h => by
  unfold B6 at h⊢
  cases hr:GV (bl k.Au) (GW (BA V k.Au)) first k o with
  |none=>rw[hr] at h;simp[Fh] at h
  | some o' =>
   rw[hr] at h
   simp only at h⊢
   obtain ⟨a,b,c,d,rfl⟩:=GK hr
   obtain ⟨e,i,j,l⟩:=UF hb ks false _ h
   refine ⟨((bl k.Au).A7.length,(bl k.Au).Ag)::e,⟨hb _ a,i⟩,?_,?_⟩
   ·rw[j];simp
   rw[l];simp;omega
theorem Rl{V:Int→Option Nd} : ∀(f:Nat)(no:Int)(top:Bool),(AP V f no top).ok=true→Lt V f no (AP V f no top).A7.length (AP V f no top).Ag
 |0,no,top,h=>by simp[AP,Fh] at h
 | f + 1, no, top, h => by
  unfold AP at h⊢
  cases b:V no with
  |none=>rw[b] at h;simp[Fh] at h
  | some n =>
   rw[b] at h
   simp only at h⊢
   by_cases c:top=false∧many n<4
   ·rw[if_pos c] at h;simp[Fh] at h
   rw[if_neg c] at h⊢
   obtain ⟨a,e,g,i⟩:=UF (V:=V) (f:=f) (fun p hp=>Rl f p false hp) n.kids true _ h
   exact ⟨n,a,b,e,by rw[i];rfl,g⟩
open Go.Proofs.YtfhbmblbidcmmaaGreat
variable [Em]
structure ZR (V:Int→Option Nd) (m:Nat) (s s':TS):Prop where
 Qi:D2 V m s'
 sp:s'.sp=s.sp
 dk:s'.ck.d=s.ck.d
theorem QH{V:Int→Option Nd}{f F:Nat}(i: ∀(no:Int)(c:Nat)(es out:List Av)(m:Nat)(s:TS),Lt V f no c es→D2 V (m+c) s→(out++es).length≤1024→ ∃s',Ea Ak F no out s= .ok (out++es) s'∧ZR V m s s'):
 ∀(ks:List Kd)(a:List (Nat×List Av))(out:List Av)(m:Nat)(s:TS),F2 (fun(k:Kd)(b:Nat×List Av)=>Lt V f k.Au b.1 b.2) ks a→D2 V (m+(a.map (·.1)).sum) s→(out++(a.map (·.2)).flatten).length≤1024→
  ∃s',I3 (Ea Ak F) ks out s= .ok (out++(a.map (·.2)).flatten) s'∧ZR V m s s'
 | [],[],out,m,s,_,hr,_=>⟨s,by simp[I3,M.pure],hr.less (by simp),rfl,rfl⟩
 | k :: ks, b :: a, out, m, s, j, hr, hl => by
   simp only[List.map_cons,List.sum_cons,List.flatten_cons] at hr hl⊢
   obtain ⟨s1,l,e⟩:=i k.Au b.1 b.2 out (m+(a.map (·.1)).sum) s j.1 (by rw[show m+(a.map (·.1)).sum+b.1=m+(b.1+(a.map (·.1)).sum) by omega];exact hr) (by simp only[List.length_append] at hl⊢;omega)
   obtain ⟨s2,n,g⟩:=QH i ks a (out++b.2) m s1 j.2 e.Qi (by rw[List.append_assoc];exact hl)
   refine ⟨s2,?_,g.Qi,g.sp.trans e.sp,g.dk.trans e.dk⟩
   show M.bind (Ea Ak F k.Au out) (I3 (Ea Ak F) ks) s=_
   unfold M.bind
   rw[l]
   show I3 (Ea Ak F) ks (out++b.2) s1=_
   rw[n,List.append_assoc]
 | [],_::_,_,_,_,h,_,_=>h.elim
 |_::_,[],_,_,_,h,_,_=>h.elim
theorem QM{V:Int→Option Nd}(j: ∀p n,V p=some n→1≤p): ∀(f F:Nat)(no:Int)(c:Nat)(es out:List Av)(m:Nat)(s:TS),f≤F→Lt V f no c es→D2 V (m+c) s→(out++es).length≤1024→ ∃s',Ea Ak F no out s= .ok (out++es) s'∧ZR V m s s'
 |0,F,no,c,es,out,m,s,_,h,_,_=>h.elim
 |f+1,0,no,c,es,out,m,s,hF,_,_,_=>absurd hF (by omega)
 | f + 1, F + 1, no, c, es, out, m, s, hF, h, hr, hl => by
  obtain ⟨n,a,k,o,rfl,rfl⟩:=h
  have hp:=j no n k
  obtain ⟨s1,r1,g,b,i⟩:=(show D2 V ((m+(a.map (·.1)).sum)+1) s by rw[show m+(a.map (·.1)).sum+1=m+(1+(a.map (·.1)).sum) by omega];exact hr).read (p:=no) (by omega)
  rw[k] at i
  obtain ⟨s2,l,e⟩:=QH (f:=f) (F:=F) (fun no c es out m s h hr hl=>QM j f F no c es out m s (by omega) h hr hl) n.kids a (out++n.Ag) m s1 o r1 (by rw[List.append_assoc];exact hl)
  refine ⟨s2,?_,e.Qi,e.sp.trans g,e.dk.trans b⟩
  unfold Ea M.bind
  rw[i]
  show (if 1024<(out++n.Ag).length then M.fail 13 else I3 (Ea Ak F) n.kids (out++n.Ag)) s1=_
  rw[if_neg (by simp only[List.length_append] at hl⊢;omega),l,List.append_assoc]
theorem Xh{V:Int→Option Nd}(b: ∀p n,V p=some n→may n=true∧1≤p){m:Nat}{s:TS}(c:D2 V (m+1037) s){r:Int}(a:(AJ V r).ok=true)(hl:(AJ V r).Ag.length≤1024):
 ∃s',PF Ak r s= .ok (AJ V r).Ag s'∧ZR V m s s':=by
 by_cases h0:r=0
 ·subst h0
  refine ⟨s,?_,c.less (by omega),rfl,rfl⟩
  unfold AJ
  rw[if_pos rfl]
  rfl
 have e:=Nz h0 a
 have hp:=(LW (fun p n h=>(b p n h).1) r).A7
 have g:=(LW (fun p n h=>(b p n h).1) r).Ag
 rw[e] at a hl hp g⊢
 obtain ⟨s',f,o⟩:=QM (fun p n h=>(b p n h).2) 13 21 r _ _ [] m s (by omega) (Rl 13 r true a) (c.less (by omega)) (by rw[List.nil_append];exact hl)
 refine ⟨s',?_,o⟩
 unfold PF
 rw[if_neg h0,f,List.nil_append]
theorem Xk{V:Int→Option Nd}(k: ∀p n,V p=some n→may n=true∧1≤p){m:Nat}{s:TS}(g:D2 V (m+1) s){r:Int}(a:(AJ V r).ok=true):
 ∃s',FB Ak r s= .ok (Aa (AJ V r).Ag) s'∧ZR V m s s':=by
 by_cases h0:r=0
 ·subst h0
  refine ⟨s,?_,g.less (by omega),rfl,rfl⟩
  unfold AJ
  rw[if_pos rfl]
  rfl
 have e:=Nz h0 a
 rw[e] at a⊢
 obtain ⟨n,i,j⟩:=P2 13 r true a
 obtain ⟨s1,r1,c,b,f⟩:=g.read h0
 rw[i] at f
 refine ⟨s1,?_,r1,c,b⟩
 unfold FB M.bind
 rw[if_neg h0,f,j]
 show (M.pure (AZ n).1:M TS Int) s1=_
 have:(AZ n).1=Aa n.Ag+Bc n.kids:=by rw[←UI (k r n i).1];rfl
 rw[this]
 rfl
end Go.Tr
namespace Go.Sl
open Go.RowKit
variable {κ:Type}
structure Ys [DecidableEq κ] (P:Program) (kt:TypeId) (kf:κ→Value):Prop where
 NU: ∃kd,P.underlying kt=some kd∧ ∀a b,Instr.sameNow kd (kf a) (kf b)=none
 eq: ∀a b w,(Op.equal kt (kf a) (kf b)).run P w= .ok (decide (a=b)) w
 DW: ∀e n a w,(Instr.checkKey e (n+4) kt (kf a)).run P w= .ok () w
 bits: ∀n a,Instr.sameBits (n+2) (kf a) (kf a)=true
def ZP[DecidableEq κ](kf:κ→Value)(k:κ)(ms:List (κ×Value))(es:List MapEntry)(i:Nat)(r:Option (Nat×Value)):Prop:=
 r.map (·.2)=Cq k ms∧(∀j v,r=some (j,v)→i≤j∧ ∃e,es[j-i]?=some e∧e.key=kf k∧e.val=v∧(∀v' e',e'.key=kf k→e'.val=v'→((es.set (j-i) e').map fun e=>(e.key,e.val))=(CT k v' ms).map (fun p=>(kf p.1,p.2))))
variable {P:Program} {kt:TypeId} {kf:κ→Value}
theorem Kz[DecidableEq κ](K:Ys P kt kf)(k:κ)(w:World): ∀(ms:List (κ×Value))(es:List MapEntry)(i:Nat),(es.map fun e=>(e.key,e.val))=ms.map (fun p=>(kf p.1,p.2))→
 ∃r,(Instr.findAsking kt (kf k) es i).run P w= .ok r w∧ZP kf k ms es i r
 | [],es,i,h=>by
  have:es= []:=by simpa using h
  subst this
  exact ⟨none,rfl,rfl,fun _ _ e=>by cases e⟩
 |p::ms,[],i,h=>by simp at h
 | p :: ms, e :: es, i, h => by
   simp only[List.map_cons,List.cons.injEq,Prod.mk.injEq] at h
   obtain ⟨⟨h1,g⟩,l⟩:=h
   unfold Instr.findAsking
   simp only[Sem.run_bind,h1,K.eq,Result.andThen_ok]
   by_cases a:k=p.1
   ·subst a
    simp only[decide_true,if_true,Sem.run_pure]
    refine ⟨_,rfl,by simp[Cq,g],?_⟩
    intro j v c
    cases c
    refine ⟨Nat.le_refl _,e,by simp,h1,rfl,?_⟩
    intro v' e' f b
    simp[CT,f,b,l]
   simp only[a,decide_false,Bool.false_eq_true,if_false]
   obtain ⟨r,r1,u,x⟩:=Kz K k w ms es (i+1) l
   refine ⟨r,r1,by simp[Cq,a,u],?_⟩
   intro j v c
   obtain ⟨f,e0,b,n,o,q⟩:=x j v c
   have m:j-i=(j-(i+1))+1:=by omega
   refine ⟨by omega,e0,by rw[m];simpa using b,n,o,?_⟩
   intro v' e' s b2
   rw[m]
   simp[CT,a,q v' e' s b2,h1,g]
theorem O6[DecidableEq κ](K:Ys P kt kf)(k:κ)(w:World)(ms:List (κ×Value))(es:List MapEntry)(h:(es.map fun e=>(e.key,e.val))=ms.map (fun p=>(kf p.1,p.2))):
 ∃r,(Instr.findKey kt (kf k) es).run P w= .ok r w∧ZP kf k ms es 0 r:=by
 obtain ⟨kd,b,a⟩:=K.NU
 obtain ⟨r,r1,c⟩:=Kz K k w ms es 0 h
 refine ⟨r,?_,c⟩
 unfold Instr.findKey
 simp only[Sem.run_bind,underlying,run_program,Result.andThen_ok,b,Sem.run_pure]
 cases es with
 | nil =>
  cases r1
  rfl
 | cons e es => cases ms with
  |nil=>simp at h
  | cons p ms =>
   simp only[List.map_cons,List.cons.injEq,Prod.mk.injEq] at h
   simp only[Instr.findNow,h.1.1,a]
   omega
theorem Ql[DecidableEq κ](K:Ys P kt kf){t e:TypeId}{z:Value}(j:P.underlying t=some (.map kt e))(l: ∀w,(zeroValue e).run P w= .ok z w){w:World}{b:Nat}{o:Obj}{ms:List (κ×Value)}
 (hb:w.heap[b]?=some o) (i:F4 kf o ms) (k:κ):
 (Instr.lookup t (.map (some b)) (kf k) false).run P w= .ok ((Cq k ms).getD z) w:=by
 obtain ⟨es,a,rfl,h1,_,_⟩:=i
 obtain ⟨r,r1,c,_⟩:=O6 K k w ms es.toList h1
 have g:(getObj b).run P w= .ok (.map es a) w:=by simp[getObj,Sem.run,hb]
 have f:=K.DW es.isEmpty 9996 k w
 unfold Instr.lookup
 simp only[Sem.run_bind,underlying,run_program,Result.andThen_ok,j,Sem.run_pure,g,f,r1]
 cases r with
 | none =>
  simp only[Sem.run_bind,l,Result.andThen_ok,Sem.run_pure,←c]
  rfl
 | some q =>
  simp only[←c]
  rfl
theorem Ig[DecidableEq κ](K:Ys P kt kf){t e:TypeId}(p:P.underlying t=some (.map kt e)){w:World}{b:Nat}{o:Obj}{ms:List (κ×Value)}
 (hb:w.heap[b]?=some o) (B:F4 kf o ms) (k:κ) (v:Value):
 ∃o',F4 kf o' (CT k v ms)∧(Instr.mapUpdate t (.map (some b)) (kf k) v).run P w= .ok () { w with heap:=w.heap.setIfInBounds b o' } :=by
 obtain ⟨es,a,rfl,h1,x,J⟩:=B
 obtain ⟨r,r1,D,G⟩:=O6 K k w ms es.toList h1
 have n:(getObj b).run P w= .ok (.map es a) w:=by simp[getObj,Sem.run,hb]
 have c: ∀o':Obj,(setObj b o').run P w= .ok () { w with heap:=w.heap.setIfInBounds b o' } :=by intro o';simp[setObj,Sem.run,hb]
 have m:=K.DW false 9996 k w
 cases r with
 | none =>
  have y:Cq k ms=none:=by simpa using D.symm
  refine ⟨.map (es.push { key:=kf k,val:=v,born:=a }) (a+1),⟨_,_,rfl,?_,?_,?_⟩,?_⟩
  ·rw[LG y];simp[h1]
  ·grind
  ·grind
  simp[Instr.mapUpdate,Sem.run_bind,underlying,run_program,Result.andThen_ok,p,Sem.run_pure,n,m,r1,c]
 | some q =>
  obtain ⟨j,u⟩:=q
  obtain ⟨_,e0,i,H,I,s⟩:=G j u rfl
  simp only[Nat.sub_zero] at i s
  have f:((es[j]?).map (·.key)).getD (kf k)=kf k:=by simp_all
  have g:(es.modify j fun e=> { e with key:=kf k,val:=v }).toList=es.toList.set j { e0 with key:=kf k,val:=v } :=by simp[Array.toList_modify,List.modify_eq_set,i]
  refine ⟨.map (es.modify j fun e=> { e with key:=kf k,val:=v }) a,⟨_,_,rfl,?_,?_,?_⟩,?_⟩
  ·grind
  ·rw[g,Ra (e:=e0) (e':= { e0 with key:=kf k,val:=v }) i rfl];exact x
  ·grind
  have hb:=K.bits 9998 k
  have l:(Instr.keyThatStays (kf k) (kf k)).run P w= .ok (kf k) w:=by simp[Instr.keyThatStays,hb]
  simp[Instr.mapUpdate,Sem.run_bind,underlying,run_program,Result.andThen_ok,p,Sem.run_pure,n,m,r1,f,l,c]
class dI (P:Program) (t:TypeId) (κ:outParam Type) [DecidableEq κ] (kf:outParam (κ→Value)) (z:outParam Value):Prop where
 out: ∃kt e,Ys P kt kf∧P.underlying t=some (.map kt e)∧ ∀w,(zeroValue e).run P w= .ok z w
section
variable {t:TypeId} [DecidableEq κ] {z:Value}
theorem Uc(T:dI P t κ kf z)(w:World)(M:Nat)(k:κ){A:Ab}{ms:List (κ×Value)}[h:AR A w][h2:DK A M kf ms]:
 (Instr.lookup t (.map (some M)) (kf k) false).run P w= .ok ((Cq k ms).getD z) w:=by
 obtain ⟨kt,e,K,b,c⟩:=T.out
 obtain ⟨F,rfl⟩:=h2.out
 obtain ⟨o,a,hs⟩:=h.out.Cx
 exact Ql K b c hs.obj a k
theorem bG(T:dI P t κ kf z)(w:World)(M:Nat)(k:κ)(v:Value){A:Ab}{ms:List (κ×Value)}[h:AR A w][h2:DK A M kf ms]:
 (Instr.mapUpdate t (.map (some M)) (kf k) v).run P w= .ok () (Gn P t M (kf k) v w):=by
 obtain ⟨kt,e,K,c,f⟩:=T.out
 obtain ⟨F,rfl⟩:=h2.out
 obtain ⟨o,b,hs⟩:=h.out.Cx
 obtain ⟨o',_,a⟩:=Ig K c hs.obj b k v
 unfold Gn
 rw[a];rfl
theorem bH(T:dI P t κ kf z){w:World}{M:Nat}{k:κ}{v:Value}{A A':Ab}{ms:List (κ×Value)}[h:AR A w][h2:DK A M kf ms][h3:K8 A M kf (CT k v ms) A']:AR A' (Gn P t M (kf k) v w):=by
 obtain ⟨kt,e,K,m,p⟩:=T.out
 obtain ⟨G,g⟩:=h2.out
 obtain ⟨n,F,i,rfl⟩:=h3.out
 have a:=h.out.eq g
 have b:=h.out.eq i
 obtain ⟨o,j,a⟩:=a.Cx
 obtain ⟨q,l,b⟩:=b.Cx
 obtain ⟨o',c,f⟩:=Ig K m a.obj j k v
 unfold Gn
 rw[f]
 exact ⟨Sat.Eo c (b.GZ o')⟩
end
end Go.Sl
namespace Go.Proofs.YtfhbmblbidcmmaaGreat
open Go.RowKit Go.Sl Go.Tr
deriving instance DecidableEq for Av
abbrev ZZ:TypeId:=238
section
variable (w:World) (d:Nat)
theorem XI(a b:Int):(Op.equalIn (d+1) 3 (.int .i64 a) (.int .i64 b)).run Tryz.prog w= .ok (a==b) w:=by
 rw[Op.equalIn]
 simp[run_underlying Tryz.underlying3]
theorem JY(cs:Array Value)(i:Nat)(v:Value)(h:cs[i]?=some v):(part 3 cs i).run Tryz.prog w= .ok v w:=by
 simp[part,Tryz.isAgg3,h]
theorem OJ(e:Bool)(a:Int):(Instr.checkKey e (d+1) 3 (.int .i64 a)).run Tryz.prog w= .ok () w:=by rw[Instr.checkKey];simp[run_underlying Tryz.underlying3]
theorem YK(a b c e f b2:Int):(Op.equalIn (d+2) 75 (.agg #[.int .i64 a,.int .i64 b,.int .i64 c]) (.agg #[.int .i64 e,.int .i64 f,.int .i64 b2])).run Tryz.prog w= .ok ((a==e&&(b==f&&(c==b2&&true)))) w:=by
 have h1:Tryz.prog.stoodInHeld 75=false:=by kernel_rfl
 rw[Op.equalIn]
 simp only[Sem.run_bind,run_underlying Tryz.underlying75,Result.andThen_ok]
 simp[h1,JY,XI]
 by_cases e0:a=e<;>by_cases g:b=f<;>by_cases i:c=b2<;>simp[e0,g,i]
theorem RN(e:Bool)(a b c:Int):(Instr.checkKey e (d+2) 75 (.agg #[.int .i64 a,.int .i64 b,.int .i64 c])).run Tryz.prog w= .ok () w:=by
 rw[Instr.checkKey]
 simp only[Sem.run_bind,run_underlying Tryz.underlying75,Result.andThen_ok]
 simp[JY,OJ]
theorem YJ(a b c e f g b2 i:Int):(Op.equalIn (d+3) 77 (.agg #[.int .i64 a,.int .i64 b,.int .i64 c,.int .i64 e]) (.agg #[.int .i64 f,.int .i64 g,.int .i64 b2,.int .i64 i])).run Tryz.prog w= .ok ((a==f&&(b==g&&(c==b2&&(e==i&&true))))) w:=by
 have h1:Tryz.prog.stoodInHeld 77=false:=by kernel_rfl
 have j: ∀c0 c1 c2 c3:Value,∀w,(part 75 #[c0,c1,c2,c3] 0).run Tryz.prog w= .ok (.agg #[c0,c1,c2]) w:=fun c0 c1 c2 c3 w=>by simp[part,Tryz.isAgg75,Tryz.sizeOf75]
 rw[Op.equalIn]
 simp only[Sem.run_bind,run_underlying Tryz.underlying77,Result.andThen_ok]
 simp[h1,JY,XI,j,YK]
 by_cases e0:a=f<;>by_cases k:b=g<;>by_cases l:c=b2<;>by_cases m:e=i<;>simp[e0,k,l,m]
theorem RM(e:Bool)(b c f g:Int):(Instr.checkKey e (d+3) 77 (.agg #[.int .i64 b,.int .i64 c,.int .i64 f,.int .i64 g])).run Tryz.prog w= .ok () w:=by
 have a: ∀c0 c1 c2 c3:Value,∀w,(part 75 #[c0,c1,c2,c3] 0).run Tryz.prog w= .ok (.agg #[c0,c1,c2]) w:=fun c0 c1 c2 c3 w=>by simp[part,Tryz.isAgg75,Tryz.sizeOf75]
 rw[Instr.checkKey]
 simp only[Sem.run_bind,run_underlying Tryz.underlying77,Result.andThen_ok]
 simp[JY,OJ,a,RN]
end
def DS(x:Av):Value:= .agg #[.int .i64 x.src,.int .i64 x.pos,.int .i64 x.len,.int .i64 x.lines]
theorem eJ:Ys Tryz.prog 77 DS where
 NU:=⟨_,Tryz.underlying77,fun a b=>rfl⟩
 eq a b w:=by
  have e:(a.src==b.src&&(a.pos==b.pos&&(a.len==b.len&&(a.lines==b.lines&&true))))=decide (a=b):=by
   obtain ⟨c,f,g,i⟩:=a
   obtain ⟨j,k,b2,l⟩:=b
   simp only[Av.mk.injEq]
   by_cases e0:c=j<;>by_cases m:f=k<;>by_cases o:g=b2<;>by_cases p:i=l<;>simp[e0,m,o,p]
  rw[←e]
  exact YJ w 9997 a.src a.pos a.len a.lines b.src b.pos b.len b.lines
 DW e n a w:=RM w (n+1) e a.src a.pos a.len a.lines
 bits n a:=by simp[DS,Instr.sameBits]
def FD(l:List Av):List (Av×Value):=l.map fun k=>(k,.bool true)
def VF(l:List Av)(x:Av):List Av:=if x∈l then l else l++ [x]
theorem M9(k:Av): ∀l:List Av,(Cq k (FD l)).getD (.bool false)= .bool (decide (k∈l))
 | []=>rfl
 | x :: l => by
  show ((if k=x then some (Value.bool true) else Cq k (FD l)).getD (.bool false))=_
  by_cases h:k=x
  ·rw[if_pos h];simp[h]
  rw[if_neg h,M9 k l];simp[h]
theorem MB(x:Av): ∀l:List Av,CT x (.bool true) (FD l)=FD (VF l x)
 | []=>rfl
 | y :: l => by
  have c:=MB x l
  show (if x=y then (x,Value.bool true)::FD l else (y,Value.bool true)::CT x (.bool true) (FD l))=_
  by_cases h:x=y
  ·subst h
   rw[if_pos rfl]
   unfold VF
   rw[if_pos (by simp)]
   rfl
  rw[if_neg h,c]
  unfold VF
  have e:x∈y::l↔x∈l:=by simp[h]
  by_cases a:x∈l
  ·rw[if_pos a,if_pos (e.2 a)];rfl
  rw[if_neg a,if_neg (fun b=>a (e.1 b))];rfl
instance p8:dI Tryz.prog ZZ Av DS (.bool false):=⟨77,4,eJ,Tryz.underlying238,fun w=>by kernel_rfl⟩
theorem XS(w:World)(M:Nat)(k:Av){A:Ab}{ms:List (Av×Value)}[h:AR A w][h2:DK A M DS ms]:(Instr.lookup ZZ (.map (some M)) (DS k) false).run Tryz.prog w= .ok ((Cq k ms).getD (.bool false)) w:=Uc p8 w M k
theorem bI(w:World)(M:Nat)(k:Av)(v:Value){A:Ab}{ms:List (Av×Value)}[h:AR A w][h2:DK A M DS ms]:(Instr.mapUpdate ZZ (.map (some M)) (DS k) v).run Tryz.prog w= .ok () (Gn Tryz.prog ZZ M (DS k) v w):=bG p8 w M k v
instance{w:World}{M:Nat}{k:Av}{v:Value}{A A':Ab}{ms:List (Av×Value)}[h:AR A w][h2:DK A M DS ms][h3:K8 A M DS (CT k v ms) A']:AR A' (Gn Tryz.prog ZZ M (DS k) v w):=bH p8
open Go.Dk
variable [Em]
theorem cG(d:Dk)(nm n:ByteArray)(h:n≠nm):(d.sync nm).2.get n=d.get n:=by
 unfold Dk.sync
 split
 ·rfl
 split
 ·rfl
 unfold Dk.get Dk.settled Dk.put
 rw[CH,if_neg h]
 rfl
theorem fT(d:Dk)(nm:ByteArray):Bp 1 nm d (d.sync nm).2:=by
 have same:Bp 1 nm d d:=(Bp.MK nm d).more (by omega)
 unfold Dk.sync
 split
 ·omega
 split
 ·exact ⟨same.changes,same.left,same.BN,same.len,same.cap⟩
 obtain ⟨f,c⟩:=Aq ((d.get nm).getD Dk.Jv)
 have b:((d.BV.put nm { f with safe:=f.now,sure:=true }).settled nm).get nm=some { f with safe:=f.now,sure:=true } :=by simp[Dk.get,Dk.settled,Dk.put,CH]
 have a:A0 ((d.BV.put nm { f with safe:=f.now,sure:=true }).settled nm) nm=A0 d nm:=by simp[b,c,A0]
 rw[c]
 refine ⟨by show d.changes+1≤_;omega,by show d.left≤d.left-1+_;omega,?_,by simp only[a];omega,by simp only[a];omega⟩
 simp only[a]
 have:((d.BV.put nm { f with safe:=f.now,sure:=true }).settled nm).BN.length≤d.BN.length:=List.length_filter_le _ _
 omega
theorem R9: ∀(l:List Int){m:Nat}{s:Ck},Bm m s→(∀k∈l,Bx s.its k=true)→Bp (2*l.length) s.nm s.d (Ck.writes l s).2.d∧(Ck.writes l s).2.reads=s.reads∧Ch s (Ck.writes l s).2
 | [],m,s,ok,_=>⟨Bp.MK _ _,rfl,Ch.same s⟩
 | k :: l, m, s, ok, h => by
  have a:=h k (by simp)
  obtain ⟨b,_,_,h0,h1⟩:=ok.key a
  have hb:=Vz ok k h1
  have hs:=BW s k
  unfold Ck.writes
  split
  ·obtain ⟨c1,c2,c3⟩:=R9 l (FC ok a) fun j c=>by rw[Kp];exact h j (by simp[c])
   rw[hs.1] at c1
   exact ⟨(hb.trans c1).more (by rw[List.length_cons];omega),c2.trans hs.2.2.1,(PQ s k).next c3⟩
  exact ⟨hb.more (by rw[List.length_cons];omega),hs.2.2.1,PQ s k⟩
theorem j'{m:Nat}{s:Ck}(ok:Bm m s):Bp (2*s.its.length+1) s.nm s.d s.flush.2.d∧s.flush.2.reads=s.reads∧Ch s s.flush.2:=by
 obtain ⟨h1,e,b⟩:=R9 (BJ s.its) ok fun k c=>Fm c
 have hl:=OZ s.its
 have f:=(Im (BJ s.its) ok fun k c=>Fm c).2
 unfold Ck.flush
 simp only
 split
 ·have:=fT (Ck.writes (BJ s.its) s).2.d (Ck.writes (BJ s.its) s).2.nm
  rw[f] at this⊢
  exact ⟨(h1.trans this).more (by omega),e,b.cap,rfl,fun n a=>(cG _ _ _ a).trans (b.Jk n a)⟩
 exact ⟨h1.more (by omega),e,b⟩
theorem YC{m:Nat}{s:Ck}(ok:Bm m s):s.flush.2.nm=s.nm:=by
 have b:=(Im (BJ s.its) ok fun k a=>Fm a).2
 grind [Ck.flush]
theorem T3{m T:Nat}{s:Ck}(ok:Bm m s)(g:Good T s)(h0:s.flush.1=0):Clean s.flush.2:=by
 have h:=O8 ok g
 have a:=T4 ok
 intro n c
 cases hm:n.J1 with
 |false=>rfl
 | true =>
  exfalso
  have e:=Br.2 (List.mem_map.2 ⟨n,c,rfl⟩)
  obtain ⟨b,hb,_⟩:=a.key e
  exact (h.kept h0).CD n c hm b (h.EX h0 _ _ (.inl hb))
def TS.Lv(s:TS):TS:=⟨s.ck.flush.2,s.sp,s.ops+s.ck.its.length+1⟩
structure ZO (s s':TS):Prop where
 zero:s.ck.flush.1=0
 inv:GS true s'
 clean:Clean s'.ck
 le:Le (nodeAt s) (nodeAt s')
 cap:Fv s s'
 sp:s'.sp=s.sp
 left:AM s≤AM s'+2049
theorem T5{s:TS}(h:GS true s)(g:s.ops+4100≤BG):ZO s s.Lv:=by
 obtain ⟨m,hm⟩:=h.ts.ck
 have a:=O8 hm h.Bn
 obtain ⟨b,b2,c⟩:=j' hm
 obtain ⟨z,f⟩:=a.roomy (h.roomy rfl)
 have hl:=hm.Mi.len
 have e:=YC hm
 obtain ⟨i,j,k,n4,l⟩:=h.ts.num
 obtain ⟨c1,c2,c3,c4,c5⟩:=b
 refine ⟨z,⟨⟨⟨_,T4 hm⟩,⟨?_,?_,?_,?_,?_⟩,?_,h.ts.res,?_⟩,a.Bn,h.res,h.used,fun _=>f⟩,T3 hm h.Bn z,FV fun p n hs=>Lc (no:=0) hs a.has,c,rfl,?_⟩
 ·show s.ck.flush.2.d.changes≤2*(s.ops+s.ck.its.length+1:Nat);omega
 ·show-(2*(s.ops+s.ck.its.length+1:Nat):Int)≤s.ck.flush.2.d.left;omega
 ·show s.ck.flush.2.d.BN.length≤512*(s.ops+s.ck.its.length+1)+(A0 s.ck.flush.2.d s.ck.flush.2.nm).length
  grind
 ·show s.ck.flush.2.reads≤((s.ops+s.ck.its.length+1:Nat):Int);omega
 ·show (A0 s.ck.flush.2.d s.ck.flush.2.nm).length≤_
  simp_all
 ·show s.ops+s.ck.its.length+1≤_;omega
 ·show s.sp.taken.length≤s.ops+s.ck.its.length+1;have:=h.ts.taken;omega
 show (BG-s.ops)/2≤(BG-(s.ops+s.ck.its.length+1))/2+2049;omega
theorem Yz{s:TS}(h:GS true s)(a:Clean s.ck):D2 (Aw (fileOf s)) (AM s) s:=⟨h.ts,h.Bn.pf,h.Bn.BU.down,.inl ⟨a,rfl⟩,Nat.le_refl _⟩
theorem Ty{l:List UInt8}{p:Int}{n:Nd}(h:Aw l p=some n):1≤p∧p<1048576∧256*p+256≤l.length:=by simp_all[Aw]
theorem Wa(h:Th)(s:TS)(F:Ab)(w:World)(a:GS true s)(f:s.ops+4100≤BG)(j:s.ck.cap≤1000)(hs:Sat (Ad h s*F) w):
 Calls Tryz.prog 36 #[.pointer (some ⟨h.C,0,none⟩)] w fun e c=>e= .returned (.int .i64 0)∧Sat (Ad h s.Lv*F) c:=by
 have b:=T5 a f
 obtain ⟨hi,g⟩:=Ek hs
 have hm:=a.ts.ok
 refine (YB h.C h.D s.ck 137438953472 _ w g hm (by have:=hm.most;unfold U;omega)).mono ?_
 rintro e c ⟨rfl,i⟩
 rw[b.zero]
 exact ⟨rfl,Dw b.inv.ts i⟩
end Go.Proofs.YtfhbmblbidcmmaaGreat
namespace Go.Proofs.YtfhbmblbidcmmaaGreat
open Go.RowKit Go.Sl Go.Dk Go.Tr
open Go.PS (A9)
variable [Em]
theorem Xl(h:Th)(s:TS)(F:Ab)(w:World)(hs:Sat (Ad h s*F) w)(i:Da s.ck.d FM):
 Calls Tryz.prog 49 #[.pointer (some ⟨h.D,0,none⟩),.string FM,.int .i64 0,.int .i64 (A0 s.ck.d FM).length] w fun e k=> ∃(a:Option Addr)(c:Nat)(m:Int),e= .returned (.tuple #[.slice a (A0 s.ck.d FM).length c,.int .i64 m])∧Sat (rw TB 1 (.slice a (A0 s.ck.d FM).length c) (A4 (A0 s.ck.d FM))*(Ad h s*F)) k:=by
 obtain ⟨hi,x⟩:=Ek hs
 obtain ⟨L,PM,ps,hp,l⟩:=Sat.Cj x
 unfold BF at l
 have y:Sat (Bv h.D s.ck.d*(coreC h.C L h.D PM s.ck*(C2 L s.ck.cap s.ck.its*(mp A9 PM (ps.map JZ)*(AU ps*(Cf h.S s.sp*(Sl.block h.t Tg [.pointer (some ⟨h.C,0,none⟩),.pointer (some ⟨h.S,0,none⟩)]*F))))))) w:=l.eq (by ac_rfl)
 have g: ∀p∈s.ck.d.files,p.2.now.length≤Mo:=fun p hp=>(hi.ok.dk.sz p hp).1
 have r:(s.ck.d.read FM 0 ((A0 s.ck.d FM).length:Nat)).2=A0 s.ck.d FM:=by
  unfold Dk.read
  cases b:s.ck.d.get FM with
  | none =>
   have q:=I7 i.Aq i.down b
   rw[if_pos (by rw[q];decide)]
   unfold A0
   rw[b]
   rfl
  | some f =>
   have hm:=Fp (t:=true) i.Aq i.down b
   rw[if_neg (by simp[hm])]
   have e:A0 s.ck.d FM=f.now:=by unfold A0;rw[b];rfl
   rw[e]
   simp only
   simp only[Option.getD_some]
   rw[if_neg (by omega)]
   simp
 refine (P5 h.D s.ck.d FM 0 ((A0 s.ck.d FM).length:Nat) _ w y (by decide) g).mono ?_
 rintro e k ⟨v,rfl,j⟩
 rw[r] at j
 obtain ⟨a,n,c,rfl,o,_⟩:=MP j
 have u:(A0 s.ck.d FM).length=n:=by rw[Cc] at o;omega
 subst u
 refine ⟨a,c,_,rfl,?_⟩
 have B:Sat (coreC h.C L h.D PM s.ck*(C2 L s.ck.cap s.ck.its*(Bv h.D s.ck.d*(mp A9 PM (ps.map JZ)*AU ps)))*(rw TB 1 (.slice a (A0 s.ck.d FM).length c) (A4 (A0 s.ck.d FM))*(Cf h.S s.sp*(Sl.block h.t Tg [.pointer (some ⟨h.C,0,none⟩),.pointer (some ⟨h.S,0,none⟩)]*F)))) k:=j.eq (by ac_rfl)
 have G:=Sat.AS (L:=L) (PM:=PM) (ps:=ps) hp B
 exact (Dw hi (G.eq (show _=Be h.C h.D s.ck*(Cf h.S s.sp*(Sl.block h.t Tg [.pointer (some ⟨h.C,0,none⟩),.pointer (some ⟨h.S,0,none⟩)]*(rw TB 1 (.slice a (A0 s.ck.d FM).length c) (A4 (A0 s.ck.d FM))*F))) by ac_rfl))).eq (by ac_rfl)
theorem Lg(h:Th)(s:TS)(nm:ByteArray)(F:Ab)(w:World)(hs:Sat (Ad h s*F) w)(b:nm.size≤9223372036854775807):
 Calls Tryz.prog 50 #[.pointer (some ⟨h.D,0,none⟩),.string nm] w fun e f=>e= .returned (.int .i64 (s.ck.d.size nm))∧w=f:=by
 obtain ⟨hi,c⟩:=Ek hs
 obtain ⟨L,PM,ps,hp,a⟩:=Sat.Cj c
 unfold BF at a
 exact Vg h.D s.ck.d nm _ w (a.eq (show _=Bv h.D s.ck.d*(coreC h.C L h.D PM s.ck*(C2 L s.ck.cap s.ck.its*(mp A9 PM (ps.map JZ)*(AU ps*(Cf h.S s.sp*(Sl.block h.t Tg [.pointer (some ⟨h.C,0,none⟩),.pointer (some ⟨h.S,0,none⟩)]*F)))))) by ac_rfl)) b
