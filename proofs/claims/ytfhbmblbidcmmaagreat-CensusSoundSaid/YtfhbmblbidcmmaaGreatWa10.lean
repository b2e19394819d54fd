/- censusSound holds for every input. No condition. (part 10) -/
import Derived.Test.YtfhbmblbidcmmaaGreatWa5
set_option linter.all false
namespace Go.Proofs.YtfhbmblbidcmmaaGreat
open Go.RowKit Go.Sl
theorem gV(e s n c g:Nat)(xs:List Value)(L:Nat)(j:xs.length=L):rw e s (.slice (some ⟨g,0,none⟩) n c) xs=ex fun sp: {sp:List Value//L=n*s∧L+sp.length=c*s∧n≤c∧c≤maxLen} =>block g e (xs++sp.1):=by
 subst j
 funext h
 apply propext
 constructor
 ·rintro (⟨h1,_⟩|⟨l,n',k,sp,h1,a,b,d,f,i⟩)
  ·cases h1
  cases h1
  exact ⟨⟨sp,a,by simpa using b,d,f⟩,i⟩
 rintro ⟨⟨sp,a,b,d,f⟩,i⟩
 exact .inr ⟨g,n,c,sp,rfl,a,by simpa using b,d,f,i⟩
theorem Vb{e s n c g k:Nat}{xs:List Value}{v:Value}(h:xs[k]?=some v): ∃R,rw e s (.slice (some ⟨g,0,none⟩) n c) xs=Sl.cell g k v*R∧ ∀v',rw e s (.slice (some ⟨g,0,none⟩) n c) (xs.set k v')=Sl.cell g k v'*R:=by
 have b:=(List.getElem?_eq_some_iff.1 h).1
 have a: ∀sp:List Value,∃F,cells g 0 (xs++sp)=Sl.cell g k v*F∧ ∀v',cells g 0 (xs.set k v'++sp)=Sl.cell g k v'*F:=by
  intro sp
  obtain ⟨F,h1,d⟩:=EU g (xs++sp) 0 k v (by rw[List.getElem?_append_left b];exact h)
  grind
 let F:List Value→Ab:=fun sp=>Classical.choose (a sp)
 refine ⟨ex fun sp: {sp:List Value//xs.length=n*s∧xs.length+sp.length=c*s∧n≤c∧c≤maxLen} =>Ev g e (xs.length+sp.1.length)*F sp.1,?_,fun v'=>?_⟩
 · rw[gV _ _ _ _ _ _ xs.length rfl,F9,j8]
   grind [block,List.length_append]
 rw[gV _ _ _ _ _ _ xs.length List.length_set,F9,j8]
 grind [block,List.length_append,List.length_set]
instance lQ(e s n c g k:Nat)(xs:List Value)(v:Value)[h:At xs k v]:El (rw e s (.slice (some ⟨g,0,none⟩) n c) xs) g k v:=
 let ⟨R,h1,_⟩:=Vb (e:=e) (s:=s) (n:=n) (c:=c) (g:=g) h.out;⟨R,h1⟩
instance lR(e s n c g k:Nat)(xs:List Value)(v v':Value)[h:At xs k v]:VD (rw e s (.slice (some ⟨g,0,none⟩) n c) xs) g k v' (rw e s (.slice (some ⟨g,0,none⟩) n c) (xs.set k v')):=
 let ⟨R,h1,h2⟩:=Vb (e:=e) (s:=s) (n:=n) (c:=c) (g:=g) h.out;⟨v,R,h1,h2 v'⟩
theorem Dv{e s:Nat}{a:Option Addr}{n c:Nat}{xs:List Value}{F:Ab}{w:World}(hs:Sat (rw e s (.slice a n c) xs*F) w)(d:0<n): ∃g,a=some ⟨g,0,none⟩:=by
 rcases hs.Cr with ⟨h1,_⟩|⟨b,n',cap,sp,h1,_⟩
 ·cases h1;omega
 cases h1;exact ⟨_,rfl⟩
theorem jK{e s:Nat}{a:Option Addr}{n c:Nat}{xs:List Value}{F:Ab}{w:World}(hs:Sat (rw e s (.slice a n c) xs*F) w):xs.length=n*s∧n≤c∧c≤9223372036854775807:=by
 rcases hs.Cr with ⟨h1,b,_⟩|⟨d,n',cap,sp,h1,b,f,g,i,_⟩
 ·simp_all
 simp_all[maxLen]
open Go.Dk
theorem dR(l:List UInt8)(k:Nat)(y:UInt8):(A4 l).set k (.int .u8 y.toNat)=A4 (l.set k y):=by
 unfold A4;rw[List.map_set];rfl
theorem bS{n:Nat}{F:Ab}{w:World}(l:List UInt8)(hl:l.length=n)(a:n≤1099511627776)(hs:Sat F w):Sat (rw TB 1 (.slice (some ⟨w.heap.size,0,none⟩) n n) (A4 l)*F) (w.alloc (.cells (A4 l).toArray TB)):=by
 have h:=hs.alloc (A4 l).toArray TB
 refine Sat.EA (sp:= []) (n:=n) (cap:=n) (by simp[A4,hl]) (by simp[A4,hl]) (Nat.le_refl _) (by unfold maxLen;omega) ?_
 simpa using h
end Go.Proofs.YtfhbmblbidcmmaaGreat
namespace Go.Sl
def Ai(s:Nat)(B:Ab)(v:Value)(n:Nat)(cs:List Value):Prop:=
 cs.length=n*s∧ ∃a c,v= .slice a n c∧n≤c∧c≤9223372036854775807∧ ∀j u,cs[j]?=some u→ ∃b o,a=some ⟨b,o,none⟩∧Mn B b (o+j) u
theorem Ai.left{s:Nat}{A B:Ab}{v:Value}{n:Nat}{cs:List Value}(h:Ai s A v n cs):Ai s (A*B) v n cs:=by
 obtain ⟨h1,a,c,d,f,g,i⟩:=h
 refine ⟨h1,a,c,d,f,g,fun j u k=>?_⟩
 obtain ⟨b,o,e,r⟩:=i j u k
 exact ⟨b,o,e,inferInstance⟩
theorem Ai.right{s:Nat}{A B:Ab}{v:Value}{n:Nat}{cs:List Value}(h:Ai s B v n cs):Ai s (A*B) v n cs:=by
 obtain ⟨h1,a,c,d,f,g,i⟩:=h
 refine ⟨h1,a,c,d,f,g,fun j u k=>?_⟩
 obtain ⟨b,o,e,r⟩:=i j u k
 exact ⟨b,o,e,inferInstance⟩
theorem Ai.eq{s:Nat}{A B:Ab}{v:Value}{n:Nat}{cs:List Value}(h:Ai s A v n cs)(e:A=B):Ai s B v n cs:=e▸h
theorem Ai.v{s:Nat}{B:Ab}{v:Value}{n:Nat}{cs:List Value}(h:Ai s B v n cs): ∃a c,v= .slice a n c∧n≤c∧c≤9223372036854775807:=by
 obtain ⟨_,a,c,b,d,e,_⟩:=h
 grind
theorem Ai.nil(s:Nat)(B:Ab):Ai s B (.slice none 0 0) 0 []:=⟨by simp,none,0,rfl,by omega,by omega,fun j u h=>by simp at h⟩
theorem Ai.rw{e s:Nat}{v:Value}{n:Nat}{cs:List Value}{F:Ab}{w:World}(hs:Sat (rw e s v cs*F) w)(o: ∃a c,v= .slice a n c):Ai s (rw e s v cs) v n cs:=by
 obtain ⟨a,c,rfl⟩:=o
 rcases hs.Cr with ⟨h1,b,_⟩|⟨g,n',cap,sp,h1,b,k,d,f,_⟩
 · cases h1;subst b
   exact Ai.nil s _
 cases h1
 refine ⟨b,_,_,rfl,d,by simpa[maxLen] using f,fun j u i=>⟨g,0,rfl,?_⟩⟩
 exact ⟨fun F w hs=>by
  rcases hs.Cr with ⟨h1,b,_⟩|⟨p,n',cap,sp,h1,b,k,d,f,l⟩
  · grind
  cases h1
  have m:Sat (Sl.cells g 0 (cs++sp)*(Sl.Ev g e (cs++sp).length*F)) w:=l.eq (by unfold Sl.block;ac_rfl)
  simpa using m.DV j u (by rw[List.getElem?_append_left (List.getElem?_eq_some_iff.1 i).1];exact i)⟩
theorem Ai.at{s:Nat}{B:Ab}{a:Option Addr}{n c:Nat}{cs:List Value}(h:Ai s B (.slice a n c) n cs)(j:Nat)(u:Value)(k:cs[j]?=some u): ∃b o,a=some ⟨b,o,none⟩∧Mn B b (o+j) u:=by
 obtain ⟨h1,a',d,e,f,g,i⟩:=h
 cases e
 simp_all
theorem Ai.cut{s:Nat}{B:Ab}{a:Option Addr}{n c:Nat}{cs:List Value}(h:Ai s B (.slice a n c) n cs)(lo hi:Nat)(h1:lo≤hi)(q:hi≤n):
 Ai s B (.slice (AH a c lo s) (hi-lo) (c-lo)) (hi-lo) ((cs.drop (lo*s)).take ((hi-lo)*s)):=by
 obtain ⟨g,a',l,e,m,p,i⟩:=h
 cases e
 refine ⟨?_,_,_,rfl,by omega,by omega,fun j u d=>?_⟩
 ·rw[List.length_take,List.length_drop,g,Nat.min_eq_left]
  rw[←Nat.sub_mul]
  exact Nat.mul_le_mul_right _ (by omega)
 have f:=(List.getElem?_eq_some_iff.1 d).1
 rw[List.getElem?_take] at d
 split at d
 ·rw[List.getElem?_drop] at d
  obtain ⟨b,o,rfl,r⟩:=i _ u d
  have k:lo<hi:=by
   rcases Nat.lt_or_ge lo hi with h|h
   · exact h
   have:hi-lo=0:=by omega
   rw[this] at f;simp at f
  refine ⟨b,o+lo*s,?_,?_⟩
  · unfold AH
    rw[if_neg (by omega)]
    simp[Addr.add]
  rw[Nat.add_assoc];exact r
 cases d
theorem Ai.src{P:Program}{s:Nat}{B:Ab}{v:Value}{n:Nat}{cs:List Value}(h:Ai s B v n cs)(h1: ∀u∈cs,u.oneCell'=true){F:Ab}{w:World}(hs:Sat (B*F) w):Src P s w v n cs:=by
 obtain ⟨d,a,c,rfl,l,m,f⟩:=h
 rcases Nat.eq_zero_or_pos cs.length with h0|h0
 ·have:cs= []:=List.length_eq_zero_iff.1 h0
  subst this
  refine ⟨fun _=>rfl,fun k=>?_,d,by simp⟩
  cases a with
  |none=>rfl
  | some g =>
   show (loadCells g (n*s)).run P (w.drewN k)=_
   rw[←d]
   rfl
 obtain ⟨b,o,rfl,_⟩:=f 0 _ (List.getElem?_eq_getElem h0)
 refine Src.slice d (fun j u i=>?_) h1
 obtain ⟨b',o',e,r⟩:=f j u i
 cases e
 exact r.out F w hs
theorem n8{A R:Ab}{w:World}[h:AR A w](X:Ab)[t:Take A X R]:Sat X w:=Sat.Dx (h.out.take X)
theorem Ar{A R R':Ab}{w:World}[h:AR A w](X Y:Ab)[t:Take A X R][t':Take R Y R']:Sat (X*Y) w:=Sat.Dx (B:=R') ((h.out.NK X Y).eq (by ac_rfl))
theorem AD{A R R' a:Ab}{w:World}[h:AR A w](X Y Z:Ab)[t:Take A X R][t':Take R Y R'][t'':Take R' Z a]:Sat (X*(Y*Z)) w:=Sat.Dx (B:=a) ((h.out.K6 X Y Z).eq (by ac_rfl))
theorem Cz{A R R' a b:Ab}{w:World}[h:AR A w](X Y Z V:Ab)[t:Take A X R][t':Take R Y R'][t'':Take R' Z a][t3:Take a V b]:Sat (X*(Y*(Z*V))) w:=Sat.Dx (B:=b) ((h.out.K6 X Y Z).eq (by rw[t3.out];ac_rfl))
theorem DC{A R R' a b c:Ab}{w:World}[h:AR A w](X Y Z V U:Ab)[t:Take A X R][t':Take R Y R'][t'':Take R' Z a][t3:Take a V b][t4:Take b U c]:Sat (X*(Y*(Z*(V*U)))) w:=Sat.Dx (B:=c) ((h.out.K6 X Y Z).eq (by rw[t3.out,t4.out];ac_rfl))
theorem DZ{A R R' a b c d:Ab}{w:World}[h:AR A w](X Y Z V U T:Ab)[t:Take A X R][t':Take R Y R'][t'':Take R' Z a][t3:Take a V b][t4:Take b U c][t5:Take c T d]:Sat (X*(Y*(Z*(V*(U*T))))) w:=Sat.Dx (B:=d) ((h.out.K6 X Y Z).eq (by rw[t3.out,t4.out,t5.out];ac_rfl))
theorem SR{A R R' a:Ab}{w:World}[h:AR A w](X Y Z:Ab)[t:Take A X R][t':Take R Y R'][t'':Take R' Z a]:Sat (X*(Y*(Z*a))) w:=h.out.K6 X Y Z
theorem Bh{A R R':Ab}{w:World}[h:AR A w](X Y:Ab)[t:Take A X R][t':Take R Y R']:Sat (X*(Y*R')) w:=h.out.NK X Y
theorem JX{α:Type}{f:α→List Value}{s:Nat}(a: ∀x,(f x).length=s): ∀(l:List α)(i k:Nat)(x:α),l[i]?=some x→k<s→(l.flatMap f)[i*s+k]?=(f x)[k]?
 | [],i,k,x,h,_=>by simp at h
 |y::l,0,k,x,h,b=>by grind
 | y :: l, i + 1, k, x, h, b => by
  rw[List.flatMap_cons,List.getElem?_append_right (by rw[a,Nat.add_mul];omega),a,show (i+1)*s+k-s=i*s+k by rw[Nat.add_mul];omega]
  exact JX a l i k x h b
theorem M0{α:Type}{f:α→List Value}{s:Nat}(a: ∀x,(f x).length=s)(l:List α):(l.flatMap f).length=l.length*s:=by induction l with
 |nil=>simp
 |cons x l b=>rw[List.flatMap_cons,List.length_append,a,b,List.length_cons,Nat.add_mul];omega
theorem Ai.row{α:Type}{f:α→List Value}{s:Nat}(d: ∀x,(f x).length=s)(hp:0<s){B:Ab}{a:Option Addr}{n c:Nat}{l:List α}(h:Ai s B (.slice a n c) n (l.flatMap f)){i:Nat}{x:α}(hi:l[i]?=some x):
 ∃b o,a=some ⟨b,o,none⟩∧ ∀k u,(f x)[k]?=some u→Mn B b (o+i*s+k) u:=by
 obtain ⟨t,a',q,e,v,w,j⟩:=h
 cases e
 obtain ⟨u,p⟩: ∃u,(f x)[0]?=some u:=⟨_,List.getElem?_eq_getElem (by rw[d];exact hp)⟩
 obtain ⟨b,o,rfl,_⟩:=j (i*s+0) u (by rw[JX d l i 0 x hi hp];exact p)
 refine ⟨b,o,rfl,fun k u m=>?_⟩
 have g:k<s:=by rw[←d x];exact (List.getElem?_eq_some_iff.1 m).1
 obtain ⟨b',o',e,r⟩:=j (i*s+k) u (by rw[JX d l i k x hi g];exact m)
 cases e
 grind
