/- treeFails holds for every input. No condition. (part 14) -/
import Derived.Test.YtfhbmblbidcmmaaGreatYa7
set_option linter.all false
namespace Go.Proofs.YtfhbmblbidcmmaaGreat
open Go.RowKit Go.Sl
theorem Zp(e s n c g:Nat)(xs:List Value)(L:Nat)(k:xs.length=L):rw e s (.slice (some ⟨g,0,none⟩) n c) xs=ex fun sp: {sp:List Value//L=n*s∧L+sp.length=c*s∧n≤c∧c≤maxLen} =>block g e (xs++sp.1):=by
 subst k
 funext h
 apply propext
 constructor
 ·rintro (⟨a,_⟩|⟨m,n',l,sp,a,b,d,f,i,j⟩)
  ·cases a
  cases a
  exact ⟨⟨sp,b,by simpa using d,f,i⟩,j⟩
 rintro ⟨⟨sp,b,d,f,i⟩,j⟩
 exact .inr ⟨g,n,c,sp,rfl,b,by simpa using d,f,i,j⟩
theorem RS{e s n c g k:Nat}{xs:List Value}{v:Value}(h:xs[k]?=some v): ∃R,rw e s (.slice (some ⟨g,0,none⟩) n c) xs=Sl.cell g k v*R∧ ∀v',rw e s (.slice (some ⟨g,0,none⟩) n c) (xs.set k v')=Sl.cell g k v'*R:=by
 have f:=(List.getElem?_eq_some_iff.1 h).1
 have d: ∀sp:List Value,∃F,cells g 0 (xs++sp)=Sl.cell g k v*F∧ ∀v',cells g 0 (xs.set k v'++sp)=Sl.cell g k v'*F:=by
  intro sp
  obtain ⟨F,a,i⟩:=Ex g (xs++sp) 0 k v (by rw[List.getElem?_append_left f];exact h)
  rw[Nat.zero_add] at a
  refine ⟨F,a,fun v'=>?_⟩
  have b:=i v'
  rw[List.set_append_left _ _ f,Nat.zero_add] at b
  exact b
 let F:List Value→Ac:=fun sp=>Classical.choose (d sp)
 have hF: ∀sp,cells g 0 (xs++sp)=Sl.cell g k v*F sp∧ ∀v',cells g 0 (xs.set k v'++sp)=Sl.cell g k v'*F sp:=fun sp=>Classical.choose_spec (d sp)
 refine ⟨ex fun sp: {sp:List Value//xs.length=n*s∧xs.length+sp.length=c*s∧n≤c∧c≤maxLen} =>Dl g e (xs.length+sp.1.length)*F sp.1,?_,fun v'=>?_⟩
 · rw[Zp _ _ _ _ _ _ xs.length rfl,Fu,W9]
   congr 1
   funext sp
   unfold block
   rw[(hF sp.1).1,List.length_append]
   ac_rfl
 rw[Zp _ _ _ _ _ _ xs.length List.length_set,Fu,W9]
 congr 1
 funext sp
 unfold block
 rw[(hF sp.1).2 v',List.length_append,List.length_set]
 ac_rfl
instance k9(e s n c g k:Nat)(xs:List Value)(v:Value)[h:At xs k v]:DA (rw e s (.slice (some ⟨g,0,none⟩) n c) xs) g k v:=
 let ⟨R,h1,_⟩:=RS (e:=e) (s:=s) (n:=n) (c:=c) (g:=g) h.out;⟨R,h1⟩
instance k'(e s n c g k:Nat)(xs:List Value)(v v':Value)[h:At xs k v]:UC (rw e s (.slice (some ⟨g,0,none⟩) n c) xs) g k v' (rw e s (.slice (some ⟨g,0,none⟩) n c) (xs.set k v')):=
 let ⟨R,h1,h2⟩:=RS (e:=e) (s:=s) (n:=n) (c:=c) (g:=g) h.out;⟨v,R,h1,h2 v'⟩
theorem DZ{e s:Nat}{a:Option Addr}{n c:Nat}{xs:List Value}{F:Ac}{w:World}(hs:Sat (rw e s (.slice a n c) xs*F) w)(f:0<n): ∃g,a=some ⟨g,0,none⟩:=by
 rcases hs.Cm with ⟨b,_⟩|⟨d,n',cap,sp,b,_⟩
 ·cases b;omega
 cases b;exact ⟨_,rfl⟩
theorem ZI{e s:Nat}{a:Option Addr}{n c:Nat}{xs:List Value}{F:Ac}{w:World}(hs:Sat (rw e s (.slice a n c) xs*F) w):xs.length=n*s∧n≤c∧c≤9223372036854775807:=by
 rcases hs.Cm with ⟨b,d,_⟩|⟨i,n',cap,sp,b,d,j,f,g,_⟩
 ·cases b;subst d;simp
 cases b;exact ⟨d,f,by simpa[maxLen] using g⟩
open Go.Dk
theorem Yo(l:List UInt8)(k:Nat)(y:UInt8):(A4 l).set k (.int .u8 y.toNat)=A4 (l.set k y):=by
 unfold A4;rw[List.map_set];rfl
theorem X9{n:Nat}{F:Ac}{w:World}(l:List UInt8)(hl:l.length=n)(a:n≤1099511627776)(hs:Sat F w):Sat (rw TB 1 (.slice (some ⟨w.heap.size,0,none⟩) n n) (A4 l)*F) (w.alloc (.cells (A4 l).toArray TB)):=by
 have h:=hs.alloc (A4 l).toArray TB
 refine Sat.Fg (sp:= []) (n:=n) (cap:=n) (by simp[A4,hl]) (by simp[A4,hl]) (Nat.le_refl _) (by unfold maxLen;omega) ?_
 simpa using h
end Go.Proofs.YtfhbmblbidcmmaaGreat
namespace Go.Sl
def Al(s:Nat)(B:Ac)(v:Value)(n:Nat)(d:List Value):Prop:=
 d.length=n*s∧ ∃a c,v= .slice a n c∧n≤c∧c≤9223372036854775807∧ ∀j u,d[j]?=some u→ ∃b o,a=some ⟨b,o,none⟩∧Oy B b (o+j) u
theorem Al.left{s:Nat}{A B:Ac}{v:Value}{n:Nat}{d:List Value}(h:Al s A v n d):Al s (A*B) v n d:=by
 obtain ⟨f,a,c,g,i,k,l⟩:=h
 refine ⟨f,a,c,g,i,k,fun j u m=>?_⟩
 obtain ⟨b,o,e,r⟩:=l j u m
 exact ⟨b,o,e,inferInstance⟩
theorem Al.right{s:Nat}{A B:Ac}{v:Value}{n:Nat}{d:List Value}(h:Al s B v n d):Al s (A*B) v n d:=by
 obtain ⟨f,a,c,g,i,k,l⟩:=h
 refine ⟨f,a,c,g,i,k,fun j u m=>?_⟩
 obtain ⟨b,o,e,r⟩:=l j u m
 exact ⟨b,o,e,inferInstance⟩
theorem Al.eq{s:Nat}{A B:Ac}{v:Value}{n:Nat}{a:List Value}(h:Al s A v n a)(e:A=B):Al s B v n a:=e▸h
theorem Al.v{s:Nat}{B:Ac}{v:Value}{n:Nat}{b:List Value}(h:Al s B v n b): ∃a c,v= .slice a n c∧n≤c∧c≤9223372036854775807:=by
 obtain ⟨_,a,c,d,e,f,_⟩:=h
 exact ⟨a,c,d,e,f⟩
theorem Al.nil(s:Nat)(B:Ac):Al s B (.slice none 0 0) 0 []:=⟨by simp,none,0,rfl,by omega,by omega,fun j u h=>by simp at h⟩
theorem Al.rw{e s:Nat}{v:Value}{n:Nat}{d:List Value}{F:Ac}{w:World}(hs:Sat (rw e s v d*F) w)(q: ∃a c,v= .slice a n c):Al s (rw e s v d) v n d:=by
 obtain ⟨a,c,rfl⟩:=q
 rcases hs.Cm with ⟨b,f,_⟩|⟨g,n',cap,sp,b,f,m,i,k,_⟩
 · cases b;subst f
   exact Al.nil s _
 cases b
 refine ⟨f,_,_,rfl,i,by simpa[maxLen] using k,fun j u l=>⟨g,0,rfl,?_⟩⟩
 rw[Nat.zero_add]
 exact ⟨fun F w hs=>by
  rcases hs.Cm with ⟨b,f,_⟩|⟨r,n',cap,sp,b,f,m,i,k,o⟩
  · cases b
  cases b
  have p:Sat (Sl.cells g 0 (d++sp)*(Sl.Dl g e (d++sp).length*F)) w:=o.eq (by unfold Sl.block;ac_rfl)
  simpa using p.DC j u (by rw[List.getElem?_append_left (List.getElem?_eq_some_iff.1 l).1];exact l)⟩
theorem Al.at{s:Nat}{B:Ac}{a:Option Addr}{n c:Nat}{d:List Value}(h:Al s B (.slice a n c) n d)(j:Nat)(u:Value)(g:d[j]?=some u): ∃b o,a=some ⟨b,o,none⟩∧Oy B b (o+j) u:=by
 obtain ⟨k,a',i,e,l,m,f⟩:=h
 cases e
 exact f j u g
theorem Al.cut{s:Nat}{B:Ac}{a:Option Addr}{n c:Nat}{g:List Value}(h:Al s B (.slice a n c) n g)(lo hi:Nat)(t:lo≤hi)(v:hi≤n):
 Al s B (.slice (BP a c lo s) (hi-lo) (c-lo)) (hi-lo) ((g.drop (lo*s)).take ((hi-lo)*s)):=by
 obtain ⟨i,a',m,e,p,q,k⟩:=h
 cases e
 refine ⟨?_,_,_,rfl,by omega,by omega,fun j u d=>?_⟩
 ·rw[List.length_take,List.length_drop,i,Nat.min_eq_left]
  rw[←Nat.sub_mul]
  exact Nat.mul_le_mul_right _ (by omega)
 have f:=(List.getElem?_eq_some_iff.1 d).1
 rw[List.getElem?_take] at d
 split at d
 ·rw[List.getElem?_drop] at d
  obtain ⟨b,o,rfl,r⟩:=k _ u d
  have l:lo<hi:=by
   rcases Nat.lt_or_ge lo hi with h|h
   · exact h
   have:hi-lo=0:=by omega
   rw[this] at f;simp at f
  refine ⟨b,o+lo*s,?_,?_⟩
  · unfold BP
    rw[if_neg (by omega)]
    simp[Addr.add]
  rw[Nat.add_assoc];exact r
 cases d
theorem Al.src{P:Program}{s:Nat}{B:Ac}{v:Value}{n:Nat}{d:List Value}(h:Al s B v n d)(m: ∀u∈d,u.oneCell'=true){F:Ac}{w:World}(hs:Sat (B*F) w):Src P s w v n d:=by
 obtain ⟨f,a,c,rfl,q,t,i⟩:=h
 rcases Nat.eq_zero_or_pos d.length with g|g
 ·have:d= []:=List.length_eq_zero_iff.1 g
  subst this
  refine ⟨fun _=>rfl,fun k=>?_,f,by simp⟩
  rw[g] at f
  cases a with
  |none=>rfl
  | some l =>
   show (loadCells l (n*s)).run P (w.drewN k)=_
   rw[←f]
   rfl
 obtain ⟨b,o,rfl,_⟩:=i 0 _ (List.getElem?_eq_getElem g)
 refine Src.slice f (fun j u p=>?_) m
 obtain ⟨b',o',e,r⟩:=i j u p
 cases e
 exact r.out F w hs
theorem WL{A R:Ac}{w:World}[h:BG A w](X:Ac)[t:Take A X R]:Sat X w:=Sat.CR (h.out.take X)
theorem Av{A R R':Ac}{w:World}[h:BG A w](X Y:Ac)[t:Take A X R][t':Take R Y R']:Sat (X*Y) w:=Sat.CR (B:=R') ((h.out.Mh X Y).eq (by ac_rfl))
theorem AR{A R R' a:Ac}{w:World}[h:BG A w](X Y Z:Ac)[t:Take A X R][t':Take R Y R'][t'':Take R' Z a]:Sat (X*(Y*Z)) w:=Sat.CR (B:=a) ((h.out.Mi X Y Z).eq (by ac_rfl))
theorem Dv{A R R' a b:Ac}{w:World}[h:BG A w](X Y Z V:Ac)[t:Take A X R][t':Take R Y R'][t'':Take R' Z a][t3:Take a V b]:Sat (X*(Y*(Z*V))) w:=Sat.CR (B:=b) ((h.out.Mi X Y Z).eq (by rw[t3.out];ac_rfl))
theorem BL{A R R' a b c:Ac}{w:World}[h:BG A w](X Y Z V U:Ac)[t:Take A X R][t':Take R Y R'][t'':Take R' Z a][t3:Take a V b][t4:Take b U c]:Sat (X*(Y*(Z*(V*U)))) w:=Sat.CR (B:=c) ((h.out.Mi X Y Z).eq (by rw[t3.out,t4.out];ac_rfl))
theorem EH{A R R' a b c d:Ac}{w:World}[h:BG A w](X Y Z V U T:Ac)[t:Take A X R][t':Take R Y R'][t'':Take R' Z a][t3:Take a V b][t4:Take b U c][t5:Take c T d]:Sat (X*(Y*(Z*(V*(U*T))))) w:=Sat.CR (B:=d) ((h.out.Mi X Y Z).eq (by rw[t3.out,t4.out,t5.out];ac_rfl))
theorem Qs{A R R' a:Ac}{w:World}[h:BG A w](X Y Z:Ac)[t:Take A X R][t':Take R Y R'][t'':Take R' Z a]:Sat (X*(Y*(Z*a))) w:=h.out.Mi X Y Z
theorem AY{A R R':Ac}{w:World}[h:BG A w](X Y:Ac)[t:Take A X R][t':Take R Y R']:Sat (X*(Y*R')) w:=h.out.Mh X Y
theorem K0{α:Type}{f:α→List Value}{s:Nat}(a: ∀x,(f x).length=s): ∀(l:List α)(i k:Nat)(x:α),l[i]?=some x→k<s→(l.flatMap f)[i*s+k]?=(f x)[k]?
 | [],i,k,x,h,_=>by simp at h
 | y :: l, 0, k, x, h, b => by
  simp at h;subst h
  rw[List.flatMap_cons,Nat.zero_mul,Nat.zero_add,List.getElem?_append_left (by rw[a];exact b)]
 | y :: l, i + 1, k, x, h, b => by
  simp at h
  rw[List.flatMap_cons,List.getElem?_append_right (by rw[a,Nat.add_mul];omega),a,show (i+1)*s+k-s=i*s+k by rw[Nat.add_mul];omega]
  exact K0 a l i k x h b
theorem OD{α:Type}{f:α→List Value}{s:Nat}(a: ∀x,(f x).length=s)(l:List α):(l.flatMap f).length=l.length*s:=by
 induction l with
 |nil=>simp
 |cons x l b=>rw[List.flatMap_cons,List.length_append,a,b,List.length_cons,Nat.add_mul];omega
theorem Al.row{α:Type}{f:α→List Value}{s:Nat}(d: ∀x,(f x).length=s)(hp:0<s){B:Ac}{a:Option Addr}{n c:Nat}{l:List α}(h:Al s B (.slice a n c) n (l.flatMap f)){i:Nat}{x:α}(hi:l[i]?=some x):
 ∃b o,a=some ⟨b,o,none⟩∧ ∀k u,(f x)[k]?=some u→Oy B b (o+i*s+k) u:=by
 obtain ⟨t,a',q,e,v,w,j⟩:=h
 cases e
 obtain ⟨u,p⟩: ∃u,(f x)[0]?=some u:=⟨_,List.getElem?_eq_getElem (by rw[d];exact hp)⟩
 obtain ⟨b,o,rfl,_⟩:=j (i*s+0) u (by rw[K0 d l i 0 x hi hp];exact p)
 refine ⟨b,o,rfl,fun k u m=>?_⟩
 have g:k<s:=by rw[←d x];exact (List.getElem?_eq_some_iff.1 m).1
 obtain ⟨b',o',e,r⟩:=j (i*s+k) u (by rw[K0 d l i k x hi g];exact m)
 cases e
 rw[Nat.add_assoc];exact r
