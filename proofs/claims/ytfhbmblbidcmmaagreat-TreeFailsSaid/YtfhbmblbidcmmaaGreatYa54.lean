/- treeFails holds for every input. No condition. (part 54) -/
import Derived.Test.YtfhbmblbidcmmaaGreatYa19
set_option linter.all false
namespace Go.Proofs.YtfhbmblbidcmmaaGreat
open Go.RowKit Go.Sl Go.Dk Go.Tr Go.ChangeShapes Go.WideShapes
theorem Py{α:Type}{f:α→List Value} : ∀l:List (List Value),(∀r∈l,∃c,r=f c)→ ∃a:List α,l=a.map f
 | [],_=>⟨[],rfl⟩
 | r :: l, hl => by
  obtain ⟨c,rfl⟩:=hl r (by simp)
  obtain ⟨a,rfl⟩:=Py l fun d b=>hl d (by simp[b])
  exact ⟨c::a,rfl⟩
theorem Yx{r:List Value}(h:r.length=4): ∃a b c d,r= [a,b,c,d]:=by
 match r,h with
 | [a,b,c,d],_=>exact ⟨a,b,c,d,rfl⟩
theorem Tm{w:World}{a:Option Addr}{cap:Nat}{l:List As}(h:ZX w (.slice a l.length cap) 4 (l.map CZ))(m:l.length≤cap)(n:cap≤9223372036854775807):Aq (Jm w) (.slice a l.length cap) l:=by
 have c:(AQ l).length=l.length*4:=OD (f:=CZ) (fun _=>rfl) l
 refine ⟨c,a,cap,rfl,m,n,fun j u k=>?_⟩
 have q:j<l.length*4:=by
  rw[←c]
  exact (List.getElem?_eq_some_iff.1 k).1
 obtain ⟨x,hx⟩: ∃x,l[j/4]?=some x:=⟨_,List.getElem?_eq_getElem (by omega)⟩
 have g:=K0 (f:=CZ) (s:=4) (fun _=>rfl) l (j/4) (j%4) x hx (by omega)
 have d:j/4*4+j%4=j:=by omega
 rw[d] at g
 obtain ⟨b,o,rfl,p⟩:=h.at (i:=j/4) (r:=CZ x) (by simp[hx])
 refine ⟨b,o,rfl,?_⟩
 have e:=p (j%4) u (g.symm.trans k)
 rw[Nat.add_assoc,d] at e
 haveI:Zg w b (o+j) u:=⟨e⟩
 exact inferInstance
theorem GB{H:Type}{enc:TypeId×Value→H}{w:World}{b:Nat}{a:Nat→Bool}{d:Bool}{t e:Nat}{r:List Value}{x:DataW H×List MemPlace}{fs:Array Field}
 (s:Tryz.prog.underlying t=some (.struct fs)) (h:DataW.trod enc Tryz.prog w b a d e t r=some x) (i j g c:Nat) (q:(fs[i]?).map (fun f=>(f.type,f.offset))=some (j,g)) (p:Tryz.prog.cellsOf j=c):
 ∃n y,DataW.trod enc Tryz.prog w b a d n j ((r.drop g).take c)=some y:=by
 obtain ⟨_,n,l⟩:=J5 s h
 obtain ⟨f,m,o⟩:=Option.map_eq_some_iff.1 q
 obtain ⟨y,k⟩:=l i f m
 cases o
 rw[p] at k
 exact ⟨n,y,k⟩
theorem SA{H:Type}{enc:TypeId×Value→H}{w:World}{e:Nat}{d:Nat→Bool}{g:Bool}{a:Option Addr}{len cap:Nat}
 (h: ∃b x,DataW.trod enc Tryz.prog w e d g b 29 [.slice a len cap]=some x):
 ∃l:List As,l.length=len∧Aq (Jm w) (.slice a len cap) l:=by
 obtain ⟨b,x,hx⟩:=h
 have c:len≤cap∧cap≤maxLen:=by
  rcases DataW.trod_slice Tryz.underlying29 hx with ⟨u,_⟩|⟨a',z,q,m,rest,n,_,k,_,_,p,v,_⟩
  ·simp only[List.cons.injEq,Value.slice.injEq,and_true] at u
   obtain ⟨_,rfl,rfl⟩:=u
   exact ⟨Nat.le_refl _,by unfold maxLen;decide⟩
  simp only[List.cons.injEq,Value.slice.injEq,and_true] at k
  obtain ⟨_,rfl,rfl⟩:=k
  exact ⟨p,v⟩
 have t:Tryz.prog.cellsOf A9=4:=by kernel_rfl
 have B:Tryz.prog.cellsOf 75=3:=by kernel_rfl
 have j:Tryz.prog.cellsOf 3=1:=by kernel_rfl
 obtain ⟨K,k,p,v,J⟩:=Qk (s:=4) Tryz.underlying29 t (by omega) hx
 obtain ⟨l,rfl⟩:=Py (f:=CZ) K (by
  intro r hr
  obtain ⟨n,y,hy⟩:=J r hr
  obtain ⟨hl,n',Q⟩:=J5 Tryz.underlying77 hy
  obtain ⟨R,T,U,V,rfl⟩:=Yx (hl.trans t)
  obtain ⟨_,W,o⟩:=GB Tryz.underlying77 hy 0 75 0 3 rfl B
  obtain ⟨_,X,D⟩:=GB Tryz.underlying77 hy 1 3 3 1 rfl j
  obtain ⟨_,Y,g0⟩:=GB Tryz.underlying75 o 0 3 0 1 rfl j
  obtain ⟨_,Z,G⟩:=GB Tryz.underlying75 o 1 3 1 1 rfl j
  obtain ⟨_,y4,I⟩:=GB Tryz.underlying75 o 2 3 2 1 rfl j
  obtain ⟨L,rfl,_⟩:=Gg Tryz.underlying3 g0
  obtain ⟨M,rfl,_⟩:=Gg Tryz.underlying3 G
  obtain ⟨O,rfl,_⟩:=Gg Tryz.underlying3 I
  obtain ⟨P,rfl,_⟩:=Gg Tryz.underlying3 D
  exact ⟨⟨L,M,O,P⟩,rfl⟩)
 have i:l.length=len:=by simpa using p
 subst i
 exact ⟨l,rfl,Tm k c.1 c.2⟩
