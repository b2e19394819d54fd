/- censusSound holds for every input. No condition. (part 26) -/
import Derived.Test.YtfhbmblbidcmmaaGreatWa23
import Derived.Test.YtfhbmblbidcmmaaGreatWa25
set_option linter.all false
set_option maxRecDepth 100000
set_option maxHeartbeats 3200000
namespace Go.Proofs.YtfhbmblbidcmmaaGreat
open Go.RowKit Go.Sl Go.Dk Go.Tr
open Go.PS (A9)
variable [Em]
def EH:ByteArray:=⟨#[111,114,105,103,105,110,97,108]⟩
def E7:ByteArray:=⟨#[116,97,105,108]⟩
theorem Zj:Dk.named EH=true:=by decide+kernel
theorem QZ:Dk.named E7=true:=by decide+kernel
abbrev mV:TypeId:=190
def DY(X M D:Nat)(n:Int)(x:Ix):Ab:=Sl.block X mV [.pointer (some ⟨D,0,none⟩),.string EH,.int .i64 n,.int .i64 x.rd,.map (some M)]*mp A9 M (eN x.cs)
def RB(d:Dk)(nm:ByteArray)(b:List UInt8):Prop:= ∃f,d.get nm=some f∧f.now=b
structure lY (O T:List UInt8) (s:TS) (x:Ix):Prop where
 inv:GS true s
 ix:kF O x
 fo:RB s.ck.d EH O
 ft:RB s.ck.d E7 T
 nm:EH≠s.ck.nm∧E7≠s.ck.nm
 lo:O.length≤1048576
 lt:T.length≤1048576
theorem lY.at{O T:List UInt8}{s:TS}{x a:Ix}(h:lY O T s x)(k:kF O a):lY O T s a:=⟨h.inv,k,h.fo,h.ft,h.nm,h.lo,h.lt⟩
theorem RQ{h:Th}{s:TS}{F:Ab}{w:World}(hs:Sat (Ad h s*F) w): ∃G:Ab,Sat (Bv h.D s.ck.d*(G*F)) w∧ ∀(a:Ab)(b:World),Sat (Bv h.D s.ck.d*(G*a)) b→Sat (Ad h s*a) b:=by
 obtain ⟨hi,h1⟩:=Ek hs
 obtain ⟨L,PM,ps,c,e⟩:=Sat.Cj h1
 refine ⟨coreC h.C L h.D PM s.ck*(C2 L s.ck.cap s.ck.its*(mp A9 PM (ps.map JZ)*(AU ps*(Cf h.S s.sp*Sl.block h.t Tg [.pointer (some ⟨h.C,0,none⟩),.pointer (some ⟨h.S,0,none⟩)])))),e.eq (by unfold BF;ac_rfl),fun a b f=>?_⟩
 refine Dw hi (Sat.AS (L:=L) (PM:=PM) c (f.eq ?_))
 unfold BF
 ac_rfl
end Go.Proofs.YtfhbmblbidcmmaaGreat
namespace Go.Tr
theorem Dc{l:List Av}(hm: ∀x∈l,0≤x.len∧x.len≤1048576): ∀i:Nat,0≤Aa (l.take i)∧Aa (l.take i)≤i*1048576:=by
 intro i
 induction i with
 |zero=>simp[Aa]
 | succ i a =>
  cases hx:l[i]? with
  | none =>
   have:l.take (i+1)=l.take i:=by
    have hl:l.length≤i:=by simpa using hx
    rw[List.take_of_length_le hl,List.take_of_length_le (by omega)]
   rw[this]
   omega
  | some x =>
   have:=hm x (List.mem_of_getElem? hx)
   rw[List.take_add_one,hx]
   simp only[Option.toList,Ao]
   have:Aa [x]=x.len:=by simp[Aa]
   omega
end Go.Tr
namespace Go.Proofs.YtfhbmblbidcmmaaGreat
open Go.RowKit Go.Sl Go.Dk Go.Tr
theorem MT(l:List Av)(v:Value)(B F:Ab)(w:World)(j:A1 B v l)(hs:Sat (B*F) w)(hl:l.length≤4294967296)(hm: ∀x∈l,0≤x.len∧x.len≤1048576):
 Calls Tryz.prog 92 #[v] w fun e K=>e= .returned (.int .i64 (Aa l))∧Sat (B*F) K:=by
 obtain ⟨L,c0,rfl,t,u⟩:=j.v
 have r:=As j
 have s:Aside (∀i:Nat,0≤Aa (l.take i)∧Aa (l.take i)≤i*1048576):=Dc hm
 have d:=As hm
 obtain ⟨n,m⟩:=Aq l.length
 rw[m] at hl⊢
 have o:=As m
 haveI:=hs.i
 clear j hm m
 go_enter Tryz.func92,Tryz.ntmps92
 go_wp2
 go_loopg [3,8] n (fun g I J wr=> ∃(i:Nat),J= .int .i64 i∧I= .int .i64 (Aa (l.take i))∧i≤n∧Aside (g=n-i)∧Sat (B*F) wr)
 case atStart=>exact ⟨0,rfl,by simp[Aa],by omega,rfl,hs⟩
 obtain ⟨i,rfl,rfl,hi,A,c⟩:=hrel
 haveI:=c.i
 clear hs
 by_cases k:i<n
 ·have a:(i:Int)<n:=by omega
  obtain ⟨y,hy⟩: ∃y,l[i]?=some y:=⟨_,List.getElem?_eq_getElem (by rw[o.out];exact k)⟩
  obtain ⟨b,q,rfl,r1,D,G,H⟩:=BH r.out hy
  have hb:=s.out i
  have hx:=d.out y (List.mem_of_getElem? hy)
  have f:Aside (Aa (l.take (i+1))=Aa (l.take i)+y.len):=BZ hy
  obtain ⟨z,p⟩:=Aq (Aa (l.take i))
  rw[p] at hb f⊢
  obtain ⟨M,O,P,Q⟩:=y
  simp only at r1 D G H hx f
  clear hy p
  go_wp2
  go_roundg (n-(i+1))
  case measure=>have:=A.out;omega
  refine ⟨i+1,by go_num,by rw[f.out],by omega,rfl,Ar _ _⟩
 have a: ¬(i:Int)<n:=by omega
 obtain rfl:i=n:=by omega
 rw[List.take_of_length_le (by rw[o.out];exact Nat.le_refl _)]
 go_wp2
 go_ret
 exact ⟨rfl,c⟩
theorem DI(y:Av)(b:Nat):A1 (Sl.block b AK (Dq y)) (.slice (some ⟨b,0,none⟩) 1 1) [y]:=by
 refine ⟨rfl,_,_,rfl,Nat.le_refl _,by omega,fun j u c=>⟨b,0,rfl,?_⟩⟩
 have a:(Dq y)[j]?=some u:=by simpa[AQ] using c
 haveI:At (Dq y) j u:=⟨a⟩
 rw[Nat.zero_add]
 infer_instance
theorem Uz(x:Av)(a b:Int)(F:Ab)(w:World)(hs:Sat F w)(h1: -1099511627776≤x.pos∧x.pos≤1099511627776)(p: -1099511627776≤a∧a≤1099511627776)(q: -1099511627776≤b∧b≤1099511627776):
 Calls Tryz.prog 95 #[dY x,.int .i64 a,.int .i64 b] w fun e o=> ∃v G,e= .returned v∧A1 G v (Go.Tr.part x a b)∧Sat (G*F) o:=by
 obtain ⟨c,d,f,g⟩:=x
 unfold Go.Tr.part
 simp only at h1⊢
 haveI:=hs.i
 by_cases j:b≤a
 ·rw[if_pos j]
  go_enter Tryz.func95,Tryz.ntmps95
  go_wp2
  go_ret
  exact ⟨_,1,rfl,Ai.nil 4 _,by rw[Ay];exact n8 _⟩
 rw[if_neg j]
 have l:a<b:=by omega
 by_cases m:0<a∨b<f
 ·rw [if_pos m]
  by_cases hl:g=0
  ·subst hl
   rw[if_neg (by simp)]
   rcases Int.lt_or_le 0 a with ha|ha
   ·go_enter Tryz.func95,Tryz.ntmps95
    go_wp2
    go_ret
    first|exact ⟨_,Sl.block (w.heap.size+1) AK [.int .i64 (c),.int .i64 (d+a),.int .i64 (b-a),.int .i64 (0)],rfl,DI ⟨c,d+a,b-a,0⟩ _,Ar _ F⟩|exact ⟨_,rfl,Sl.block (w.heap.size+1) AK [.int .i64 (c),.int .i64 (d+a),.int .i64 (b-a),.int .i64 (0)],DI ⟨c,d+a,b-a,0⟩ _,Ar _ F⟩
   have hb:b<f:=by omega
   have k: ¬0<a:=by omega
   go_enter Tryz.func95,Tryz.ntmps95
   go_wp2
   go_ret
   first|exact ⟨_,Sl.block (w.heap.size+1) AK [.int .i64 (c),.int .i64 (d+a),.int .i64 (b-a),.int .i64 (0)],rfl,DI ⟨c,d+a,b-a,0⟩ _,Ar _ F⟩|exact ⟨_,rfl,Sl.block (w.heap.size+1) AK [.int .i64 (c),.int .i64 (d+a),.int .i64 (b-a),.int .i64 (0)],DI ⟨c,d+a,b-a,0⟩ _,Ar _ F⟩
  have n:(g !=0)=true:=by simpa using hl
  rw[if_pos hl]
  rcases Int.lt_or_le 0 a with ha|ha
  ·go_enter Tryz.func95,Tryz.ntmps95
   go_wp2
   go_ret
   first|exact ⟨_,Sl.block (w.heap.size+1) AK [.int .i64 (c),.int .i64 (d+a),.int .i64 (b-a),.int .i64 (-1)],rfl,DI ⟨c,d+a,b-a,-1⟩ _,Ar _ F⟩|exact ⟨_,rfl,Sl.block (w.heap.size+1) AK [.int .i64 (c),.int .i64 (d+a),.int .i64 (b-a),.int .i64 (-1)],DI ⟨c,d+a,b-a,-1⟩ _,Ar _ F⟩
  have hb:b<f:=by omega
  have k: ¬0<a:=by omega
  go_enter Tryz.func95,Tryz.ntmps95
  go_wp2
  go_ret
  first|exact ⟨_,Sl.block (w.heap.size+1) AK [.int .i64 (c),.int .i64 (d+a),.int .i64 (b-a),.int .i64 (-1)],rfl,DI ⟨c,d+a,b-a,-1⟩ _,Ar _ F⟩|exact ⟨_,rfl,Sl.block (w.heap.size+1) AK [.int .i64 (c),.int .i64 (d+a),.int .i64 (b-a),.int .i64 (-1)],DI ⟨c,d+a,b-a,-1⟩ _,Ar _ F⟩
 rw[if_neg m]
 have ha: ¬0<a:=by omega
 have hb: ¬b<f:=by omega
 go_enter Tryz.func95,Tryz.ntmps95
 go_wp2
 go_ret
 first|exact ⟨_,Sl.block (w.heap.size+1) AK [.int .i64 (c),.int .i64 (d),.int .i64 (f),.int .i64 (g)],rfl,DI ⟨c,d,f,g⟩ _,Ar _ F⟩|exact ⟨_,rfl,Sl.block (w.heap.size+1) AK [.int .i64 (c),.int .i64 (d),.int .i64 (f),.int .i64 (g)],DI ⟨c,d,f,g⟩ _,Ar _ F⟩
theorem EG(l:List Av):Bk l=(l.all Ah&&decide (Aa l≤1048576)):=rfl
theorem LA{l:List Av}{i:Nat}{y:Av}(hy:l[i]?=some y)(h:Ah y=false):Bk l=false:=by
 rw[EG]
 have:l.all Ah=false:=by
  rw[List.all_eq_false]
  exact ⟨y,List.mem_of_getElem? hy,by simp[h]⟩
 rw[this]
 rfl
theorem XU(y:Av):may ⟨true,[y],[]⟩=Ah y:=by
 unfold may
 cases h:Ah y with
 |false=>simp[h]
 | true =>
  have:=Ca h
  simp[h,Aa,Bc,Bj]
  omega
theorem Gt(l : List Av)(v : Value)(B F : Ab)(w : World)(H : A1 B v l)(hs : Sat (B * F) w)(hl : l.length ≤ 4294967296) :
 Calls Tryz.prog 79 #[v] w fun e P=>e= .returned (.bool (Bk l))∧Sat (B*F) P:=by
 obtain ⟨a0,c0,rfl,a1,a2⟩:=H.v
 have Y:=As H
 obtain ⟨n,L⟩:=Aq l.length
 rw[L] at hl⊢
 have Q:=As L
 obtain ⟨O,c⟩:=Aq (Bk l)
 rw[c]
 have D:=As c
 haveI:=hs.i
 clear H L c
 go_enter Tryz.func79,Tryz.ntmps79
 go_wp2
 go_loopg [3,8] n (fun g t3 t8 wr=> ∃(i:Nat),t8= .int .i64 i∧t3= .int .i64 (Aa (l.take i))∧i≤n∧Aside (g=n-i)∧Aside ((∀x∈l.take i,Ah x=true)∧0≤Aa (l.take i)∧Aa (l.take i)≤1048576)∧Sat (B*F) wr)
 case atStart=>exact ⟨0,rfl,by simp[Aa],by omega,rfl,⟨by simp,by simp[Aa],by simp[Aa]⟩,hs⟩
 obtain ⟨i,rfl,rfl,hi,A,s,o⟩:=hrel
 haveI:=o.i
 clear hs
 by_cases K:i<n
 · have m : (i : Int) < n := by omega
   obtain ⟨y,hy⟩: ∃y,l[i]?=some y:=⟨_,List.getElem?_eq_getElem (by rw[Q.out];exact K)⟩
   obtain ⟨b,q,rfl,r1,T,U,V⟩:=BH Y.out hy
   have k:Aside (Aa (l.take (i+1))=Aa (l.take i)+y.len∧l.take (i+1)=l.take i++ [y]):=⟨BZ hy,AB hy⟩
   have a: ∀(G:Ab)(w:World)(b:Nat),Sat (Sl.block b AK (Dq y)*G) w→Calls Tryz.prog 133 #[.agg #[.bool true,.slice (some ⟨b,0,none⟩) 1 1,.slice none 0 0]] w fun e P=>e= .returned (.bool (Ah y))∧Sat (Sl.block b AK (Dq y)*G) P:=fun G w b h=>by
    rw[←XU]
    refine LB ⟨true,[y],[]⟩ _ _ G w ⟨_,_,rfl,?_,Ai.nil 4 _⟩ h (by simp) (by simp)
    refine ⟨rfl,_,_,rfl,Nat.le_refl _,by omega,fun j u hj=>⟨b,0,rfl,?_⟩⟩
    have J:(Dq y)[j]?=some u:=by simpa[AQ] using hj
    haveI:At (Dq y) j u:=⟨J⟩
    rw[Nat.zero_add]
    infer_instance
   have t:Aside (Ah y=false→O=false):=fun h=>D.out.symm.trans (LA hy h)
   have I:=s.out.2
   obtain ⟨z,r⟩:=Aq (Aa (l.take i))
   rw[r] at I k⊢
   cases d:Ah y with
   | false =>
     rw[d] at a
     have c:=t.out d
     subst c
     obtain ⟨y1,y2,X,y4⟩:=y
     unfold Dq at a
     simp only at r1 T U V a
     clear hy r d
     go_wp2_with fail
     with_reducible refine Calls.mono (a _ _ _ (Ae (Sl.block _ AK _))) ?_
     rintro e W ⟨rfl,p⟩
     haveI:=p.i
     go_wp2
     go_ret
     exact ⟨rfl,Ar _ _⟩
   | true =>
     rw[d] at a
     have M:=Ca d
     have Z:=As d
     obtain ⟨y1,y2,X,y4⟩:=y
     unfold Dq at a
     simp only at r1 T U V a M k
     clear d
     by_cases R:1048576<z+X
     ·have c : O = false := by
       rw[←D.out]
       rw[EG]
       by_cases f:l.all Ah=true
       ·have h1:Aa l=Aa (l.take (i+1))+Aa (l.drop (i+1)):=by rw[←Ao,List.take_append_drop]
        have h2:0≤Aa (l.drop (i+1)):=by
         have:=(Dc (l:=l.drop (i+1)) (fun x hx=>by
          have:=Ca (List.all_eq_true.1 f x (List.mem_of_mem_drop hx))
          omega) (l.drop (i+1)).length).1
         rwa [List.take_of_length_le (Nat.le_refl _)] at this
        have h3:=k.out.1
        rw[decide_eq_false (by omega),Bool.and_false]
       rw[Bool.not_eq_true] at f
       rw[f]
       rfl
      subst c
      clear hy r
      go_wp2_with fail
      with_reducible refine Calls.mono (a _ _ _ (Ae (Sl.block _ AK _))) ?_
      rintro e W ⟨rfl,p⟩
      haveI:=p.i
      go_wp2
      go_ret
      exact ⟨rfl,Ar _ _⟩
     clear hy r
     go_wp2_with fail
     with_reducible refine Calls.mono (a _ _ _ (Ae (Sl.block _ AK _))) ?_
     rintro e W ⟨rfl,p⟩
     haveI:=p.i
     go_wp2
     go_roundg (n-(i+1))
     case measure=>have:=A.out;omega
     refine ⟨i+1,by go_num,by rw[k.out.1],by omega,rfl,⟨?_,by rw[k.out.1];omega,by rw[k.out.1];omega⟩,Ar _ _⟩
     rw[k.out.2]
     intro x hx
     rcases List.mem_append.1 hx with hx|hx
     ·exact s.out.1 x hx
     simp at hx;subst hx;exact Z.out
 have m: ¬(i:Int)<n:=by omega
 obtain rfl:i=n:=by omega
 have c:O=true:=by
  rw[←D.out]
  have h:=s.out
  rw[List.take_of_length_le (by rw[Q.out];exact Nat.le_refl _)] at h
  rw[EG]
  rw[List.all_eq_true.2 h.1,decide_eq_true h.2.2]
  rfl
 subst c
 go_wp2
 go_ret
 exact ⟨rfl,o⟩
end Go.Proofs.YtfhbmblbidcmmaaGreat
namespace Go.Tr
def Ll(y:Av):Prop:=0≤y.pos∧y.pos≤16777216∧1≤y.len∧ -1≤y.lines∧y.lines≤y.len
theorem Ll.of{x:Av}(h:Ah x=true):Ll x∧x.len≤1048576:=by
 unfold Ah at h
 simp only[decide_eq_true_eq] at h
 unfold Ll
 omega
theorem GJ{o:List Av}(h: ∀y∈o,Ll y):0≤Aa o∧ ∀y∈o,y.len≤Aa o:=by
 induction o with
 |nil=>simp[Aa]
 | cons a l c =>
  obtain ⟨h1,b⟩:=c fun y hy=>h y (List.mem_cons_of_mem _ hy)
  have ha:=h a (List.mem_cons_self ..)
  unfold Ll at ha
  have e:Aa (a::l)=a.len+Aa l:=by simp[Aa]
  rw[e]
  refine ⟨by omega,fun y hy=>?_⟩
  rcases List.mem_cons.1 hy with rfl|hy
  ·omega
  have:=b y hy;omega
theorem Uv{o:List Av}(h: ∀y∈o,Ll y){x:Av}(hx:Ll x): ∀y∈A8 o x,Ll y:=by
 unfold A8
 cases b:o.getLast? with
 |none=>intro y hy;simp at hy;subst hy;exact hx
 | some a =>
  have ha:=h a (List.mem_of_getLast? b)
  simp only
  split
  ·intro y hy
   rcases List.mem_append.1 hy with hy|hy
   ·exact h y (List.dropLast_subset _ hy)
   simp at hy
   subst hy
   unfold glue Ll at*
   simp only
   split<;>omega
  intro y hy
  rcases List.mem_append.1 hy with hy|hy
  ·exact h y hy
  simp at hy;subst hy;exact hx
theorem GB{p:List Av}{a x:Av}(h:meets a x=false):A8 (p++ [a]) x=(p++ [a])++ [x]:=by
 unfold A8
 simp[h]
theorem FT{p:List Av}{a x:Av}(h:meets a x=true):A8 (p++ [a]) x=p++ [glue a x]:=by
 unfold A8
 simp[h]
theorem KG(o:List Av)(x:Av):(A8 o x).length≤o.length+1:=by
 unfold A8
 split
 ·simp
 split<;>simp
end Go.Tr
namespace Go.Proofs.YtfhbmblbidcmmaaGreat
open Go.RowKit Go.Sl Go.Dk Go.Tr
def RG(B:Ab)(v:Value)(ls:List (List Av)):Prop:= ∃vs:List Value,Ai 1 B v ls.length vs∧vs.length=ls.length∧ ∀(i:Nat)(x:Value)(l:List Av),vs[i]?=some x→ls[i]?=some l→A1 B x l
theorem Dn(p:List Av)(a:Av):AQ (p++ [a])=AQ p++Dq a:=by simp[AQ]
theorem JU(p:List Av):(AQ p).length=p.length*4:=by
 induction p with
 |nil=>rfl
 | cons a l b =>
  have:AQ (a::l)=Dq a++AQ l:=by simp[AQ]
  rw[this,List.length_append,b,List.length_cons]
  simp[Dq]
  omega
theorem Jt(p:List Av)(a:Av)(n:Nat)(b:p.length=n)(j:Nat)(u:Value)(h:(Dq a)[j]?=some u):(AQ (p++ [a]))[n*4+j]?=some u:=by
 rw[Dn,List.getElem?_append_right (by rw[JU,b];omega),JU,b,Nat.add_sub_cancel_left]
 exact h
theorem Ls(p:List Av)(a:Av)(n:Nat)(b:p.length=n)(l m:Int):((AQ (p++ [a])).set (n*4+2) (.int .i64 l)).set (n*4+3) (.int .i64 m)=AQ (p++ [⟨a.src,a.pos,l,m⟩]):=by
 rw[Dn,Dn,List.set_append_right _ _ (by rw[JU,b];omega),List.set_append_right _ _ (by rw[JU,b];omega),JU,b,Nat.add_sub_cancel_left,Nat.add_sub_cancel_left]
 rfl
theorem L0(ls:List (List Av))(v:Value)(B F:Ab)(w:World)(hL:RG B v ls)(hs:Sat (B*F) w)(hn:ls.length≤1048576)(hl:ls.flatten.length≤1048576)(hm: ∀x∈ls.flatten,Ah x=true)(hb:Aa ls.flatten≤1099511627776):
 Calls Tryz.prog 80 #[v] w fun e w'=> ∃a c,e= .returned (.slice a (join ls.flatten).length c)∧Sat (rw AK 4 (.slice a (join ls.flatten).length c) (AQ (join ls.flatten))*(B*F)) w':=by
 obtain ⟨i0,E⟩:=EW
 obtain ⟨vs,hv,ay,ax⟩:=hL
 obtain ⟨a0,c0,rfl,bz,c1⟩:=hv.v
 have HV:=As hv
 have ba:=As ax
 have HM:=As hm
 have ac:Aside (Aa ls.flatten≤1099511627776∧ls.flatten.length≤1048576∧vs.length=ls.length):=⟨hb,hl,ay⟩
 obtain ⟨R,hR⟩:=Aq (join ls.flatten)
 rw[hR]
 have HR:=As hR
 have q0:=hs.AG (e:=AK) (s:=4)
 haveI:=hs.i
 clear hv ax hm hb hl ay hR
 go_enter Tryz.func80,Tryz.ntmps80
 go_wp2
 have b9:Aside (∀i:Nat,(ls.take i).flatten.length≤1048576∧Aa (ls.take i).flatten≤1099511627776∧ ∀x∈(ls.take i).flatten,Ah x=true):=fun i=>by
  have bg:ls.flatten=(ls.take i).flatten++(ls.drop i).flatten:=by rw[←List.flatten_append,List.take_append_drop]
  have h1:=ac.out.1
  have X:=ac.out.2.1
  have h3:=HM.out
  rw[bg] at h1 X h3
  rw[Ao] at h1
  rw[List.length_append] at X
  have h4:=(GJ (o:=(ls.drop i).flatten) (fun y hy=>(Ll.of (h3 y (List.mem_append_right _ hy))).1)).1
  exact ⟨by omega,by omega,fun x hx=>h3 x (List.mem_append_left _ hx)⟩
 obtain ⟨n,a1⟩:=Aq ls.length
 have HN:=As a1
 rw[a1] at hn⊢
 clear a1
 go_loopg [3,11] n (fun g t3 bj wr=> ∃(i:Nat)(o:List Av)(a:Option Addr)(c:Nat),bj= .int .i64 i∧t3= .slice a o.length c∧i≤n∧o.length≤1048576∧Aside (g=n-i∧o=join (ls.take i).flatten)∧Aside (o.length≤(ls.take i).flatten.length∧(∀y∈o,Ll y)∧Aa o=Aa (ls.take i).flatten)∧
  Sat (rw AK 4 (.slice a o.length c) (AQ o)*(B*F)) wr)
 case atStart=>exact ⟨0,[],none,0,rfl,rfl,by omega,by simp,⟨rfl,rfl⟩,⟨by simp,by simp,rfl⟩,q0⟩
 obtain ⟨i,o,a,c,rfl,rfl,hi,bf,A,A2,a3⟩:=hrel
 clear q0 hs this
 haveI:=a3.i
 by_cases c6:i<n
 · have aw:(i:Int)<n:=by omega
   obtain ⟨x,hx⟩: ∃x,vs[i]?=some x:=⟨_,List.getElem?_eq_getElem (by have:=ac.out.2.2;have:=HN.out;omega)⟩
   obtain ⟨l,hl⟩: ∃l,ls[i]?=some l:=⟨_,List.getElem?_eq_getElem (by have:=HN.out;omega)⟩
   have ai:=HV.out
   rw[HN.out] at ai
   obtain ⟨b0,k0,rfl,r0⟩:=Ai.at ai i x hx
   clear ai
   have af:=ba.out i x l hx hl
   obtain ⟨al,cl,rfl,be,c4⟩:=af.v
   have HL:=As af
   have W:Aside ((ls.take (i+1)).flatten=(ls.take i).flatten++l):=(by rw[AB hl];simp:_=_)
   have U:=b9.out (i+1)
   rw[W.out] at U
   have Q:Aside ((ls.take i).flatten.length+l.length≤1048576∧Aa (ls.take i).flatten+Aa l≤1099511627776∧ ∀x∈l,Ah x=true):=⟨by have:=U.1;rwa [List.length_append] at this,by have:=U.2.1;rwa [Ao] at this,fun x hx=>U.2.2 x (List.mem_append_right _ hx)⟩
   obtain ⟨L,Z⟩:=Aq l.length
   have T:=As Z
   rw[Z] at HL be
   have bo:L≤1048576:=by have:=Q.out.1;omega
   clear af U hx hl
   rw[Z] at r0
   clear Z
   go_wp2_with fail
   go_loopg [3,17] L (fun g t3 bk wr=> ∃(j:Nat)(G:List Av)(a2:Option Addr)(c2:Nat),bk= .int .i64 j∧t3= .slice a2 G.length c2∧j≤L∧G.length≤1048576∧Aside (g=L-j∧G=(l.take j).foldl A8 o)∧Aside (G.length≤o.length+j∧(∀y∈G,Ll y)∧Aa G=Aa o+Aa (l.take j))∧
    Sat (rw AK 4 (.slice a2 G.length c2) (AQ G)*(B*F)) wr)
   case atStart=>exact ⟨0,o,a,c,rfl,rfl,by omega,bf,⟨rfl,rfl⟩,⟨by omega,A2.out.2.1,by simp[Aa]⟩,a3⟩
   obtain ⟨j,G,a2,c2,rfl,rfl,hj,aa,J,J2,t⟩:=hrel
   clear a3 this
   haveI:=t.i
   by_cases c5:j<L
   · have av:(j:Int)<L:=by omega
     obtain ⟨y,hy⟩: ∃y,l[j]?=some y:=⟨_,List.getElem?_eq_getElem (by have:=T.out;omega)⟩
     have V:=HL.out
     rw[←T.out] at V
     obtain ⟨b,q,rfl,r1,r2,r3,r4⟩:=BH V hy
     clear V
     have HT:Aside ((l.take (j+1)).foldl A8 o=A8 G y∧Aa (l.take (j+1))=Aa (l.take j)+y.len):=⟨by rw[AB hy,List.foldl_append,←J.out.2];rfl,BZ hy⟩
     obtain ⟨ah,bi⟩:=Ll.of (Q.out.2.2 y (List.mem_of_getElem? hy))
     have P:Aside ((A8 G y).length≤o.length+(j+1)∧(∀z∈A8 G y,Ll z)∧Aa (A8 G y)=Aa o+Aa (l.take (j+1))∧(A8 G y).length≤1048576):=by
      have h1:=KG G y
      have X:=J2.out.1
      have h3:=A2.out.1
      have h4:=Q.out.1
      have h5:=T.out
      refine ⟨by omega,Uv J2.out.2.1 ah,?_,by omega⟩
      rw[Fx,HT.out.2,J2.out.2.2]
      omega
     have az:Ll y:=ah
     obtain ⟨O,H,k,D⟩:=y
     unfold Ll at az
     simp only at az bi r1 r2 r3 r4
     clear ah hy
     have au:Aa G≤1099511627776:=by
      have h1:=J2.out.2.2
      have X:=A2.out.2.2
      have h3:=Q.out.2.1
      have h4:Aa l=Aa (l.take j)+Aa (l.drop j):=by rw[←Ao,List.take_append_drop]
      have h5:=(GJ (o:=l.drop j) (fun y hy=>(Ll.of (Q.out.2.2 y (List.mem_of_mem_drop hy))).1)).1
      omega
     have ag:=GJ J2.out.2.1
     rcases List.eq_nil_or_concat G with rfl|⟨p,a,a7⟩
     · clear au ag
       simp only[List.length_nil] at t⊢
       haveI:=t.i
       go_wp2
       go_quiet (fail)
       go_wp2_with (at_builtin;refine Af E rfl (.tmp 57) (.tmp 59) rfl rfl rfl (Ae (rw AK 4 (.slice a2 0 c2) (AQ []))) (Src.new (b:=wr.heap.size+1) (e:=AK) (s:=4) (vs:= [.int .i64 O,.int .i64 H,.int .i64 k,.int .i64 D]) (Ae _) rfl (by intro u hu;simp at hu;rcases hu with rfl|rfl|rfl|rfl<;>rfl)) (by unfold maxLen;omega) (by omega) ?_;intro a9 c9 w9 q9 z9;clear z9;haveI:=q9.i)
       go_roundg (L-(j+1))
       case measure=>have:=J.out.1;omega
       refine ⟨j+1,[⟨O,H,k,D⟩],a9,c9,by go_num,rfl,by omega,by simp,⟨rfl,?_⟩,?_,?_⟩
       ·rw[HT.out.1];rfl
       ·have:=P.out;exact ⟨this.1,this.2.1,this.2.2.1⟩
       show Sat (rw AK 4 (.slice a9 (0+1) c9) (AQ []++ [.int .i64 O,.int .i64 H,.int .i64 k,.int .i64 D])*(B*F)) _
       exact AD _ _ _
     clear this
     rw[List.concat_eq_append] at a7
     subst a7
     obtain ⟨np,K⟩:=Aq p.length
     have M:=As K
     have a8:(p++ [a]).length=np+1:=by rw[List.length_append,K];rfl
     have ar:=ag.2 a (by simp)
     have aq:=J2.out.2.1 a (by simp)
     rw[a8] at aa t⊢
     obtain ⟨g,rfl⟩:=Dv t (by omega)
     have t0:=Jt p a np K 0 _ rfl
     have t1:=Jt p a np K 1 _ rfl
     have t2:=Jt p a np K 2 _ rfl
     have t3:=Jt p a np K 3 _ rfl
     obtain ⟨f,m,d,r⟩:=a
     unfold Ll at aq
     simp only at aq ar t0 t1 t2 t3
     have bx:d≤1099511627776:=by omega
     obtain ⟨xs,aj⟩:=Aq (AQ (p++ [⟨f,m,d,r⟩]))
     have HX:=As aj
     rw[aj] at t0 t1 t2 t3 t
     clear aj
     haveI:At xs (np*4) (.int .i64 f):=⟨t0⟩
     haveI:At xs (np*4+1) (.int .i64 m):=⟨t1⟩
     haveI:At xs (np*4+2) (.int .i64 d):=⟨t2⟩
     haveI:At xs (np*4+3) (.int .i64 r):=⟨t3⟩
     haveI:At (xs.set (np*4+2) (.int .i64 (d+k))) (np*4+3) (.int .i64 r):=⟨by rw[List.getElem?_set_ne (by omega)];exact t3⟩
     haveI:=t.i
     have c3:(np:Int)<(np:Int)+1:=by omega
     have hd:decide ((np:Int)<0)=false:=decide_eq_false (by omega)
     have a1:(np:Int)≤1048576:=by omega
     have hw1:=Bb (m+d) (by omega)
     have hw2:=Bb (d+k) (by omega)
     have hw3:=Bb (r+D) (by omega)
     clear au ag ar K a8 t0 t1 t2 t3
     by_cases h1:f=O
     · by_cases X:m+d=H
       ·have hm:meets ⟨f,m,d,r⟩ ⟨O,H,k,D⟩=true:=by unfold meets;simp[h1,X]
        subst h1
        have b1:(f !=f)=false:=by simp
        have b2:(m+d !=H)=false:=by simp[X]
        go_wp2
        go_quiet (fail)
        by_cases h4:r<0
        ·have I:Aside (A8 (p++ [⟨f,m,d,r⟩]) ⟨f,H,k,D⟩=p++ [⟨f,m,d+k,-1⟩]):=by rw[FT hm];unfold glue;simp[h4];exact (trivial:True)
         have d1:decide (r<0)=true:=decide_eq_true h4
         clear hm
         go_wp2_with fail
         go_region
         go_wp2_with fail
         go_roundg (L-(j+1))
         case measure=>have:=J.out.1;omega
         refine ⟨j+1,p++ [⟨f,m,d+k,-1⟩],some ⟨g,0,none⟩,c2,by go_num,?_,by omega,?_,⟨rfl,?_⟩,?_,?_⟩
         ·rw[List.length_append,M.out];rfl
         ·have:=P.out.2.2.2;rw[I.out] at this;exact this
         ·rw[HT.out.1,I.out]
         ·have:=P.out;rw[I.out] at this;exact ⟨this.1,this.2.1,this.2.2.1⟩
         rw[show AQ (p++ [⟨f,m,d+k,-1⟩])=_ from (Ls p (Av.mk f m d r) np M.out (d+k) (-1)).symm,HX.out,List.length_append,M.out]
         show Sat (rw AK 4 (.slice (some ⟨g,0,none⟩) (np+1) c2) ((xs.set (np*4+2) (Value.int .i64 (d+k))).set (np*4+3) (Value.int .i64 (-1)))*(B*F)) _
         exact AD _ _ _
        have d1:decide (r<0)=false:=decide_eq_false h4
        by_cases h5:D<0
        ·have I:Aside (A8 (p++ [⟨f,m,d,r⟩]) ⟨f,H,k,D⟩=p++ [⟨f,m,d+k,-1⟩]):=by rw[FT hm];unfold glue;simp[h4,h5];exact (trivial:True)
         have d2:decide (D<0)=true:=decide_eq_true h5
         clear hm
         go_wp2_with fail
         go_region
         go_wp2_with fail
         go_roundg (L-(j+1))
         case measure=>have:=J.out.1;omega
         refine ⟨j+1,p++ [⟨f,m,d+k,-1⟩],some ⟨g,0,none⟩,c2,by go_num,?_,by omega,?_,⟨rfl,?_⟩,?_,?_⟩
         ·rw[List.length_append,M.out];rfl
         ·have:=P.out.2.2.2;rw[I.out] at this;exact this
         ·rw[HT.out.1,I.out]
         ·have:=P.out;rw[I.out] at this;exact ⟨this.1,this.2.1,this.2.2.1⟩
         rw[show AQ (p++ [⟨f,m,d+k,-1⟩])=_ from (Ls p (Av.mk f m d r) np M.out (d+k) (-1)).symm,HX.out,List.length_append,M.out]
         show Sat (rw AK 4 (.slice (some ⟨g,0,none⟩) (np+1) c2) ((xs.set (np*4+2) (Value.int .i64 (d+k))).set (np*4+3) (Value.int .i64 (-1)))*(B*F)) _
         exact AD _ _ _
        have I:Aside (A8 (p++ [⟨f,m,d,r⟩]) ⟨f,H,k,D⟩=p++ [⟨f,m,d+k,r+D⟩]):=by rw[FT hm];unfold glue;simp[h4,h5];exact (trivial:True)
        have d2:decide (D<0)=false:=decide_eq_false h5
        clear hm
        go_wp2_with fail
        go_region
        go_wp2_with fail
        go_region
        go_wp2_with fail
        go_roundg (L-(j+1))
        case measure=>have:=J.out.1;omega
        refine ⟨j+1,p++ [⟨f,m,d+k,(r+D)⟩],some ⟨g,0,none⟩,c2,by go_num,?_,by omega,?_,⟨rfl,?_⟩,?_,?_⟩
        ·rw[List.length_append,M.out];rfl
        ·have:=P.out.2.2.2;rw[I.out] at this;exact this
        ·rw[HT.out.1,I.out]
        ·have:=P.out;rw[I.out] at this;exact ⟨this.1,this.2.1,this.2.2.1⟩
        rw[show AQ (p++ [⟨f,m,d+k,(r+D)⟩])=_ from (Ls p (Av.mk f m d r) np M.out (d+k) (r+D)).symm,HX.out,List.length_append,M.out]
        show Sat (rw AK 4 (.slice (some ⟨g,0,none⟩) (np+1) c2) ((xs.set (np*4+2) (Value.int .i64 (d+k))).set (np*4+3) (Value.int .i64 (r+D)))*(B*F)) _
        exact Sat.drewN 1 (AD _ _ _)
       have I:Aside (A8 (p++ [⟨f,m,d,r⟩]) ⟨O,H,k,D⟩=(p++ [⟨f,m,d,r⟩])++ [⟨O,H,k,D⟩]):=GB (by unfold meets;simp[X])
       subst h1
       have b1:(f !=f)=false:=by simp
       have b2:(m+d !=H)=true:=by simp[X]
       go_wp2
       go_quiet (fail)
       go_wp2_with (at_builtin;refine Af E rfl (.tmp 57) (.tmp 59) rfl rfl rfl (Ae (rw AK 4 (.slice (some ⟨g,0,none⟩) (np+1) c2) xs)) (Src.new (b:=wr.heap.size+1) (e:=AK) (s:=4) (vs:= [.int .i64 f,.int .i64 H,.int .i64 k,.int .i64 D]) (Ae _) rfl (by intro u hu;simp at hu;rcases hu with rfl|rfl|rfl|rfl<;>rfl)) (by unfold maxLen;omega) (by omega) ?_;intro a9 c9 w9 q9 z9;clear z9;haveI:=q9.i)
       go_roundg (L-(j+1))
       case measure=>have:=J.out.1;omega
       refine ⟨j+1,(p++ [⟨f,m,d,r⟩])++ [⟨f,H,k,D⟩],a9,c9,by go_num,?_,by omega,?_,⟨rfl,?_⟩,?_,?_⟩
       ·rw[List.length_append,List.length_append,M.out];rfl
       ·have:=P.out.2.2.2;rw[I.out] at this;exact this
       ·rw[HT.out.1,I.out]
       ·have:=P.out;rw[I.out] at this;exact ⟨this.1,this.2.1,this.2.2.1⟩
       rw[Dn (p++ [Av.mk f m d r]),HX.out,List.length_append,List.length_append,M.out]
       show Sat (rw AK 4 (.slice a9 (np+1+1) c9) (xs++ [.int .i64 f,.int .i64 H,.int .i64 k,.int .i64 D])*(B*F)) _
       exact AD _ _ _
     have I:Aside (A8 (p++ [⟨f,m,d,r⟩]) ⟨O,H,k,D⟩=(p++ [⟨f,m,d,r⟩])++ [⟨O,H,k,D⟩]):=GB (by unfold meets;simp[h1])
     have b1:(f !=O)=true:=by simp[h1]
     go_wp2
     go_quiet (fail)
     go_wp2_with (at_builtin;refine Af E rfl (.tmp 57) (.tmp 59) rfl rfl rfl (Ae (rw AK 4 (.slice (some ⟨g,0,none⟩) (np+1) c2) xs)) (Src.new (b:=wr.heap.size+1) (e:=AK) (s:=4) (vs:= [.int .i64 O,.int .i64 H,.int .i64 k,.int .i64 D]) (Ae _) rfl (by intro u hu;simp at hu;rcases hu with rfl|rfl|rfl|rfl<;>rfl)) (by unfold maxLen;omega) (by omega) ?_;intro a9 c9 w9 q9 z9;clear z9;haveI:=q9.i)
     go_roundg (L-(j+1))
     case measure=>have:=J.out.1;omega
     refine ⟨j+1,(p++ [⟨f,m,d,r⟩])++ [⟨O,H,k,D⟩],a9,c9,by go_num,?_,by omega,?_,⟨rfl,?_⟩,?_,?_⟩
     · rw[List.length_append,List.length_append,M.out];rfl
     · have:=P.out.2.2.2;rw[I.out] at this;exact this
     · rw[HT.out.1,I.out]
     · have:=P.out;rw[I.out] at this;exact ⟨this.1,this.2.1,this.2.2.1⟩
     rw[Dn (p++ [Av.mk f m d r]),HX.out,List.length_append,List.length_append,M.out]
     show Sat (rw AK 4 (.slice a9 (np+1+1) c9) (xs++ [.int .i64 O,.int .i64 H,.int .i64 k,.int .i64 D])*(B*F)) _
     exact AD _ _ _
   have av: ¬(j:Int)<L:=by omega
   obtain rfl:j=L:=by omega
   have hJ:=J.out.2
   have Y:=J2.out
   rw[List.take_of_length_le (by rw[T.out];exact Nat.le_refl _)] at hJ Y
   have HF:Aside (G=join (ls.take (i+1)).flatten∧G.length≤(ls.take (i+1)).flatten.length∧(∀y∈G,Ll y)∧Aa G=Aa (ls.take (i+1)).flatten):=by
    refine ⟨?_,?_,Y.2.1,?_⟩
    · rw[hJ,A.out.2,W.out]
      unfold join
      rw[List.foldl_append]
    · rw[W.out,List.length_append]
      have:=A2.out.1
      have:=T.out
      omega
    rw[W.out,Ao,Y.2.2,A2.out.2.2]
   clear hJ Y
   go_wp2
   go_roundg (n-(i+1))
   case measure=>have:=A.out.1;omega
   case rel=>exact ⟨i+1,G,a2,c2,by go_num,rfl,by omega,aa,⟨rfl,HF.out.1⟩,HF.out.2,t⟩
 have aw: ¬(i:Int)<n:=by omega
 obtain rfl:i=n:=by omega
 have bd:o=R:=by rw[A.out.2,List.take_of_length_le (by rw[HN.out];exact Nat.le_refl _)];exact HR.out
 subst bd
 go_wp2
 go_ret
 exact ⟨a,c,rfl,a3⟩
end Go.Proofs.YtfhbmblbidcmmaaGreat
namespace Go.Tr
end Go.Tr
namespace Go.Proofs.YtfhbmblbidcmmaaGreat
open Go.RowKit Go.Sl Go.Dk Go.Tr
theorem Ie(l:List Av)(v:Value)(B F:Ab)(w:World)(f:A1 B v l)(hs:Sat (B*F) w)(hl:l.length≤65536)(hm: ∀x∈l,0≤x.len∧x.len≤1048576):
 Calls Tryz.prog 31 #[v] w fun e M=>e= .returned (.int .i64 (Aa l))∧Sat (B*F) M:=by
 obtain ⟨P,c0,rfl,j,D⟩:=f.v
 have p:=As f
 have r:Aside (∀i:Nat,0≤Aa (l.take i)∧Aa (l.take i)≤i*1048576):=Dc hm
 have s:=As hm
 obtain ⟨n,k⟩:=Aq l.length
 have m:=As k
 rw[k] at hl j⊢
 haveI:=hs.i
 clear f hm k
 go_enter Tryz.func31,Tryz.ntmps31
 go_wp2
 go_loopg [3,4] n (fun g K L wr=> ∃i:Nat,L= .int .i64 i∧i≤n∧K= .int .i64 (Aa (l.take i))∧Aside (g=n-i)∧Sat (B*F) wr)
 case atStart=>exact ⟨0,rfl,by omega,by simp[Aa],rfl,hs⟩
 obtain ⟨i,rfl,hi,rfl,A,c⟩:=hrel
 haveI:=c.i
 by_cases G:i<n
 ·have d:(i:Int)<n:=by omega
  obtain ⟨y,hy⟩: ∃y,l[i]?=some y:=⟨_,List.getElem?_eq_getElem (by have:=m.out;omega)⟩
  obtain ⟨b,q,rfl,r1,H,I,J⟩:=BH p.out hy
  have a:=BZ hy
  have t:=r.out i
  have u:=s.out y (List.mem_of_getElem? hy)
  obtain ⟨Q,R,O,T⟩:=y
  simp only at a u r1 H I J
  obtain ⟨z,o⟩:=Aq (Aa (l.take i))
  rw[o] at a t⊢
  have hw1:=Bb (z+O) (by omega)
  clear hy o hs
  go_wp2
  go_roundg (n-(i+1))
  case measure=>have:=A.out;omega
  case rel=>exact ⟨i+1,by go_num,by omega,by rw[a],rfl,c⟩
 have d: ¬(i:Int)<n:=by omega
 obtain rfl:i=n:=by omega
 rw[List.take_of_length_le (by rw[m.out];exact Nat.le_refl _)]
 go_wp2
 go_ret
 exact ⟨rfl,c⟩
end Go.Proofs.YtfhbmblbidcmmaaGreat
namespace Go.Proofs.YtfhbmblbidcmmaaGreat
open Go.RowKit Go.Sl Go.Dk
open Go.PS (A9)
attribute [local go_sem] L7 Wi W9 VR
def Ck.forget(s:Ck)(no:Int):Bool×Ck:=if DB s.its no then (true, { s with its:=Gk s.its no,CV:=Gl no s.CV }) else (false,s)
theorem Wb(C D:Nat)(s:Ck)(m:Nat)(no:Int)(F:Ab)(w:World)(hs:Sat (Be C D s*F) w)(ok:Bm m s):
 Calls Tryz.prog 135 #[.pointer (some ⟨C,0,none⟩),.int .i64 no] w fun e q=>e= .returned (.bool (s.forget no).1)∧Sat (Be C D (s.forget no).2*F) q:=by
 obtain ⟨L,PM,ps,hp,hs⟩:=Sat.Cj hs
 have Ev:=fun F w h=>gH L s.cap s.its no F w h ok.Mi
 unfold Ck.forget
 unfold BF at hs
 haveI:=hs.i
 cases c:DB s.its no with
 | true =>
  rw[c,if_pos rfl] at Ev
  rw[if_pos rfl]
  obtain ⟨b,hb,hl,h0,h1⟩:=ok.key (E0 c)
  have f:=As Ev
  have a:Aside (Ce ps=s.CV∧BI no s.CV=some b):=⟨hp,hb⟩
  clear Ev hl h0 h1 c
  rcases H3 ps no with ⟨l1,p,l2,rfl,rfl,g⟩|j
  ·obtain ⟨_,_,_,n,o⟩:=H7 (l2:=l2) g
   have l:Aside (Ce (l1++l2)=Gl p.key s.CV∧FL p.key ((l1++p::l2).map JZ)=(l1++l2).map JZ):=⟨by rw[←a.out.1];exact n.symm,o⟩
   clear n o hp hb
   go_enter Tryz.func135,Tryz.ntmps135
   go_wp2_with fail
   refine Dz (f.out _ _ (Ae (C2 L s.cap s.its))) fun r k _=>?_
   clear hs
   go_wp2
   go_ret
   refine ⟨rfl,?_⟩
   refine Sat.AS (L:=L) (PM:=PM) (ps:=l1++l2) l.out.1 ?_
   refine Ax (C:=rw TB 1 p.v (A4 p.b)) ?_
   rw[l.out.2,CG,show AU (p::l2)=rw TB 1 p.v (A4 p.b)*AU l2 from rfl]
   show _=coreC C L D PM s*(C2 L s.cap (Gk s.its p.key)*(Bv D s.d*(mp A9 PM ((l1++l2).map JZ)*AU (l1++l2))))*F*rw TB 1 p.v (A4 p.b)
   rw[CG]
   ac_rfl
  have:=a.out.2
  rw[←a.out.1,(Kg j).1] at this
  cases this
 | false =>
  rw[c,if_neg (by simp)] at Ev
  rw[if_neg (by simp)]
  have a:=As hp
  clear c hp
  go_enter Tryz.func135,Tryz.ntmps135
  go_wp2_with fail
  refine Dz (Ev _ _ (Ae (C2 L s.cap s.its))) fun r k _=>?_
  go_wp2
  go_ret
  refine ⟨rfl,Sat.AS (L:=L) (PM:=PM) a.out ?_⟩
  unfold BF
  exact Ap (by ac_rfl)
end Go.Proofs.YtfhbmblbidcmmaaGreat
namespace Go.Proofs.YtfhbmblbidcmmaaGreat
open Go.RowKit Go.Sl Go.Dk Go.Tr
def D8(l:List Int)(c:Ck):Ck:=l.foldl (fun c no=>(c.forget no).2) c
open Go.PS (A9)
theorem YF{m:Nat}{s:Ck}(hw:Bm m s)(no:Int):Bm m (s.forget no).2:=by
 unfold Ck.forget
 by_cases a:DB s.its no=true
 ·simp only[a,if_true]
  have c:=Ya hw.Mi (E0 a)
  refine ⟨aI hw.Mi no,hw.nd.sublist ((LQ _ _).map _),?_,?_,fun p hp=>hw.Au p ((LQ _ _).subset hp),hw.cap,?_,hw.dk,hw.nm,hw.reads⟩
  ·intro k
   show Bx (Gk s.its no) k=(BI k (Gl no s.CV)).isSome
   rw[FW hw.nd]
   by_cases b:k=no
   ·rw[if_pos b]
    subst b
    show _=false
    rw[Bool.eq_false_iff]
    intro h
    exact (LL.1 (Br.1 h)).2 rfl
   rw[if_neg b,←hw.same k,Bool.eq_iff_iff,Br,Br,LL]
   simp[b]
  ·show (Gl no s.CV).length=(Gk s.its no).length
   have:=U4 (k:=no) (l:=s.CV) (by rw[←hw.same];exact E0 a)
   have:=hw.len
   omega
  have:=hw.most
  show ((Gk s.its no).length:Int)≤s.cap
  omega
 rw[if_neg a]
 exact hw
theorem O9{m:Nat}(l:List Int){s:Ck}(hw:Bm m s):Bm m (D8 l s):=by
 induction l generalizing s with
 |nil=>exact hw
 |cons a l b=>exact b (YF hw a)
