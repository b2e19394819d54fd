/- treeShape holds for every input. No condition. (part 33) -/
import Derived.Test.YtfhbmblbidcmmaaGreatSk25
set_option linter.all false
set_option maxRecDepth 100000
set_option maxHeartbeats 3200000
namespace Go.Tr
def KD(y:Au):Prop:=0≤y.pos∧y.pos≤16777216∧1≤y.len∧ -1≤y.lines∧y.lines≤y.len
theorem KD.of{x:Au}(h:Ah x=true):KD x∧x.len≤1048576:=by
 unfold Ah at h
 simp only[decide_eq_true_eq] at h
 unfold KD
 omega
theorem FI{o:List Au}(h: ∀y∈o,KD y):0≤Aa o∧ ∀y∈o,y.len≤Aa o:=by
 induction o with
 |nil=>simp[Aa]
 | cons a l c =>
  obtain ⟨h1,b⟩:=c fun y hy=>h y (List.mem_cons_of_mem _ hy)
  have ha:=h a (List.mem_cons_self ..)
  unfold KD at ha
  have e:Aa (a::l)=a.len+Aa l:=by simp[Aa]
  rw[e]
  refine ⟨by omega,fun y hy=>?_⟩
  rcases List.mem_cons.1 hy with rfl|hy
  ·omega
  have:=b y hy;omega
theorem Tq{o:List Au}(h: ∀y∈o,KD y){x:Au}(hx:KD x): ∀y∈A5 o x,KD y:=by
 unfold A5
 cases b:o.getLast? with
 |none=>intro y hy;simp at hy;subst hy;exact hx
 | some a =>
  have ha:=h a (List.mem_of_getLast? b)
  simp only
  split
  ·intro y hy
   rcases List.mem_append.1 hy with hy|hy
   ·exact h y (List.dropLast_subset _ hy)
   simp at hy
   subst hy
   unfold glue KD at*
   simp only
   split<;>omega
  intro y hy
  rcases List.mem_append.1 hy with hy|hy
  ·exact h y hy
  simp at hy;subst hy;exact hx
theorem Gs{p:List Au}{a x:Au}(h:meets a x=false):A5 (p++ [a]) x=(p++ [a])++ [x]:=by
 unfold A5
 simp[h]
theorem FN{p:List Au}{a x:Au}(h:meets a x=true):A5 (p++ [a]) x=p++ [glue a x]:=by
 unfold A5
 simp[h]
theorem Kn(o:List Au)(x:Au):(A5 o x).length≤o.length+1:=by
 unfold A5
 split
 ·simp
 split<;>simp
end Go.Tr
namespace Go.Proofs.YtfhbmblbidcmmaaGreat
open Go.RowKit Go.Sl Go.Dk Go.Tr
def QP(B:Ac)(v:Value)(ls:List (List Au)):Prop:= ∃vs:List Value,Al 1 B v ls.length vs∧vs.length=ls.length∧ ∀(i:Nat)(x:Value)(l:List Au),vs[i]?=some x→ls[i]?=some l→An B x l
theorem Cj(p:List Au)(a:Au):Bb (p++ [a])=Bb p++Cx a:=by simp[Bb]
theorem Gq(p:List Au):(Bb p).length=p.length*4:=by
 induction p with
 |nil=>rfl
 | cons a l b =>
  have:Bb (a::l)=Cx a++Bb l:=by simp[Bb]
  rw[this,List.length_append,b,List.length_cons]
  simp[Cx]
  omega
theorem H2(p:List Au)(a:Au)(n:Nat)(b:p.length=n)(j:Nat)(u:Value)(h:(Cx a)[j]?=some u):(Bb (p++ [a]))[n*4+j]?=some u:=by
 rw[Cj,List.getElem?_append_right (by rw[Gq,b];omega),Gq,b,Nat.add_sub_cancel_left]
 exact h
theorem KN(p:List Au)(a:Au)(n:Nat)(b:p.length=n)(l m:Int):((Bb (p++ [a])).set (n*4+2) (.int .i64 l)).set (n*4+3) (.int .i64 m)=Bb (p++ [⟨a.src,a.pos,l,m⟩]):=by
 rw[Cj,Cj,List.set_append_right _ _ (by rw[Gq,b];omega),List.set_append_right _ _ (by rw[Gq,b];omega),Gq,b,Nat.add_sub_cancel_left,Nat.add_sub_cancel_left]
 rfl
theorem KW(ls:List (List Au))(v:Value)(B F:Ac)(w:World)(hL:QP B v ls)(hs:Sat (B*F) w)(hn:ls.length≤1048576)(hl:ls.flatten.length≤1048576)(hm: ∀x∈ls.flatten,Ah x=true)(hb:Aa ls.flatten≤1099511627776):
 Calls Tryz.prog 80 #[v] w fun e w'=> ∃a c,e= .returned (.slice a (join ls.flatten).length c)∧Sat (rw AM 4 (.slice a (join ls.flatten).length c) (Bb (join ls.flatten))*(B*F)) w':=by
 obtain ⟨i0,E⟩:=Ey
 obtain ⟨vs,hv,ay,ax⟩:=hL
 obtain ⟨a0,c0,rfl,c4,c5⟩:=hv.v
 have HV:Aside (Al 1 B (.slice a0 ls.length c0) ls.length vs):=hv
 have ba:Aside (∀(i:Nat)(x:Value)(l:List Au),vs[i]?=some x→ls[i]?=some l→An B x l):=ax
 have HM:Aside (∀x∈ls.flatten,Ah x=true):=hm
 have ac:Aside (Aa ls.flatten≤1099511627776∧ls.flatten.length≤1048576∧vs.length=ls.length):=⟨hb,hl,ay⟩
 obtain ⟨R,hR⟩:=Aq (join ls.flatten)
 rw[hR]
 have HR:Aside (join ls.flatten=R):=hR
 have q0:=hs.AH (e:=AM) (s:=4)
 haveI:=hs.i
 clear hv ax hm hb hl ay hR
 go_enter Tryz.func80,Tryz.ntmps80
 go_wp2
 have b9:Aside (∀i:Nat,(ls.take i).flatten.length≤1048576∧Aa (ls.take i).flatten≤1099511627776∧ ∀x∈(ls.take i).flatten,Ah x=true):=fun i=>by
  have bg:ls.flatten=(ls.take i).flatten++(ls.drop i).flatten:=by rw[←List.flatten_append,List.take_append_drop]
  have h1:=ac.out.1
  have X:=ac.out.2.1
  have h3:=HM.out
  rw[bg] at h1 X h3
  rw[Ao] at h1
  rw[List.length_append] at X
  have h4:=(FI (o:=(ls.drop i).flatten) (fun y hy=>(KD.of (h3 y (List.mem_append_right _ hy))).1)).1
  exact ⟨by omega,by omega,fun x hx=>h3 x (List.mem_append_left _ hx)⟩
 obtain ⟨n,a1⟩:=Aq ls.length
 have HN:Aside (ls.length=n):=a1
 rw[a1] at hn⊢
 clear a1
 go_loopg [3,11] n (fun g t3 bj wr=> ∃(i:Nat)(o:List Au)(a:Option Addr)(c:Nat),bj= .int .i64 i∧t3= .slice a o.length c∧i≤n∧o.length≤1048576∧Aside (g=n-i∧o=join (ls.take i).flatten)∧Aside (o.length≤(ls.take i).flatten.length∧(∀y∈o,KD y)∧Aa o=Aa (ls.take i).flatten)∧
  Sat (rw AM 4 (.slice a o.length c) (Bb o)*(B*F)) wr)
 case atStart=>exact ⟨0,[],none,0,rfl,rfl,by omega,by simp,⟨rfl,rfl⟩,⟨by simp,by simp,rfl⟩,q0⟩
 obtain ⟨i,o,a,c,rfl,rfl,hi,bf,A,A2,a3⟩:=hrel
 clear q0 hs this
 haveI:=a3.i
 by_cases ca:i<n
 · have aw:(i:Int)<n:=by omega
   obtain ⟨x,hx⟩: ∃x,vs[i]?=some x:=⟨_,List.getElem?_eq_getElem (by have:=ac.out.2.2;have:=HN.out;omega)⟩
   obtain ⟨l,hl⟩: ∃l,ls[i]?=some l:=⟨_,List.getElem?_eq_getElem (by have:=HN.out;omega)⟩
   have ai:=HV.out
   rw[HN.out] at ai
   obtain ⟨b0,k0,rfl,r0⟩:=Al.at ai i x hx
   clear ai
   have af:=ba.out i x l hx hl
   obtain ⟨al,cl,rfl,be,c7⟩:=af.v
   have HL:Aside (An B (.slice al l.length cl) l):=af
   have W:Aside ((ls.take (i+1)).flatten=(ls.take i).flatten++l):=(by rw[A9 hl];simp:_=_)
   have U:=b9.out (i+1)
   rw[W.out] at U
   have Q:Aside ((ls.take i).flatten.length+l.length≤1048576∧Aa (ls.take i).flatten+Aa l≤1099511627776∧ ∀x∈l,Ah x=true):=⟨by have:=U.1;rwa [List.length_append] at this,by have:=U.2.1;rwa [Ao] at this,fun x hx=>U.2.2 x (List.mem_append_right _ hx)⟩
   obtain ⟨L,Z⟩:=Aq l.length
   have T:Aside (l.length=L):=Z
   rw[Z] at HL be
   have bo:L≤1048576:=by have:=Q.out.1;omega
   clear af U hx hl
   rw[Z] at r0
   clear Z
   go_wp2_with fail
   go_loopg [3,17] L (fun g t3 bk wr=> ∃(j:Nat)(G:List Au)(a2:Option Addr)(c2:Nat),bk= .int .i64 j∧t3= .slice a2 G.length c2∧j≤L∧G.length≤1048576∧Aside (g=L-j∧G=(l.take j).foldl A5 o)∧Aside (G.length≤o.length+j∧(∀y∈G,KD y)∧Aa G=Aa o+Aa (l.take j))∧
    Sat (rw AM 4 (.slice a2 G.length c2) (Bb G)*(B*F)) wr)
   case atStart=>exact ⟨0,o,a,c,rfl,rfl,by omega,bf,⟨rfl,rfl⟩,⟨by omega,A2.out.2.1,by simp[Aa]⟩,a3⟩
   obtain ⟨j,G,a2,c2,rfl,rfl,hj,aa,J,J2,t⟩:=hrel
   clear a3 this
   haveI:=t.i
   by_cases c8:j<L
   · have av:(j:Int)<L:=by omega
     obtain ⟨y,hy⟩: ∃y,l[j]?=some y:=⟨_,List.getElem?_eq_getElem (by have:=T.out;omega)⟩
     have V:=HL.out
     rw[←T.out] at V
     obtain ⟨b,q,rfl,r1,r2,r3,r4⟩:=BD V hy
     clear V
     have HT:Aside ((l.take (j+1)).foldl A5 o=A5 G y∧Aa (l.take (j+1))=Aa (l.take j)+y.len):=⟨by rw[A9 hy,List.foldl_append,←J.out.2];rfl,BR hy⟩
     obtain ⟨ah,bi⟩:=KD.of (Q.out.2.2 y (List.mem_of_getElem? hy))
     have P:Aside ((A5 G y).length≤o.length+(j+1)∧(∀z∈A5 G y,KD z)∧Aa (A5 G y)=Aa o+Aa (l.take (j+1))∧(A5 G y).length≤1048576):=by
      have h1:=Kn G y
      have X:=J2.out.1
      have h3:=A2.out.1
      have h4:=Q.out.1
      have h5:=T.out
      refine ⟨by omega,Tq J2.out.2.1 ah,?_,by omega⟩
      rw[Fk,HT.out.2,J2.out.2.2]
      omega
     have az:KD y:=ah
     obtain ⟨O,H,k,D⟩:=y
     unfold KD at az
     simp only at az bi r1 r2 r3 r4
     clear ah hy
     have au:Aa G≤1099511627776:=by
      have h1:=J2.out.2.2
      have X:=A2.out.2.2
      have h3:=Q.out.2.1
      have h4:Aa l=Aa (l.take j)+Aa (l.drop j):=by rw[←Ao,List.take_append_drop]
      have h5:=(FI (o:=l.drop j) (fun y hy=>(KD.of (Q.out.2.2 y (List.mem_of_mem_drop hy))).1)).1
      omega
     have ag:=FI J2.out.2.1
     rcases List.eq_nil_or_concat G with rfl|⟨p,a,a7⟩
     · clear au ag
       simp only[List.length_nil] at t⊢
       haveI:=t.i
       go_wp2
       go_quiet (fail)
       go_wp2_with (at_builtin;refine Ad E rfl (.tmp 57) (.tmp 59) rfl rfl rfl (Af (rw AM 4 (.slice a2 0 c2) (Bb []))) (Src.new (b:=wr.heap.size+1) (e:=AM) (s:=4) (vs:= [.int .i64 O,.int .i64 H,.int .i64 k,.int .i64 D]) (Af _) rfl (by intro u hu;simp at hu;rcases hu with rfl|rfl|rfl|rfl<;>rfl)) (by unfold maxLen;omega) (by omega) ?_;intro a9 c9 w9 q9 z9;clear z9;haveI:=q9.i)
       go_roundg (L-(j+1))
       case measure=>have:=J.out.1;omega
       refine ⟨j+1,[⟨O,H,k,D⟩],a9,c9,by go_num,rfl,by omega,by simp,⟨rfl,?_⟩,?_,?_⟩
       ·rw[HT.out.1];rfl
       ·have:=P.out;exact ⟨this.1,this.2.1,this.2.2.1⟩
       show Sat (rw AM 4 (.slice a9 (0+1) c9) (Bb []++ [.int .i64 O,.int .i64 H,.int .i64 k,.int .i64 D])*(B*F)) _
       exact AD _ _ _
     clear this
     rw[List.concat_eq_append] at a7
     subst a7
     obtain ⟨np,K⟩:=Aq p.length
     have M:Aside (p.length=np):=K
     have a8:(p++ [a]).length=np+1:=by rw[List.length_append,K];rfl
     have ar:=ag.2 a (by simp)
     have aq:=J2.out.2.1 a (by simp)
     rw[a8] at aa t⊢
     obtain ⟨g,rfl⟩:=BN t (by omega)
     have t0:=H2 p a np K 0 _ rfl
     have t1:=H2 p a np K 1 _ rfl
     have t2:=H2 p a np K 2 _ rfl
     have t3:=H2 p a np K 3 _ rfl
     obtain ⟨f,m,d,r⟩:=a
     unfold KD at aq
     simp only at aq ar t0 t1 t2 t3
     have c3:d≤1099511627776:=by omega
     obtain ⟨xs,aj⟩:=Aq (Bb (p++ [⟨f,m,d,r⟩]))
     have HX:Aside (Bb (p++ [⟨f,m,d,r⟩])=xs):=aj
     rw[aj] at t0 t1 t2 t3 t
     clear aj
     haveI:At xs (np*4) (.int .i64 f):=⟨t0⟩
     haveI:At xs (np*4+1) (.int .i64 m):=⟨t1⟩
     haveI:At xs (np*4+2) (.int .i64 d):=⟨t2⟩
     haveI:At xs (np*4+3) (.int .i64 r):=⟨t3⟩
     haveI:At (xs.set (np*4+2) (.int .i64 (d+k))) (np*4+3) (.int .i64 r):=⟨by rw[List.getElem?_set_ne (by omega)];exact t3⟩
     haveI:=t.i
     have c6:(np:Int)<(np:Int)+1:=by omega
     have hd:decide ((np:Int)<0)=false:=decide_eq_false (by omega)
     have a1:(np:Int)≤1048576:=by omega
     have hw1:=Bc (m+d) (by omega)
     have hw2:=Bc (d+k) (by omega)
     have hw3:=Bc (r+D) (by omega)
     clear au ag ar K a8 t0 t1 t2 t3
     by_cases h1:f=O
     · by_cases X:m+d=H
       ·have hm:meets ⟨f,m,d,r⟩ ⟨O,H,k,D⟩=true:=by unfold meets;simp[h1,X]
        subst h1
        have b1:(f !=f)=false:=by simp
        have b2:(m+d !=H)=false:=by simp[X]
        go_wp2
        go_quiet (fail)
        by_cases h4:r<0
        ·have I:Aside (A5 (p++ [⟨f,m,d,r⟩]) ⟨f,H,k,D⟩=p++ [⟨f,m,d+k,-1⟩]):=by rw[FN hm];unfold glue;simp[h4];exact (trivial:True)
         have d1:decide (r<0)=true:=decide_eq_true h4
         clear hm
         go_wp2_with fail
         go_region
         go_wp2_with fail
         go_roundg (L-(j+1))
         case measure=>have:=J.out.1;omega
         refine ⟨j+1,p++ [⟨f,m,d+k,-1⟩],some ⟨g,0,none⟩,c2,by go_num,?_,by omega,?_,⟨rfl,?_⟩,?_,?_⟩
         ·rw[List.length_append,M.out];rfl
         ·have:=P.out.2.2.2;rw[I.out] at this;exact this
         ·rw[HT.out.1,I.out]
         ·have:=P.out;rw[I.out] at this;exact ⟨this.1,this.2.1,this.2.2.1⟩
         rw[show Bb (p++ [⟨f,m,d+k,-1⟩])=_ from (KN p (Au.mk f m d r) np M.out (d+k) (-1)).symm,HX.out,List.length_append,M.out]
         show Sat (rw AM 4 (.slice (some ⟨g,0,none⟩) (np+1) c2) ((xs.set (np*4+2) (Value.int .i64 (d+k))).set (np*4+3) (Value.int .i64 (-1)))*(B*F)) _
         exact AD _ _ _
        have d1:decide (r<0)=false:=decide_eq_false h4
        by_cases h5:D<0
        ·have I:Aside (A5 (p++ [⟨f,m,d,r⟩]) ⟨f,H,k,D⟩=p++ [⟨f,m,d+k,-1⟩]):=by rw[FN hm];unfold glue;simp[h4,h5];exact (trivial:True)
         have d2:decide (D<0)=true:=decide_eq_true h5
         clear hm
         go_wp2_with fail
         go_region
         go_wp2_with fail
         go_roundg (L-(j+1))
         case measure=>have:=J.out.1;omega
         refine ⟨j+1,p++ [⟨f,m,d+k,-1⟩],some ⟨g,0,none⟩,c2,by go_num,?_,by omega,?_,⟨rfl,?_⟩,?_,?_⟩
         ·rw[List.length_append,M.out];rfl
         ·have:=P.out.2.2.2;rw[I.out] at this;exact this
         ·rw[HT.out.1,I.out]
         ·have:=P.out;rw[I.out] at this;exact ⟨this.1,this.2.1,this.2.2.1⟩
         rw[show Bb (p++ [⟨f,m,d+k,-1⟩])=_ from (KN p (Au.mk f m d r) np M.out (d+k) (-1)).symm,HX.out,List.length_append,M.out]
         show Sat (rw AM 4 (.slice (some ⟨g,0,none⟩) (np+1) c2) ((xs.set (np*4+2) (Value.int .i64 (d+k))).set (np*4+3) (Value.int .i64 (-1)))*(B*F)) _
         exact AD _ _ _
        have I:Aside (A5 (p++ [⟨f,m,d,r⟩]) ⟨f,H,k,D⟩=p++ [⟨f,m,d+k,r+D⟩]):=by rw[FN hm];unfold glue;simp[h4,h5];exact (trivial:True)
        have d2:decide (D<0)=false:=decide_eq_false h5
        clear hm
        go_wp2_with fail
        go_region
        go_wp2_with fail
        go_region
        go_wp2_with fail
        go_roundg (L-(j+1))
        case measure=>have:=J.out.1;omega
        refine ⟨j+1,p++ [⟨f,m,d+k,(r+D)⟩],some ⟨g,0,none⟩,c2,by go_num,?_,by omega,?_,⟨rfl,?_⟩,?_,?_⟩
        ·rw[List.length_append,M.out];rfl
        ·have:=P.out.2.2.2;rw[I.out] at this;exact this
        ·rw[HT.out.1,I.out]
        ·have:=P.out;rw[I.out] at this;exact ⟨this.1,this.2.1,this.2.2.1⟩
        rw[show Bb (p++ [⟨f,m,d+k,(r+D)⟩])=_ from (KN p (Au.mk f m d r) np M.out (d+k) (r+D)).symm,HX.out,List.length_append,M.out]
        show Sat (rw AM 4 (.slice (some ⟨g,0,none⟩) (np+1) c2) ((xs.set (np*4+2) (Value.int .i64 (d+k))).set (np*4+3) (Value.int .i64 (r+D)))*(B*F)) _
        exact Sat.drewN 1 (AD _ _ _)
       have I:Aside (A5 (p++ [⟨f,m,d,r⟩]) ⟨O,H,k,D⟩=(p++ [⟨f,m,d,r⟩])++ [⟨O,H,k,D⟩]):=Gs (by unfold meets;simp[X])
       subst h1
       have b1:(f !=f)=false:=by simp
       have b2:(m+d !=H)=true:=by simp[X]
       go_wp2
       go_quiet (fail)
       go_wp2_with (at_builtin;refine Ad E rfl (.tmp 57) (.tmp 59) rfl rfl rfl (Af (rw AM 4 (.slice (some ⟨g,0,none⟩) (np+1) c2) xs)) (Src.new (b:=wr.heap.size+1) (e:=AM) (s:=4) (vs:= [.int .i64 f,.int .i64 H,.int .i64 k,.int .i64 D]) (Af _) rfl (by intro u hu;simp at hu;rcases hu with rfl|rfl|rfl|rfl<;>rfl)) (by unfold maxLen;omega) (by omega) ?_;intro a9 c9 w9 q9 z9;clear z9;haveI:=q9.i)
       go_roundg (L-(j+1))
       case measure=>have:=J.out.1;omega
       refine ⟨j+1,(p++ [⟨f,m,d,r⟩])++ [⟨f,H,k,D⟩],a9,c9,by go_num,?_,by omega,?_,⟨rfl,?_⟩,?_,?_⟩
       ·rw[List.length_append,List.length_append,M.out];rfl
       ·have:=P.out.2.2.2;rw[I.out] at this;exact this
       ·rw[HT.out.1,I.out]
       ·have:=P.out;rw[I.out] at this;exact ⟨this.1,this.2.1,this.2.2.1⟩
       rw[Cj (p++ [Au.mk f m d r]),HX.out,List.length_append,List.length_append,M.out]
       show Sat (rw AM 4 (.slice a9 (np+1+1) c9) (xs++ [.int .i64 f,.int .i64 H,.int .i64 k,.int .i64 D])*(B*F)) _
       exact AD _ _ _
     have I:Aside (A5 (p++ [⟨f,m,d,r⟩]) ⟨O,H,k,D⟩=(p++ [⟨f,m,d,r⟩])++ [⟨O,H,k,D⟩]):=Gs (by unfold meets;simp[h1])
     have b1:(f !=O)=true:=by simp[h1]
     go_wp2
     go_quiet (fail)
     go_wp2_with (at_builtin;refine Ad E rfl (.tmp 57) (.tmp 59) rfl rfl rfl (Af (rw AM 4 (.slice (some ⟨g,0,none⟩) (np+1) c2) xs)) (Src.new (b:=wr.heap.size+1) (e:=AM) (s:=4) (vs:= [.int .i64 O,.int .i64 H,.int .i64 k,.int .i64 D]) (Af _) rfl (by intro u hu;simp at hu;rcases hu with rfl|rfl|rfl|rfl<;>rfl)) (by unfold maxLen;omega) (by omega) ?_;intro a9 c9 w9 q9 z9;clear z9;haveI:=q9.i)
     go_roundg (L-(j+1))
     case measure=>have:=J.out.1;omega
     refine ⟨j+1,(p++ [⟨f,m,d,r⟩])++ [⟨O,H,k,D⟩],a9,c9,by go_num,?_,by omega,?_,⟨rfl,?_⟩,?_,?_⟩
     · rw[List.length_append,List.length_append,M.out];rfl
     · have:=P.out.2.2.2;rw[I.out] at this;exact this
     · rw[HT.out.1,I.out]
     · have:=P.out;rw[I.out] at this;exact ⟨this.1,this.2.1,this.2.2.1⟩
     rw[Cj (p++ [Au.mk f m d r]),HX.out,List.length_append,List.length_append,M.out]
     show Sat (rw AM 4 (.slice a9 (np+1+1) c9) (xs++ [.int .i64 O,.int .i64 H,.int .i64 k,.int .i64 D])*(B*F)) _
     exact AD _ _ _
   have av: ¬(j:Int)<L:=by omega
   obtain rfl:j=L:=by omega
   have hJ:=J.out.2
   have Y:=J2.out
   rw[List.take_of_length_le (by rw[T.out];exact Nat.le_refl _)] at hJ Y
   have HF:Aside (G=join (ls.take (i+1)).flatten∧G.length≤(ls.take (i+1)).flatten.length∧(∀y∈G,KD y)∧Aa G=Aa (ls.take (i+1)).flatten):=by
    refine ⟨?_,?_,Y.2.1,?_⟩
    · rw[hJ,A.out.2,W.out]
      unfold join
      rw[List.foldl_append]
    · rw[W.out,List.length_append]
      have:=A2.out.1
      have:=T.out
      omega
    rw[W.out,Ao,Y.2.2,A2.out.2.2]
   clear hJ Y
   go_wp2
   go_roundg (n-(i+1))
   case measure=>have:=A.out.1;omega
   case rel=>exact ⟨i+1,G,a2,c2,by go_num,rfl,by omega,aa,⟨rfl,HF.out.1⟩,HF.out.2,t⟩
 have aw: ¬(i:Int)<n:=by omega
 obtain rfl:i=n:=by omega
 have bd:o=R:=by rw[A.out.2,List.take_of_length_le (by rw[HN.out];exact Nat.le_refl _)];exact HR.out
 subst bd
 go_wp2
 go_ret
 exact ⟨a,c,rfl,a3⟩
