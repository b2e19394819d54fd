/- treeFails holds for every input. No condition. (part 39) -/
import Derived.Test.YtfhbmblbidcmmaaGreatYa25
set_option linter.all false
set_option maxRecDepth 100000
set_option maxHeartbeats 3200000
namespace Go.Tr
def Km(y:As):Prop:=0≤y.pos∧y.pos≤16777216∧1≤y.len∧ -1≤y.lines∧y.lines≤y.len
theorem Km.of{x:As}(h:Ai x=true):Km x∧x.len≤1048576:=by
 unfold Ai at h
 simp only[decide_eq_true_eq] at h
 unfold Km
 omega
theorem Gp{o:List As}(h: ∀y∈o,Km y):0≤Ab o∧ ∀y∈o,y.len≤Ab o:=by
 induction o with
 |nil=>simp[Ab]
 | cons a l c =>
  obtain ⟨d,b⟩:=c fun y hy=>h y (List.mem_cons_of_mem _ hy)
  have ha:=h a (List.mem_cons_self ..)
  unfold Km at ha
  have e:Ab (a::l)=a.len+Ab l:=by simp[Ab]
  rw[e]
  refine ⟨by omega,fun y hy=>?_⟩
  rcases List.mem_cons.1 hy with rfl|hy
  ·omega
  have:=b y hy;omega
theorem Ru{o:List As}(h: ∀y∈o,Km y){x:As}(hx:Km x): ∀y∈A6 o x,Km y:=by
 unfold A6
 cases b:o.getLast? with
 |none=>intro y hy;simp at hy;subst hy;exact hx
 | some a =>
  have ha:=h a (List.mem_of_getLast? b)
  simp only
  split
  ·intro y hy
   rcases List.mem_append.1 hy with hy|hy
   ·exact h y (List.dropLast_subset _ hy)
   simp at hy
   subst hy
   unfold glue Km at*
   simp only
   split<;>omega
  intro y hy
  rcases List.mem_append.1 hy with hy|hy
  ·exact h y hy
  simp at hy;subst hy;exact hx
theorem Gh{p:List As}{a x:As}(h:meets a x=false):A6 (p++ [a]) x=(p++ [a])++ [x]:=by
 unfold A6
 simp[h]
theorem FA{p:List As}{a x:As}(h:meets a x=true):A6 (p++ [a]) x=p++ [glue a x]:=by
 unfold A6
 simp[h]
theorem JN(o:List As)(x:As):(A6 o x).length≤o.length+1:=by
 unfold A6
 split
 ·simp
 split<;>simp
end Go.Tr
namespace Go.Proofs.YtfhbmblbidcmmaaGreat
open Go.RowKit Go.Sl Go.Dk Go.Tr
def PE(B:Ac)(v:Value)(ls:List (List As)):Prop:= ∃vs:List Value,Al 1 B v ls.length vs∧vs.length=ls.length∧ ∀(i:Nat)(x:Value)(l:List As),vs[i]?=some x→ls[i]?=some l→Aq B x l
theorem Cn(p:List As)(a:As):AQ (p++ [a])=AQ p++CZ a:=by simp[AQ]
theorem Jc(p:List As):(AQ p).length=p.length*4:=by
 induction p with
 |nil=>rfl
 | cons a l b =>
  have:AQ (a::l)=CZ a++AQ l:=by simp[AQ]
  rw[this,List.length_append,b,List.length_cons]
  simp[CZ]
  omega
theorem Iu(p:List As)(a:As)(n:Nat)(b:p.length=n)(j:Nat)(u:Value)(h:(CZ a)[j]?=some u):(AQ (p++ [a]))[n*4+j]?=some u:=by
 rw[Cn,List.getElem?_append_right (by rw[Jc,b];omega),Jc,b,Nat.add_sub_cancel_left]
 exact h
theorem Kx(p:List As)(a:As)(n:Nat)(b:p.length=n)(l m:Int):((AQ (p++ [a])).set (n*4+2) (.int .i64 l)).set (n*4+3) (.int .i64 m)=AQ (p++ [⟨a.src,a.pos,l,m⟩]):=by
 rw[Cn,Cn,List.set_append_right _ _ (by rw[Jc,b];omega),List.set_append_right _ _ (by rw[Jc,b];omega),Jc,b,Nat.add_sub_cancel_left,Nat.add_sub_cancel_left]
 rfl
theorem MV(ls:List (List As))(v:Value)(B F:Ac)(w:World)(hL:PE B v ls)(hs:Sat (B*F) w)(hn:ls.length≤1048576)(hl:ls.flatten.length≤1048576)(hm: ∀x∈ls.flatten,Ai x=true)(hb:Ab ls.flatten≤1099511627776):
 Calls Tryz.prog 80 #[v] w fun e w'=> ∃a c,e= .returned (.slice a (join ls.flatten).length c)∧Sat (rw A9 4 (.slice a (join ls.flatten).length c) (AQ (join ls.flatten))*(B*F)) w':=by
 obtain ⟨i0,E⟩:=FK
 obtain ⟨vs,hv,b4,b3⟩:=hL
 obtain ⟨a0,c0,rfl,c8,ca⟩:=hv.v
 have HV:Aside (Al 1 B (.slice a0 ls.length c0) ls.length vs):=hv
 have bd:Aside (∀(i:Nat)(x:Value)(l:List As),vs[i]?=some x→ls[i]?=some l→Aq B x l):=b3
 have HM:Aside (∀x∈ls.flatten,Ai x=true):=hm
 have af:Aside (Ab ls.flatten≤1099511627776∧ls.flatten.length≤1048576∧vs.length=ls.length):=⟨hb,hl,b4⟩
 obtain ⟨R,hR⟩: ∃R,join ls.flatten=R:=⟨_,rfl⟩
 rw[hR]
 have HR:Aside (join ls.flatten=R):=hR
 have q0:=hs.Bj (e:=A9) (s:=4)
 haveI:=hs.i
 clear hv b3 hm hb hl b4 hR
 go_enter Tryz.func80,Tryz.ntmps80
 go_wp2
 have bc:Aside (∀i:Nat,(ls.take i).flatten.length≤1048576∧Ab (ls.take i).flatten≤1099511627776∧ ∀x∈(ls.take i).flatten,Ai x=true):=fun i=>by
  have bj:ls.flatten=(ls.take i).flatten++(ls.drop i).flatten:=by rw[←List.flatten_append,List.take_append_drop]
  have X:=af.out.1
  have Z:=af.out.2.1
  have h3:=HM.out
  rw[bj] at X Z h3
  rw[Ak] at X
  rw[List.length_append] at Z
  have h4:=(Gp (o:=(ls.drop i).flatten) (fun y hy=>(Km.of (h3 y (List.mem_append_right _ hy))).1)).1
  exact ⟨by omega,by omega,fun x hx=>h3 x (List.mem_append_left _ hx)⟩
 obtain ⟨n,a4⟩: ∃n,ls.length=n:=⟨_,rfl⟩
 have HN:Aside (ls.length=n):=a4
 rw[a4] at hn⊢
 clear a4
 go_loopg [3,11] n (fun g t3 bm wr=> ∃(i:Nat)(o:List As)(a:Option Addr)(c:Nat),bm= .int .i64 i∧t3= .slice a o.length c∧i≤n∧o.length≤1048576∧Aside (g=n-i∧o=join (ls.take i).flatten)∧Aside (o.length≤(ls.take i).flatten.length∧(∀y∈o,Km y)∧Ab o=Ab (ls.take i).flatten)∧
  Sat (rw A9 4 (.slice a o.length c) (AQ o)*(B*F)) wr)
 case atStart=>exact ⟨0,[],none,0,rfl,rfl,by omega,by simp,⟨rfl,rfl⟩,⟨by simp,by simp,rfl⟩,q0⟩
 obtain ⟨i,o,a,c,rfl,rfl,hi,bi,A,A2,a5⟩:=hrel
 clear q0 hs this
 haveI:=a5.i
 by_cases ce:i<n
 · have az:(i:Int)<n:=by omega
   obtain ⟨x,hx⟩: ∃x,vs[i]?=some x:=⟨_,List.getElem?_eq_getElem (by have:=af.out.2.2;have:=HN.out;omega)⟩
   obtain ⟨l,hl⟩: ∃l,ls[i]?=some l:=⟨_,List.getElem?_eq_getElem (by have:=HN.out;omega)⟩
   have am:=HV.out
   rw[HN.out] at am
   obtain ⟨b0,k0,rfl,r0⟩:=Al.at am i x hx
   clear am
   have ai:=bd.out i x l hx hl
   obtain ⟨al,cl,rfl,bh,cc⟩:=ai.v
   have HL:Aside (Aq B (.slice al l.length cl) l):=ai
   have Y:Aside ((ls.take (i+1)).flatten=(ls.take i).flatten++l):=(by rw[AA hl];simp:_=_)
   have V:=bc.out (i+1)
   rw[Y.out] at V
   have T:Aside ((ls.take i).flatten.length+l.length≤1048576∧Ab (ls.take i).flatten+Ab l≤1099511627776∧ ∀x∈l,Ai x=true):=⟨by have:=V.1;rwa [List.length_append] at this,by have:=V.2.1;rwa [Ak] at this,fun x hx=>V.2.2 x (List.mem_append_right _ hx)⟩
   obtain ⟨L,a3⟩: ∃L,l.length=L:=⟨_,rfl⟩
   have U:Aside (l.length=L):=a3
   rw[a3] at HL bh
   have br:L≤1048576:=by have:=T.out.1;omega
   clear ai V hx hl
   rw[a3] at r0
   clear a3
   go_wp2_with fail
   go_loopg [3,17] L (fun g t3 bn wr=> ∃(j:Nat)(H:List As)(a2:Option Addr)(c2:Nat),bn= .int .i64 j∧t3= .slice a2 H.length c2∧j≤L∧H.length≤1048576∧Aside (g=L-j∧H=(l.take j).foldl A6 o)∧Aside (H.length≤o.length+j∧(∀y∈H,Km y)∧Ab H=Ab o+Ab (l.take j))∧
    Sat (rw A9 4 (.slice a2 H.length c2) (AQ H)*(B*F)) wr)
   case atStart=>exact ⟨0,o,a,c,rfl,rfl,by omega,bi,⟨rfl,rfl⟩,⟨by omega,A2.out.2.1,by simp[Ab]⟩,a5⟩
   obtain ⟨j,H,a2,c2,rfl,rfl,hj,ad,J,J2,G⟩:=hrel
   clear a5 this
   haveI:=G.i
   by_cases cd:j<L
   · have ay:(j:Int)<L:=by omega
     obtain ⟨y,hy⟩: ∃y,l[j]?=some y:=⟨_,List.getElem?_eq_getElem (by have:=U.out;omega)⟩
     have W:=HL.out
     rw[←U.out] at W
     obtain ⟨b,q,rfl,r1,r2,r3,r4⟩:=BW W hy
     clear W
     have HT:Aside ((l.take (j+1)).foldl A6 o=A6 H y∧Ab (l.take (j+1))=Ab (l.take j)+y.len):=⟨by rw[AA hy,List.foldl_append,←J.out.2];rfl,BX hy⟩
     obtain ⟨ak,bl⟩:=Km.of (T.out.2.2 y (List.mem_of_getElem? hy))
     have Q:Aside ((A6 H y).length≤o.length+(j+1)∧(∀z∈A6 H y,Km z)∧Ab (A6 H y)=Ab o+Ab (l.take (j+1))∧(A6 H y).length≤1048576):=by
      have X:=JN H y
      have Z:=J2.out.1
      have h3:=A2.out.1
      have h4:=T.out.1
      have h5:=U.out
      refine ⟨by omega,Ru J2.out.2.1 ak,?_,by omega⟩
      rw[Fe,HT.out.2,J2.out.2.2]
      omega
     have b5:Km y:=ak
     obtain ⟨P,I,k,D⟩:=y
     unfold Km at b5
     simp only at b5 bl r1 r2 r3 r4
     clear ak hy
     have ax:Ab H≤1099511627776:=by
      have X:=J2.out.2.2
      have Z:=A2.out.2.2
      have h3:=T.out.2.1
      have h4:Ab l=Ab (l.take j)+Ab (l.drop j):=by rw[←Ak,List.take_append_drop]
      have h5:=(Gp (o:=l.drop j) (fun y hy=>(Km.of (T.out.2.2 y (List.mem_of_mem_drop hy))).1)).1
      omega
     have aj:=Gp J2.out.2.1
     rcases List.eq_nil_or_concat H with rfl|⟨p,a,ab⟩
     · clear ax aj
       simp only[List.length_nil] at G⊢
       haveI:=G.i
       go_wp2
       go_quiet (fail)
       go_wp2_with (at_builtin;refine Aj E rfl (.tmp 57) (.tmp 59) rfl rfl rfl (Ae (rw A9 4 (.slice a2 0 c2) (AQ []))) (Src.new (b:=wr.heap.size+1) (e:=A9) (s:=4) (vs:= [.int .i64 P,.int .i64 I,.int .i64 k,.int .i64 D]) (Ae _) rfl (by intro u hu;simp at hu;rcases hu with rfl|rfl|rfl|rfl<;>rfl)) (by unfold maxLen;omega) (by omega) ?_;intro a9 c9 w9 q9 z9;clear z9;haveI:=q9.i)
       go_roundg (L-(j+1))
       case measure=>have:=J.out.1;omega
       refine ⟨j+1,[⟨P,I,k,D⟩],a9,c9,by go_num,rfl,by omega,by simp,⟨rfl,?_⟩,?_,?_⟩
       ·rw[HT.out.1];rfl
       ·have:=Q.out;exact ⟨this.1,this.2.1,this.2.2.1⟩
       show Sat (rw A9 4 (.slice a9 (0+1) c9) (AQ []++ [.int .i64 P,.int .i64 I,.int .i64 k,.int .i64 D])*(B*F)) _
       exact AR _ _ _
     clear this
     rw[List.concat_eq_append] at ab
     subst ab
     obtain ⟨m,M⟩: ∃m,p.length=m:=⟨_,rfl⟩
     have O:Aside (p.length=m):=M
     have ac:(p++ [a]).length=m+1:=by rw[List.length_append,M];rfl
     have aw:=aj.2 a (by simp)
     have av:=J2.out.2.1 a (by simp)
     rw[ac] at ad G⊢
     obtain ⟨g,rfl⟩:=DZ G (by omega)
     have t0:=Iu p a m M 0 _ rfl
     have t1:=Iu p a m M 1 _ rfl
     have t2:=Iu p a m M 2 _ rfl
     have t3:=Iu p a m M 3 _ rfl
     obtain ⟨f,r,d,t⟩:=a
     unfold Km at av
     simp only at av aw t0 t1 t2 t3
     have c7:d≤1099511627776:=by omega
     obtain ⟨xs,an⟩: ∃xs,AQ (p++ [⟨f,r,d,t⟩])=xs:=⟨_,rfl⟩
     have HX:Aside (AQ (p++ [⟨f,r,d,t⟩])=xs):=an
     rw[an] at t0 t1 t2 t3 G
     clear an
     haveI:At xs (m*4) (.int .i64 f):=⟨t0⟩
     haveI:At xs (m*4+1) (.int .i64 r):=⟨t1⟩
     haveI:At xs (m*4+2) (.int .i64 d):=⟨t2⟩
     haveI:At xs (m*4+3) (.int .i64 t):=⟨t3⟩
     haveI:At (xs.set (m*4+2) (.int .i64 (d+k))) (m*4+3) (.int .i64 t):=⟨by rw[List.getElem?_set_ne (by omega)];exact t3⟩
     haveI:=G.i
     have cb:(m:Int)<(m:Int)+1:=by omega
     have hd:decide ((m:Int)<0)=false:=decide_eq_false (by omega)
     have a4:(m:Int)≤1048576:=by omega
     have cg:IntKind.i64.wrap (r+d)=r+d:=IntWalk.i64_in _ (by omega)
     have ch:IntKind.i64.wrap (d+k)=d+k:=IntWalk.i64_in _ (by omega)
     have ci:IntKind.i64.wrap (t+D)=t+D:=IntWalk.i64_in _ (by omega)
     clear ax aj aw M ac t0 t1 t2 t3
     by_cases X:f=P
     · by_cases Z:r+d=I
       ·have hm:meets ⟨f,r,d,t⟩ ⟨P,I,k,D⟩=true:=by unfold meets;simp[X,Z]
        subst X
        have b1:(f !=f)=false:=by simp
        have b2:(r+d !=I)=false:=by simp[Z]
        go_wp2
        go_quiet (fail)
        by_cases h4:t<0
        ·have K:Aside (A6 (p++ [⟨f,r,d,t⟩]) ⟨f,I,k,D⟩=p++ [⟨f,r,d+k,-1⟩]):=by rw[FA hm];unfold glue;simp[h4];exact (trivial:True)
         have d1:decide (t<0)=true:=decide_eq_true h4
         clear hm
         go_wp2_with fail
         go_region
         go_wp2_with fail
         go_roundg (L-(j+1))
         case measure=>have:=J.out.1;omega
         refine ⟨j+1,p++ [⟨f,r,d+k,-1⟩],some ⟨g,0,none⟩,c2,by go_num,?_,by omega,?_,⟨rfl,?_⟩,?_,?_⟩
         ·rw[List.length_append,O.out];rfl
         ·have:=Q.out.2.2.2;rw[K.out] at this;exact this
         ·rw[HT.out.1,K.out]
         ·have:=Q.out;rw[K.out] at this;exact ⟨this.1,this.2.1,this.2.2.1⟩
         rw[show AQ (p++ [⟨f,r,d+k,-1⟩])=_ from (Kx p (As.mk f r d t) m O.out (d+k) (-1)).symm,HX.out,List.length_append,O.out]
         show Sat (rw A9 4 (.slice (some ⟨g,0,none⟩) (m+1) c2) ((xs.set (m*4+2) (Value.int .i64 (d+k))).set (m*4+3) (Value.int .i64 (-1)))*(B*F)) _
         exact AR _ _ _
        have d1:decide (t<0)=false:=decide_eq_false h4
        by_cases h5:D<0
        ·have K:Aside (A6 (p++ [⟨f,r,d,t⟩]) ⟨f,I,k,D⟩=p++ [⟨f,r,d+k,-1⟩]):=by rw[FA hm];unfold glue;simp[h4,h5];exact (trivial:True)
         have d2:decide (D<0)=true:=decide_eq_true h5
         clear hm
         go_wp2_with fail
         go_region
         go_wp2_with fail
         go_roundg (L-(j+1))
         case measure=>have:=J.out.1;omega
         refine ⟨j+1,p++ [⟨f,r,d+k,-1⟩],some ⟨g,0,none⟩,c2,by go_num,?_,by omega,?_,⟨rfl,?_⟩,?_,?_⟩
         ·rw[List.length_append,O.out];rfl
         ·have:=Q.out.2.2.2;rw[K.out] at this;exact this
         ·rw[HT.out.1,K.out]
         ·have:=Q.out;rw[K.out] at this;exact ⟨this.1,this.2.1,this.2.2.1⟩
         rw[show AQ (p++ [⟨f,r,d+k,-1⟩])=_ from (Kx p (As.mk f r d t) m O.out (d+k) (-1)).symm,HX.out,List.length_append,O.out]
         show Sat (rw A9 4 (.slice (some ⟨g,0,none⟩) (m+1) c2) ((xs.set (m*4+2) (Value.int .i64 (d+k))).set (m*4+3) (Value.int .i64 (-1)))*(B*F)) _
         exact AR _ _ _
        have K:Aside (A6 (p++ [⟨f,r,d,t⟩]) ⟨f,I,k,D⟩=p++ [⟨f,r,d+k,t+D⟩]):=by rw[FA hm];unfold glue;simp[h4,h5];exact (trivial:True)
        have d2:decide (D<0)=false:=decide_eq_false h5
        clear hm
        go_wp2_with fail
        go_region
        go_wp2_with fail
        go_region
        go_wp2_with fail
        go_roundg (L-(j+1))
        case measure=>have:=J.out.1;omega
        refine ⟨j+1,p++ [⟨f,r,d+k,(t+D)⟩],some ⟨g,0,none⟩,c2,by go_num,?_,by omega,?_,⟨rfl,?_⟩,?_,?_⟩
        ·rw[List.length_append,O.out];rfl
        ·have:=Q.out.2.2.2;rw[K.out] at this;exact this
        ·rw[HT.out.1,K.out]
        ·have:=Q.out;rw[K.out] at this;exact ⟨this.1,this.2.1,this.2.2.1⟩
        rw[show AQ (p++ [⟨f,r,d+k,(t+D)⟩])=_ from (Kx p (As.mk f r d t) m O.out (d+k) (t+D)).symm,HX.out,List.length_append,O.out]
        show Sat (rw A9 4 (.slice (some ⟨g,0,none⟩) (m+1) c2) ((xs.set (m*4+2) (Value.int .i64 (d+k))).set (m*4+3) (Value.int .i64 (t+D)))*(B*F)) _
        exact Sat.drewN 1 (AR _ _ _)
       have K:Aside (A6 (p++ [⟨f,r,d,t⟩]) ⟨P,I,k,D⟩=(p++ [⟨f,r,d,t⟩])++ [⟨P,I,k,D⟩]):=Gh (by unfold meets;simp[Z])
       subst X
       have b1:(f !=f)=false:=by simp
       have b2:(r+d !=I)=true:=by simp[Z]
       go_wp2
       go_quiet (fail)
       go_wp2_with (at_builtin;refine Aj E rfl (.tmp 57) (.tmp 59) rfl rfl rfl (Ae (rw A9 4 (.slice (some ⟨g,0,none⟩) (m+1) c2) xs)) (Src.new (b:=wr.heap.size+1) (e:=A9) (s:=4) (vs:= [.int .i64 f,.int .i64 I,.int .i64 k,.int .i64 D]) (Ae _) rfl (by intro u hu;simp at hu;rcases hu with rfl|rfl|rfl|rfl<;>rfl)) (by unfold maxLen;omega) (by omega) ?_;intro a9 c9 w9 q9 z9;clear z9;haveI:=q9.i)
       go_roundg (L-(j+1))
       case measure=>have:=J.out.1;omega
       refine ⟨j+1,(p++ [⟨f,r,d,t⟩])++ [⟨f,I,k,D⟩],a9,c9,by go_num,?_,by omega,?_,⟨rfl,?_⟩,?_,?_⟩
       ·rw[List.length_append,List.length_append,O.out];rfl
       ·have:=Q.out.2.2.2;rw[K.out] at this;exact this
       ·rw[HT.out.1,K.out]
       ·have:=Q.out;rw[K.out] at this;exact ⟨this.1,this.2.1,this.2.2.1⟩
       rw[Cn (p++ [As.mk f r d t]),HX.out,List.length_append,List.length_append,O.out]
       show Sat (rw A9 4 (.slice a9 (m+1+1) c9) (xs++ [.int .i64 f,.int .i64 I,.int .i64 k,.int .i64 D])*(B*F)) _
       exact AR _ _ _
     have K:Aside (A6 (p++ [⟨f,r,d,t⟩]) ⟨P,I,k,D⟩=(p++ [⟨f,r,d,t⟩])++ [⟨P,I,k,D⟩]):=Gh (by unfold meets;simp[X])
     have b1:(f !=P)=true:=by simp[X]
     go_wp2
     go_quiet (fail)
     go_wp2_with (at_builtin;refine Aj E rfl (.tmp 57) (.tmp 59) rfl rfl rfl (Ae (rw A9 4 (.slice (some ⟨g,0,none⟩) (m+1) c2) xs)) (Src.new (b:=wr.heap.size+1) (e:=A9) (s:=4) (vs:= [.int .i64 P,.int .i64 I,.int .i64 k,.int .i64 D]) (Ae _) rfl (by intro u hu;simp at hu;rcases hu with rfl|rfl|rfl|rfl<;>rfl)) (by unfold maxLen;omega) (by omega) ?_;intro a9 c9 w9 q9 z9;clear z9;haveI:=q9.i)
     go_roundg (L-(j+1))
     case measure=>have:=J.out.1;omega
     refine ⟨j+1,(p++ [⟨f,r,d,t⟩])++ [⟨P,I,k,D⟩],a9,c9,by go_num,?_,by omega,?_,⟨rfl,?_⟩,?_,?_⟩
     · rw[List.length_append,List.length_append,O.out];rfl
     · have:=Q.out.2.2.2;rw[K.out] at this;exact this
     · rw[HT.out.1,K.out]
     · have:=Q.out;rw[K.out] at this;exact ⟨this.1,this.2.1,this.2.2.1⟩
     rw[Cn (p++ [As.mk f r d t]),HX.out,List.length_append,List.length_append,O.out]
     show Sat (rw A9 4 (.slice a9 (m+1+1) c9) (xs++ [.int .i64 P,.int .i64 I,.int .i64 k,.int .i64 D])*(B*F)) _
     exact AR _ _ _
   have ay: ¬(j:Int)<L:=by omega
   obtain rfl:j=L:=by omega
   have hJ:=J.out.2
   have a1:=J2.out
   rw[List.take_of_length_le (by rw[U.out];exact Nat.le_refl _)] at hJ a1
   have HF:Aside (H=join (ls.take (i+1)).flatten∧H.length≤(ls.take (i+1)).flatten.length∧(∀y∈H,Km y)∧Ab H=Ab (ls.take (i+1)).flatten):=by
    refine ⟨?_,?_,a1.2.1,?_⟩
    · rw[hJ,A.out.2,Y.out]
      unfold join
      rw[List.foldl_append]
    · rw[Y.out,List.length_append]
      have:=A2.out.1
      have:=U.out
      omega
    rw[Y.out,Ak,a1.2.2,A2.out.2.2]
   clear hJ a1
   go_wp2
   go_roundg (n-(i+1))
   case measure=>have:=A.out.1;omega
   case rel=>exact ⟨i+1,H,a2,c2,by go_num,rfl,by omega,ad,⟨rfl,HF.out.1⟩,HF.out.2,G⟩
 have az: ¬(i:Int)<n:=by omega
 obtain rfl:i=n:=by omega
 have bg:o=R:=by rw[A.out.2,List.take_of_length_le (by rw[HN.out];exact Nat.le_refl _)];exact HR.out
 subst bg
 go_wp2
 go_ret
 exact ⟨a,c,rfl,a5⟩
end Go.Proofs.YtfhbmblbidcmmaaGreat
namespace Go.Tr
def F1(i a:Nat):As:=⟨((i+a)%2:Nat),7*(i:Int)+(a%3:Nat),1+((i+a)%5:Nat),if (i+a)%2=0 then-1 else if (1+((i+a)%5:Nat):Int)<((i+a)%4:Nat)-1 then 1+((i+a)%5:Nat) else ((i+a)%4:Nat)-1⟩
def Dw(n a:Nat):List As:=(List.range n).map fun i=>F1 i a
theorem OX(n a:Nat):(Dw n a).length=n:=by simp[Dw]
theorem Ei(n a:Nat):Dw (n+1) a=Dw n a++ [F1 n a]:=by simp[Dw,List.range_succ]
end Go.Tr
namespace Go.Proofs.YtfhbmblbidcmmaaGreat
open Go.RowKit Go.Sl Go.Dk Go.Tr
theorem LG(l:List As)(v:Value)(B F:Ac)(w:World)(f:Aq B v l)(hs:Sat (B*F) w)(hl:l.length≤65536)(hm: ∀x∈l,0≤x.len∧x.len≤1048576):
 Calls Tryz.prog 31 #[v] w fun e R=>e= .returned (.int .i64 (Ab l))∧Sat (B*F) R:=by
 obtain ⟨u,D,rfl,j,I⟩:=f.v
 have r:Aside (Aq B (.slice u l.length D) l):=f
 have s:Aside (∀i:Nat,0≤Ab (l.take i)∧Ab (l.take i)≤i*1048576):=CN hm
 have t:Aside (∀x∈l,0≤x.len∧x.len≤1048576):=hm
 obtain ⟨n,k⟩: ∃n,l.length=n:=⟨_,rfl⟩
 have m:Aside (l.length=n):=k
 rw[k] at hl j⊢
 haveI:=hs.i
 clear f hm k
 go_enter Tryz.func31,Tryz.ntmps31
 go_wp2
 go_loopg [3,4] n (fun g P Q wr=> ∃i:Nat,Q= .int .i64 i∧i≤n∧P= .int .i64 (Ab (l.take i))∧Aside (g=n-i)∧Sat (B*F) wr)
 case atStart=>exact ⟨0,rfl,by omega,by simp[Ab],rfl,hs⟩
 obtain ⟨i,rfl,hi,rfl,A,c⟩:=hrel
 haveI:=c.i
 by_cases J:i<n
 ·have d:(i:Int)<n:=by omega
  obtain ⟨y,hy⟩: ∃y,l[i]?=some y:=⟨_,List.getElem?_eq_getElem (by have:=m.out;omega)⟩
  obtain ⟨b,q,rfl,r1,L,M,O⟩:=BW r.out hy
  have a:=BX hy
  have G:=s.out i
  have H:=t.out y (List.mem_of_getElem? hy)
  obtain ⟨T,U,p,V⟩:=y
  simp only at a H r1 L M O
  obtain ⟨z,o⟩: ∃z,Ab (l.take i)=z:=⟨_,rfl⟩
  rw[o] at a G⊢
  have K:IntKind.i64.wrap (z+p)=z+p:=IntWalk.i64_in _ (by omega)
  clear hy o hs
  go_wp2
  go_roundg (n-(i+1))
  case measure=>have:=A.out;omega
  case rel=>exact ⟨i+1,by go_num,by omega,by rw[a],rfl,c⟩
 have d: ¬(i:Int)<n:=by omega
 obtain rfl:i=n:=by omega
 rw[List.take_of_length_le (by rw[m.out];exact Nat.le_refl _)]
 go_wp2
 go_ret
 exact ⟨rfl,c⟩
theorem NN(xs:List Value)(i:Nat)(a b c d v:Value)(h:xs.length=i*4):(xs++ [a,b,c,d]).set (i*4+3) v=xs++ [a,b,c,v]:=by
 rw[List.set_append_right _ _ (by omega),h,Nat.add_sub_cancel_left]
 rfl
theorem TX(xs:List Value)(i j:Nat)(a b c d v:Value)(h:xs.length=i*4)(e: [a,b,c,d][j]?=some v):(xs++ [a,b,c,d])[i*4+j]?=some v:=by
 rw[List.getElem?_append_right (by omega),h,Nat.add_sub_cancel_left]
 exact e
theorem Vk(n d : Nat)(F : Ac)(w : World)(hs : Sat F w)(hn : n ≤ 1000)(a2 : d ≤ 1000) :
 Calls Tryz.prog 35 #[.int .i64 n,.int .i64 d] w fun e w'=> ∃a c,e= .returned (.slice a n c)∧Sat (rw A9 4 (.slice a n c) (AQ (Dw n d))*F) w':=by
 obtain ⟨i0,E⟩:=FK
 haveI:=hs.i
 go_enter Tryz.func35,Tryz.ntmps35
 go_wp2
 go_loopg [5,6] n (fun g Z t6 wr=> ∃(i:Nat)(a:Option Addr)(c:Nat),t6= .int .i64 i∧Z= .slice a i c∧i≤n∧Aside (g=n-i)∧Sat (rw A9 4 (.slice a i c) (AQ (Dw i d))*F) wr)
 case atStart=>exact ⟨0,none,0,rfl,rfl,by omega,rfl,hs.Bj⟩
 obtain ⟨i,a,c,rfl,rfl,hi,A,m⟩:=hrel
 haveI:=m.i
 by_cases a1:i<n
 ·have z : (i : Int) < n := by omega
  have y:(AQ (Dw i d)).length=i*4:=by rw[Jc,OX]
  obtain ⟨xs,q⟩: ∃xs,AQ (Dw i d)=xs:=⟨_,rfl⟩
  obtain ⟨f,O⟩: ∃e,((i+d)%2:Nat)=e:=⟨_,rfl⟩
  obtain ⟨D,P⟩: ∃e,d%3=e:=⟨_,rfl⟩
  obtain ⟨G,Q⟩: ∃e,((i+d)%4:Nat)=e:=⟨_,rfl⟩
  obtain ⟨H,R⟩: ∃e,((i+d)%5:Nat)=e:=⟨_,rfl⟩
  obtain ⟨k,T⟩: ∃k:Int,1+(H:Int)=k:=⟨_,rfl⟩
  obtain ⟨l,v⟩: ∃k:Int,(G:Int)-1=k:=⟨_,rfl⟩
  obtain ⟨o,x⟩: ∃k:Int,7*(i:Int)+(D:Int)=k:=⟨_,rfl⟩
  have j:Aside (AQ (Dw i d)=xs∧xs.length=i*4∧F1 i d=⟨(f:Int),o,k,if f=0 then-1 else if k<l then k else l⟩):=⟨q,by rw[←q];exact y,by unfold F1;rw[O,P,Q,R,T,v,x]⟩
  have t2:((i:Int)+(d:Int)).tmod 2=f:=by rw[Int.tmod_eq_emod_of_nonneg (by omega),←O];omega
  have t3:((d:Int)).tmod 3=D:=by rw[Int.tmod_eq_emod_of_nonneg (by omega),←P];omega
  have t4:((i:Int)+(d:Int)).tmod 4=G:=by rw[Int.tmod_eq_emod_of_nonneg (by omega),←Q];omega
  have Z:((i:Int)+(d:Int)).tmod 5=H:=by rw[Int.tmod_eq_emod_of_nonneg (by omega),←R];omega
  have l1:f<2:=by omega
  have l3:D<3:=by omega
  have l4:G<4:=by omega
  have l5:H<5:=by omega
  have w1:IntKind.i64.wrap ((i:Int)+(d:Int))=(i:Int)+(d:Int):=IntWalk.i64_in _ (by omega)
  have w2:IntKind.i64.wrap (1+(H:Int))=k:=by rw[IntWalk.i64_in _ (by omega),T]
  have w3:IntKind.i64.wrap (7*(i:Int))=7*(i:Int):=IntWalk.i64_in _ (by omega)
  have w4:IntKind.i64.wrap (7*(i:Int)+(D:Int))=o:=by rw[IntWalk.i64_in _ (by omega),x]
  have w5:IntKind.i64.wrap ((G:Int)-1)=l:=by rw[IntWalk.i64_in _ (by omega),v]
  rw[q] at m
  haveI:=m.i
  clear q O P Q R y hs T v x l3 l4 l5
  go_wp2_with (at_builtin;refine Aj E rfl (.tmp 18) (.tmp 36) rfl rfl rfl (Ae (rw A9 4 (.slice a i c) xs)) (Src.new (b:=wr.heap.size) (e:=A9) (s:=4) (vs:= [.int .i64 f,.int .i64 o,.int .i64 k,.int .i64 l]) (Ae _) rfl (by intro u Y;simp at Y;rcases Y with rfl|rfl|rfl|rfl<;>rfl)) (by unfold maxLen;omega) (by omega) ?_;intro a9 p w9 V z9;clear z9)
  obtain ⟨g,rfl⟩:=DZ V (by omega)
  have I:=TX xs i 0 (.int .i64 f) (.int .i64 o) (.int .i64 k) (.int .i64 l) _ j.out.2.1 rfl
  have J:=TX xs i 3 (.int .i64 f) (.int .i64 o) (.int .i64 k) (.int .i64 l) _ j.out.2.1 rfl
  obtain ⟨ys,r⟩: ∃ys,(xs++ [.int .i64 f,.int .i64 o,.int .i64 k,.int .i64 l])=ys:=⟨_,rfl⟩
  have B:Aside ((xs++ [.int .i64 f,.int .i64 o,.int .i64 k,.int .i64 l])=ys):=r
  have U:Sat (rw A9 4 (.slice (some ⟨g,0,none⟩) (i+1) p) ys*F) w9:=by
   rw[←r]
   haveI:=V.i
   exact Av _ _
  rw[r] at I J
  haveI:At ys (i*4) (.int .i64 f):=⟨I⟩
  haveI:At ys (i*4+3) (.int .i64 l):=⟨J⟩
  haveI:At (ys.set (i*4+3) (.int .i64 k)) (i*4) (.int .i64 f):=⟨by rw[List.getElem?_set_ne (by omega)];exact I⟩
  haveI:At (ys.set (i*4+3) (.int .i64 k)) (i*4+3) (.int .i64 k):=⟨by rw[List.getElem?_set_self (by exact (List.getElem?_eq_some_iff.1 J).1)]⟩
  have a0:(i:Int)<(i:Int)+1:=by omega
  have W:(i:Int)<((i+1:Nat):Int):=by omega
  have X:(0:Int)≤(i:Int)∧(i:Int)<(i:Int)+1:=by omega
  clear V r m I J
  haveI:=U.i
  have hq: ∀w:World,(Sem.run Tryz.prog (Instr.indexAt 29 (Value.slice (some ⟨g,0,none⟩) (i+1) p) (Value.int IntKind.i64 i)) w)= .ok (.pointer (some ⟨g,i*4,none⟩)) w:=by
   intro w
   simp[go_sem, *]
  rw[hq]
  simp only[Result.andThen_ok]
  by_cases L:k<l
  · have K:Aside (k<l):=L
    have d1:decide (k<l)=true:=decide_eq_true L
    clear L
    by_cases c2:f=0
    · have M:((f:Int)==0)=true:=by simp;omega
      go_wp2
      go_roundg (n-(i+1))
      case measure=>have:=A.out;omega
      refine ⟨i+1,some ⟨g,0,none⟩,p,by go_num,rfl,by omega,rfl,?_⟩
      have t:CZ (F1 i d)= [.int .i64 f,.int .i64 o,.int .i64 k,.int .i64 (-1)]:=by
       rw[j.out.2.2]
       unfold CZ
       simp only
       rw[if_pos c2]
      rw[Ei,Cn,t,j.out.1]
      refine Sat.eq (A:=rw A9 4 (.slice (some ⟨g,0,none⟩) (i+1) p) ((ys.set (i*4+3) (.int .i64 k)).set (i*4+3) (.int .i64 (-1)))*F) (Av _ _) ?_
      rw[List.set_set,←B.out,NN _ _ _ _ _ _ _ j.out.2.1]
    have M:((f:Int)==0)=false:=by simp;omega
    go_wp2
    go_roundg (n-(i+1))
    case measure=>have:=A.out;omega
    refine ⟨i+1,some ⟨g,0,none⟩,p,by go_num,rfl,by omega,rfl,?_⟩
    have t:CZ (F1 i d)= [.int .i64 f,.int .i64 o,.int .i64 k,.int .i64 k]:=by
     rw[j.out.2.2]
     unfold CZ
     simp only
     rw[if_neg c2,if_pos K.out]
    rw[Ei,Cn,t,j.out.1]
    refine Sat.eq (A:=rw A9 4 (.slice (some ⟨g,0,none⟩) (i+1) p) (ys.set (i*4+3) (.int .i64 k))*F) (Av _ _) ?_
    rw[←B.out,NN _ _ _ _ _ _ _ j.out.2.1]
  by_cases c2:f=0
  · have M:((f:Int)==0)=true:=by simp;omega
    go_wp2
    go_roundg (n-(i+1))
    case measure=>have:=A.out;omega
    refine ⟨i+1,some ⟨g,0,none⟩,p,by go_num,rfl,by omega,rfl,?_⟩
    have t:CZ (F1 i d)= [.int .i64 f,.int .i64 o,.int .i64 k,.int .i64 (-1)]:=by
     rw[j.out.2.2]
     unfold CZ
     simp only
     rw[if_pos c2]
    rw[Ei,Cn,t,j.out.1]
    refine Sat.eq (A:=rw A9 4 (.slice (some ⟨g,0,none⟩) (i+1) p) (ys.set (i*4+3) (.int .i64 (-1)))*F) (Av _ _) ?_
    rw[←B.out,NN _ _ _ _ _ _ _ j.out.2.1]
  have M:((f:Int)==0)=false:=by simp;omega
  go_wp2
  go_roundg (n-(i+1))
  case measure=>have:=A.out;omega
  refine ⟨i+1,some ⟨g,0,none⟩,p,by go_num,rfl,by omega,rfl,?_⟩
  have t:CZ (F1 i d)= [.int .i64 f,.int .i64 o,.int .i64 k,.int .i64 l]:=by
   rw[j.out.2.2]
   unfold CZ
   simp only
   rw[if_neg c2,if_neg (by omega)]
  rw[Ei,Cn,t,j.out.1]
  refine Sat.eq (A:=rw A9 4 (.slice (some ⟨g,0,none⟩) (i+1) p) (ys)*F) (Av _ _) ?_
  rw[←B.out]
 have z: ¬(i:Int)<n:=by omega
 obtain rfl:i=n:=by omega
 go_wp2
 go_ret
 exact ⟨_,_,rfl,m⟩
