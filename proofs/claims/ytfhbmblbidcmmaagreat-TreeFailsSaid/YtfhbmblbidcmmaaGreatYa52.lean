/- treeFails holds for every input. No condition. (part 52) -/
import Derived.Test.YtfhbmblbidcmmaaGreatYa51
set_option linter.all false
set_option maxRecDepth 100000
set_option maxHeartbeats 3200000
namespace Go.Proofs.YtfhbmblbidcmmaaGreat
open Go.RowKit Go.Sl Go.Dk Go.Tr
theorem QX{l:List As}{i:Nat}{y:As}(hy:l[i]?=some y)(h:1048576<Ab (l.take i)+y.len):BD l=false:=by
 rw[Ej]
 by_cases a:l.all Ai=true
 ·have b:Ab l=Ab (l.take (i+1))+Ab (l.drop (i+1)):=by rw[←Ak,List.take_append_drop]
  have c:0≤Ab (l.drop (i+1)):=by
   have:=(CN (l:=l.drop (i+1)) (fun x hx=>by
    have:=C0 (List.all_eq_true.1 a x (List.mem_of_mem_drop hx))
    omega) (l.drop (i+1)).length).1
   rwa [List.take_of_length_le (Nat.le_refl _)] at this
  have d:=BX hy
  rw[decide_eq_false (by omega),Bool.and_false]
 rw[Bool.not_eq_true] at a
 rw[a]
 rfl
theorem Wz(y:As):AQ [y]=CZ y:=by simp[AQ]
theorem Tn{y:As}{a:Option Addr}{c:Nat}{F:Ac}{w:World}(h:Sat (rw A9 4 (.slice a 1 c) (CZ y)*F) w):Aq (rw A9 4 (.slice a 1 c) (CZ y)) (.slice a 1 c) [y]:=by
 rw[←Wz] at h⊢
 exact EZ h rfl
theorem X5(l:List As)(v:Value)(B F:Ac)(w:World)(K:Aq B v l)(hs:Sat (B*F) w)(hl:l.length≤65536):
 Calls Tryz.prog 105 #[v] w fun e T=>e= .returned (.bool (BD l))∧Sat (B*F) T:=by
 obtain ⟨i0,E⟩:=FK
 obtain ⟨a0,c0,rfl,a8,aa⟩:=K.v
 have HE:Aside (Aq B (.slice a0 l.length c0) l):=K
 obtain ⟨n,O⟩: ∃n,l.length=n:=⟨_,rfl⟩
 rw[O] at hl⊢
 have U:Aside (l.length=n):=O
 obtain ⟨o,k⟩: ∃r,BD l=r:=⟨_,rfl⟩
 rw[k]
 have J:Aside (BD l=o):=k
 haveI:=hs.i
 clear K O k
 go_enter Tryz.func105,Tryz.ntmps105
 go_wp2
 go_loopg [3,4] n (fun g t3 t4 wr=> ∃(i:Nat),t4= .int .i64 i∧t3= .int .i64 (Ab (l.take i))∧i≤n∧Aside (g=n-i)∧Aside ((∀x∈l.take i,Ai x=true)∧0≤Ab (l.take i)∧Ab (l.take i)≤1048576)∧Sat (B*F) wr)
 case atStart=>exact ⟨0,rfl,by simp[Ab],by omega,rfl,⟨by simp,by simp[Ab],by simp[Ab]⟩,hs⟩
 obtain ⟨i,rfl,rfl,hi,A,H,P⟩:=hrel
 haveI:=P.i
 clear hs
 by_cases M:i<n
 · have t:(i:Int)<n:=by omega
   obtain ⟨y,hy⟩: ∃y,l[i]?=some y:=⟨_,List.getElem?_eq_getElem (by rw[U.out];exact M)⟩
   obtain ⟨b,q,rfl,r1,r2,r3,r4⟩:=BW HE.out hy
   have m:Aside (Ab (l.take (i+1))=Ab (l.take i)+y.len∧l.take (i+1)=l.take i++ [y]):=⟨BX hy,AA hy⟩
   have d:Aside (∀(a:Option Addr)(c:Nat)(F:Ac)(w:World),Sat (rw A9 4 (.slice a 1 c) (CZ y)*F) w→Calls Tryz.prog 64 #[.agg #[.bool true,.slice a 1 c,.slice none 0 0]] w fun e T=>e= .returned (.bool (Ai y))∧Sat (rw A9 4 (.slice a 1 c) (CZ y)*F) T):=fun a c F w h=>
    X6 y a c _ F w (Tn h) h
   have I:Aside (Ai y=false→o=false):=fun h=>J.out.symm.trans (KC hy h)
   have f:Aside (1048576<Ab (l.take i)+y.len→o=false):=fun h=>J.out.symm.trans (QX hy h)
   have L:=H.out.2
   obtain ⟨z,W⟩: ∃z,Ab (l.take i)=z:=⟨_,rfl⟩
   rw[W] at L m f⊢
   obtain ⟨X,D⟩: ∃r,Ai y=r:=⟨_,rfl⟩
   have j:Aside (Ai y=X):=D
   rw[D] at d
   obtain ⟨Z,y2,G,y4⟩:=y
   unfold CZ at d
   simp only at r1 r2 r3 r4 m f d
   clear hy W
   go_wp2_with (at_builtin;refine Aj E rfl (.tmp 12) (.tmp 17) rfl rfl rfl (Sat.Bj (e:=A9) (s:=4) Es) (Src.new (b:=wr.heap.size) (e:=A9) (s:=4) (vs:= [.int .i64 Z,.int .i64 y2,.int .i64 G,.int .i64 y4]) (Ae _) rfl (by intro u V;simp at V;rcases V with rfl|rfl|rfl|rfl<;>rfl)) (by unfold maxLen;omega) (by omega) ?_;intro a9 c9 w9 Y z9;clear z9)
   rw[Nat.zero_add,List.nil_append] at Y
   haveI:=Y.i
   go_wp2_with fail
   refine (d.out _ _ _ _ (Ae (rw A9 4 (.slice a9 1 c9) [.int .i64 Z,.int .i64 y2,.int .i64 G,.int .i64 y4]))).mono ?_
   rintro e ag ⟨rfl,R⟩
   haveI:=R.i
   cases X with
   | false =>
     have p:Aside (o=false):=I.out j.out
     go_wp2
     go_ret
     exact ⟨by rw[p.out];rfl,Av B F⟩
   | true =>
     have Q:=C0 j.out
     simp only at Q
     have hw:IntKind.i64.wrap (z+G)=z+G:=IntWalk.i64_in _ (by omega)
     by_cases hb:1048576<z+G
     ·have p:Aside (o=false):=f.out hb
      go_wp2
      go_ret
      exact ⟨by rw[p.out];rfl,Av B F⟩
     go_wp2
     go_roundg (n-(i+1))
     case measure=>have:=A.out;omega
     refine ⟨i+1,by go_num,by rw[m.out.1],by omega,rfl,⟨?_,by rw[m.out.1];omega,by rw[m.out.1];omega⟩,Av _ _⟩
     rw[m.out.2]
     intro x hx
     rcases List.mem_append.1 hx with hx|hx
     ·exact H.out.1 x hx
     simp at hx;subst hx;exact j.out
 have t: ¬(i:Int)<n:=by omega
 obtain rfl:i=n:=by omega
 have p:Aside (o=true):=(by
  rw[←J.out]
  have h:=H.out
  rw[List.take_of_length_le (by rw[U.out];exact Nat.le_refl _)] at h
  rw[Ej]
  rw[List.all_eq_true.2 h.1,decide_eq_true h.2.2]
  rfl:_=_)
 go_wp2
 go_ret
 exact ⟨by rw[p.out];rfl,Av B F⟩
theorem Lq(p:List As)(a:As)(n:Nat)(b:p.length=n)(l m:Int):((AQ (p++ [a])).set (n*4+3) (.int .i64 m)).set (n*4+2) (.int .i64 l)=AQ (p++ [⟨a.src,a.pos,l,m⟩]):=by
 rw[←Kx p a n b l m,List.set_comm _ _ (by omega)]
theorem V8(l:List As)(v:Value)(B F:Ac)(w:World)(hE:Aq B v l)(hs:Sat (B*F) w)(hl:l.length≤1048576)(hm: ∀x∈l,Ai x=true)(hb:Ab l≤1099511627776):
 Calls Tryz.prog 72 #[v] w fun e w'=> ∃a c,e= .returned (.slice a (join l).length c)∧Sat (rw A9 4 (.slice a (join l).length c) (AQ (join l))*(B*F)) w':=by
 obtain ⟨i0,E⟩:=FK
 obtain ⟨a0,c0,rfl,ar,bb⟩:=hE.v
 have HL:Aside (Aq B (.slice a0 l.length c0) l):=hE
 have HM:Aside (∀x∈l,Ai x=true):=hm
 have ap:Aside (Ab l≤1099511627776):=hb
 obtain ⟨R,hR⟩: ∃R,join l=R:=⟨_,rfl⟩
 rw[hR]
 have HR:Aside (join l=R):=hR
 obtain ⟨L,Z⟩: ∃L,l.length=L:=⟨_,rfl⟩
 have X:Aside (l.length=L):=Z
 rw[Z] at hl ar⊢
 have q0:=hs.Bj (e:=A9) (s:=4)
 haveI:=hs.i
 clear hE hm hb Z hR
 go_enter Tryz.func72,Tryz.ntmps72
 go_wp2
 go_loopg [3,4] L (fun g t3 t4 wr=> ∃(j:Nat)(I:List As)(a2:Option Addr)(c2:Nat),t4= .int .i64 j∧t3= .slice a2 I.length c2∧j≤L∧I.length≤1048576∧Aside (g=L-j∧I=(l.take j).foldl A6 [])∧Aside (I.length≤j∧(∀y∈I,Km y)∧Ab I=Ab (l.take j))∧
  Sat (rw A9 4 (.slice a2 I.length c2) (AQ I)*(B*F)) wr)
 case atStart=>exact ⟨0,[],none,0,rfl,rfl,by omega,by simp,⟨rfl,rfl⟩,⟨by simp,by simp,by simp[Ab]⟩,q0⟩
 obtain ⟨j,I,a2,c2,rfl,rfl,hj,ag,J,J2,D⟩:=hrel
 clear q0 hs this
 haveI:=D.i
 by_cases be:j<L
 · have af:(j:Int)<L:=by omega
   obtain ⟨y,hy⟩: ∃y,l[j]?=some y:=⟨_,List.getElem?_eq_getElem (by have:=X.out;omega)⟩
   obtain ⟨b,q,rfl,r1,r2,r3,r4⟩:=BW HL.out hy
   have Y:Aside ((l.take (j+1)).foldl A6 []=A6 I y∧Ab (l.take (j+1))=Ab (l.take j)+y.len):=⟨by rw[AA hy,List.foldl_append,←J.out.2];rfl,BX hy⟩
   obtain ⟨a3,aw⟩:=Km.of (HM.out y (List.mem_of_getElem? hy))
   have O:Aside ((A6 I y).length≤j+1∧(∀z∈A6 I y,Km z)∧Ab (A6 I y)=Ab (l.take (j+1))∧(A6 I y).length≤1048576):=by
    have h1:=JN I y
    have h2:=J2.out.1
    have h5:=X.out
    refine ⟨by omega,Ru J2.out.2.1 a3,?_,by omega⟩
    rw[Fe,Y.out.2,J2.out.2.2]
   have ah:Km y:=a3
   obtain ⟨P,G,m,t⟩:=y
   unfold Km at ah
   simp only at ah aw r1 r2 r3 r4
   clear a3 hy
   have ae:Ab I≤1099511627776:=by
    have h1:=J2.out.2.2
    have h3:=ap.out
    have h4:Ab l=Ab (l.take j)+Ab (l.drop j):=by rw[←Ak,List.take_append_drop]
    have h5:=(Gp (o:=l.drop j) (fun y hy=>(Km.of (HM.out y (List.mem_of_mem_drop hy))).1)).1
    omega
   have a1:=Gp J2.out.2.1
   rcases List.eq_nil_or_concat I with rfl|⟨p,a,U⟩
   · clear ae a1
     simp only[List.length_nil] at D⊢
     haveI:=D.i
     go_wp2_with fail
     go_quiet (fail)
     go_wp2_with (at_builtin;refine Aj E rfl (.tmp 93) (.tmp 95) rfl rfl rfl (Ae (rw A9 4 (.slice a2 0 c2) (AQ []))) (Src.new (b:=wr.heap.size+1) (e:=A9) (s:=4) (vs:= [.int .i64 P,.int .i64 G,.int .i64 m,.int .i64 t]) (Ae _) rfl (by intro u W;simp at W;rcases W with rfl|rfl|rfl|rfl<;>rfl)) (by unfold maxLen;omega) (by omega) ?_;intro Q T w9 q9 z9;clear z9;haveI:=q9.i)
     go_roundg (L-(j+1))
     case measure=>have:=J.out.1;omega
     refine ⟨j+1,[⟨P,G,m,t⟩],Q,T,by go_num,rfl,by omega,by simp,⟨rfl,?_⟩,?_,?_⟩
     ·rw[Y.out.1];rfl
     ·have:=O.out;exact ⟨this.1,this.2.1,this.2.2.1⟩
     show Sat (rw A9 4 (.slice Q (0+1) T) (AQ []++ [.int .i64 P,.int .i64 G,.int .i64 m,.int .i64 t])*(B*F)) _
     exact AR _ _ _
   rw[List.concat_eq_append] at U
   subst U
   obtain ⟨k,K⟩: ∃k,p.length=k:=⟨_,rfl⟩
   have M:Aside (p.length=k):=K
   have V:(p++ [a]).length=k+1:=by rw[List.length_append,K];rfl
   have ad:=a1.2 a (by simp)
   have ac:=J2.out.2.1 a (by simp)
   rw[V] at ag D⊢
   obtain ⟨g,rfl⟩:=DZ D (by omega)
   have t0:=Iu p a k K 0 _ rfl
   have t1:=Iu p a k K 1 _ rfl
   have t2:=Iu p a k K 2 _ rfl
   have t3:=Iu p a k K 3 _ rfl
   obtain ⟨f,n,d,r⟩:=a
   unfold Km at ac
   simp only at ac ad t0 t1 t2 t3
   have bc:d≤1099511627776:=by omega
   obtain ⟨xs,a4⟩: ∃xs,AQ (p++ [⟨f,n,d,r⟩])=xs:=⟨_,rfl⟩
   have HX:Aside (AQ (p++ [⟨f,n,d,r⟩])=xs):=a4
   rw[a4] at t0 t1 t2 t3 D
   clear a4
   haveI:At xs (k*4) (.int .i64 f):=⟨t0⟩
   haveI:At xs (k*4+1) (.int .i64 n):=⟨t1⟩
   haveI:At xs (k*4+2) (.int .i64 d):=⟨t2⟩
   haveI:At xs (k*4+3) (.int .i64 r):=⟨t3⟩
   haveI: ∀u,At (xs.set (k*4+3) u) (k*4+2) (.int .i64 d):=fun u=>⟨by rw[List.getElem?_set_ne (by omega)];exact t2⟩
   haveI:=D.i
   have bd:(k:Int)<(k:Int)+1:=by omega
   have az:(0:Int)≤(k:Int):=by omega
   have hd:decide ((0:Int)≤(k:Int))=true:=decide_eq_true (by omega)
   have bf:(k:Int)≤1048576:=by omega
   have bg:IntKind.i64.wrap ((k:Int)+1-1)=(k:Int):=by rw[IntWalk.i64_in _ (by omega)];omega
   have bh:IntKind.i64.wrap (n+d)=n+d:=IntWalk.i64_in _ (by omega)
   have bi:IntKind.i64.wrap (d+m)=d+m:=IntWalk.i64_in _ (by omega)
   have bj:IntKind.i64.wrap (r+t)=r+t:=IntWalk.i64_in _ (by omega)
   clear ae a1 ad K V t0 t1 t2 t3
   by_cases h1:f=P
   · subst h1
     have b1:(f==f)=true:=by simp
     by_cases h2:n+d=G
     ·have hm:meets ⟨f,n,d,r⟩ ⟨f,G,m,t⟩=true:=by unfold meets;simp[h2]
      have b2:(n+d==G)=true:=by simp[h2]
      by_cases h4:r<0
      ·have H:Aside (A6 (p++ [⟨f,n,d,r⟩]) ⟨f,G,m,t⟩=p++ [⟨f,n,d+m,-1⟩]):=by rw[FA hm];unfold glue;simp[h4];exact (trivial:True)
       have d1:decide (0≤r)=false:=decide_eq_false (by omega)
       clear hm
       go_wp2_with fail
       go_quiet (fail)
       go_wp2_with fail
       go_region
       go_wp2_with fail
       go_roundg (L-(j+1))
       case measure=>have:=J.out.1;omega
       refine ⟨j+1,p++ [⟨f,n,d+m,-1⟩],some ⟨g,0,none⟩,c2,by go_num,?_,by omega,?_,⟨rfl,?_⟩,?_,?_⟩
       ·rw[List.length_append,M.out];rfl
       ·have:=O.out.2.2.2;rw[H.out] at this;exact this
       ·rw[Y.out.1,H.out]
       ·have:=O.out;rw[H.out] at this;exact ⟨this.1,this.2.1,this.2.2.1⟩
       rw[show AQ (p++ [⟨f,n,d+m,-1⟩])=_ from (Lq p (As.mk f n d r) k M.out (d+m) (-1)).symm,HX.out,List.length_append,M.out]
       show Sat (rw A9 4 (.slice (some ⟨g,0,none⟩) (k+1) c2) ((xs.set (k*4+3) (Value.int .i64 (-1))).set (k*4+2) (Value.int .i64 (d+m)))*(B*F)) _
       first|exact AR _ _ _|exact Sat.drewN 1 (AR _ _ _)
      have d1:decide (0≤r)=true:=decide_eq_true (by omega)
      by_cases h5:t<0
      ·have H:Aside (A6 (p++ [⟨f,n,d,r⟩]) ⟨f,G,m,t⟩=p++ [⟨f,n,d+m,-1⟩]):=by rw[FA hm];unfold glue;simp[h4,h5];exact (trivial:True)
       have d2:decide (0≤t)=false:=decide_eq_false (by omega)
       clear hm
       go_wp2_with fail
       go_quiet (fail)
       go_wp2_with fail
       go_region
       go_wp2_with fail
       go_roundg (L-(j+1))
       case measure=>have:=J.out.1;omega
       refine ⟨j+1,p++ [⟨f,n,d+m,-1⟩],some ⟨g,0,none⟩,c2,by go_num,?_,by omega,?_,⟨rfl,?_⟩,?_,?_⟩
       ·rw[List.length_append,M.out];rfl
       ·have:=O.out.2.2.2;rw[H.out] at this;exact this
       ·rw[Y.out.1,H.out]
       ·have:=O.out;rw[H.out] at this;exact ⟨this.1,this.2.1,this.2.2.1⟩
       rw[show AQ (p++ [⟨f,n,d+m,-1⟩])=_ from (Lq p (As.mk f n d r) k M.out (d+m) (-1)).symm,HX.out,List.length_append,M.out]
       show Sat (rw A9 4 (.slice (some ⟨g,0,none⟩) (k+1) c2) ((xs.set (k*4+3) (Value.int .i64 (-1))).set (k*4+2) (Value.int .i64 (d+m)))*(B*F)) _
       first|exact AR _ _ _|exact Sat.drewN 1 (AR _ _ _)
      have H:Aside (A6 (p++ [⟨f,n,d,r⟩]) ⟨f,G,m,t⟩=p++ [⟨f,n,d+m,r+t⟩]):=by rw[FA hm];unfold glue;simp[h4,h5];exact (trivial:True)
      have d2:decide (0≤t)=true:=decide_eq_true (by omega)
      clear hm
      go_wp2_with fail
      go_quiet (fail)
      go_wp2_with fail
      go_region
      go_wp2_with fail
      go_region
      go_wp2_with fail
      go_roundg (L-(j+1))
      case measure=>have:=J.out.1;omega
      refine ⟨j+1,p++ [⟨f,n,d+m,r+t⟩],some ⟨g,0,none⟩,c2,by go_num,?_,by omega,?_,⟨rfl,?_⟩,?_,?_⟩
      ·rw[List.length_append,M.out];rfl
      ·have:=O.out.2.2.2;rw[H.out] at this;exact this
      ·rw[Y.out.1,H.out]
      ·have:=O.out;rw[H.out] at this;exact ⟨this.1,this.2.1,this.2.2.1⟩
      rw[show AQ (p++ [⟨f,n,d+m,r+t⟩])=_ from (Lq p (As.mk f n d r) k M.out (d+m) (r+t)).symm,HX.out,List.length_append,M.out]
      show Sat (rw A9 4 (.slice (some ⟨g,0,none⟩) (k+1) c2) ((xs.set (k*4+3) (Value.int .i64 (r+t))).set (k*4+2) (Value.int .i64 (d+m)))*(B*F)) _
      first|exact AR _ _ _|exact Sat.drewN 1 (AR _ _ _)
     have H:Aside (A6 (p++ [⟨f,n,d,r⟩]) ⟨f,G,m,t⟩=(p++ [⟨f,n,d,r⟩])++ [⟨f,G,m,t⟩]):=Gh (by unfold meets;simp[h2])
     have b2:(n+d==G)=false:=by simp[h2]
     go_wp2_with fail
     go_quiet (fail)
     go_wp2_with (at_builtin;refine Aj E rfl (.tmp 93) (.tmp 95) rfl rfl rfl (Ae (rw A9 4 (.slice (some ⟨g,0,none⟩) (k+1) c2) xs)) (Src.new (b:=wr.heap.size+1) (e:=A9) (s:=4) (vs:= [.int .i64 f,.int .i64 G,.int .i64 m,.int .i64 t]) (Ae _) rfl (by intro u W;simp at W;rcases W with rfl|rfl|rfl|rfl<;>rfl)) (by unfold maxLen;omega) (by omega) ?_;intro Q T w9 q9 z9;clear z9;haveI:=q9.i)
     go_roundg (L-(j+1))
     case measure=>have:=J.out.1;omega
     refine ⟨j+1,(p++ [⟨f,n,d,r⟩])++ [⟨f,G,m,t⟩],Q,T,by go_num,?_,by omega,?_,⟨rfl,?_⟩,?_,?_⟩
     ·rw[List.length_append,List.length_append,M.out];rfl
     ·have:=O.out.2.2.2;rw[H.out] at this;exact this
     ·rw[Y.out.1,H.out]
     ·have:=O.out;rw[H.out] at this;exact ⟨this.1,this.2.1,this.2.2.1⟩
     rw[Cn (p++ [As.mk f n d r]),HX.out,List.length_append,List.length_append,M.out]
     show Sat (rw A9 4 (.slice Q (k+1+1) T) (xs++ [.int .i64 f,.int .i64 G,.int .i64 m,.int .i64 t])*(B*F)) _
     exact AR _ _ _
   have H:Aside (A6 (p++ [⟨f,n,d,r⟩]) ⟨P,G,m,t⟩=(p++ [⟨f,n,d,r⟩])++ [⟨P,G,m,t⟩]):=Gh (by unfold meets;simp[h1])
   have b1:(f==P)=false:=by simp[h1]
   go_wp2_with fail
   go_quiet (fail)
   go_wp2_with (at_builtin;refine Aj E rfl (.tmp 93) (.tmp 95) rfl rfl rfl (Ae (rw A9 4 (.slice (some ⟨g,0,none⟩) (k+1) c2) xs)) (Src.new (b:=wr.heap.size+1) (e:=A9) (s:=4) (vs:= [.int .i64 P,.int .i64 G,.int .i64 m,.int .i64 t]) (Ae _) rfl (by intro u W;simp at W;rcases W with rfl|rfl|rfl|rfl<;>rfl)) (by unfold maxLen;omega) (by omega) ?_;intro Q T w9 q9 z9;clear z9;haveI:=q9.i)
   go_roundg (L-(j+1))
   case measure=>have:=J.out.1;omega
   refine ⟨j+1,(p++ [⟨f,n,d,r⟩])++ [⟨P,G,m,t⟩],Q,T,by go_num,?_,by omega,?_,⟨rfl,?_⟩,?_,?_⟩
   · rw[List.length_append,List.length_append,M.out];rfl
   · have:=O.out.2.2.2;rw[H.out] at this;exact this
   · rw[Y.out.1,H.out]
   · have:=O.out;rw[H.out] at this;exact ⟨this.1,this.2.1,this.2.2.1⟩
   rw[Cn (p++ [As.mk f n d r]),HX.out,List.length_append,List.length_append,M.out]
   show Sat (rw A9 4 (.slice Q (k+1+1) T) (xs++ [.int .i64 P,.int .i64 G,.int .i64 m,.int .i64 t])*(B*F)) _
   exact AR _ _ _
 have af: ¬(j:Int)<L:=by omega
 have hJ:=J.out.2
 rw[List.take_of_length_le (by rw[X.out];omega)] at hJ
 have HF:Aside (I=R):=(by rw[hJ,←HR.out];rfl:_=_)
 clear hJ
 go_wp2
 go_ret
 exact ⟨a2,c2,by rw[HF.out];rfl,by rw[←HF.out];exact AR _ _ _⟩
end Go.Proofs.YtfhbmblbidcmmaaGreat
namespace Go.Tr
theorem FN(x:As)(l:List As)(n:Int):first (x::l) n=if x.len≤n then (x::(first l (n-x.len)).1,(first l (n-x.len)).2)
 else if n≤0 then ((first l (n-x.len)).1,x::(first l (n-x.len)).2)
 else (Hh x 0 n::(first l (n-x.len)).1,Hh x n (x.len-n)::(first l (n-x.len)).2):=by rw[first]
theorem MJ(y:As): ∀(l:List As)(n:Int),first (l++ [y]) n=((first l n).1++(first [y] (n-Ab l)).1,(first l n).2++(first [y] (n-Ab l)).2)
 | [],n=>by simp[first,Ab]
 | x :: l, n => by
  have h:=MJ y l (n-x.len)
  have e:n-x.len-Ab l=n-Ab (x::l):=by
   have:Ab (x::l)=x.len+Ab l:=by simp[Ab]
   omega
  rw[e] at h
  rw[List.cons_append,FN x (l++ [y]) n,h,FN x l n]
  generalize first [y] (n-Ab (x::l))=f
  split
  · rfl
  split<;>rfl
theorem UO(x:As)(n:Int):first [x] n=if x.len≤n then ([x],[]) else if n≤0 then ([],[x]) else ([Hh x 0 n],[Hh x n (x.len-n)]):=by
 rw[first]
 simp only[first]
theorem GC(l:List As)(n:Int):(first l n).1.length≤l.length∧(first l n).2.length≤l.length:=by
 induction l generalizing n with
 |nil=>simp[first]
 | cons x l a =>
  have:=a (n-x.len)
  rw[first]
  split
  ·simp;omega
  split
  ·simp;omega
  simp;omega
end Go.Tr
namespace Go.Proofs.YtfhbmblbidcmmaaGreat
open Go.RowKit Go.Sl Go.Dk Go.Tr
theorem NH(l:List As)(f:Int)(v:Value)(B F:Ac)(w:World)(hE:Aq B v l)(hs:Sat (B*F) w)(hl:l.length≤65536)(hm: ∀x∈l,Ai x=true)(h0: -1099511627776≤f)(h1:f≤1099511627776):
 Calls Tryz.prog 106 #[v,.int .i64 f] w fun e w'=> ∃a c a' H,e= .returned (.tuple #[.slice a (first l f).1.length c,.slice a' (first l f).2.length H])∧
  Sat (rw A9 4 (.slice a (first l f).1.length c) (AQ (first l f).1)*(rw A9 4 (.slice a' (first l f).2.length H) (AQ (first l f).2)*(B*F))) w':=by
 obtain ⟨i0,E⟩:=FK
 obtain ⟨a0,c0,rfl,ac,ar⟩:=hE.v
 have HL:Aside (Aq B (.slice a0 l.length c0) l):=hE
 have HM:Aside (∀x∈l,Ai x=true):=hm
 have HB:Aside (∀i:Nat,0≤Ab (l.take i)∧Ab (l.take i)≤i*1048576):=CN fun x hx=>by have:=C0 (hm x hx);omega
 have a5:Aside (∀i,(first (l.take i) f).1.length≤i∧(first (l.take i) f).2.length≤i):=fun i=>by
  have:=GC (l.take i) f
  have h2:(l.take i).length≤i:=by rw[List.length_take];omega
  omega
 obtain ⟨D,O⟩: ∃D,l.length=D:=⟨_,rfl⟩
 have a6:Aside (l.length=D):=O
 have HR:Aside (first l f=first (l.take D) f):=(by rw[←O,List.take_length]:first l f=first (l.take D) f)
 rw[O] at hl ac⊢
 obtain ⟨R,W⟩: ∃R,first l f=R:=⟨_,rfl⟩
 rw[W]
 have a7:Aside (first l f=R):=W
 have q0:=hs.Bj (e:=A9) (s:=4)|>.Bj (e:=A9) (s:=4)
 haveI:=hs.i
 clear hE hm O W
 go_enter Tryz.func106,Tryz.ntmps106
 go_wp2
 go_loopg [1,6,7,8] D (fun g t1 t6 t7 t8 wr=> ∃(j:Nat)(L R:List As)(a:Option Addr)(c:Nat)(a':Option Addr)(H:Nat),t8= .int .i64 j∧t1= .int .i64 (f-Ab (l.take j))∧t6= .slice a L.length c∧t7= .slice a' R.length H∧j≤D∧L.length≤65536∧R.length≤65536∧Aside (g=D-j∧L=(first (l.take j) f).1∧R=(first (l.take j) f).2)∧
  Sat (rw A9 4 (.slice a L.length c) (AQ L)*(rw A9 4 (.slice a' R.length H) (AQ R)*(B*F))) wr)
 case atStart=>exact ⟨0,[],[],none,0,none,0,rfl,by simp[Ab],rfl,rfl,by omega,by simp,by simp,⟨rfl,by simp[first],by simp[first]⟩,q0⟩
 obtain ⟨j,L,R',a,c,a',H,rfl,rfl,rfl,rfl,hj,hL,W,J,P⟩:=hrel
 clear q0 hs this
 haveI:=P.i
 by_cases av:j<D
 · have Z:(j:Int)<D:=by omega
   obtain ⟨y,hy⟩: ∃y,l[j]?=some y:=⟨_,List.getElem?_eq_getElem (by have:=a6.out;omega)⟩
   obtain ⟨b,q,rfl,r1,r2,r3,r4⟩:=BW HL.out hy
   have d:=MJ y (l.take j) f
   rw[←AA hy,←J.out.2.1,←J.out.2.2,UO] at d
   have X:=BX hy
   have ae:=BS.1 (HM.out y (List.mem_of_getElem? hy))
   have ad:=HB.out j
   have M:=a5.out (j+1)
   obtain ⟨z,hz⟩: ∃z,f-Ab (l.take j)=z:=⟨_,rfl⟩
   rw[hz] at d⊢
   have a1:f-Ab (l.take (j+1))=z-y.len:=by rw[X];omega
   have az: -1168231104512≤z∧z≤1168231104512:=by omega
   obtain ⟨k,hk⟩: ∃k,first (l.take (j+1)) f=k:=⟨_,rfl⟩
   rw[hk] at M
   have p:Aside (first (l.take (j+1)) f=k∧k.1.length≤j+1∧k.2.length≤j+1∧f-Ab (l.take (j+1))=z-y.len):=⟨hk,M.1,M.2,a1⟩
   rw[hk] at d
   obtain ⟨n,m,o,G⟩:=y
   simp only at r1 r2 r3 r4 ae d p
   have aw:IntKind.i64.wrap (z-o)=z-o:=IntWalk.i64_in _ (by omega)
   clear hy X ad M hz a1 hk
   by_cases c1:o≤z
   · rw[if_pos c1] at d
     have t:Aside (k=(L++ [⟨n,m,o,G⟩],R'++ [])):=d
     clear d
     go_wp2_with (at_builtin;refine Aj E rfl (.tmp 26) (.tmp 28) rfl rfl rfl (Ae (rw A9 4 (.slice a L.length c) (AQ L))) (Src.new (b:=wr.heap.size+1) (e:=A9) (s:=4) (vs:= [.int .i64 n,.int .i64 m,.int .i64 o,.int .i64 G]) (Ae _) rfl (by intro u r;simp at r;rcases r with rfl|rfl|rfl|rfl<;>rfl)) (by unfold maxLen;omega) (by omega) ?_;intro I K w9 Q T;clear T;haveI:=Q.i)
     go_roundg (D-(j+1))
     case measure=>have:=J.out.1;omega
     refine ⟨j+1,L++ [⟨n,m,o,G⟩],R',I,K,a',H,by go_num,by rw[p.out.2.2.2],?_,rfl,by omega,?_,W,⟨rfl,?_,?_⟩,?_⟩
     ·rw[List.length_append];rfl
     ·have:=p.out.2.1;rw[t.out] at this;simp only at this;omega
     ·rw[p.out.1,t.out]
     ·rw[p.out.1,t.out,List.append_nil]
     rw[Cn,List.length_append]
     show Sat (rw A9 4 (.slice I (L.length+1) K) (AQ L++ [.int .i64 n,.int .i64 m,.int .i64 o,.int .i64 G])*(rw A9 4 (.slice a' R'.length H) (AQ R')*(B*F))) _
     exact Dv _ _ _ _
   rw[if_neg c1] at d
   by_cases c2:z≤0
   · rw[if_pos c2] at d
     have t:Aside (k=(L++ [],R'++ [⟨n,m,o,G⟩])):=d
     clear d
     go_wp2_with (at_builtin;refine Aj E rfl (.tmp 32) (.tmp 34) rfl rfl rfl (Ae (rw A9 4 (.slice a' R'.length H) (AQ R'))) (Src.new (b:=wr.heap.size+1) (e:=A9) (s:=4) (vs:= [.int .i64 n,.int .i64 m,.int .i64 o,.int .i64 G]) (Ae _) rfl (by intro u r;simp at r;rcases r with rfl|rfl|rfl|rfl<;>rfl)) (by unfold maxLen;omega) (by omega) ?_;intro I K w9 Q T;clear T;haveI:=Q.i)
     go_roundg (D-(j+1))
     case measure=>have:=J.out.1;omega
     refine ⟨j+1,L,R'++ [⟨n,m,o,G⟩],a,c,I,K,by go_num,by rw[p.out.2.2.2],rfl,?_,by omega,hL,?_,⟨rfl,?_,?_⟩,?_⟩
     ·rw[List.length_append];rfl
     ·have:=p.out.2.2.1;rw[t.out] at this;simp only at this;omega
     ·rw[p.out.1,t.out,List.append_nil]
     ·rw[p.out.1,t.out]
     rw[Cn,List.length_append]
     show Sat (rw A9 4 (.slice a L.length c) (AQ L)*(rw A9 4 (.slice I (R'.length+1) K) (AQ R'++ [.int .i64 n,.int .i64 m,.int .i64 o,.int .i64 G])*(B*F))) _
     exact Dv _ _ _ _
   rw[if_neg c2] at d
   have ax:IntKind.i64.wrap (m+z)=m+z:=IntWalk.i64_in _ (by omega)
   have ay:IntKind.i64.wrap (o-z)=o-z:=IntWalk.i64_in _ (by omega)
   have t:Aside (k=(L++ [⟨n,m,z,if G=0 then 0 else-1⟩],R'++ [⟨n,m+z,o-z,if G=0 then 0 else-1⟩])):=by
    rw[d]
    unfold Hh
    simp only[Int.add_zero]
    exact (trivial:True)
   clear d
   by_cases c3:G=0
   · subst c3
     go_wp2_with (first|(at_builtin;refine Aj E rfl (.tmp 39) (.tmp 50) rfl rfl rfl (Ae (rw A9 4 (.slice a L.length c) (AQ L))) (Src.new (b:=wr.heap.size+1) (e:=A9) (s:=4) (vs:= [.int .i64 n,.int .i64 m,.int .i64 z,.int .i64 (0)]) (Ae _) rfl (by intro u r;simp at r;rcases r with rfl|rfl|rfl|rfl<;>rfl)) (by unfold maxLen;omega) (by omega) ?_;intro I K w9 Q T;clear T;haveI:=Q.i)|(at_builtin;refine Aj E rfl (.tmp 52) (.tmp 69) rfl rfl rfl (Ae (rw A9 4 (.slice a' R'.length H) (AQ R'))) (Src.new (b:=w9.heap.size) (e:=A9) (s:=4) (vs:= [.int .i64 n,.int .i64 (m+z),.int .i64 (o-z),.int .i64 (0)]) (Ae _) rfl (by intro u r;simp at r;rcases r with rfl|rfl|rfl|rfl<;>rfl)) (by unfold maxLen;omega) (by omega) ?_;intro U V w8 q8 z8;clear z8;haveI:=q8.i))
     go_roundg (D-(j+1))
     case measure=>have:=J.out.1;omega
     refine ⟨j+1,L++ [⟨n,m,z,0⟩],R'++ [⟨n,m+z,o-z,0⟩],I,K,U,V,by go_num,by rw[p.out.2.2.2],?_,?_,by omega,?_,?_,⟨rfl,?_,?_⟩,?_⟩
     ·rw[List.length_append];rfl
     ·rw[List.length_append];rfl
     ·have:=p.out.2.1;rw[t.out] at this;simp only[List.length_append,List.length_singleton] at this⊢;omega
     ·have:=p.out.2.2.1;rw[t.out] at this;simp only[List.length_append,List.length_singleton] at this⊢;omega
     ·rw[p.out.1,t.out];simp
     ·rw[p.out.1,t.out];simp
     rw[Cn,Cn,List.length_append,List.length_append]
     show Sat (rw A9 4 (.slice I (L.length+1) K) (AQ L++ [.int .i64 n,.int .i64 m,.int .i64 z,.int .i64 (0)])*(rw A9 4 (.slice U (R'.length+1) V) (AQ R'++ [.int .i64 n,.int .i64 (m+z),.int .i64 (o-z),.int .i64 (0)])*(B*F))) _
     exact Dv _ _ _ _
   have c4:(G==0)=false:=by simp[c3]
   have C3:Aside (¬G=0):=c3
   go_wp2_with (first|(at_builtin;refine Aj E rfl (.tmp 39) (.tmp 50) rfl rfl rfl (Ae (rw A9 4 (.slice a L.length c) (AQ L))) (Src.new (b:=wr.heap.size+1) (e:=A9) (s:=4) (vs:= [.int .i64 n,.int .i64 m,.int .i64 z,.int .i64 (-1)]) (Ae _) rfl (by intro u r;simp at r;rcases r with rfl|rfl|rfl|rfl<;>rfl)) (by unfold maxLen;omega) (by omega) ?_;intro I K w9 Q T;clear T;haveI:=Q.i)|(at_builtin;refine Aj E rfl (.tmp 52) (.tmp 69) rfl rfl rfl (Ae (rw A9 4 (.slice a' R'.length H) (AQ R'))) (Src.new (b:=w9.heap.size) (e:=A9) (s:=4) (vs:= [.int .i64 n,.int .i64 (m+z),.int .i64 (o-z),.int .i64 (-1)]) (Ae _) rfl (by intro u r;simp at r;rcases r with rfl|rfl|rfl|rfl<;>rfl)) (by unfold maxLen;omega) (by omega) ?_;intro U V w8 q8 z8;clear z8;haveI:=q8.i))
   go_roundg (D-(j+1))
   case measure=>have:=J.out.1;omega
   refine ⟨j+1,L++ [⟨n,m,z,-1⟩],R'++ [⟨n,m+z,o-z,-1⟩],I,K,U,V,by go_num,by rw[p.out.2.2.2],?_,?_,by omega,?_,?_,⟨rfl,?_,?_⟩,?_⟩
   · rw[List.length_append];rfl
   · rw[List.length_append];rfl
   · have:=p.out.2.1;rw[t.out] at this;simp only[List.length_append,List.length_singleton] at this⊢;omega
   · have:=p.out.2.2.1;rw[t.out] at this;simp only[List.length_append,List.length_singleton] at this⊢;omega
   · rw[p.out.1,t.out];simp[C3.out]
   · rw[p.out.1,t.out];simp[C3.out]
   rw[Cn,Cn,List.length_append,List.length_append]
   show Sat (rw A9 4 (.slice I (L.length+1) K) (AQ L++ [.int .i64 n,.int .i64 m,.int .i64 z,.int .i64 (-1)])*(rw A9 4 (.slice U (R'.length+1) V) (AQ R'++ [.int .i64 n,.int .i64 (m+z),.int .i64 (o-z),.int .i64 (-1)])*(B*F))) _
   exact Dv _ _ _ _
 have Z: ¬(j:Int)<D:=by omega
 have Y:j=D:=by omega
 have HF:Aside (L=R.1∧R'=R.2):=(by rw[J.out.2.1,J.out.2.2,Y,←HR.out,a7.out];exact ⟨rfl,rfl⟩:_∧_)
 clear Y
 go_wp2
 go_ret2
 rw[HF.out.1,HF.out.2] at P
 exact ⟨a,c,a',H,by rw[HF.out.1,HF.out.2];rfl,P⟩
