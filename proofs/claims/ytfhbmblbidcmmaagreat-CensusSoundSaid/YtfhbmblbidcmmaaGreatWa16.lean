/- censusSound holds for every input. No condition. (part 16) -/
import Derived.Test.YtfhbmblbidcmmaaGreatWa15
import Derived.Test.YtfhbmblbidcmmaaGreatWa12
set_option linter.all false
set_option maxRecDepth 100000
set_option maxHeartbeats 1600000
namespace Go.Proofs.YtfhbmblbidcmmaaGreat
open Go.RowKit Go.Sl Go.Dk Go.Tr
def QW(a:Nat)(ns:List Int):List UInt8:=ns.flatMap fun n=>Bz (n4 n) a
theorem Sk(a:Nat)(ns:List Int):(QW a ns).length=ns.length*a:=Jw (fun n=>AF _ _) ns
theorem Uq(a:Nat)(ns:List Int)(n:Int):QW a (ns++ [n])=QW a ns++Bz (n4 n) a:=by simp[QW]
theorem MC(body:List UInt8)(a:Option Addr)(c f:Nat)(ns:List Int)(v:Value)(B F:Ab)(w:World)(J:Ai 1 B v ns.length (ints ns))(hs:Sat (rw TB 1 (.slice a body.length c) (A4 body)*(B*F)) w)
 (hb:body.length≤1048576) (hn:ns.length≤1048576) (h1:1≤f) (X:f≤4) (hr: ∀n∈ns,-1≤n∧n≤4294967295∧n4 n<256^f):
 Calls Tryz.prog 233 #[.slice a body.length c,.int .i64 f,v] w fun e w'=> ∃a' y,e= .returned (.slice a' (body++QW f ns).length y)∧Sat (rw TB 1 (.slice a' (body++QW f ns).length y) (A4 (body++QW f ns))*(B*F)) w':=by
 obtain ⟨i0,E⟩:=Dp
 obtain ⟨aN,cN,rfl,Y,Z⟩:=J.v
 have U:=As J
 have W:=As hr
 obtain ⟨res,r⟩:=Aq (body++QW f ns)
 have H:=As r
 rw[r]
 clear J hr r
 go_enter Tryz.func233,Tryz.ntmps233
 go_wp2
 go_loopg [0,13] ns.length (fun g t0 M wr=> ∃(i:Nat)(o:List UInt8)(x:Option Addr)(c2:Nat),M= .int .i64 i∧t0= .slice x o.length c2∧i≤ns.length∧o.length≤1048576+i*4∧Aside (g=ns.length-i∧o=body++QW f (ns.take i))∧
  Sat (rw TB 1 (.slice x o.length c2) (A4 o)*(B*F)) wr)
 case atStart=>exact ⟨0,body,a,c,rfl,rfl,by omega,by omega,⟨rfl,by simp[QW]⟩,hs⟩
 obtain ⟨i,o,x,c2,rfl,rfl,hi,a1,A,s⟩:=hrel
 haveI:=s.i
 clear hs
 by_cases K:i<ns.length
 · have G:(i:Int)<ns.length:=by omega
   obtain ⟨k,D⟩: ∃k,ns[i]?=some k:=⟨_,List.getElem?_eq_getElem K⟩
   obtain ⟨b,q,rfl,r1⟩:=(Ai.at U.out) i (.int .i64 k) (by unfold ints;rw[List.getElem?_map,D];rfl)
   have O:Aside (ns.take (i+1)=ns.take i++ [k]):=AB D
   obtain ⟨Q,R,L⟩:=W.out k (List.mem_of_getElem? D)
   have j:=Nq (n4 k) f _ wr s h1 (by omega) L (by have:(256:Nat)^f≤256^4:=Nat.pow_le_pow_right (by omega) X;omega)
   by_cases hm:k= -1
   ·subst hm
    have z:n4 (-1)=4294967295:=rfl
    rw[z] at j
    clear D Q R L
    go_wp2_with fail
    refine j.mono ?_
    rintro e w1 ⟨I,c3,rfl,t⟩
    clear j s
    haveI:=t.i
    go_wp2_with (at_builtin;refine Af E rfl (.tmp 25) (.tmp 26) rfl rfl rfl (Ae (rw TB 1 (.slice x o.length c2) (A4 o))) (Reads.NT (Reads.rw (e:=TB) (v:= .slice I f c3) (l:=Bz 4294967295 f)) (AF _ _)) (by unfold maxLen;omega) (by omega) ?_;intro a' y w3 u p;clear p;haveI:=u.i)
    go_roundg (ns.length-(i+1))
    case measure=>have:=A.out.1;omega
    have d:(o++Bz 4294967295 f).length=o.length+f:=by rw[List.length_append,AF]
    refine ⟨i+1,o++Bz 4294967295 f,a',y,by go_num,by rw[d],by omega,by rw[d];omega,⟨rfl,?_⟩,?_⟩
    ·rw[O.out,Uq,A.out.2,List.append_assoc];rfl
    rw[d,BL]
    exact AD _ B F
   have z:n4 k=k.toNat:=by unfold n4;rw[if_neg hm]
   have T:=As z
   obtain ⟨m,rfl⟩:=Int.eq_ofNat_of_zero_le (show 0≤k by omega)
   rw[z] at j
   simp only[Int.toNat_natCast] at j z
   have a0:((m:Int)== -1)=false:=by simp
   clear D Q R L hm z
   go_wp2_with fail
   refine j.mono ?_
   rintro e w1 ⟨I,c3,rfl,t⟩
   clear j s
   haveI:=t.i
   go_wp2_with (at_builtin;refine Af E rfl (.tmp 25) (.tmp 26) rfl rfl rfl (Ae (rw TB 1 (.slice x o.length c2) (A4 o))) (Reads.NT (Reads.rw (e:=TB) (v:= .slice I f c3) (l:=Bz m f)) (AF _ _)) (by unfold maxLen;omega) (by omega) ?_;intro a' y w3 u p;clear p;haveI:=u.i)
   go_roundg (ns.length-(i+1))
   case measure=>have:=A.out.1;omega
   have d:(o++Bz m f).length=o.length+f:=by rw[List.length_append,AF]
   refine ⟨i+1,o++Bz m f,a',y,by go_num,by rw[d],by omega,by rw[d];omega,⟨rfl,?_⟩,?_⟩
   ·rw[O.out,Uq,A.out.2,List.append_assoc];rw[T.out];rfl
   rw[d,BL]
   exact AD _ B F
 have G: ¬(i:Int)<ns.length:=by omega
 have P:ns.take i=ns:=List.take_of_length_le (by omega)
 have V:Aside (o=body++QW f ns):=(by have:=A.out.2;rw[P] at this;exact this:_=_)
 clear A P
 go_wp2
 go_ret
 obtain rfl:res=o:=by rw[←H.out,←V.out]
 exact ⟨x,c2,rfl,ES⟩
abbrev cI(X:Nat)(x:Int):Ab:=Sl.block X CN [.int .i64 x]
theorem Vk(X Y Z:Nat)(x y z b l s:Int)(F:Ab)(w:World)(hs:Sat (cI X x*(cI Y y*(cI Z z*F))) w)
 (hx:0≤x∧x≤4611686018427387904) (hb:0≤b∧b≤1048576) (hy:0≤y∧y≤4611686018427387904) (f:0≤s∧s≤1048576) (j: -1≤z∧z≤4611686018427387904) (hl: -1≤l∧l≤1048576):
 Calls Tryz.prog 161 #[.int .i64 b,.int .i64 l,.int .i64 s,.pointer (some ⟨X,0,none⟩),.pointer (some ⟨Y,0,none⟩),.pointer (some ⟨Z,0,none⟩)] w fun e g=>e= .returned (.tuple #[])∧Sat (cI X (x+b)*(cI Y (y+s)*(cI Z (DT z l)*F))) g:=by
 have hw1:=Bb (x+b) (by omega)
 have hw2:=Bb (y+s) (by omega)
 haveI:=hs.i
 by_cases c1:l<0
 ·have c:decide (l<0)=true:=by simpa using c1
  have a:Aside (DT z l= -1):=(by unfold DT;rw[if_pos (.inl c1)]:_=_)
  go_enter Tryz.func161,Tryz.ntmps161
  go_wp2_with fail
  go_region
  go_wp2
  refine bodyPost_ret (results_none rfl _ _ _) rfl ?_
  exact ⟨rfl,by rw[a.out];exact ES⟩
 have c:decide (l<0)=false:=by simpa using c1
 by_cases c2:z<0
 ·have d:decide (z<0)=true:=by simpa using c2
  have a:Aside (DT z l= -1):=(by unfold DT;rw[if_pos (.inr c2)]:_=_)
  go_enter Tryz.func161,Tryz.ntmps161
  go_wp2_with fail
  go_region
  go_wp2
  refine bodyPost_ret (results_none rfl _ _ _) rfl ?_
  exact ⟨rfl,by rw[a.out];exact ES⟩
 have d:decide (z<0)=false:=by simpa using c2
 have a:Aside (DT z l=z+l):=(by unfold DT;rw[if_neg (by omega)]:_=_)
 have hw3:=Bb (z+l) (by omega)
 go_enter Tryz.func161,Tryz.ntmps161
 go_wp2_with fail
 go_region
 go_wp2
 go_end0
 exact ⟨rfl,by rw[a.out];exact ES⟩
theorem QY(X Y Z:Nat)(x y z:Int)(G:Ab){Q:Ending→World→Prop}{a:Act}{W:World}(hs:Sat (cI X x*(cI Y y*(cI Z z*G))) W)
 (d:a.tmps[2]?.getD undef= .pointer (some ⟨X,0,none⟩)) (e:a.tmps[3]?.getD undef= .pointer (some ⟨Z,0,none⟩)) (f:a.tmps[4]?.getD undef= .pointer (some ⟨Y,0,none⟩)) (c:a.defers= [])
 (b:Q (.returned (.tuple #[.int .i64 x,.int .i64 z,.int .i64 y])) W):bodyPost Tryz.prog Tryz.f131 Q .ret a W:=by
 haveI:=hs.i
 have c1:=Ac W X 0
 have c2:=Ac W Z 0
 have c3:=Ac W Y 0
 refine bodyPost_ret (v:= .tuple #[.int .i64 x,.int .i64 z,.int .i64 y]) ?_ c b
 simp[results,Tryz.results131,go_sem,d,e,f,c1,c2,c3]
theorem Q8{α β:Type}{f:β→α→β}{z:β}{l:List α}{i:Nat}{x:α}(h:l[i]?=some x):(l.take (i+1)).foldl f z=f ((l.take i).foldl f z) x:=by rw[AB h,List.foldl_append];rfl
theorem X1{z l:Int}(h: -1≤z)(a: -1≤l): -1≤DT z l:=by unfold DT;split<;>omega
theorem X2{z l m:Int}(h:z≤m)(a:l≤1048576)(b: -1≤m):DT z l≤m+1048576:=by unfold DT;split<;>omega
def jS(n:Nd):Int×Int×Int:=(Aa n.Ag+Bc n.kids,(n.kids.map (·.lines)).foldl DT ((n.Ag.map (·.lines)).foldl DT 0),n.Ag.length+Bj n.kids)
theorem Kf(n:Nd)(v:Value)(B F:Ab)(w:World)(hN:AN B v n)(hs:Sat (B*F) w)(am:n.Ag.length≤4294967296)(an:n.kids.length≤4294967296):
 Calls Tryz.prog 131 #[v] w fun e P=>e= .returned (.tuple #[.int .i64 (AZ n).1,.int .i64 (AZ n).2.1,.int .i64 (AZ n).2.2])∧Sat (B*F) P:=by
 have c:=fun F w h=>LB n v B F w hN h am an
 obtain ⟨vE,vK,rfl,hE,hK⟩:=hN
 obtain ⟨aE,cE,rfl,b9,ba⟩:=hE.v
 obtain ⟨t,u,rfl,bb,bc⟩:=hK.v
 have HE:=As hE
 have HK:=As hK
 obtain ⟨lf,H⟩:=Aq n.leaf
 rw[H] at c⊢
 obtain ⟨mr,a⟩:=Aq (may n)
 rw[a] at c
 obtain ⟨T,G⟩:=Aq w.heap.size
 have a1:=hs.alloc #[.bool lf,.slice aE n.Ag.length cE,.slice t n.kids.length u] Cy
 have a2:=a1.alloc #[.int .i64 0] CN
 have a3:=a2.alloc #[.int .i64 0] CN
 have a4:=a3.alloc #[.int .i64 0] CN
 have e1:(w.alloc (.cells #[.bool lf,.slice aE n.Ag.length cE,.slice t n.kids.length u] Cy)).heap.size=T+1:=by simp[G]
 have e2:((w.alloc (.cells #[.bool lf,.slice aE n.Ag.length cE,.slice t n.kids.length u] Cy)).alloc (.cells #[.int .i64 0] CN)).heap.size=T+1+1:=by simp[G]
 have e3:(((w.alloc (.cells #[.bool lf,.slice aE n.Ag.length cE,.slice t n.kids.length u] Cy)).alloc (.cells #[.int .i64 0] CN)).alloc (.cells #[.int .i64 0] CN)).heap.size=T+1+1+1:=by simp[G]
 rw[e1,e2,e3,G] at a4
 obtain ⟨X,hX⟩:=Aq (T+1)
 obtain ⟨Z,hZ⟩:=Aq (T+1+1)
 obtain ⟨Y,hY⟩:=Aq (T+1+1+1)
 rw[hY,hZ,hX] at a4
 have a5:Sat (B*(cI X 0*(cI Y 0*(cI Z 0*(Sl.block T Cy [.bool lf,.slice aE n.Ag.length cE,.slice t n.kids.length u]*F))))) _:=a4.eq (by dsimp only[cI];ac_rfl)
 have h5:=c _ _ a5
 have HT:Aside (w.heap.size=T∧w.heap.size+1=X∧w.heap.size+1+1=Z∧w.heap.size+1+1+1=Y):=⟨G,by rw[G,hX],by rw[G,hX,←hZ,hX],by rw[G,hX,←hY,hX]⟩
 clear c a1 a2 a3 a4 a5 e1 e2 e3 hE hK G hX hZ hY
 haveI:=hs.i
 have b5:=As H
 cases mr with
 | false =>
  have HR:Aside (AZ n=(0,0,0)):=(by unfold AZ;rw[a];rfl:_=_)
  clear a H HE HK
  go_enter Tryz.func131,Tryz.ntmps131
  go_wp2_with fail
  obtain ⟨U,V,W,q4⟩:=HT.out
  rw[q4,W,V,U]
  clear U V W q4
  refine h5.mono ?_
  rintro e P ⟨rfl,I⟩
  haveI:=I.i
  clear h5
  go_wp2
  rw[HR.out]
  exact QY X Y Z 0 0 0 _ (Ap (by dsimp only[cI];ac_rfl):Sat (cI X 0*(cI Y 0*(cI Z 0*(Sl.block T Cy [.bool lf,.slice aE n.Ag.length cE,.slice t n.kids.length u]*(B*F))))) _) rfl rfl rfl rfl ⟨rfl,Ar B F⟩
 | true =>
  have HR:Aside (AZ n=jS n):=(by unfold AZ jS;rw[a];rfl:_=_)
  have D:Aside ((∀x∈n.Ag,Ah x=true)∧(∀x∈n.kids,AE x=true)∧n.Ag.length≤12∧n.kids.length≤12):=(by
   cases hl:n.leaf with
   | true =>
     obtain ⟨h1,h2,h3,h4,_⟩:=BS a hl
     exact ⟨h2,(by rw[h1];simp),h4,by rw[h1];simp⟩
   | false =>
     obtain ⟨h1,h2,h3,h4,_⟩:=B7 a hl
     exact ⟨(by rw[h1];simp),h2,by rw[h1];simp,h4⟩:_∧_)
  have bg:=D.out.2.2.1
  have bh:=D.out.2.2.2
  clear a H
  go_enter Tryz.func131,Tryz.ntmps131
  go_wp2_with fail
  obtain ⟨U,V,W,q4⟩:=HT.out
  rw[q4,W,V,U]
  clear U V W q4
  refine h5.mono ?_
  rintro e P ⟨rfl,I⟩
  have L:Sat (cI X 0*(cI Y 0*(cI Z 0*(Sl.block T Cy [.bool lf,.slice aE n.Ag.length cE,.slice t n.kids.length u]*(B*F))))) P:=I.eq (by ac_rfl)
  haveI:=L.i
  clear h5 hs I
  go_wp2
  go_loopg [17] n.Ag.length (fun g aq wr=> ∃(i:Nat)(x z:Int),aq= .int .i64 i∧i≤n.Ag.length∧0≤x∧x≤i*1048576∧ -1≤z∧z≤i*1048576∧Aside (g=n.Ag.length-i∧x=Aa (n.Ag.take i)∧z=((n.Ag.map (·.lines)).take i).foldl DT 0)∧
   Sat (cI X x*(cI Y i*(cI Z z*(Sl.block T Cy [.bool lf,.slice aE n.Ag.length cE,.slice t n.kids.length u]*(B*F))))) wr)
  case atStart=>exact ⟨0,0,0,rfl,by omega,by omega,by omega,by omega,by omega,⟨rfl,by simp[Aa],by simp⟩,L⟩
  obtain ⟨i,x,z,rfl,hi,bi,hx,ap,hz,A,R⟩:=hrel
  haveI:=R.i
  clear L
  by_cases K:i<n.Ag.length
  · have p:(i:Int)<n.Ag.length:=by omega
    obtain ⟨y,hy⟩: ∃y,n.Ag[i]?=some y:=⟨_,List.getElem?_eq_getElem K⟩
    obtain ⟨b,o,rfl,r1,r2,r3,r4⟩:=BH HE.out hy
    have hm:=D.out.1 y (List.mem_of_getElem? hy)
    have O:=As hy
    obtain ⟨y1,Q,d,f⟩:=y
    have hb:=Ca hm
    have ai: -1≤f∧f≤d:=by unfold Ah at hm;simp only[decide_eq_true_eq] at hm;exact hm.2.2.2.2.2.2.1
    simp only at hb
    have h1:=fun F w h=>Vk X Y Z x i z d f 1 F w h (by omega) (by omega) (by omega) (by omega) (by omega) (by omega)
    clear hy hm
    go_wp2_with (go_at_call 161;refine (h1 _ _ (SR (cI X x) (cI Y i) (cI Z z))).mono ?_;rintro e P ⟨rfl,M⟩;haveI:=M.i)
    go_roundg (n.Ag.length-(i+1))
    case measure=>have:=A.out.1;omega
    have e4:((n.Ag.map (·.lines)))[i]?=some f:=by rw[List.getElem?_map,O.out];rfl
    have g1:=X1 ap (l:=f) (by omega)
    have g2:=X2 hz (l:=f) (by omega) (by omega)
    refine ⟨i+1,x+d,DT z f,by go_num,by omega,by omega,by omega,by omega,by omega,⟨rfl,?_,?_⟩,?_⟩
    · rw[BZ O.out,A.out.2.1]
    · rw[Q8 e4,A.out.2.2]
    exact Ax (C:=Sl.block wr.heap.size AK [.int .i64 y1,.int .i64 Q,.int .i64 d,.int .i64 f]) (by dsimp only[cI];rw[show (((i+1:Nat)):Int)=(i:Int)+1 by omega];ac_rfl)
  have p: ¬(i:Int)<n.Ag.length:=by omega
  have k:n.Ag.take i=n.Ag:=List.take_of_length_le (by omega)
  have m:(n.Ag.map (·.lines)).take i=n.Ag.map (·.lines):=List.take_of_length_le (by simp;omega)
  have aj:i=n.Ag.length:=by omega
  have J:Aside (x=Aa n.Ag∧z=(n.Ag.map (·.lines)).foldl DT 0∧(i:Int)=n.Ag.length):=(by
   have h:=A.out.2
   rw[k,m] at h
   exact ⟨h.1,h.2,by omega⟩:_∧_)
  clear A k m aj HE
  go_wp2
  go_loopg [32] n.kids.length (fun g ar wq=> ∃(j:Nat)(q r s:Int),ar= .int .i64 j∧j≤n.kids.length∧0≤q∧q≤j*1048576∧0≤r∧r≤j*1048576∧ -1≤s∧s≤12582912+j*1048576∧Aside (g=n.kids.length-j∧q=Bc (n.kids.take j)∧r=Bj (n.kids.take j)∧s=((n.kids.map (·.lines)).take j).foldl DT z)∧
   Sat (cI X (x+q)*(cI Y (i+r)*(cI Z s*(Sl.block T Cy [.bool lf,.slice aE n.Ag.length cE,.slice t n.kids.length u]*(B*F))))) wq)
  case atStart=>exact ⟨0,0,0,z,rfl,by omega,by omega,by omega,by omega,by omega,by omega,by omega,⟨rfl,by simp[Bc],by simp[Bj],by simp⟩,by simp only[Int.add_zero];exact ES⟩
  obtain ⟨j,q,r,s,rfl,hj,XF,bd,be,bf,ak,al,A,ao⟩:=hrel
  clear R
  haveI:=ao.i
  by_cases K:j<n.kids.length
  · have p:(j:Int)<n.kids.length:=by omega
    obtain ⟨y,hy⟩: ∃y,n.kids[j]?=some y:=⟨_,List.getElem?_eq_getElem K⟩
    obtain ⟨b,o,rfl,r1,r2,r3,r4⟩:=Cp HK.out hy
    have hm:=D.out.2.1 y (List.mem_of_getElem? hy)
    have O:=As hy
    obtain ⟨y1,Q,d,f⟩:=y
    have hb:=Nt hm
    have ai: -1≤d∧d≤Q:=by unfold AE at hm;simp only[decide_eq_true_eq] at hm;exact hm.2.2.2.2.1
    simp only at hb
    have h1:=fun F w h=>Vk X Y Z (x+q) (i+r) s Q d f F w h (by omega) (by omega) (by omega) (by omega) (by omega) (by omega)
    clear hy hm
    go_wp2_with (go_at_call 161;refine (h1 _ _ (SR (cI X (x+q)) (cI Y (i+r)) (cI Z s))).mono ?_;rintro e P ⟨rfl,M⟩;haveI:=M.i)
    go_roundg (n.kids.length-(j+1))
    case measure=>have:=A.out.1;omega
    have e4:((n.kids.map (·.lines)))[j]?=some d:=by rw[List.getElem?_map,O.out];rfl
    have g1:=X1 ak (l:=d) (by omega)
    have g2:=X2 al (l:=d) (by omega) (by omega)
    refine ⟨j+1,q+Q,r+f,DT s d,by go_num,by omega,by omega,by omega,by omega,by omega,by omega,by omega,⟨rfl,?_,?_,?_⟩,?_⟩
    · rw[GD O.out,A.out.2.1]
    · rw[FK O.out,A.out.2.2.1]
    · rw[Q8 e4,A.out.2.2.2]
    exact Ax (C:=Sl.block wr.heap.size Lh [.int .i64 y1,.int .i64 Q,.int .i64 d,.int .i64 f]) (by dsimp only[cI];rw[←Int.add_assoc,←Int.add_assoc];ac_rfl)
  have p: ¬(j:Int)<n.kids.length:=by omega
  have k:n.kids.take j=n.kids:=List.take_of_length_le (by omega)
  have m:(n.kids.map (·.lines)).take j=n.kids.map (·.lines):=List.take_of_length_le (by simp;omega)
  have HF:Aside (AZ n=(x+q,s,i+r)):=(by
   have h:=A.out.2
   rw[k,m] at h
   rw[HR.out]
   unfold jS
   rw[J.out.1,J.out.2.2,h.1,h.2.1,h.2.2,J.out.2.1]:_=_)
  clear A k m HK HR
  go_wp2_with fail
  go_region
  go_wp2
  rw[HF.out]
  exact QY X Y Z (x+q) (i+r) s _ (Ap (by dsimp only[cI];ac_rfl):Sat (cI X (x+q)*(cI Y (i+r)*(cI Z s*(Sl.block T Cy [.bool lf,.slice aE n.Ag.length cE,.slice t n.kids.length u]*(B*F))))) _) rfl rfl rfl rfl ⟨rfl,Ar B F⟩
