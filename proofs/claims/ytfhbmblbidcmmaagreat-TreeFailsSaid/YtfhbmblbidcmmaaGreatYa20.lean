/- treeFails holds for every input. No condition. (part 20) -/
import Derived.Test.YtfhbmblbidcmmaaGreatYa19
import Derived.Test.YtfhbmblbidcmmaaGreatYa16
set_option linter.all false
set_option maxRecDepth 100000
set_option maxHeartbeats 1600000
namespace Go.Proofs.YtfhbmblbidcmmaaGreat
open Go.RowKit Go.Sl Go.Dk Go.Tr
def Oi(a:Nat)(ns:List Int):List UInt8:=ns.flatMap fun n=>BF (n4 n) a
theorem PW(a:Nat)(ns:List Int):(Oi a ns).length=ns.length*a:=Ix (fun n=>AB _ _) ns
theorem Ri(a:Nat)(ns:List Int)(n:Int):Oi a (ns++ [n])=Oi a ns++BF (n4 n) a:=by simp[Oi]
theorem L3(d:List UInt8)(a:Option Addr)(c f:Nat)(ns:List Int)(v:Value)(B F:Ac)(w:World)(M:Al 1 B v ns.length (ints ns))(hs:Sat (rw TB 1 (.slice a d.length c) (A4 d)*(B*F)) w)
 (hb:d.length≤1048576) (hn:ns.length≤1048576) (h1:1≤f) (h4:f≤4) (hr: ∀n∈ns,-1≤n∧n≤4294967295∧n4 n<256^f):
 Calls Tryz.prog 233 #[.slice a d.length c,.int .i64 f,v] w fun e w'=> ∃a' D,e= .returned (.slice a' (d++Oi f ns).length D)∧Sat (rw TB 1 (.slice a' (d++Oi f ns).length D) (A4 (d++Oi f ns))*(B*F)) w':=by
 obtain ⟨i0,E⟩:=Ez
 obtain ⟨aN,cN,rfl,a6,a7⟩:=M.v
 have X:Aside (Al 1 B (.slice aN ns.length cN) ns.length (ints ns)):=M
 have Z:Aside (∀n∈ns,-1≤n∧n≤4294967295∧n4 n<256^f):=hr
 obtain ⟨res,t⟩: ∃r,d++Oi f ns=r:=⟨_,rfl⟩
 have J:Aside (d++Oi f ns=res):=t
 rw[t]
 clear M hr t
 go_enter Tryz.func233,Tryz.ntmps233
 go_wp2
 go_loopg [0,13] ns.length (fun g t0 Q wr=> ∃(i:Nat)(o:List UInt8)(z:Option Addr)(c2:Nat),Q= .int .i64 i∧t0= .slice z o.length c2∧i≤ns.length∧o.length≤1048576+i*4∧Aside (g=ns.length-i∧o=d++Oi f (ns.take i))∧
  Sat (rw TB 1 (.slice z o.length c2) (A4 o)*(B*F)) wr)
 case atStart=>exact ⟨0,d,a,c,rfl,rfl,by omega,by omega,⟨rfl,by simp[Oi]⟩,hs⟩
 obtain ⟨i,o,z,c2,rfl,rfl,hi,a9,A,u⟩:=hrel
 haveI:=u.i
 clear hs
 by_cases O:i<ns.length
 · have I:(i:Int)<ns.length:=by omega
   obtain ⟨k,H⟩: ∃k,ns[i]?=some k:=⟨_,List.getElem?_eq_getElem O⟩
   obtain ⟨b,q,rfl,r1⟩:=(Al.at X.out) i (.int .i64 k) (by unfold ints;rw[List.getElem?_map,H];rfl)
   have R:Aside (ns.take (i+1)=ns.take i++ [k]):=AA H
   obtain ⟨U,V,P⟩:=Z.out k (List.mem_of_getElem? H)
   have p:=LW (n4 k) f _ wr u h1 (by omega) P (by have:(256:Nat)^f≤256^4:=Nat.pow_le_pow_right (by omega) h4;omega)
   by_cases hm:k= -1
   ·subst hm
    have G:n4 (-1)=4294967295:=rfl
    rw[G] at p
    clear H U V P
    go_wp2_with fail
    refine p.mono ?_
    rintro e w1 ⟨K,L,rfl,x⟩
    clear p u
    haveI:=x.i
    go_wp2_with (at_builtin;refine Aj E rfl (.tmp 25) (.tmp 26) rfl rfl rfl (Ae (rw TB 1 (.slice z o.length c2) (A4 o))) (Reads.VG (Reads.rw (e:=TB) (v:= .slice K f L) (l:=BF 4294967295 f)) (AB _ _)) (by unfold maxLen;omega) (by omega) ?_;intro a' D w3 y s;clear s;haveI:=y.i)
    go_roundg (ns.length-(i+1))
    case measure=>have:=A.out.1;omega
    have j:(o++BF 4294967295 f).length=o.length+f:=by rw[List.length_append,AB]
    refine ⟨i+1,o++BF 4294967295 f,a',D,by go_num,by rw[j],by omega,by rw[j];omega,⟨rfl,?_⟩,?_⟩
    ·rw[R.out,Ri,A.out.2,List.append_assoc];rfl
    rw[j,Di]
    exact AR _ B F
   have G:n4 k=k.toNat:=by unfold n4;rw[if_neg hm]
   have W:Aside (n4 k=k.toNat):=G
   obtain ⟨m,rfl⟩:=Int.eq_ofNat_of_zero_le (show 0≤k by omega)
   rw[G] at p
   simp only[Int.toNat_natCast] at p G
   have a8:((m:Int)== -1)=false:=by simp
   clear H U V P hm G
   go_wp2_with fail
   refine p.mono ?_
   rintro e w1 ⟨K,L,rfl,x⟩
   clear p u
   haveI:=x.i
   go_wp2_with (at_builtin;refine Aj E rfl (.tmp 25) (.tmp 26) rfl rfl rfl (Ae (rw TB 1 (.slice z o.length c2) (A4 o))) (Reads.VG (Reads.rw (e:=TB) (v:= .slice K f L) (l:=BF m f)) (AB _ _)) (by unfold maxLen;omega) (by omega) ?_;intro a' D w3 y s;clear s;haveI:=y.i)
   go_roundg (ns.length-(i+1))
   case measure=>have:=A.out.1;omega
   have j:(o++BF m f).length=o.length+f:=by rw[List.length_append,AB]
   refine ⟨i+1,o++BF m f,a',D,by go_num,by rw[j],by omega,by rw[j];omega,⟨rfl,?_⟩,?_⟩
   ·rw[R.out,Ri,A.out.2,List.append_assoc];rw[W.out];rfl
   rw[j,Di]
   exact AR _ B F
 have I: ¬(i:Int)<ns.length:=by omega
 have T:ns.take i=ns:=List.take_of_length_le (by omega)
 have Y:Aside (o=d++Oi f ns):=(by have:=A.out.2;rw[T] at this;exact this:_=_)
 clear A T
 go_wp2
 go_ret
 obtain rfl:res=o:=by rw[←J.out,←Y.out]
 exact ⟨z,c2,rfl,Es⟩
abbrev cI(X:Nat)(x:Int):Ac:=Sl.block X ED [.int .i64 x]
theorem Sa(X Y Z:Nat)(x y z b l s:Int)(F:Ac)(w:World)(hs:Sat (cI X x*(cI Y y*(cI Z z*F))) w)
 (hx:0≤x∧x≤4611686018427387904) (hb:0≤b∧b≤1048576) (hy:0≤y∧y≤4611686018427387904) (g:0≤s∧s≤1048576) (o: -1≤z∧z≤4611686018427387904) (hl: -1≤l∧l≤1048576):
 Calls Tryz.prog 161 #[.int .i64 b,.int .i64 l,.int .i64 s,.pointer (some ⟨X,0,none⟩),.pointer (some ⟨Y,0,none⟩),.pointer (some ⟨Z,0,none⟩)] w fun e n=>e= .returned (.tuple #[])∧Sat (cI X (x+b)*(cI Y (y+s)*(cI Z (EE z l)*F))) n:=by
 have j:IntKind.i64.wrap (x+b)=x+b:=IntWalk.i64_in _ (by omega)
 have k:IntKind.i64.wrap (y+s)=y+s:=IntWalk.i64_in _ (by omega)
 haveI:=hs.i
 by_cases c:l<0
 ·have d:decide (l<0)=true:=by simpa using c
  have a:Aside (EE z l= -1):=(by unfold EE;rw[if_pos (.inl c)]:_=_)
  go_enter Tryz.func161,Tryz.ntmps161
  go_wp2_with fail
  go_region
  go_wp2
  refine bodyPost_ret (results_none rfl _ _ _) rfl ?_
  exact ⟨rfl,by rw[a.out];exact Es⟩
 have d:decide (l<0)=false:=by simpa using c
 by_cases c2:z<0
 ·have f:decide (z<0)=true:=by simpa using c2
  have a:Aside (EE z l= -1):=(by unfold EE;rw[if_pos (.inr c2)]:_=_)
  go_enter Tryz.func161,Tryz.ntmps161
  go_wp2_with fail
  go_region
  go_wp2
  refine bodyPost_ret (results_none rfl _ _ _) rfl ?_
  exact ⟨rfl,by rw[a.out];exact Es⟩
 have f:decide (z<0)=false:=by simpa using c2
 have a:Aside (EE z l=z+l):=(by unfold EE;rw[if_neg (by omega)]:_=_)
 have m:IntKind.i64.wrap (z+l)=z+l:=IntWalk.i64_in _ (by omega)
 go_enter Tryz.func161,Tryz.ntmps161
 go_wp2_with fail
 go_region
 go_wp2
 go_end0
 exact ⟨rfl,by rw[a.out];exact Es⟩
theorem Ph(X Y Z:Nat)(x y z:Int)(G:Ac){Q:Ending→World→Prop}{a:Act}{W:World}(hs:Sat (cI X x*(cI Y y*(cI Z z*G))) W)
 (f:a.tmps[2]?.getD undef= .pointer (some ⟨X,0,none⟩)) (g:a.tmps[3]?.getD undef= .pointer (some ⟨Z,0,none⟩)) (j:a.tmps[4]?.getD undef= .pointer (some ⟨Y,0,none⟩)) (e:a.defers= [])
 (d:Q (.returned (.tuple #[.int .i64 x,.int .i64 z,.int .i64 y])) W):bodyPost Tryz.prog Tryz.f131 Q .ret a W:=by
 haveI:=hs.i
 have b:=Aa W X 0
 have c2:=Aa W Z 0
 have c:=Aa W Y 0
 refine bodyPost_ret (v:= .tuple #[.int .i64 x,.int .i64 z,.int .i64 y]) ?_ e d
 simp[results,Tryz.results131,go_sem,f,g,j,b,c2,c]
theorem OI{α β:Type}{f:β→α→β}{z:β}{l:List α}{i:Nat}{x:α}(h:l[i]?=some x):(l.take (i+1)).foldl f z=f ((l.take i).foldl f z) x:=by rw[AA h,List.foldl_append];rfl
theorem TV{z l:Int}(h: -1≤z)(a: -1≤l): -1≤EE z l:=by unfold EE;split<;>omega
theorem TW{z l m:Int}(h:z≤m)(a:l≤1048576)(b: -1≤m):EE z l≤m+1048576:=by unfold EE;split<;>omega
def ZQ(n:Nd):Int×Int×Int:=(Ab n.Ao+BZ n.kids,(n.kids.map (·.lines)).foldl EE ((n.Ao.map (·.lines)).foldl EE 0),n.Ao.length+BB n.kids)
theorem L6(n:Nd)(v:Value)(B F:Ac)(w:World)(hN:AN B v n)(hs:Sat (B*F) w)(ar:n.Ao.length≤4294967296)(au:n.kids.length≤4294967296):
 Calls Tryz.prog 131 #[v] w fun e W=>e= .returned (.tuple #[.int .i64 (Bl n).1,.int .i64 (Bl n).2.1,.int .i64 (Bl n).2.2])∧Sat (B*F) W:=by
 have c:=fun F w h=>KE n v B F w hN h ar au
 obtain ⟨vE,vK,rfl,hE,hK⟩:=hN
 obtain ⟨k,p,rfl,be,bf⟩:=hE.v
 obtain ⟨m,q,rfl,bg,bh⟩:=hK.v
 have HE:Aside (Aq B (.slice k n.Ao.length p) n.Ao):=hE
 have HK:Aside (B1 B (.slice m n.kids.length q) n.kids):=hK
 obtain ⟨D,M⟩: ∃r,n.leaf=r:=⟨_,rfl⟩
 rw[M] at c⊢
 obtain ⟨mr,a⟩: ∃r,may n=r:=⟨_,rfl⟩
 rw[a] at c
 obtain ⟨T,L⟩: ∃z,w.heap.size=z:=⟨_,rfl⟩
 have a1:=hs.alloc #[.bool D,.slice k n.Ao.length p,.slice m n.kids.length q] Ev
 have a2:=a1.alloc #[.int .i64 0] ED
 have a3:=a2.alloc #[.int .i64 0] ED
 have a4:=a3.alloc #[.int .i64 0] ED
 have e1:(w.alloc (.cells #[.bool D,.slice k n.Ao.length p,.slice m n.kids.length q] Ev)).heap.size=T+1:=by simp[L]
 have e2:((w.alloc (.cells #[.bool D,.slice k n.Ao.length p,.slice m n.kids.length q] Ev)).alloc (.cells #[.int .i64 0] ED)).heap.size=T+1+1:=by simp[L]
 have e3:(((w.alloc (.cells #[.bool D,.slice k n.Ao.length p,.slice m n.kids.length q] Ev)).alloc (.cells #[.int .i64 0] ED)).alloc (.cells #[.int .i64 0] ED)).heap.size=T+1+1+1:=by simp[L]
 rw[e1,e2,e3,L] at a4
 obtain ⟨X,hX⟩: ∃z,T+1=z:=⟨_,rfl⟩
 obtain ⟨Z,hZ⟩: ∃z,T+1+1=z:=⟨_,rfl⟩
 obtain ⟨Y,hY⟩: ∃z,T+1+1+1=z:=⟨_,rfl⟩
 rw[hY,hZ,hX] at a4
 have a5:Sat (B*(cI X 0*(cI Y 0*(cI Z 0*(Sl.block T Ev [.bool D,.slice k n.Ao.length p,.slice m n.kids.length q]*F))))) _:=a4.eq (by dsimp only[cI];ac_rfl)
 have h5:=c _ _ a5
 have HT:Aside (w.heap.size=T∧w.heap.size+1=X∧w.heap.size+1+1=Z∧w.heap.size+1+1+1=Y):=⟨L,by rw[L,hX],by rw[L,hX,←hZ,hX],by rw[L,hX,←hY,hX]⟩
 clear c a1 a2 a3 a4 a5 e1 e2 e3 hE hK L hX hZ hY
 haveI:=hs.i
 have ba:Aside (n.leaf=D):=M
 cases mr with
 | false =>
  have HR:Aside (Bl n=(0,0,0)):=(by unfold Bl;rw[a];rfl:_=_)
  clear a M HE HK
  go_enter Tryz.func131,Tryz.ntmps131
  go_wp2_with fail
  obtain ⟨q1,q2,q3,q4⟩:=HT.out
  rw[q4,q3,q2,q1]
  clear q1 q2 q3 q4
  refine h5.mono ?_
  rintro e W ⟨rfl,O⟩
  haveI:=O.i
  clear h5
  go_wp2
  rw[HR.out]
  exact Ph X Y Z 0 0 0 _ (A8 (by dsimp only[cI];ac_rfl):Sat (cI X 0*(cI Y 0*(cI Z 0*(Sl.block T Ev [.bool D,.slice k n.Ao.length p,.slice m n.kids.length q]*(B*F))))) _) rfl rfl rfl rfl ⟨rfl,Av B F⟩
 | true =>
  have HR:Aside (Bl n=ZQ n):=(by unfold Bl ZQ;rw[a];rfl:_=_)
  have J:Aside ((∀x∈n.Ao,Ai x=true)∧(∀x∈n.kids,AE x=true)∧n.Ao.length≤12∧n.kids.length≤12):=(by
   cases hl:n.leaf with
   | true =>
     obtain ⟨K,h2,h3,h4,_⟩:=GK a hl
     exact ⟨h2,(by rw[K];simp),h4,by rw[K];simp⟩
   | false =>
     obtain ⟨K,h2,h3,h4,_⟩:=CJ a hl
     exact ⟨(by rw[K];simp),h2,by rw[K];simp,h4⟩:_∧_)
  have bl:=J.out.2.2.1
  have bm:=J.out.2.2.2
  clear a M
  go_enter Tryz.func131,Tryz.ntmps131
  go_wp2_with fail
  obtain ⟨q1,q2,q3,q4⟩:=HT.out
  rw[q4,q3,q2,q1]
  clear q1 q2 q3 q4
  refine h5.mono ?_
  rintro e W ⟨rfl,O⟩
  have R:Sat (cI X 0*(cI Y 0*(cI Z 0*(Sl.block T Ev [.bool D,.slice k n.Ao.length p,.slice m n.kids.length q]*(B*F))))) W:=O.eq (by ac_rfl)
  haveI:=R.i
  clear h5 hs O
  go_wp2
  go_loopg [17] n.Ao.length (fun g ax wr=> ∃(i:Nat)(x z:Int),ax= .int .i64 i∧i≤n.Ao.length∧0≤x∧x≤i*1048576∧ -1≤z∧z≤i*1048576∧Aside (g=n.Ao.length-i∧x=Ab (n.Ao.take i)∧z=((n.Ao.map (·.lines)).take i).foldl EE 0)∧
   Sat (cI X x*(cI Y i*(cI Z z*(Sl.block T Ev [.bool D,.slice k n.Ao.length p,.slice m n.kids.length q]*(B*F))))) wr)
  case atStart=>exact ⟨0,0,0,rfl,by omega,by omega,by omega,by omega,by omega,⟨rfl,by simp[Ab],by simp⟩,R⟩
  obtain ⟨i,x,z,rfl,hi,bn,hx,aw,hz,A,a6⟩:=hrel
  haveI:=a6.i
  clear R
  by_cases Q:i<n.Ao.length
  · have u:(i:Int)<n.Ao.length:=by omega
    obtain ⟨y,hy⟩: ∃y,n.Ao[i]?=some y:=⟨_,List.getElem?_eq_getElem Q⟩
    obtain ⟨b,o,rfl,r1,r2,r3,r4⟩:=BW HE.out hy
    have hm:=J.out.1 y (List.mem_of_getElem? hy)
    have V:Aside (n.Ao[i]?=some y):=hy
    obtain ⟨y1,y2,d,f⟩:=y
    have hb:=C0 hm
    have an: -1≤f∧f≤d:=by unfold Ai at hm;simp only[decide_eq_true_eq] at hm;exact hm.2.2.2.2.2.2.1
    simp only at hb
    have K:=fun F w h=>Sa X Y Z x i z d f 1 F w h (by omega) (by omega) (by omega) (by omega) (by omega) (by omega)
    clear hy hm
    go_wp2_with (go_at_call 161;refine (K _ _ (Qs (cI X x) (cI Y i) (cI Z z))).mono ?_;rintro e W ⟨rfl,U⟩;haveI:=U.i)
    go_roundg (n.Ao.length-(i+1))
    case measure=>have:=A.out.1;omega
    have e4:((n.Ao.map (·.lines)))[i]?=some f:=by rw[List.getElem?_map,V.out];rfl
    have g1:=TV aw (l:=f) (by omega)
    have g2:=TW hz (l:=f) (by omega) (by omega)
    refine ⟨i+1,x+d,EE z f,by go_num,by omega,by omega,by omega,by omega,by omega,⟨rfl,?_,?_⟩,?_⟩
    · rw[BX V.out,A.out.2.1]
    · rw[OI e4,A.out.2.2]
    exact Br (C:=Sl.block wr.heap.size A9 [.int .i64 y1,.int .i64 y2,.int .i64 d,.int .i64 f]) (by dsimp only[cI];rw[show (((i+1:Nat)):Int)=(i:Int)+1 by omega];ac_rfl)
  have u: ¬(i:Int)<n.Ao.length:=by omega
  have s:n.Ao.take i=n.Ao:=List.take_of_length_le (by omega)
  have t:(n.Ao.map (·.lines)).take i=n.Ao.map (·.lines):=List.take_of_length_le (by simp;omega)
  have ao:i=n.Ao.length:=by omega
  have P:Aside (x=Ab n.Ao∧z=(n.Ao.map (·.lines)).foldl EE 0∧(i:Int)=n.Ao.length):=(by
   have h:=A.out.2
   rw[s,t] at h
   exact ⟨h.1,h.2,by omega⟩:_∧_)
  clear A s t ao HE
  go_wp2
  go_loopg [32] n.kids.length (fun g ay wq=> ∃(j:Nat)(G H I:Int),ay= .int .i64 j∧j≤n.kids.length∧0≤G∧G≤j*1048576∧0≤H∧H≤j*1048576∧ -1≤I∧I≤12582912+j*1048576∧Aside (g=n.kids.length-j∧G=BZ (n.kids.take j)∧H=BB (n.kids.take j)∧I=((n.kids.map (·.lines)).take j).foldl EE z)∧
   Sat (cI X (x+G)*(cI Y (i+H)*(cI Z I*(Sl.block T Ev [.bool D,.slice k n.Ao.length p,.slice m n.kids.length q]*(B*F))))) wq)
  case atStart=>exact ⟨0,0,0,z,rfl,by omega,by omega,by omega,by omega,by omega,by omega,by omega,⟨rfl,by simp[BZ],by simp[BB],by simp⟩,by simp only[Int.add_zero];exact Es⟩
  obtain ⟨j,G,H,I,rfl,hj,XZ,bi,bj,bk,ap,aq,A,av⟩:=hrel
  clear a6
  haveI:=av.i
  by_cases Q:j<n.kids.length
  · have u:(j:Int)<n.kids.length:=by omega
    obtain ⟨y,hy⟩: ∃y,n.kids[j]?=some y:=⟨_,List.getElem?_eq_getElem Q⟩
    obtain ⟨b,o,rfl,r1,r2,r3,r4⟩:=Dc HK.out hy
    have hm:=J.out.2.1 y (List.mem_of_getElem? hy)
    have V:Aside (n.kids[j]?=some y):=hy
    obtain ⟨y1,y2,d,f⟩:=y
    have hb:=LX hm
    have an: -1≤d∧d≤y2:=by unfold AE at hm;simp only[decide_eq_true_eq] at hm;exact hm.2.2.2.2.1
    simp only at hb
    have K:=fun F w h=>Sa X Y Z (x+G) (i+H) I y2 d f F w h (by omega) (by omega) (by omega) (by omega) (by omega) (by omega)
    clear hy hm
    go_wp2_with (go_at_call 161;refine (K _ _ (Qs (cI X (x+G)) (cI Y (i+H)) (cI Z I))).mono ?_;rintro e W ⟨rfl,U⟩;haveI:=U.i)
    go_roundg (n.kids.length-(j+1))
    case measure=>have:=A.out.1;omega
    have e4:((n.kids.map (·.lines)))[j]?=some d:=by rw[List.getElem?_map,V.out];rfl
    have g1:=TV ap (l:=d) (by omega)
    have g2:=TW aq (l:=d) (by omega) (by omega)
    refine ⟨j+1,G+y2,H+f,EE I d,by go_num,by omega,by omega,by omega,by omega,by omega,by omega,by omega,⟨rfl,?_,?_,?_⟩,?_⟩
    · rw[LV V.out,A.out.2.1]
    · rw[K4 V.out,A.out.2.2.1]
    · rw[OI e4,A.out.2.2.2]
    exact Br (C:=Sl.block wr.heap.size Oa [.int .i64 y1,.int .i64 y2,.int .i64 d,.int .i64 f]) (by dsimp only[cI];rw[←Int.add_assoc,←Int.add_assoc];ac_rfl)
  have u: ¬(j:Int)<n.kids.length:=by omega
  have s:n.kids.take j=n.kids:=List.take_of_length_le (by omega)
  have t:(n.kids.map (·.lines)).take j=n.kids.map (·.lines):=List.take_of_length_le (by simp;omega)
  have HF:Aside (Bl n=(x+G,I,i+H)):=(by
   have h:=A.out.2
   rw[s,t] at h
   rw[HR.out]
   unfold ZQ
   rw[P.out.1,P.out.2.2,h.1,h.2.1,h.2.2,P.out.2.1]:_=_)
  clear A s t HK HR
  go_wp2_with fail
  go_region
  go_wp2
  rw[HF.out]
  exact Ph X Y Z (x+G) (i+H) I _ (A8 (by dsimp only[cI];ac_rfl):Sat (cI X (x+G)*(cI Y (i+H)*(cI Z I*(Sl.block T Ev [.bool D,.slice k n.Ao.length p,.slice m n.kids.length q]*(B*F))))) _) rfl rfl rfl rfl ⟨rfl,Av B F⟩
