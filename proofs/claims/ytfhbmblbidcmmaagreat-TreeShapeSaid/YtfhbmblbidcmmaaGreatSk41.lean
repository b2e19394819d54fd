/- treeShape holds for every input. No condition. (part 41) -/
import Derived.Test.YtfhbmblbidcmmaaGreatSk33
set_option linter.all false
set_option maxRecDepth 100000
set_option maxHeartbeats 3200000
namespace Go.Tr
def MB(i a:Nat):Au:=⟨((i+a)%2:Nat),7*(i:Int)+(a%3:Nat),1+((i+a)%5:Nat),if (i+a)%2=0 then-1 else if (1+((i+a)%5:Nat):Int)<((i+a)%4:Nat)-1 then 1+((i+a)%5:Nat) else ((i+a)%4:Nat)-1⟩
def Jf(n a:Nat):List Au:=(List.range n).map fun i=>MB i a
theorem Qf(n a:Nat):(Jf n a).length=n:=by simp[Jf]
theorem Il(n a:Nat):Jf (n+1) a=Jf n a++ [MB n a]:=by simp[Jf,List.range_succ]
end Go.Tr
namespace Go.Proofs.YtfhbmblbidcmmaaGreat
open Go.RowKit Go.Sl Go.Dk Go.Tr
theorem Ml(l:List Au)(v:Value)(B F:Ac)(w:World)(f:An B v l)(hs:Sat (B*F) w)(hl:l.length≤65536)(hm: ∀x∈l,0≤x.len∧x.len≤1048576):
 Calls Tryz.prog 31 #[v] w fun e O=>e= .returned (.int .i64 (Aa l))∧Sat (B*F) O:=by
 obtain ⟨t,c0,rfl,j,G⟩:=f.v
 have p:Aside (An B (.slice t l.length c0) l):=f
 have r:Aside (∀i:Nat,0≤Aa (l.take i)∧Aa (l.take i)≤i*1048576):=C6 hm
 have s:Aside (∀x∈l,0≤x.len∧x.len≤1048576):=hm
 obtain ⟨n,k⟩:=Aq l.length
 have m:Aside (l.length=n):=k
 rw[k] at hl j⊢
 haveI:=hs.i
 clear f hm k
 go_enter Tryz.func31,Tryz.ntmps31
 go_wp2
 go_loopg [3,4] n (fun g L M wr=> ∃i:Nat,M= .int .i64 i∧i≤n∧L= .int .i64 (Aa (l.take i))∧Aside (g=n-i)∧Sat (B*F) wr)
 case atStart=>exact ⟨0,rfl,by omega,by simp[Aa],rfl,hs⟩
 obtain ⟨i,rfl,hi,rfl,A,c⟩:=hrel
 haveI:=c.i
 by_cases H:i<n
 ·have d:(i:Int)<n:=by omega
  obtain ⟨y,hy⟩: ∃y,l[i]?=some y:=⟨_,List.getElem?_eq_getElem (by have:=m.out;omega)⟩
  obtain ⟨b,q,rfl,r1,I,J,K⟩:=BD p.out hy
  have a:=BR hy
  have u:=r.out i
  have D:=s.out y (List.mem_of_getElem? hy)
  obtain ⟨Q,R,P,T⟩:=y
  simp only at a D r1 I J K
  obtain ⟨z,o⟩:=Aq (Aa (l.take i))
  rw[o] at a u⊢
  have hw1:=Bc (z+P) (by omega)
  clear hy o hs
  go_wp2
  go_roundg (n-(i+1))
  case measure=>have:=A.out;omega
  case rel=>exact ⟨i+1,by go_num,by omega,by rw[a],rfl,c⟩
 have d: ¬(i:Int)<n:=by omega
 obtain rfl:i=n:=by omega
 rw[List.take_of_length_le (by rw[m.out];exact Nat.le_refl _)]
 go_wp2
 go_ret
 exact ⟨rfl,c⟩
theorem OL(xs:List Value)(i:Nat)(a b c d v:Value)(h:xs.length=i*4):(xs++ [a,b,c,d]).set (i*4+3) v=xs++ [a,b,c,v]:=by
 rw[List.set_append_right _ _ (by omega),h,Nat.add_sub_cancel_left]
 rfl
theorem Wj(xs:List Value)(i j:Nat)(a b c d v:Value)(h:xs.length=i*4)(e: [a,b,c,d][j]?=some v):(xs++ [a,b,c,d])[i*4+j]?=some v:=by
 rw[List.getElem?_append_right (by omega),h,Nat.add_sub_cancel_left]
 exact e
theorem XF(n f : Nat)(F : Ac)(w : World)(hs : Sat F w)(hn : n ≤ 1000)(Y : f ≤ 1000) :
 Calls Tryz.prog 35 #[.int .i64 n,.int .i64 f] w fun e w'=> ∃a c,e= .returned (.slice a n c)∧Sat (rw AM 4 (.slice a n c) (Bb (Jf n f))*F) w':=by
 obtain ⟨i0,E⟩:=Ey
 haveI:=hs.i
 go_enter Tryz.func35,Tryz.ntmps35
 go_wp2
 go_loopg [5,6] n (fun g V t6 wr=> ∃(i:Nat)(a:Option Addr)(c:Nat),t6= .int .i64 i∧V= .slice a i c∧i≤n∧Aside (g=n-i)∧Sat (rw AM 4 (.slice a i c) (Bb (Jf i f))*F) wr)
 case atStart=>exact ⟨0,none,0,rfl,rfl,by omega,rfl,hs.AH⟩
 obtain ⟨i,a,c,rfl,rfl,hi,A,m⟩:=hrel
 haveI:=m.i
 by_cases X:i<n
 ·have y : (i : Int) < n := by omega
  have x:(Bb (Jf i f)).length=i*4:=by rw[Gq,Qf]
  obtain ⟨xs,p⟩:=Aq (Bb (Jf i f))
  obtain ⟨d,h1⟩:=Aq ((i+f)%2:Nat)
  obtain ⟨B,K⟩:=Aq (f%3)
  obtain ⟨D,L⟩:=Aq ((i+f)%4:Nat)
  obtain ⟨G,M⟩:=Aq ((i+f)%5:Nat)
  obtain ⟨k,O⟩: ∃k:Int,1+(G:Int)=k:=⟨_,rfl⟩
  obtain ⟨l,t⟩: ∃k:Int,(D:Int)-1=k:=⟨_,rfl⟩
  obtain ⟨o,v⟩: ∃k:Int,7*(i:Int)+(B:Int)=k:=⟨_,rfl⟩
  have j:Aside (Bb (Jf i f)=xs∧xs.length=i*4∧MB i f=⟨(d:Int),o,k,if d=0 then-1 else if k<l then k else l⟩):=⟨p,by rw[←p];exact x,by unfold MB;rw[h1,K,L,M,O,t,v]⟩
  have t2:((i:Int)+(f:Int)).tmod 2=d:=by rw[Int.tmod_eq_emod_of_nonneg (by omega),←h1];omega
  have t3:((f:Int)).tmod 3=B:=by rw[Int.tmod_eq_emod_of_nonneg (by omega),←K];omega
  have t4:((i:Int)+(f:Int)).tmod 4=D:=by rw[Int.tmod_eq_emod_of_nonneg (by omega),←L];omega
  have V:((i:Int)+(f:Int)).tmod 5=G:=by rw[Int.tmod_eq_emod_of_nonneg (by omega),←M];omega
  have l1:d<2:=by omega
  have Z:B<3:=by omega
  have l4:D<4:=by omega
  have l5:G<5:=by omega
  have w1:=Bc ((i:Int)+(f:Int)) (by omega)
  have w2:IntKind.i64.wrap (1+(G:Int))=k:=by rw[IntWalk.i64_in _ (by omega),O]
  have w3:=Bc (7*(i:Int)) (by omega)
  have w4:IntKind.i64.wrap (7*(i:Int)+(B:Int))=o:=by rw[IntWalk.i64_in _ (by omega),v]
  have w5:IntKind.i64.wrap ((D:Int)-1)=l:=by rw[IntWalk.i64_in _ (by omega),t]
  rw[p] at m
  haveI:=m.i
  clear p h1 K L M x hs O t v Z l4 l5
  go_wp2_with (at_builtin;refine Ad E rfl (.tmp 18) (.tmp 36) rfl rfl rfl (Af (rw AM 4 (.slice a i c) xs)) (Src.new (b:=wr.heap.size) (e:=AM) (s:=4) (vs:= [.int .i64 d,.int .i64 o,.int .i64 k,.int .i64 l]) (Af _) rfl (by intro u U;simp at U;rcases U with rfl|rfl|rfl|rfl<;>rfl)) (by unfold maxLen;omega) (by omega) ?_;intro a9 c9 w9 Q z9;clear z9)
  obtain ⟨g,rfl⟩:=BN Q (by omega)
  have H:=Wj xs i 0 (.int .i64 d) (.int .i64 o) (.int .i64 k) (.int .i64 l) _ j.out.2.1 rfl
  have I:=Wj xs i 3 (.int .i64 d) (.int .i64 o) (.int .i64 k) (.int .i64 l) _ j.out.2.1 rfl
  obtain ⟨ys,q⟩:=Aq (xs++ [.int .i64 d,.int .i64 o,.int .i64 k,.int .i64 l])
  have z:Aside ((xs++ [.int .i64 d,.int .i64 o,.int .i64 k,.int .i64 l])=ys):=q
  have P:Sat (rw AM 4 (.slice (some ⟨g,0,none⟩) (i+1) c9) ys*F) w9:=by
   rw[←q]
   haveI:=Q.i
   exact Ap _ _
  rw[q] at H I
  haveI:At ys (i*4) (.int .i64 d):=⟨H⟩
  haveI:At ys (i*4+3) (.int .i64 l):=⟨I⟩
  haveI:At (ys.set (i*4+3) (.int .i64 k)) (i*4) (.int .i64 d):=⟨by rw[List.getElem?_set_ne (by omega)];exact H⟩
  haveI:At (ys.set (i*4+3) (.int .i64 k)) (i*4+3) (.int .i64 k):=⟨by rw[List.getElem?_set_self (by exact (List.getElem?_eq_some_iff.1 I).1)]⟩
  have W:(i:Int)<(i:Int)+1:=by omega
  have R:(i:Int)<((i+1:Nat):Int):=by omega
  have T:(0:Int)≤(i:Int)∧(i:Int)<(i:Int)+1:=by omega
  clear Q q m H I
  haveI:=P.i
  have hq: ∀w:World,(Sem.run Tryz.prog (Instr.indexAt 29 (Value.slice (some ⟨g,0,none⟩) (i+1) c9) (Value.int IntKind.i64 i)) w)= .ok (.pointer (some ⟨g,i*4,none⟩)) w:=by
   intro w
   simp[go_sem, *]
  rw[hq]
  simp only[Result.andThen_ok]
  by_cases c1:k<l
  · have J:Aside (k<l):=c1
    have d1:decide (k<l)=true:=decide_eq_true c1
    clear c1
    by_cases c2:d=0
    · have c3:((d:Int)==0)=true:=by simp;omega
      go_wp2
      go_roundg (n-(i+1))
      case measure=>have:=A.out;omega
      refine ⟨i+1,some ⟨g,0,none⟩,c9,by go_num,rfl,by omega,rfl,?_⟩
      have r:Cx (MB i f)= [.int .i64 d,.int .i64 o,.int .i64 k,.int .i64 (-1)]:=by
       rw[j.out.2.2]
       unfold Cx
       simp only
       rw[if_pos c2]
      rw[Il,Cj,r,j.out.1]
      refine Sat.eq (A:=rw AM 4 (.slice (some ⟨g,0,none⟩) (i+1) c9) ((ys.set (i*4+3) (.int .i64 k)).set (i*4+3) (.int .i64 (-1)))*F) (Ap _ _) ?_
      rw[List.set_set,←z.out,OL _ _ _ _ _ _ _ j.out.2.1]
    have c3:((d:Int)==0)=false:=by simp;omega
    go_wp2
    go_roundg (n-(i+1))
    case measure=>have:=A.out;omega
    refine ⟨i+1,some ⟨g,0,none⟩,c9,by go_num,rfl,by omega,rfl,?_⟩
    have r:Cx (MB i f)= [.int .i64 d,.int .i64 o,.int .i64 k,.int .i64 k]:=by
     rw[j.out.2.2]
     unfold Cx
     simp only
     rw[if_neg c2,if_pos J.out]
    rw[Il,Cj,r,j.out.1]
    refine Sat.eq (A:=rw AM 4 (.slice (some ⟨g,0,none⟩) (i+1) c9) (ys.set (i*4+3) (.int .i64 k))*F) (Ap _ _) ?_
    rw[←z.out,OL _ _ _ _ _ _ _ j.out.2.1]
  by_cases c2:d=0
  · have c3:((d:Int)==0)=true:=by simp;omega
    go_wp2
    go_roundg (n-(i+1))
    case measure=>have:=A.out;omega
    refine ⟨i+1,some ⟨g,0,none⟩,c9,by go_num,rfl,by omega,rfl,?_⟩
    have r:Cx (MB i f)= [.int .i64 d,.int .i64 o,.int .i64 k,.int .i64 (-1)]:=by
     rw[j.out.2.2]
     unfold Cx
     simp only
     rw[if_pos c2]
    rw[Il,Cj,r,j.out.1]
    refine Sat.eq (A:=rw AM 4 (.slice (some ⟨g,0,none⟩) (i+1) c9) (ys.set (i*4+3) (.int .i64 (-1)))*F) (Ap _ _) ?_
    rw[←z.out,OL _ _ _ _ _ _ _ j.out.2.1]
  have c3:((d:Int)==0)=false:=by simp;omega
  go_wp2
  go_roundg (n-(i+1))
  case measure=>have:=A.out;omega
  refine ⟨i+1,some ⟨g,0,none⟩,c9,by go_num,rfl,by omega,rfl,?_⟩
  have r:Cx (MB i f)= [.int .i64 d,.int .i64 o,.int .i64 k,.int .i64 l]:=by
   rw[j.out.2.2]
   unfold Cx
   simp only
   rw[if_neg c2,if_neg (by omega)]
  rw[Il,Cj,r,j.out.1]
  refine Sat.eq (A:=rw AM 4 (.slice (some ⟨g,0,none⟩) (i+1) c9) (ys)*F) (Ap _ _) ?_
  rw[←z.out]
 have y: ¬(i:Int)<n:=by omega
 obtain rfl:i=n:=by omega
 go_wp2
 go_ret
 exact ⟨_,_,rfl,m⟩
