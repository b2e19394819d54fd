/- treeShape holds for every input. No condition. (part 5) -/
import Derived.Test.YtfhbmblbidcmmaaGreatSk4
import Derived.Deep.RegionHeld3
import Derived.Deep.DrawnRows
set_option linter.all false
set_option maxRecDepth 100000
set_option maxHeartbeats 800000
namespace Go.Proofs.YtfhbmblbidcmmaaGreat
open Go.RowKit Go.Sl Go.Dk
attribute [go_sem ↓] Go.wp_at_zero Go.wp_at_succ
def lens(ns:List Nf):Nat:=(ns.map fun n=>n.f.now.length).sum
theorem SO(ns:List Nf):sum (C2 ns)=lens ns:=by simp[sum,C2,lens,Function.comp_def]
theorem JG{ns a:List Nf}(h:ns.Perm a):lens ns=lens a:=(h.map _).sum_nat
theorem GZ(n:Nf)(l:List Nf):lens (n::l)=n.f.now.length+lens l:=by simp[lens]
theorem o9{D M:Nat}{ns:List Nf}{pv:Value}{ps:List Np}{d:Dk}{n:Nf}(h:n∈ns): ∃R,BO ns=Dd n*R:=by
 obtain ⟨l1,l2,rfl⟩:=List.append_of_mem h
 exact ⟨BO l1*BO l2,by rw[Ek,BO];ac_rfl⟩
theorem MS{e s:Nat}{v:Value}{xs:List Value}{F:Ac}{w:World}(hs:Sat (rw e s v xs*F) w): ∃a n c,v= .slice a n c∧xs.length=n*s∧n≤c∧c≤9223372036854775807:=by
 rcases hs.Cz with ⟨h1,b,f⟩|⟨g,n',d,sp,h1,b,f,i,j,k⟩
 ·subst b;exact ⟨_,_,_,h1,by simp,by omega,by omega⟩
 exact ⟨_,_,_,h1,b,i,by simpa[maxLen] using j⟩
theorem G0{v:Value}{l:List UInt8}{F:Ac}{w:World}(hs:Sat (rw TB 1 v (A1 l)*F) w): ∃a c,v= .slice a l.length c∧l.length≤c∧c≤9223372036854775807:=by
 obtain ⟨a,n,c,h1,b,d,e⟩:=MS hs
 rw[Cr,Nat.mul_one] at b
 subst b
 exact ⟨a,c,h1,d,e⟩
theorem WO(D M:Nat)(ns:List Nf)(pv:Value)(ps:List Np)(d:Dk)(F:Ac)(w:World)(hs:Sat (Cd D M ns pv ps d*F) w)(hb:lens ns≤4611686018427387904):
 Calls Tryz.prog 103 #[.pointer (some ⟨D,0,none⟩)] w fun e w'=>e= .returned (.int .i64 (lens ns:Nat))∧Sat (Cd D M ns pv ps d*F) w':=by
 have x:Sat (B4 D M pv d*(mp Fj M (ns.map IG)*(BO ns*DK pv ps))*F) w:=hs
 unfold B4 at x
 have c5:=x.c D 5
 obtain ⟨o,ho,G⟩:=(x.take (mp Fj M (ns.map IG))).Dg
 obtain ⟨Y,hI,u⟩:=Iz (P:=Tryz.prog) Tryz.underlying148 G.obj ho
 have U:=G.Dh Y
 have V:Sat (raw M o*(raw w.heap.size Y*(B4 D M pv d*(BO ns*DK pv ps)*F))) (w.alloc Y):=U.eq (by unfold B4;ac_rfl)
 have HO:Aside (FT Fj o (ns.map IG)):=ho
 clear U G x hs ho
 go_enter Tryz.func103,Tryz.ntmps103
 go_wp2
 go_loopg [3] ns.length (fun k out wr=> ∃(g:Nat)(s:Obj)(a:List (ByteArray×Value))(r:List Nf),out= .int .i64 g∧Aside (k=a.length∧Iter Fj M o s (ns.map IG) a∧a.Perm (r.map IG)∧(∀n∈r,n∈ns)∧g+lens r=lens ns)∧
  Sat (raw M o*(raw w.heap.size s*(B4 D M pv d*(BO ns*DK pv ps)*F))) wr)
 case atStart=>exact ⟨0,Y,ns.map IG,ns,rfl,⟨by simp,hI,.refl _,fun _ h=>h,by omega⟩,V⟩
 obtain ⟨g,s,a,r,rfl,A,H⟩:=hrel
 obtain ⟨K,t,hp,l,j⟩:=A.out
 clear hI V u c5
 rcases Jw (P:=Tryz.prog) H t with ⟨T,z⟩|⟨i,k,v,I,w2,hi,z,J,W,X⟩
 · subst T
   have O:r= []:=by have:=hp.length_eq;simpa using this.symm
   subst O
   have HA:Aside (g=lens ns):=(by simpa[lens] using j:g=lens ns)
   have Z:Aside (Iter Fj M o s (ns.map IG) []):=t
   clear t A hp l j
   go_wp2
   go_ret
   refine ⟨by rw[←HA.out];rfl,?_⟩
   have p:=Sat.Es Z.out.cH H
   refine Sat.Dq (B:=raw w.heap.size s) (p.eq ?_)
   unfold Cd
   ac_rfl
 obtain ⟨n,y,q,hx,Q⟩:=Py hp hi
 have hn:n∈ns:=l n (q.mem_iff.2 (by simp))
 cases hx
 obtain ⟨R,hR⟩:=o9 (D:=D) (M:=M) (pv:=pv) (ps:=ps) (d:=d) hn
 have p:Sat (Dd n*(R*(raw M o*(raw w.heap.size I*(B4 D M pv d*DK pv ps*F))))) w2:=W.eq (by rw[hR];ac_rfl)
 unfold Dd at p
 have c0:=p.c n.b 0
 obtain ⟨va,vc,hv,_⟩:=G0 (p.take (rw TB 1 n.nv (A1 n.f.now)))
 rw[hv] at c0
 have L:(a.eraseIdx i).length<a.length:=by
  have:=(List.getElem?_eq_some_iff.1 hi).1
  rw[List.length_eraseIdx];split<;>omega
 have a7:g+n.f.now.length≤4611686018427387904:=by rw[JG q,GZ] at j;omega
 have HL:Aside ((a.eraseIdx i).length<a.length∧gk=a.length):=⟨L,K⟩
 have Z:Aside (Iter Fj M o I (ns.map IG) (a.eraseIdx i)∧(a.eraseIdx i).Perm (y.map IG)∧(∀m∈y,m∈ns)∧g+n.f.now.length+lens y=lens ns):=by
  refine ⟨J,Q,fun m hm=>l m (q.mem_iff.2 (by simp[hm])),?_⟩
  rw[JG q,GZ] at j;omega
 clear t A L K J hi hp q Q l j p hR hn hv H
 go_wp2
 go_roundg (a.eraseIdx i).length
 case measure=>have:=HL.out;omega
 case rel=>exact ⟨g+n.f.now.length,I,_,y,by go_num,⟨rfl,Z.out⟩,W⟩
theorem PI(D M:Nat)(ns:List Nf)(pv:Value)(ps:List Np)(d:Dk)(size:Int)(F:Ac)(w:World)(hs:Sat (Cd D M ns pv ps d*F) w)(s:C2 ns=d.files)(hb:lens ns≤4611686018427387904)(h0:0≤size)(h1:size≤1152921504606846976):
 Calls Tryz.prog 69 #[.pointer (some ⟨D,0,none⟩),.pointer none,.int .i64 size] w fun e p=>e= .returned (.int .i64 (d.fits none size))∧Sat (Cd D M ns pv ps d*F) p:=by
 have f:Sat (B4 D M pv d*(mp Fj M (ns.map IG)*(BO ns*DK pv ps))*F) w:=hs
 unfold B4 at f
 have c5:=f.c D 5
 obtain ⟨o,x,a⟩:=(f.take (mp Fj M (ns.map IG))).Dg
 have m:=fun B=>K7 (P:=Tryz.prog) Tryz.underlying148 a.obj x B
 rw[List.length_map] at m
 have l:d.files.length=ns.length:=by rw[←s];simp[C2]
 have n:sum d.files=lens ns:=by rw[←s,SO]
 obtain ⟨r,v⟩: ∃r,Aside (d.fits none size=r):=⟨_,rfl⟩
 rw[v.out]
 have hr:=v.out
 unfold Dk.fits at hr
 rw[l,n] at hr
 clear f a x s l n
 by_cases b:16≤ns.length
 · have i:Aside (r=11):=(by rw[←hr];simp[b]:r=11)
   have k:(16:Int)≤ns.length:=by omega
   clear hr
   go_enter Tryz.func69,Tryz.ntmps69
   go_wp2
   go_ret
   exact ⟨by rw[i.out];rfl,hs⟩
 have k: ¬(16:Int)≤ns.length:=by omega
 by_cases y:0<size
 · have g:=WO D M ns pv ps d F w.drew hs.drew hb
   have W1:IntKind.i64.wrap (lens ns:Nat)=(lens ns:Nat):=IntWalk.i64_in _ (by omega)
   have W2:=Bc ((lens ns:Nat)+size) (by omega)
   have c0:w.cell? ⟨D,0,none⟩=some (.int .i64 d.room):=by unfold Cd B4 at hs;exact hs.c D 0
   by_cases t:d.room<lens ns+size
   · have i:Aside (r=7):=by
      show r=7
      rw[←hr,if_neg (by simp[b]),if_pos]
      simp only[Bool.and_eq_true,decide_eq_true_eq];have q:Fv none=0:=rfl;omega
     clear hr hs
     go_enter Tryz.func69,Tryz.ntmps69
     go_wp2_with fail
     go_region_held3 (fun p=>p.cell? ⟨D,0,none⟩=some (.int .i64 d.room)) (first|exact j|exact c0|(simpa using c0)) (first|(go_at_call 103;refine g.mono ?_;rintro e u ⟨rfl,a⟩;have j:u.cell? ⟨D,0,none⟩=some (.int .i64 d.room):=(by unfold Cd B4 at a;exact a.c D 0)))
     all_goals
      go_wp2
      go_ret
      exact ⟨by rw[i.out];rfl,a⟩
   have i:Aside (r=0):=by
    show r=0
    rw[←hr,if_neg (by simp[b]),if_neg]
    simp only[Bool.and_eq_true,decide_eq_true_eq];have q:Fv none=0:=rfl;omega
   clear hr hs
   go_enter Tryz.func69,Tryz.ntmps69
   go_wp2_with fail
   go_region_held3 (fun p=>p.cell? ⟨D,0,none⟩=some (.int .i64 d.room)) (first|exact j|exact c0|(simpa using c0)) (first|(go_at_call 103;refine g.mono ?_;rintro e u ⟨rfl,a⟩;have j:u.cell? ⟨D,0,none⟩=some (.int .i64 d.room):=(by unfold Cd B4 at a;exact a.c D 0)))
   all_goals
    go_wp2
    go_ret
    exact ⟨by rw[i.out];rfl,a⟩
 have z:size=0:=by omega
 subst z
 have i:Aside (r=0):=by
  show r=0
  rw[←hr,if_neg (by simp[b]),if_neg]
  simp[Fv]
 clear hr
 go_enter Tryz.func69,Tryz.ntmps69
 go_wp2_with fail
 go_quiet (fail)
 go_wp2
 go_ret
 exact ⟨by rw[i.out];rfl,hs.drewN _⟩
theorem PJ(D M:Nat)(l1:List Nf)(n:Nf)(l2:List Nf)(pv:Value)(ps:List Np)(d:Dk)(size:Int)(F:Ac)(w:World)(hs:Sat (Cd D M (l1++n::l2) pv ps d*F) w)(v:C2 (l1++n::l2)=d.files)(hb:lens (l1++n::l2)≤4611686018427387904)(h0:0≤size)(h1:size≤1152921504606846976):
 Calls Tryz.prog 69 #[.pointer (some ⟨D,0,none⟩),.pointer (some ⟨n.b,0,none⟩),.int .i64 size] w fun e o=>e= .returned (.int .i64 (d.fits (some n.f) size))∧Sat (Cd D M (l1++n::l2) pv ps d*F) o:=by
 have g:=hs
 rw[CT] at g
 unfold Dd at g
 have c1:=g.c n.b 0
 obtain ⟨z,B,x,_⟩:=G0 (g.take (rw TB 1 n.nv (A1 n.f.now)))
 rw[x] at c1
 have m:sum d.files=lens (l1++n::l2):=by rw[←v,SO]
 have y:n.f.now.length≤lens (l1++n::l2):=by
  have:lens (l1++n::l2)=lens (n::(l1++l2)):=JG List.perm_middle
  rw[this,GZ];omega
 obtain ⟨r,u⟩: ∃r,Aside (d.fits (some n.f) size=r):=⟨_,rfl⟩
 rw[u.out]
 have hr:=u.out
 unfold Dk.fits at hr
 rw[m] at hr
 have l:Fv (some n.f)=n.f.now.length:=rfl
 rw[l] at hr
 clear g v m x l
 generalize l1++n::l2=ns at*
 by_cases s:(n.f.now.length:Int)<size
 · have i:=WO D M ns pv ps d F w.drew hs.drew hb
   have W1:=Bc ((lens ns:Nat)-(n.f.now.length:Nat)) (by omega)
   have W2:=Bc ((lens ns:Nat)-(n.f.now.length:Nat)+size) (by omega)
   have c0:w.cell? ⟨D,0,none⟩=some (.int .i64 d.room):=by unfold Cd B4 at hs;exact hs.c D 0
   by_cases p:d.room<(lens ns:Nat)-(n.f.now.length:Nat)+size
   · have k:Aside (r=7):=by
      show r=7
      rw[←hr,if_neg (by simp),if_pos]
      simp only[Bool.and_eq_true,decide_eq_true_eq];omega
     clear hr hs
     go_enter Tryz.func69,Tryz.ntmps69
     go_wp2_with fail
     go_region_held3 (fun o=>o.cell? ⟨D,0,none⟩=some (.int .i64 d.room)) (first|exact j|exact c0|(simpa using c0)) (first|(go_at_call 103;refine i.mono ?_;rintro e t ⟨rfl,a⟩;have j:t.cell? ⟨D,0,none⟩=some (.int .i64 d.room):=(by unfold Cd B4 at a;exact a.c D 0)))
     all_goals
      go_wp2
      go_ret
      exact ⟨by rw[k.out];rfl,a⟩
   have k:Aside (r=0):=by
    show r=0
    rw[←hr,if_neg (by simp),if_neg]
    simp only[Bool.and_eq_true,decide_eq_true_eq];omega
   clear hr hs
   go_enter Tryz.func69,Tryz.ntmps69
   go_wp2_with fail
   go_region_held3 (fun o=>o.cell? ⟨D,0,none⟩=some (.int .i64 d.room)) (first|exact j|exact c0|(simpa using c0)) (first|(go_at_call 103;refine i.mono ?_;rintro e t ⟨rfl,a⟩;have j:t.cell? ⟨D,0,none⟩=some (.int .i64 d.room):=(by unfold Cd B4 at a;exact a.c D 0)))
   all_goals
    go_wp2
    go_ret
    exact ⟨by rw[k.out];rfl,a⟩
 have q:decide ((n.f.now.length:Int)<size)=false:=by simpa using s
 have k:Aside (r=0):=by
  show r=0
  rw[←hr,if_neg (by simp),if_neg]
  simp[q]
 clear hr
 go_enter Tryz.func69,Tryz.ntmps69
 go_wp2_with fail
 go_quiet (fail)
 go_wp2
 go_ret
 exact ⟨by rw[k.out];rfl,hs.drewN _⟩
theorem O9(q:Np→Bool)(ps:List Np):BA ps=BA (ps.filter q)*BA (ps.filter fun x=>!q x):=by
 induction ps with
 |nil=>simp[BA,Aw]
 | cons n l a =>
  rw[BA,a]
  cases h:q n
  ·simp only[List.filter_cons,h,Bool.not_false,if_true,Bool.false_eq_true,if_false,BA];ac_rfl
  simp only[List.filter_cons,h,Bool.not_true,if_true,Bool.false_eq_true,if_false,BA];ac_rfl
def others(nm:ByteArray)(ps:List Np):List Np:=ps.filter fun x=>x.p.nm !=nm
theorem Rx(nm:ByteArray)(ps:List Np):DC (others nm ps)=(DC ps).filter fun p=>p.nm !=nm:=by
 simp[others,DC,List.filter_map,Function.comp_def]
theorem Ts(nm:ByteArray)(l:List Np)(x:Np):others nm (l++ [x])=if x.p.nm !=nm then others nm l++ [x] else others nm l:=by
 unfold others
 rw[List.filter_append]
 cases h:(x.p.nm !=nm)<;>simp[List.filter_cons,h]
theorem Vr(nm:ByteArray)(l:List Np):(others nm l).length≤l.length:=List.length_filter_le _ _
theorem A9{α:Type}{l:List α}{i:Nat}{x:α}(h:l[i]?=some x):l.take (i+1)=l.take i++ [x]:=by
 obtain ⟨hi,rfl⟩:=List.getElem?_eq_some_iff.1 h
 rw[List.take_succ_eq_append_getElem hi]
theorem LG(a b:ByteArray):(a !=b)=!(decide (a=b)):=by
 simp only[bne,bytes_beq]
theorem aO{x:Np}{F:Ac}{w:World}(hs:Sat (Kw x*F) w): ∃a n c,x.v= .slice a n c:=by
 unfold Kw at hs
 cases hb:x.p.b with
 |none=>rw[hb] at hs;exact ⟨_,_,_,hs.Ho.1⟩
 | some l =>
  rw[hb] at hs
  rw[Az] at hs
  obtain ⟨g,n,c,h⟩:=hs.Ho.1
  exact ⟨_,_,_,h⟩
theorem XV{ps:List Np}{x:Np}(h:x∈ps): ∃R,BA ps=Kw x*R:=by
 obtain ⟨l1,l2,rfl⟩:=List.append_of_mem h
 exact ⟨BA l1*BA l2,by rw[Jm,BA];ac_rfl⟩
theorem Uj(D M:Nat)(pv:Value)(ps:List Np)(d:Dk)(nm:ByteArray)(F:Ac)(w:World)(hs:Sat (B4 D M pv d*(DK pv ps*F)) w)(hn:ps.length≤1099511627776):
 Calls Tryz.prog 70 #[.pointer (some ⟨D,0,none⟩),.string nm] w fun e w'=> ∃rv,e= .returned (.tuple #[])∧Sat (B4 D M rv d*(DK rv (others nm ps)*F)) w':=by
 obtain ⟨i0,E⟩:=YX
 have n:=hs
 unfold B4 DK at n
 have c6:=n.c D 6
 obtain ⟨I,pn,pc,rfl,O,ab,ac⟩:=MS (n.take (rw TP 3 pv (Ce ps)))
 rw[Mc] at O
 obtain rfl:ps.length=pn:=by omega
 have Q:Sat (B4 D M (.slice I ps.length pc) d*(rw TP 3 (.slice I ps.length pc) (Ce ps)*(BA ps*F))) w:=hs.eq (by unfold DK;ac_rfl)
 clear n hs O
 go_enter Tryz.func70,Tryz.ntmps70
 go_wp2
 go_loopg [4,12] ps.length (fun k rest i wr=> ∃(j:Nat)(a:Option Addr)(c:Nat),i= .int .i64 j∧j≤ps.length∧Aside (k=ps.length-j)∧rest= .slice a (others nm (ps.take j)).length c∧
  Sat (rw TP 3 (.slice a (others nm (ps.take j)).length c) (Ce (others nm (ps.take j)))*(B4 D M (.slice I ps.length pc) d*(rw TP 3 (.slice I ps.length pc) (Ce ps)*(BA ps*F)))) wr)
 case atStart=>exact ⟨0,none,0,rfl,by omega,rfl,rfl,by simpa[others,Ce] using Q.AH⟩
 obtain ⟨j,a,c,rfl,hj,A,rfl,b⟩:=hrel
 clear Q c6
 by_cases X:j<ps.length
 · have K:(j:Int)<ps.length:=by omega
   obtain ⟨x,hx⟩: ∃x,ps[j]?=some x:=⟨ps[j],by simp[X]⟩
   obtain ⟨p0,p1,p2⟩:=ZI hx
   obtain ⟨g,rfl,q0,_⟩:=(b.take (rw TP 3 (.slice I ps.length pc) (Ce ps))).VF p0
   obtain ⟨_,V,q1,_⟩:=(b.take (rw TP 3 (.slice (some ⟨g,0,none⟩) ps.length pc) (Ce ps))).VF p1
   cases V
   obtain ⟨_,e2,q2,_⟩:=(b.take (rw TP 3 (.slice (some ⟨g,0,none⟩) ps.length pc) (Ce ps))).VF p2
   cases e2
   obtain ⟨R,Z⟩:=XV (List.mem_of_getElem? hx)
   obtain ⟨y,G,z,t⟩:=aO (b.eq (B:=Kw x*(R*(rw TP 3 (.slice a (others nm (ps.take j)).length c) (Ce (others nm (ps.take j)))*(B4 D M (.slice (some ⟨g,0,none⟩) ps.length pc) d*(rw TP 3 (.slice (some ⟨g,0,none⟩) ps.length pc) (Ce ps)*F))))) (by rw[Z];ac_rfl))
   rw[t] at q2
   have m:=b.alloc #[.string x.p.nm,.int .i64 x.p.pos,.slice y G z] TP
   have hl:=Vr nm (ps.take j)
   have aa:(ps.take j).length=j:=by simp;omega
   have U:Aside (others nm (ps.take (j+1))=if x.p.nm !=nm then others nm (ps.take j)++ [x] else others nm (ps.take j)):=(by rw[A9 hx,Ts]:_=_)
   have HV:Aside (x.v= .slice y G z):=t
   clear hx p0 p1 p2 Z t
   by_cases H:x.p.nm=nm
   ·have l:Aside (others nm (ps.take (j+1))=others nm (ps.take j)):=(by rw[U.out,LG,decide_eq_true H];rfl:_=_)
    have W:=dY H
    clear U H
    go_wp2
    go_roundg (ps.length-(j+1))
    case measure=>have:=A.out;omega
    refine ⟨j+1,a,c,by go_num,by omega,rfl,by rw[l.out],?_⟩
    rw[l.out]
    exact m.right
   have l:Aside (others nm (ps.take (j+1))=others nm (ps.take j)++ [x]):=(by rw[U.out,LG,decide_eq_false H];rfl:_=_)
   have W:=dZ H
   clear U H
   have o:=m.alloc #[.string x.p.nm,.int .i64 x.p.pos,.slice y G z] TP
   have e0:(wr.alloc (.cells #[.string x.p.nm,.int .i64 x.p.pos,.slice y G z] TP)).heap.size=wr.heap.size+1:=by simp
   rw[e0] at o
   have T:=o.take (rw TP 3 (.slice a (others nm (ps.take j)).length c) (Ce (others nm (ps.take j))))
   have q:=Src.new (P:=Tryz.prog) (s:=3) o rfl (by intro u hu;simp at hu;rcases hu with rfl|rfl|rfl<;>rfl)
   clear o m e0
   go_wp2_with (at_builtin;refine Ad E rfl (.tmp 20) (.tmp 22) rfl rfl rfl T q (by unfold maxLen;omega) (by omega) ?_;intro a' c' w' Y L;clear L T q)
   go_roundg (ps.length-(j+1))
   case measure=>have:=A.out;omega
   refine ⟨j+1,a',c',by go_num,by omega,rfl,by rw[l.out];simp,?_⟩
   rw[l.out,Is]
   have V:Ce [x]= [.string x.p.nm,.int .i64 x.p.pos,.slice y G z]:=by simp[Ce,R4,HV.out]
   rw[V]
   simp only[List.length_append,List.length_cons,List.length_nil,Nat.zero_add]
   refine Sat.Dq (B:=block (wr.heap.size+1) TP [.string x.p.nm,.int .i64 x.p.pos,.slice y G z]*block wr.heap.size TP [.string x.p.nm,.int .i64 x.p.pos,.slice y G z]) (Y.eq ?_)
   ac_rfl
 have K: ¬(j:Int)<ps.length:=by omega
 have r:ps.take j=ps:=List.take_of_length_le (by omega)
 rw[r] at b
 have J:=b
 unfold B4 at J
 have f6:=J.f D 6
 have c6:=J.c D 6
 have m:=J.JQ D 6 (.slice a (others nm ps).length c)
 have HJ:Aside (ps.take j=ps):=r
 rw[HJ.out]
 clear J b r
 go_wp2
 go_end0
 refine ⟨rfl,.slice a (others nm ps).length c,?_⟩
 refine Sat.Dq (B:=rw TP 3 (.slice I ps.length pc) (Ce ps)*BA (ps.filter fun x=>!(x.p.nm !=nm))) (m.eq ?_)
 unfold B4 DK
 rw[O9 (fun x=>x.p.nm !=nm) ps]
 show _=_*(_*BA (ps.filter fun x=>x.p.nm !=nm)*_)*_
 ac_rfl
theorem Zp(a:List UInt8)(k:Nat)(b:List UInt8):laid a k b=(a++List.replicate (k+b.length-a.length) 0).take k++b++(a++List.replicate (k+b.length-a.length) 0).drop (k+b.length):=by
 unfold laid
 congr 1
 by_cases h:k+b.length≤a.length
 ·have:k+b.length-a.length=0:=by omega
  simp[this]
 rw[List.drop_of_length_le (by omega),List.drop_of_length_le (by simp;omega)]
theorem W5(v:Value)(d:List UInt8)(k:Nat)(x:Value)(b:List UInt8)(B F:Ac)(u:Reads B x b)(w:World)(hs:Sat (rw TB 1 v (A1 d)*(B*F)) w)(h1:d.length≤35184372088832)(X:k+b.length≤35184372088832):
 Calls Tryz.prog 107 #[v,.int .i64 k,x] w fun e H=> ∃v',e= .returned v'∧Sat (rw TB 1 v' (A1 (laid d k b))*(B*F)) H:=by
 obtain ⟨i0,E⟩:=D2
 obtain ⟨U,V,rfl,R,_⟩:=G0 hs
 obtain ⟨Z,W,rfl,T,r⟩:=(u _ _ (hs.take B)).len
 have G:W≤9223372036854775807:=by simpa[maxLen] using r
 clear r
 go_enter Tryz.func107,Tryz.ntmps107
 go_wp2
 go_loopg [0] (k+b.length-d.length) (fun g t wr=> ∃(m:Nat)(a:Option Addr)(c:Nat),t= .slice a (d.length+m) c∧m≤k+b.length-d.length∧Aside (g=k+b.length-d.length-m)∧
  Sat (rw TB 1 (.slice a (d.length+m) c) (A1 (d++List.replicate m 0))*(B*F)) wr)
 case atStart=>exact ⟨0,U,V,rfl,by omega,rfl,by simpa using hs⟩
 obtain ⟨m,a,c,rfl,hm,A,f⟩:=hrel
 clear hs
 by_cases Q:d.length+m<k+b.length
 · have j:=f.alloc #[.int .u8 0] TB
   have q:=j.take (rw TB 1 (.slice a (d.length+m) c) (A1 (d++List.replicate m 0)))
   have i:=Src.Nh (P:=Tryz.prog) j rfl
   clear j
   go_wp2_with (at_builtin;refine Ad E rfl (.tmp 14) (.tmp 15) rfl rfl rfl q i (by unfold maxLen;omega) (by omega) ?_;intro a' J H l p;clear p q i)
   go_roundg (k+b.length-d.length-(m+1))
   case measure=>have:=A.out;omega
   refine ⟨m+1,a',J,rfl,by omega,rfl,?_⟩
   rw[List.replicate_succ',←List.append_assoc,BH]
   refine Sat.Dq (B:=block wr.heap.size TB [.int .u8 0]) (l.eq ?_)
   show rw TB 1 _ (_++ [Value.int .u8 0])*_=_
   rw[show A1 [(0:UInt8)]= [Value.int .u8 0] from rfl]
   ac_rfl
 have O: ¬((d.length:Int)+m<k+b.length):=by omega
 obtain ⟨y,z⟩:d.length+m≤c∧c≤9223372036854775807:=by
  obtain ⟨_,_,_,K,_,L,M⟩:=MS f
  cases K
  exact ⟨L,M⟩
 have o:m=k+b.length-d.length:=by omega
 have I:Aside (m=k+b.length-d.length):=o
 have s:k≤d.length+m:=by omega
 have hx:=u _ _ (f.take B)
 clear o
 have hcut:=Er (P:=Tryz.prog) E (a:=a) (n:=d.length+m) (c:=c) k s
 obtain ⟨Y,D,l⟩:=L0 (P:=Tryz.prog) E 26 3 (lo:=k) f hx (by omega)
 clear f hx
 go_wp2
 go_ret
 refine ⟨_,rfl,?_⟩
 rw[Zp,←I.out,BH,BH,N1,Nz]
 exact l
theorem Nj{e s:Nat}{F:Ac}{w:World}(hs:Sat F w):Sat (rw e s (.slice (some ⟨w.heap.size,0,none⟩) 0 0) []*F) (w.alloc (.cells #[] e)):=by
 have:=hs.alloc #[] e
 exact Sat.DX (sp:= []) (by simp) (by simp) (by omega) (by simp) this
theorem Kk{D:Nat}{d:Dk}{nm:ByteArray}{t:Bool}{F:Ac}{w:World}(hs:Sat (B6 D d*F) w)(hm:d.may nm t=0)(a:(d.get nm).isSome=true):
 ∃M l1 n l2 pv ps,n.nm=nm∧(∀m∈l1,m.nm≠n.nm)∧C2 (l1++n::l2)=d.files∧DC ps=d.BM∧named nm=true∧d.down=false∧d.get nm=some n.f∧Sat (Cd D M (l1++n::l2) pv ps d*F) w:=by
 obtain ⟨M,ns,pv,ps,h1,c,e⟩:=Sat.E6 hs
 rcases Hi ns nm with ⟨l1,n,l2,rfl,g,b⟩|h
 ·rcases Hg d nm t with ⟨h,_⟩|⟨h,_⟩|⟨h,_⟩|⟨h,i,j,_⟩
  ·rw[h] at hm;cases hm
  ·rw[h] at hm;cases hm
  ·rw[h] at hm;cases hm
  subst g
  exact ⟨M,l1,n,l2,pv,ps,rfl,b,h1,c,i,j,by unfold Dk.get;rw[←h1,Fb b],e⟩
 unfold Dk.get at a
 rw[←h1,GU h] at a
 cases a
theorem Li{d:Dk}{nm:ByteArray}(h:d.may nm true=0):(d.get nm).isSome=true:=by
 rcases Hg d nm true with ⟨a,_⟩|⟨a,_⟩|⟨a,_⟩|⟨_,_,_,a⟩
 ·rw[a] at h;cases h
 ·rw[a] at h;cases h
 ·rw[a] at h;cases h
 exact a rfl
theorem Uk(D:Nat)(d:Dk)(nm:ByteArray)(F:Ac)(w:World)(hs:Sat (B6 D d*F) w)(j:nm.size≤9223372036854775807):
 Calls Tryz.prog 50 #[.pointer (some ⟨D,0,none⟩),.string nm] w fun e m=>e= .returned (.int .i64 (d.size nm))∧w=m:=by
 by_cases hm:d.may nm true=0
 ·obtain ⟨M,l1,n,l2,pv,ps,rfl,h1,l,k,o,p,r,a⟩:=Kk hs hm (Li hm)
  have i:d.size n.nm=n.f.now.length:=by unfold Dk.size;rw[if_neg (by simp[hm]),r];rfl
  rw[i]
  have g:=Fg D M l1 n l2 pv ps d true F w a h1 j o p
  rw[CT] at a
  unfold Dd at a
  have c0:=a.c n.b 0
  obtain ⟨t,u,s,_⟩:=G0 (a.take (rw TB 1 n.nv (A1 n.f.now)))
  rw[s] at c0
  clear hs a hm l k o p r i s
  go_enter Tryz.func50,Tryz.ntmps50
  go_wp2_with (refine g.mono ?_;rintro e m ⟨rfl,rfl⟩)
  go_ret
  exact ⟨rfl,rfl⟩
 have i:d.size nm= -1:=by unfold Dk.size;rw[if_pos hm]
 rw[i]
 obtain ⟨M,ns,pv,ps,h1,l,k⟩:=Sat.E6 hs
 have g:=Nc D M ns pv ps d nm true F w k h1 j hm
 have hb:(d.may nm true !=0)=true:=by simpa using hm
 clear hs k h1 l i hm
 generalize d.may nm true=q at*
 go_enter Tryz.func50,Tryz.ntmps50
 go_wp2_with (refine g.mono ?_;rintro e m ⟨rfl,rfl⟩)
 go_ret
 exact ⟨rfl,rfl⟩
theorem TU(D:Nat)(d:Dk)(nm:ByteArray)(k n:Int)(F:Ac)(w:World)(hs:Sat (B6 D d*F) w)(J:nm.size≤9223372036854775807)(t: ∀p∈d.files,p.2.now.length≤Pn):
 Calls Tryz.prog 49 #[.pointer (some ⟨D,0,none⟩),.string nm,.int .i64 k,.int .i64 n] w fun e y=> ∃v,e= .returned (.tuple #[v,.int .i64 (d.read nm k n).1])∧Sat (rw TB 1 v (A1 (d.read nm k n).2)*(B6 D d*F)) y:=by
 by_cases hm:d.may nm true=0
 ·obtain ⟨M,l1,x,l2,pv,ps,rfl,h1,z,B,X,Y,O,i⟩:=Kk hs hm (Li hm)
  have g:=Fg D M l1 x l2 pv ps d true F w i h1 J X Y
  have a5:x.f.now.length≤1099511627776:=t (x.nm,x.f) (by rw[←z];simp[C2])
  rw[CT] at i
  unfold Dd at i
  have c0:=i.c x.b 0
  obtain ⟨va,vc,K,a7,a8⟩:=G0 (i.take (rw TB 1 x.nv (A1 x.f.now)))
  have l:=Reads.rw _ _ (i.take (rw TB 1 x.nv (A1 x.f.now)))
  rw[K] at c0 l
  by_cases hr:k<0∨n<0∨(x.f.now.length:Int)<k∨(x.f.now.length:Int)-k<n
  · have r:d.read x.nm k n=(2,[]):=by
     unfold Dk.read;rw[if_neg (by simp[hm]),O];simp only[Option.getD_some];rw[if_pos hr]
    rw[r]
    clear i hm z B X Y O r K l
    by_cases R:k<0
    · have T:decide (k<0)=true:=by simpa using R
      go_enter Tryz.func49,Tryz.ntmps49
      go_wp2_with (refine g.mono ?_;rintro e y ⟨rfl,rfl⟩)
      go_ret2
      exact ⟨_,rfl,by simpa[A1] using hs.AH⟩
    have T:decide (k<0)=false:=by simpa using R
    by_cases U:n<0
    · have V:decide (n<0)=true:=by simpa using U
      go_enter Tryz.func49,Tryz.ntmps49
      go_wp2_with (refine g.mono ?_;rintro e y ⟨rfl,rfl⟩)
      go_ret2
      exact ⟨_,rfl,by simpa[A1] using hs.AH⟩
    have V:decide (n<0)=false:=by simpa using U
    by_cases g3:(x.f.now.length:Int)<k
    · have W:decide ((x.f.now.length:Int)<k)=true:=by simpa using g3
      go_enter Tryz.func49,Tryz.ntmps49
      go_wp2_with (refine g.mono ?_;rintro e y ⟨rfl,rfl⟩)
      go_ret2
      exact ⟨_,rfl,by simpa[A1] using hs.AH⟩
    have W:decide ((x.f.now.length:Int)<k)=false:=by simpa using g3
    have g4:(x.f.now.length:Int)-k<n:=by omega
    go_enter Tryz.func49,Tryz.ntmps49
    go_wp2_with (refine g.mono ?_;rintro e y ⟨rfl,rfl⟩)
    go_ret2
    exact ⟨_,rfl,by simpa[A1] using hs.AH⟩
  obtain ⟨k,rfl⟩:=Int.eq_ofNat_of_zero_le (show 0≤k by omega)
  obtain ⟨n,rfl⟩:=Int.eq_ofNat_of_zero_le (show 0≤n by omega)
  have r:d.read x.nm k n=(0,(x.f.now.drop k).take n):=by
   unfold Dk.read;rw[if_neg (by simp[hm]),O];simp only[Option.getD_some];rw[if_neg hr];rfl
  rw[r]
  have R: ¬(x.f.now.length:Int)<k:=by omega
  have U: ¬(x.f.now.length:Int)-k<n:=by omega
  obtain ⟨i0,E⟩:=D2
  have hcut:=D8 (P:=Tryz.prog) E (a:=va) (n:=x.f.now.length) (c:=vc) k (k+n) (by omega) (by omega)
  have Q:k+n-k=n:=by omega
  rw[Int.natCast_add,Q] at hcut
  have u:=Nj (e:=TB) (s:=1) i
  have j:=Reads.rw _ _ (u.take (rw TB 1 x.nv (A1 x.f.now)))
  rw[K] at j
  have o:=j.cut k (k+n) (by omega) (by omega)
  rw[Q] at o
  have m:=o.src (P:=Tryz.prog)
  have G:((x.f.now.drop k).take n).length=n:=by simp;omega
  rw[G] at m
  have a6:x.b<w.heap.size:=World.block_lt_of_cell? w _ c0
  have HH:Aside (C2 (l1++x::l2)=d.files∧DC ps=d.BM∧x.nv= .slice va x.f.now.length vc):=⟨z,B,K⟩
  clear hs hm z B X Y O r K l j o i G Q
  go_enter Tryz.func49,Tryz.ntmps49
  go_wp2_with first|(at_builtin;refine Ad E rfl (.tmp 47) (.tmp 56) rfl rfl rfl u m (by unfold maxLen;omega) (by omega) ?_;intro a' c' L I H;clear H u m)|(refine g.mono ?_;rintro e y ⟨rfl,rfl⟩)
  simp only[Nat.zero_add,List.nil_append] at I
  go_ret2
  refine ⟨_,rfl,?_⟩
  show Sat (rw TB 1 (.slice a' n c') _*_) L
  have Z:Sat (Cd D M (l1++x::l2) pv ps d*(rw TB 1 (.slice a' n c') (A1 ((x.f.now.drop k).take n))*F)) L:=I.eq (by rw[CT];unfold Dd;ac_rfl)
  exact (Sat.E7 HH.out.1 HH.out.2.1 Z).eq (by ac_rfl)
 have r:d.read nm k n=(d.may nm true,[]):=by unfold Dk.read;rw[if_pos hm]
 rw[r]
 obtain ⟨M,ns,pv,ps,h1,z,B⟩:=Sat.E6 hs
 have g:=Nc D M ns pv ps d nm true F w B h1 J hm
 have hb:(d.may nm true !=0)=true:=by simpa using hm
 clear B h1 z r hm t
 generalize d.may nm true=q at*
 go_enter Tryz.func49,Tryz.ntmps49
 go_wp2_with (refine g.mono ?_;rintro e y ⟨rfl,rfl⟩)
 go_ret2
 exact ⟨_,rfl,by simpa[A1] using hs.AH⟩
theorem CS(D M:Nat)(ns:List Nf)(pv:Value)(ps:List Np)(d:Dk):Cd D M ns pv ps d=B4 D M pv d*(mp Fj M (ns.map IG)*(BO ns*DK pv ps)):=rfl
theorem N'(D:Nat)(d:Dk)(m:Nat)(nm:ByteArray)(F:Ac)(w:World)(hs:Sat (B6 D d*F) w)(H:nm.size≤9223372036854775807)(ok:Ok m d)(W:m≤Pn):
 Calls Tryz.prog 102 #[.pointer (some ⟨D,0,none⟩),.string nm] w fun e L=>e= .returned (.int .i64 (d.sync nm).1)∧Sat (B6 D (d.sync nm).2*F) L:=by
 have a0:m≤1099511627776:=W
 by_cases hm:d.may nm true=0
 ·obtain ⟨M,l1,x,l2,pv,ps,rfl,h1,u,r,T,U,V,a⟩:=Kk hs hm (Li hm)
  have g:=Fg D M l1 x l2 pv ps d true F w a h1 H T U
  cases i:d.stop with
  | true =>
   have p:d.sync x.nm=(8, { d with down:=true }):=by unfold Dk.sync;rw[if_neg (by simp[hm]),if_pos i]
   rw[p]
   have n:=IK D M pv d _ w (a.eq (by rw[CS,Az])) i
   have J:Aside (C2 (l1++x::l2)=d.files∧DC ps=d.BM):=⟨u,r⟩
   clear hs hm u r T U V p a i ok
   go_enter Tryz.func102,Tryz.ntmps102
   go_wp2_with fail
   refine g.mono ?_
   rintro e L ⟨rfl,rfl⟩
   go_wp2_with fail
   refine n.mono ?_
   rintro e O ⟨rfl,a⟩
   go_wp2
   go_ret
   refine ⟨rfl,Sat.E7 (M:=M) (pv:=pv) (d:= { d with down:=true }) J.out.1 J.out.2 (a.eq ?_)⟩
   rw[CS]
   ac_rfl
  | false =>
   have p:d.sync x.nm=(0,(d.BW.put x.nm { x.f with safe:=x.f.now,sure:=true }).settled x.nm):=by
    unfold Dk.sync;rw[if_neg (by simp[hm]),if_neg (by simp[i]),V];rfl
   rw[p]
   have y:=(ok.sz (x.nm,x.f) (by rw[←u];simp[C2])).1
   have a1:x.f.now.length≤1099511627776:=y
   have X:ps.length≤1099511627776:=by have:=ok.BM;rw[←r] at this;simp[DC] at this;omega
   have n:=LH D M pv d _ w (a.eq (by rw[CS,Az])) i (by have:=ok.left;omega) ok.left.2 ok.changes.1 (by have:=ok.changes;omega)
   have J:Aside (C2 (l1++x::l2)=d.files∧DC ps=d.BM∧(∀m∈l1,m.nm≠x.nm)):=⟨u,r,h1⟩
   obtain ⟨i0,E⟩:=D2
   clear hs hm u r T U V p a i ok y
   go_enter Tryz.func102,Tryz.ntmps102
   go_wp2_with fail
   refine g.mono ?_
   rintro e L ⟨rfl,rfl⟩
   go_wp2_with fail
   refine n.mono ?_
   rintro e O ⟨rfl,a⟩
   clear g n
   have k:Sat (Dd x*(Ke D M l1 x l2 pv ps d.BW*F)) O:=a.eq (by rw[←Az (Dd x),←CT,CS];ac_rfl)
   unfold Dd at k
   have c0:=k.c x.b 0
   have a8:x.b<O.heap.size:=World.block_lt_of_cell? O _ c0
   obtain ⟨va,vc,hv,ab,ac⟩:=G0 (k.take (rw TB 1 x.nv (A1 x.f.now)))
   have v:=Nj (e:=TB) (s:=1) k
   have j:=Reads.rw _ _ (v.take (rw TB 1 x.nv (A1 x.f.now)))
   rw[hv] at c0 j
   have t:=j.src (P:=Tryz.prog)
   clear a k j
   go_wp2_with (at_builtin;refine Ad E rfl (.tmp 22) (.tmp 26) rfl rfl rfl v t (by unfold maxLen;omega) (by omega) ?_;intro a' K w2 l z;simp only[Nat.zero_add,List.nil_append] at l;have k1:=l.c x.b 1;have f1:=l.f x.b 1;have o:=l.JQ x.b 1 (.slice a' x.f.now.length K);have k2:=o.c x.b 2;have f2:=o.f x.b 2;have Y:=o.JQ x.b 2 (.bool true);clear v t z l o)
   have G:=Uj D M pv ps d.BW x.nm (Dd { x with f:= { x.f with safe:=x.f.now,sure:=true },sv:= .slice a' x.f.now.length K } *(mp Fj M ((l1++x::l2).map IG)*(BO l1*(BO l2*F)))) _ (Sat.Dq (B:=rw TB 1 x.sv (A1 x.f.safe)) (Y.eq (by unfold Ke Dd;ac_rfl))) X
   refine G.mono ?_
   rintro e w3 ⟨I,rfl,Z⟩
   go_wp2
   go_ret
   refine ⟨rfl,?_⟩
   obtain ⟨g1,g2,g3⟩:=J.out
   have e5:C2 (l1++ { x with f:= { x.f with safe:=x.f.now,sure:=true },sv:= .slice a' x.f.now.length K } ::l2)=DW x.nm { x.f with safe:=x.f.now,sure:=true } d.files:=by
    rw[←g1,NM _ g3]
    simp[C2]
   refine Sat.E7 (M:=M) (ns:=l1++ { x with f:= { x.f with safe:=x.f.now,sure:=true },sv:= .slice a' x.f.now.length K } ::l2) (pv:=I) (ps:=others x.nm ps) e5 (by rw[Rx,g2];rfl) (Z.eq ?_)
   rw[CT]
   have e6: ∀(Q:Nf)(R:Dk),Q.b=x.b→Q.nm=x.nm→Ke D M l1 Q l2 I (others x.nm ps) R=Ke D M l1 x l2 I (others x.nm ps) R:=fun Q R hb hn=>ZT hb.symm hn.symm
   rw[e6]
   · unfold Ke
     show B4 D M I d.BW*_=_*(B4 D M I d.BW*_)*_
     ac_rfl
   · rfl
   rfl
 have p:d.sync nm=(d.may nm true,d):=by unfold Dk.sync;rw[if_pos hm]
 rw[p]
 obtain ⟨M,ns,pv,ps,h1,u,r⟩:=Sat.E6 hs
 have g:=Nc D M ns pv ps d nm true F w r h1 H hm
 have hb:(d.may nm true !=0)=true:=by simpa using hm
 have a7:(d.may nm true==0)=false:=by simpa using hm
 clear r h1 u p hm ok
 generalize d.may nm true=q at*
 go_enter Tryz.func102,Tryz.ntmps102
 go_wp2_with (refine g.mono ?_;rintro e L ⟨rfl,rfl⟩)
 go_ret
 exact ⟨rfl,hs⟩
theorem Lu(ps:List Np)(x:Np):BA (ps++ [x])=BA ps*Kw x:=by rw[Jm];simp[BA,Br]
def Wn(D M:Nat)(d:Dk):Ac:=
 Ef D TD 7*(Sl.cell D 0 (.int .i64 d.room)*(Sl.cell D 1 (.int .i64 d.changes)*(Sl.cell D 2 (.int .i64 d.left)*(Sl.cell D 3 (.bool d.GQ)*(Sl.cell D 4 (.bool d.down)*Sl.cell D 5 (.map (some M)))))))
theorem MV(D M:Nat)(pv:Value)(d:Dk):B4 D M pv d=Sl.cell D 6 pv*Wn D M d:=by unfold B4 Wn;ac_rfl
theorem Vh{ns:List Nf}{n':Nf}(h: ∀m∈ns,m.nm≠n'.nm):EO n'.nm (.pointer (some ⟨n'.b,0,none⟩)) (ns.map IG)=(ns++ [n']).map IG:=by
 rw[Ow (Ou h)];simp[IG]
theorem aA{m:Nat}{d:Dk}{ns:List Nf}(ok:Ok m d)(a:C2 ns=d.files):lens ns≤17592186044416:=by
 have h1: ∀l:List Nf,(∀n∈l,n.f.now.length≤1099511627776)→lens l≤l.length*1099511627776:=by
  intro l
  induction l with
  |nil=>intro _;simp[lens]
  | cons n l e =>
   intro h
   have:=e fun m hm=>h m (by simp[hm])
   have:=h n (by simp)
   rw[GZ,List.length_cons]
   omega
 have g:=h1 ns fun n c=>(ok.sz (n.nm,n.f) (by rw[←a];exact List.mem_map.2 ⟨n,c,rfl⟩)).1
 have b:ns.length≤16:=by have:=ok.nf;rw[←a] at this;simpa[C2] using this
 have i:ns.length*1099511627776≤16*1099511627776:=Nat.mul_le_mul_right _ b
 omega
end Go.Proofs.YtfhbmblbidcmmaaGreat
namespace Go.Proofs.YtfhbmblbidcmmaaGreat
open Go.RowKit Go.Sl
theorem cM(e s n c g:Nat)(xs:List Value)(L:Nat)(j:xs.length=L):rw e s (.slice (some ⟨g,0,none⟩) n c) xs=ex fun sp: {sp:List Value//L=n*s∧L+sp.length=c*s∧n≤c∧c≤maxLen} =>block g e (xs++sp.1):=by
 subst j
 funext h
 apply propext
 constructor
 ·rintro (⟨h1,_⟩|⟨l,n',k,sp,h1,a,b,d,f,i⟩)
  ·cases h1
  cases h1
  exact ⟨⟨sp,a,by simpa using b,d,f⟩,i⟩
 rintro ⟨⟨sp,a,b,d,f⟩,i⟩
 exact .inr ⟨g,n,c,sp,rfl,a,by simpa using b,d,f,i⟩
theorem Uf{e s n c g k:Nat}{xs:List Value}{v:Value}(h:xs[k]?=some v): ∃R,rw e s (.slice (some ⟨g,0,none⟩) n c) xs=Sl.cell g k v*R∧ ∀v',rw e s (.slice (some ⟨g,0,none⟩) n c) (xs.set k v')=Sl.cell g k v'*R:=by
 have b:=(List.getElem?_eq_some_iff.1 h).1
 have a: ∀sp:List Value,∃F,cells g 0 (xs++sp)=Sl.cell g k v*F∧ ∀v',cells g 0 (xs.set k v'++sp)=Sl.cell g k v'*F:=by
  intro sp
  obtain ⟨F,h1,d⟩:=EB g (xs++sp) 0 k v (by rw[List.getElem?_append_left b];exact h)
  grind
 let F:List Value→Ac:=fun sp=>Classical.choose (a sp)
 refine ⟨ex fun sp: {sp:List Value//xs.length=n*s∧xs.length+sp.length=c*s∧n≤c∧c≤maxLen} =>Ef g e (xs.length+sp.1.length)*F sp.1,?_,fun v'=>?_⟩
 · rw[cM _ _ _ _ _ _ xs.length rfl,Fz,YY]
   grind [block,List.length_append]
 rw[cM _ _ _ _ _ _ xs.length List.length_set,Fz,YY]
 grind [block,List.length_append,List.length_set]
instance fM(e s n c g k:Nat)(xs:List Value)(v:Value)[h:At xs k v]:EM (rw e s (.slice (some ⟨g,0,none⟩) n c) xs) g k v:=
 let ⟨R,h1,_⟩:=Uf (e:=e) (s:=s) (n:=n) (c:=c) (g:=g) h.out;⟨R,h1⟩
instance fN(e s n c g k:Nat)(xs:List Value)(v v':Value)[h:At xs k v]:Xa (rw e s (.slice (some ⟨g,0,none⟩) n c) xs) g k v' (rw e s (.slice (some ⟨g,0,none⟩) n c) (xs.set k v')):=
 let ⟨R,h1,h2⟩:=Uf (e:=e) (s:=s) (n:=n) (c:=c) (g:=g) h.out;⟨v,R,h1,h2 v'⟩
theorem BN{e s:Nat}{a:Option Addr}{n c:Nat}{xs:List Value}{F:Ac}{w:World}(hs:Sat (rw e s (.slice a n c) xs*F) w)(d:0<n): ∃g,a=some ⟨g,0,none⟩:=by
 rcases hs.Cz with ⟨h1,_⟩|⟨b,n',cap,sp,h1,_⟩
 ·cases h1;omega
 cases h1;exact ⟨_,rfl⟩
theorem D'{e s:Nat}{a:Option Addr}{n c:Nat}{xs:List Value}{F:Ac}{w:World}(hs:Sat (rw e s (.slice a n c) xs*F) w):xs.length=n*s∧n≤c∧c≤9223372036854775807:=by
 rcases hs.Cz with ⟨h1,b,_⟩|⟨d,n',cap,sp,h1,b,f,g,i,_⟩
 ·simp_all
 simp_all[maxLen]
open Go.Dk
theorem l8(l:List UInt8)(k:Nat)(y:UInt8):(A1 l).set k (.int .u8 y.toNat)=A1 (l.set k y):=by
 unfold A1;rw[List.map_set];rfl
theorem ZZ{n:Nat}{F:Ac}{w:World}(l:List UInt8)(hl:l.length=n)(a:n≤1099511627776)(hs:Sat F w):Sat (rw TB 1 (.slice (some ⟨w.heap.size,0,none⟩) n n) (A1 l)*F) (w.alloc (.cells (A1 l).toArray TB)):=by
 have h:=hs.alloc (A1 l).toArray TB
 refine Sat.DX (sp:= []) (n:=n) (cap:=n) (by simp[A1,hl]) (by simp[A1,hl]) (Nat.le_refl _) (by unfold maxLen;omega) ?_
 simpa using h
end Go.Proofs.YtfhbmblbidcmmaaGreat
namespace Go.Sl
def Al(s:Nat)(B:Ac)(v:Value)(n:Nat)(d:List Value):Prop:=
 d.length=n*s∧ ∃a c,v= .slice a n c∧n≤c∧c≤9223372036854775807∧ ∀j u,d[j]?=some u→ ∃b o,a=some ⟨b,o,none⟩∧Pj B b (o+j) u
theorem Al.left{s:Nat}{A B:Ac}{v:Value}{n:Nat}{d:List Value}(h:Al s A v n d):Al s (A*B) v n d:=by
 obtain ⟨h1,a,c,f,g,i,k⟩:=h
 refine ⟨h1,a,c,f,g,i,fun j u l=>?_⟩
 obtain ⟨b,o,e,r⟩:=k j u l
 exact ⟨b,o,e,inferInstance⟩
theorem Al.right{s:Nat}{A B:Ac}{v:Value}{n:Nat}{d:List Value}(h:Al s B v n d):Al s (A*B) v n d:=by
 obtain ⟨h1,a,c,f,g,i,k⟩:=h
 refine ⟨h1,a,c,f,g,i,fun j u l=>?_⟩
 obtain ⟨b,o,e,r⟩:=k j u l
 exact ⟨b,o,e,inferInstance⟩
theorem Al.eq{s:Nat}{A B:Ac}{v:Value}{n:Nat}{a:List Value}(h:Al s A v n a)(e:A=B):Al s B v n a:=e▸h
theorem Al.v{s:Nat}{B:Ac}{v:Value}{n:Nat}{b:List Value}(h:Al s B v n b): ∃a c,v= .slice a n c∧n≤c∧c≤9223372036854775807:=by
 obtain ⟨_,a,c,d,e,f,_⟩:=h
 grind
theorem Al.nil(s:Nat)(B:Ac):Al s B (.slice none 0 0) 0 []:=⟨by simp,none,0,rfl,by omega,by omega,fun j u h=>by simp at h⟩
theorem Al.rw{e s:Nat}{v:Value}{n:Nat}{b:List Value}{F:Ac}{w:World}(hs:Sat (rw e s v b*F) w)(p: ∃a c,v= .slice a n c):Al s (rw e s v b) v n b:=by
 obtain ⟨a,c,rfl⟩:=p
 rcases hs.Cz with ⟨h1,d,_⟩|⟨g,n',cap,sp,h1,d,l,f,i,_⟩
 · cases h1;subst d
   exact Al.nil s _
 cases h1
 refine ⟨d,_,_,rfl,f,by simpa[maxLen] using i,fun j u k=>⟨g,0,rfl,?_⟩⟩
 exact ⟨fun F w hs=>by
  rcases hs.Cz with ⟨h1,d,_⟩|⟨q,n',cap,sp,h1,d,l,f,i,m⟩
  · grind
  cases h1
  have o:Sat (Sl.cells g 0 (b++sp)*(Sl.Ef g e (b++sp).length*F)) w:=m.eq (by unfold Sl.block;ac_rfl)
  simpa using o.DG j u (by rw[List.getElem?_append_left (List.getElem?_eq_some_iff.1 k).1];exact k)⟩
theorem Al.at{s:Nat}{B:Ac}{a:Option Addr}{n c:Nat}{d:List Value}(h:Al s B (.slice a n c) n d)(j:Nat)(u:Value)(l:d[j]?=some u): ∃b o,a=some ⟨b,o,none⟩∧Pj B b (o+j) u:=by
 obtain ⟨h1,a',f,e,g,i,k⟩:=h
 cases e
 simp_all
theorem Al.cut{s:Nat}{B:Ac}{a:Option Addr}{n c:Nat}{g:List Value}(h:Al s B (.slice a n c) n g)(lo hi:Nat)(h1:lo≤hi)(t:hi≤n):
 Al s B (.slice (AJ a c lo s) (hi-lo) (c-lo)) (hi-lo) ((g.drop (lo*s)).take ((hi-lo)*s)):=by
 obtain ⟨i,a',m,e,p,q,k⟩:=h
 cases e
 refine ⟨?_,_,_,rfl,by omega,by omega,fun j u d=>?_⟩
 ·rw[List.length_take,List.length_drop,i,Nat.min_eq_left]
  rw[←Nat.sub_mul]
  exact Nat.mul_le_mul_right _ (by omega)
 have f:=(List.getElem?_eq_some_iff.1 d).1
 rw[List.getElem?_take] at d
 split at d
 ·rw[List.getElem?_drop] at d
  obtain ⟨b,o,rfl,r⟩:=k _ u d
  have l:lo<hi:=by
   rcases Nat.lt_or_ge lo hi with h|h
   · exact h
   have:hi-lo=0:=by omega
   rw[this] at f;simp at f
  refine ⟨b,o+lo*s,?_,?_⟩
  · unfold AJ
    rw[if_neg (by omega)]
    simp[Addr.add]
  rw[Nat.add_assoc];exact r
 cases d
theorem Al.src{P:Program}{s:Nat}{B:Ac}{v:Value}{n:Nat}{d:List Value}(h:Al s B v n d)(h1: ∀u∈d,u.oneCell'=true){F:Ac}{w:World}(hs:Sat (B*F) w):Src P s w v n d:=by
 obtain ⟨f,a,c,rfl,m,p,g⟩:=h
 rcases Nat.eq_zero_or_pos d.length with h0|h0
 ·have:d= []:=List.length_eq_zero_iff.1 h0
  subst this
  refine ⟨fun _=>rfl,fun k=>?_,f,by simp⟩
  cases a with
  |none=>rfl
  | some i =>
   show (loadCells i (n*s)).run P (w.drewN k)=_
   rw[←f]
   rfl
 obtain ⟨b,o,rfl,_⟩:=g 0 _ (List.getElem?_eq_getElem h0)
 refine Src.slice f (fun j u l=>?_) h1
 obtain ⟨b',o',e,r⟩:=g j u l
 cases e
 exact r.out F w hs
theorem Zm{A R:Ac}{w:World}[h:Bg A w](X:Ac)[t:Take A X R]:Sat X w:=Sat.Dq (h.out.take X)
theorem Ap{A R R':Ac}{w:World}[h:Bg A w](X Y:Ac)[t:Take A X R][t':Take R Y R']:Sat (X*Y) w:=Sat.Dq (B:=R') ((h.out.ML X Y).eq (by ac_rfl))
theorem AD{A R R' a:Ac}{w:World}[h:Bg A w](X Y Z:Ac)[t:Take A X R][t':Take R Y R'][t'':Take R' Z a]:Sat (X*(Y*Z)) w:=Sat.Dq (B:=a) ((h.out.IC X Y Z).eq (by ac_rfl))
theorem ET{A R R' a b:Ac}{w:World}[h:Bg A w](X Y Z V:Ac)[t:Take A X R][t':Take R Y R'][t'':Take R' Z a][t3:Take a V b]:Sat (X*(Y*(Z*V))) w:=Sat.Dq (B:=b) ((h.out.IC X Y Z).eq (by rw[t3.out];ac_rfl))
theorem EE{A R R' a b c:Ac}{w:World}[h:Bg A w](X Y Z V U:Ac)[t:Take A X R][t':Take R Y R'][t'':Take R' Z a][t3:Take a V b][t4:Take b U c]:Sat (X*(Y*(Z*(V*U)))) w:=Sat.Dq (B:=c) ((h.out.IC X Y Z).eq (by rw[t3.out,t4.out];ac_rfl))
theorem Fx{A R R' a b c d:Ac}{w:World}[h:Bg A w](X Y Z V U T:Ac)[t:Take A X R][t':Take R Y R'][t'':Take R' Z a][t3:Take a V b][t4:Take b U c][t5:Take c T d]:Sat (X*(Y*(Z*(V*(U*T))))) w:=Sat.Dq (B:=d) ((h.out.IC X Y Z).eq (by rw[t3.out,t4.out,t5.out];ac_rfl))
theorem RW{A R R' a:Ac}{w:World}[h:Bg A w](X Y Z:Ac)[t:Take A X R][t':Take R Y R'][t'':Take R' Z a]:Sat (X*(Y*(Z*a))) w:=h.out.IC X Y Z
theorem AP{A R R':Ac}{w:World}[h:Bg A w](X Y:Ac)[t:Take A X R][t':Take R Y R']:Sat (X*(Y*R')) w:=h.out.ML X Y
theorem KQ{α:Type}{f:α→List Value}{s:Nat}(a: ∀x,(f x).length=s): ∀(l:List α)(i k:Nat)(x:α),l[i]?=some x→k<s→(l.flatMap f)[i*s+k]?=(f x)[k]?
 | [],i,k,x,h,_=>by simp at h
 |y::l,0,k,x,h,b=>by grind
 | y :: l, i + 1, k, x, h, b => by
  rw[List.flatMap_cons,List.getElem?_append_right (by rw[a,Nat.add_mul];omega),a,show (i+1)*s+k-s=i*s+k by rw[Nat.add_mul];omega]
  exact KQ a l i k x h b
theorem PK{α:Type}{f:α→List Value}{s:Nat}(a: ∀x,(f x).length=s)(l:List α):(l.flatMap f).length=l.length*s:=by induction l with
 |nil=>simp
 |cons x l b=>rw[List.flatMap_cons,List.length_append,a,b,List.length_cons,Nat.add_mul];omega
theorem Al.row{α:Type}{f:α→List Value}{s:Nat}(d: ∀x,(f x).length=s)(hp:0<s){B:Ac}{a:Option Addr}{n c:Nat}{l:List α}(h:Al s B (.slice a n c) n (l.flatMap f)){i:Nat}{x:α}(hi:l[i]?=some x):
 ∃b o,a=some ⟨b,o,none⟩∧ ∀k u,(f x)[k]?=some u→Pj B b (o+i*s+k) u:=by
 obtain ⟨t,a',q,e,v,w,j⟩:=h
 cases e
 obtain ⟨u,p⟩: ∃u,(f x)[0]?=some u:=⟨_,List.getElem?_eq_getElem (by rw[d];exact hp)⟩
 obtain ⟨b,o,rfl,_⟩:=j (i*s+0) u (by rw[KQ d l i 0 x hi hp];exact p)
 refine ⟨b,o,rfl,fun k u m=>?_⟩
 have g:k<s:=by rw[←d x];exact (List.getElem?_eq_some_iff.1 m).1
 obtain ⟨b',o',e,r⟩:=j (i*s+k) u (by rw[KQ d l i k x hi g];exact m)
 cases e
 grind
