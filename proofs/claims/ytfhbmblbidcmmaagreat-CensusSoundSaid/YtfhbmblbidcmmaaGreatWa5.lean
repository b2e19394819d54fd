/- censusSound holds for every input. No condition. (part 5) -/
import Derived.Test.YtfhbmblbidcmmaaGreatWa4
import Derived.Deep.RegionHeld3
import Derived.Deep.DrawnRows
set_option linter.all false
set_option maxRecDepth 100000
set_option maxHeartbeats 4000000
namespace Go.Proofs.YtfhbmblbidcmmaaGreat
open Go.RowKit Go.Sl Go.Dk
attribute [go_sem ↓] Go.wp_at_zero Go.wp_at_succ
def lens(ns:List Nf):Nat:=(ns.map fun n=>n.f.now.length).sum
theorem TU(ns:List Nf):sum (Ct ns)=lens ns:=by simp[sum,Ct,lens,Function.comp_def]
theorem Kb{ns a:List Nf}(h:ns.Perm a):lens ns=lens a:=(h.map _).sum_nat
theorem Hr(n:Nf)(l:List Nf):lens (n::l)=n.f.now.length+lens l:=by simp[lens]
theorem eB{D M:Nat}{ns:List Nf}{pv:Value}{ps:List Np}{d:Dk}{n:Nf}(h:n∈ns): ∃R,Bs ns=CE n*R:=by
 obtain ⟨l1,l2,rfl⟩:=List.append_of_mem h
 exact ⟨Bs l1*Bs l2,by rw[CF,Bs];ac_rfl⟩
theorem MP{e s:Nat}{v:Value}{xs:List Value}{F:Ab}{w:World}(hs:Sat (rw e s v xs*F) w): ∃a n c,v= .slice a n c∧xs.length=n*s∧n≤c∧c≤9223372036854775807:=by
 rcases hs.Cr with ⟨h1,b,f⟩|⟨g,n',d,sp,h1,b,f,i,j,k⟩
 ·subst b;exact ⟨_,_,_,h1,by simp,by omega,by omega⟩
 exact ⟨_,_,_,h1,b,i,by simpa[maxLen] using j⟩
theorem GN{v:Value}{l:List UInt8}{F:Ab}{w:World}(hs:Sat (rw TB 1 v (A4 l)*F) w): ∃a c,v= .slice a l.length c∧l.length≤c∧c≤9223372036854775807:=by
 obtain ⟨a,n,c,h1,b,d,e⟩:=MP hs
 rw[Cc,Nat.mul_one] at b
 subst b
 exact ⟨a,c,h1,d,e⟩
theorem Yj(D M:Nat)(ns:List Nf)(pv:Value)(ps:List Np)(d:Dk)(F:Ab)(w:World)(hs:Sat (BC D M ns pv ps d*F) w)(hb:lens ns≤4611686018427387904):
 Calls Tryz.prog 103 #[.pointer (some ⟨D,0,none⟩)] w fun e w'=>e= .returned (.int .i64 (lens ns:Nat))∧Sat (BC D M ns pv ps d*F) w':=by
 have u:Sat (AY D M pv d*(mp DO M (ns.map Gg)*(Bs ns*Dt pv ps))*F) w:=hs
 unfold AY at u
 have c5:=u.c D 5
 obtain ⟨o,ho,G⟩:=(u.take (mp DO M (ns.map Gg))).Cx
 obtain ⟨Y,hI,t⟩:=IV (P:=Tryz.prog) Tryz.underlying148 G.obj ho
 have U:=G.CW Y
 have V:Sat (raw M o*(raw w.heap.size Y*(AY D M pv d*(Bs ns*Dt pv ps)*F))) (w.alloc Y):=U.eq (by unfold AY;ac_rfl)
 have HO:=As ho
 clear U G u hs ho
 go_enter Tryz.func103,Tryz.ntmps103
 go_wp2
 go_loopg [3] ns.length (fun k out wr=> ∃(g:Nat)(y:Obj)(a:List (ByteArray×Value))(r:List Nf),out= .int .i64 g∧Aside (k=a.length∧Iter DO M o y (ns.map Gg) a∧a.Perm (r.map Gg)∧(∀n∈r,n∈ns)∧g+lens r=lens ns)∧
  Sat (raw M o*(raw w.heap.size y*(AY D M pv d*(Bs ns*Dt pv ps)*F))) wr)
 case atStart=>exact ⟨0,Y,ns.map Gg,ns,rfl,⟨by simp,hI,.refl _,fun _ h=>h,by omega⟩,V⟩
 obtain ⟨g,y,a,r,rfl,A,H⟩:=hrel
 obtain ⟨K,s,hp,l,j⟩:=A.out
 clear hI V t c5
 rcases JI (P:=Tryz.prog) H s with ⟨T,z⟩|⟨i,k,v,I,w2,hi,z,J,W,X⟩
 · subst T
   have O:r= []:=by have:=hp.length_eq;simpa using this.symm
   subst O
   have HA:Aside (g=lens ns):=(by simpa[lens] using j:g=lens ns)
   have Z:=As s
   clear s A hp l j
   go_wp2
   go_ret
   refine ⟨by rw[←HA.out];rfl,?_⟩
   have p:=Sat.Eo Z.out.gQ H
   refine Sat.Dx (B:=raw w.heap.size y) (p.eq ?_)
   unfold BC
   ac_rfl
 obtain ⟨n,x,q,hx,Q⟩:=Qh hp hi
 have hn:n∈ns:=l n (q.mem_iff.2 (by simp))
 cases hx
 obtain ⟨R,hR⟩:=eB (D:=D) (M:=M) (pv:=pv) (ps:=ps) (d:=d) hn
 have p:Sat (CE n*(R*(raw M o*(raw w.heap.size I*(AY D M pv d*Dt pv ps*F))))) w2:=W.eq (by rw[hR];ac_rfl)
 unfold CE at p
 have c0:=p.c n.b 0
 obtain ⟨va,vc,hv,_⟩:=GN (p.take (rw TB 1 n.nv (A4 n.f.now)))
 rw[hv] at c0
 have L:(a.eraseIdx i).length<a.length:=by
  have:=(List.getElem?_eq_some_iff.1 hi).1
  rw[List.length_eraseIdx];split<;>omega
 have a7:g+n.f.now.length≤4611686018427387904:=by rw[Kb q,Hr] at j;omega
 have HL:Aside ((a.eraseIdx i).length<a.length∧gk=a.length):=⟨L,K⟩
 have Z:Aside (Iter DO M o I (ns.map Gg) (a.eraseIdx i)∧(a.eraseIdx i).Perm (x.map Gg)∧(∀m∈x,m∈ns)∧g+n.f.now.length+lens x=lens ns):=by
  refine ⟨J,Q,fun m hm=>l m (q.mem_iff.2 (by simp[hm])),?_⟩
  rw[Kb q,Hr] at j;omega
 clear s A L K J hi hp q Q l j p hR hn hv H
 go_wp2
 go_roundg (a.eraseIdx i).length
 case measure=>have:=HL.out;omega
 case rel=>exact ⟨g+n.f.now.length,I,_,x,by go_num,⟨rfl,Z.out⟩,W⟩
theorem My(D M:Nat)(ns:List Nf)(pv:Value)(ps:List Np)(d:Dk)(size:Int)(F:Ab)(w:World)(hs:Sat (BC D M ns pv ps d*F) w)(s:Ct ns=d.files)(hb:lens ns≤4611686018427387904)(h0:0≤size)(h1:size≤1152921504606846976):
 Calls Tryz.prog 69 #[.pointer (some ⟨D,0,none⟩),.pointer none,.int .i64 size] w fun e p=>e= .returned (.int .i64 (d.fits none size))∧Sat (BC D M ns pv ps d*F) p:=by
 have f:Sat (AY D M pv d*(mp DO M (ns.map Gg)*(Bs ns*Dt pv ps))*F) w:=hs
 unfold AY at f
 have c5:=f.c D 5
 obtain ⟨o,x,a⟩:=(f.take (mp DO M (ns.map Gg))).Cx
 have m:=fun B=>KZ (P:=Tryz.prog) Tryz.underlying148 a.obj x B
 rw[List.length_map] at m
 have l:d.files.length=ns.length:=by rw[←s];simp[Ct]
 have n:sum d.files=lens ns:=by rw[←s,TU]
 obtain ⟨r,v⟩: ∃r,Aside (d.fits none size=r):=⟨_,rfl⟩
 rw[v.out]
 have hr:=v.out
 unfold Dk.fits at hr
 rw[l,n] at hr
 clear f a x s l n
 by_cases b:16≤ns.length
 · have i:Aside (r=11):=(by rw[←hr];simp[b]:r=11)
   have k:(16:Int)≤ns.length:=by omega
   clear hr
   go_enter Tryz.func69,Tryz.ntmps69
   go_wp2
   go_ret
   exact ⟨by rw[i.out];rfl,hs⟩
 have k: ¬(16:Int)≤ns.length:=by omega
 by_cases y:0<size
 · have g:=Yj D M ns pv ps d F w.drew hs.drew hb
   have W1:IntKind.i64.wrap (lens ns:Nat)=(lens ns:Nat):=IntWalk.i64_in _ (by omega)
   have W2:=Bb ((lens ns:Nat)+size) (by omega)
   have c0:w.cell? ⟨D,0,none⟩=some (.int .i64 d.room):=by unfold BC AY at hs;exact hs.c D 0
   by_cases t:d.room<lens ns+size
   · have i:Aside (r=7):=by
      show r=7
      rw[←hr,if_neg (by simp[b]),if_pos]
      simp only[Bool.and_eq_true,decide_eq_true_eq];have q:Ff none=0:=rfl;omega
     clear hr hs
     go_enter Tryz.func69,Tryz.ntmps69
     go_wp2_with fail
     go_region_held3 (fun p=>p.cell? ⟨D,0,none⟩=some (.int .i64 d.room)) (first|exact j|exact c0|(simpa using c0)) (first|(go_at_call 103;refine g.mono ?_;rintro e u ⟨rfl,a⟩;have j:u.cell? ⟨D,0,none⟩=some (.int .i64 d.room):=(by unfold BC AY at a;exact a.c D 0)))
     all_goals
      go_wp2
      go_ret
      exact ⟨by rw[i.out];rfl,a⟩
   have i:Aside (r=0):=by
    show r=0
    rw[←hr,if_neg (by simp[b]),if_neg]
    simp only[Bool.and_eq_true,decide_eq_true_eq];have q:Ff none=0:=rfl;omega
   clear hr hs
   go_enter Tryz.func69,Tryz.ntmps69
   go_wp2_with fail
   go_region_held3 (fun p=>p.cell? ⟨D,0,none⟩=some (.int .i64 d.room)) (first|exact j|exact c0|(simpa using c0)) (first|(go_at_call 103;refine g.mono ?_;rintro e u ⟨rfl,a⟩;have j:u.cell? ⟨D,0,none⟩=some (.int .i64 d.room):=(by unfold BC AY at a;exact a.c D 0)))
   all_goals
    go_wp2
    go_ret
    exact ⟨by rw[i.out];rfl,a⟩
 have z:size=0:=by omega
 subst z
 have i:Aside (r=0):=by
  show r=0
  rw[←hr,if_neg (by simp[b]),if_neg]
  simp[Ff]
 clear hr
 go_enter Tryz.func69,Tryz.ntmps69
 go_wp2_with fail
 go_quiet (fail)
 go_wp2
 go_ret
 exact ⟨by rw[i.out];rfl,hs.drewN _⟩
theorem Mz(D M:Nat)(l1:List Nf)(n:Nf)(l2:List Nf)(pv:Value)(ps:List Np)(d:Dk)(size:Int)(F:Ab)(w:World)(hs:Sat (BC D M (l1++n::l2) pv ps d*F) w)(v:Ct (l1++n::l2)=d.files)(hb:lens (l1++n::l2)≤4611686018427387904)(h0:0≤size)(h1:size≤1152921504606846976):
 Calls Tryz.prog 69 #[.pointer (some ⟨D,0,none⟩),.pointer (some ⟨n.b,0,none⟩),.int .i64 size] w fun e o=>e= .returned (.int .i64 (d.fits (some n.f) size))∧Sat (BC D M (l1++n::l2) pv ps d*F) o:=by
 have g:=hs
 rw[CX] at g
 unfold CE at g
 have c1:=g.c n.b 0
 obtain ⟨z,B,x,_⟩:=GN (g.take (rw TB 1 n.nv (A4 n.f.now)))
 rw[x] at c1
 have m:sum d.files=lens (l1++n::l2):=by rw[←v,TU]
 have y:n.f.now.length≤lens (l1++n::l2):=by
  have:lens (l1++n::l2)=lens (n::(l1++l2)):=Kb List.perm_middle
  rw[this,Hr];omega
 obtain ⟨r,u⟩: ∃r,Aside (d.fits (some n.f) size=r):=⟨_,rfl⟩
 rw[u.out]
 have hr:=u.out
 unfold Dk.fits at hr
 rw[m] at hr
 have l:Ff (some n.f)=n.f.now.length:=rfl
 rw[l] at hr
 clear g v m x l
 generalize l1++n::l2=ns at*
 by_cases s:(n.f.now.length:Int)<size
 · have i:=Yj D M ns pv ps d F w.drew hs.drew hb
   have W1:=Bb ((lens ns:Nat)-(n.f.now.length:Nat)) (by omega)
   have W2:=Bb ((lens ns:Nat)-(n.f.now.length:Nat)+size) (by omega)
   have c0:w.cell? ⟨D,0,none⟩=some (.int .i64 d.room):=by unfold BC AY at hs;exact hs.c D 0
   by_cases p:d.room<(lens ns:Nat)-(n.f.now.length:Nat)+size
   · have k:Aside (r=7):=by
      show r=7
      rw[←hr,if_neg (by simp),if_pos]
      simp only[Bool.and_eq_true,decide_eq_true_eq];omega
     clear hr hs
     go_enter Tryz.func69,Tryz.ntmps69
     go_wp2_with fail
     go_region_held3 (fun o=>o.cell? ⟨D,0,none⟩=some (.int .i64 d.room)) (first|exact j|exact c0|(simpa using c0)) (first|(go_at_call 103;refine i.mono ?_;rintro e t ⟨rfl,a⟩;have j:t.cell? ⟨D,0,none⟩=some (.int .i64 d.room):=(by unfold BC AY at a;exact a.c D 0)))
     all_goals
      go_wp2
      go_ret
      exact ⟨by rw[k.out];rfl,a⟩
   have k:Aside (r=0):=by
    show r=0
    rw[←hr,if_neg (by simp),if_neg]
    simp only[Bool.and_eq_true,decide_eq_true_eq];omega
   clear hr hs
   go_enter Tryz.func69,Tryz.ntmps69
   go_wp2_with fail
   go_region_held3 (fun o=>o.cell? ⟨D,0,none⟩=some (.int .i64 d.room)) (first|exact j|exact c0|(simpa using c0)) (first|(go_at_call 103;refine i.mono ?_;rintro e t ⟨rfl,a⟩;have j:t.cell? ⟨D,0,none⟩=some (.int .i64 d.room):=(by unfold BC AY at a;exact a.c D 0)))
   all_goals
    go_wp2
    go_ret
    exact ⟨by rw[k.out];rfl,a⟩
 have q:decide ((n.f.now.length:Int)<size)=false:=by simpa using s
 have k:Aside (r=0):=by
  show r=0
  rw[←hr,if_neg (by simp),if_neg]
  simp[q]
 clear hr
 go_enter Tryz.func69,Tryz.ntmps69
 go_wp2_with fail
 go_quiet (fail)
 go_wp2
 go_ret
 exact ⟨by rw[k.out];rfl,hs.drewN _⟩
theorem P0(q:Np→Bool)(ps:List Np):B8 ps=B8 (ps.filter q)*B8 (ps.filter fun x=>!q x):=by
 induction ps with
 |nil=>simp[B8,Ay]
 | cons n l a =>
  rw[B8,a]
  cases h:q n
  ·simp only[List.filter_cons,h,Bool.not_false,if_true,Bool.false_eq_true,if_false,B8];ac_rfl
  simp only[List.filter_cons,h,Bool.not_true,if_true,Bool.false_eq_true,if_false,B8];ac_rfl
def others(nm:ByteArray)(ps:List Np):List Np:=ps.filter fun x=>x.p.nm !=nm
theorem IC(nm:ByteArray)(ps:List Np):DE (others nm ps)=(DE ps).filter fun p=>p.nm !=nm:=by
 simp[others,DE,List.filter_map,Function.comp_def]
theorem Ux(nm:ByteArray)(l:List Np)(x:Np):others nm (l++ [x])=if x.p.nm !=nm then others nm l++ [x] else others nm l:=by
 unfold others
 rw[List.filter_append]
 cases h:(x.p.nm !=nm)<;>simp[List.filter_cons,h]
theorem W4(nm:ByteArray)(l:List Np):(others nm l).length≤l.length:=List.length_filter_le _ _
theorem AB{α:Type}{l:List α}{i:Nat}{x:α}(h:l[i]?=some x):l.take (i+1)=l.take i++ [x]:=by
 obtain ⟨hi,rfl⟩:=List.getElem?_eq_some_iff.1 h
 rw[List.take_succ_eq_append_getElem hi]
theorem Mp(a b:ByteArray):(a !=b)=!(decide (a=b)):=by
 simp only[bne,bytes_beq]
theorem eZ{x:Np}{F:Ab}{w:World}(hs:Sat (KQ x*F) w): ∃a n c,x.v= .slice a n c:=by
 unfold KQ at hs
 cases hb:x.p.b with
 |none=>rw[hb] at hs;exact ⟨_,_,_,hs.Ib.1⟩
 | some l =>
  rw[hb] at hs
  rw[Az] at hs
  obtain ⟨g,n,c,h⟩:=hs.Ib.1
  exact ⟨_,_,_,h⟩
theorem Zu{ps:List Np}{x:Np}(h:x∈ps): ∃R,B8 ps=KQ x*R:=by
 obtain ⟨l1,l2,rfl⟩:=List.append_of_mem h
 exact ⟨B8 l1*B8 l2,by rw[J8,B8];ac_rfl⟩
theorem NG(D M:Nat)(pv:Value)(ps:List Np)(d:Dk)(nm:ByteArray)(F:Ab)(w:World)(hs:Sat (AY D M pv d*(Dt pv ps*F)) w)(hn:ps.length≤1099511627776):
 Calls Tryz.prog 70 #[.pointer (some ⟨D,0,none⟩),.string nm] w fun e w'=> ∃rv,e= .returned (.tuple #[])∧Sat (AY D M rv d*(Dt rv (others nm ps)*F)) w':=by
 obtain ⟨i0,E⟩:=j0
 have n:=hs
 unfold AY Dt at n
 have c6:=n.c D 6
 obtain ⟨y,pn,pc,rfl,L,aa,ab⟩:=MP (n.take (rw TP 3 pv (Cg ps)))
 rw[MG] at L
 obtain rfl:ps.length=pn:=by omega
 have O:Sat (AY D M (.slice y ps.length pc) d*(rw TP 3 (.slice y ps.length pc) (Cg ps)*(B8 ps*F))) w:=hs.eq (by unfold Dt;ac_rfl)
 clear n hs L
 go_enter Tryz.func70,Tryz.ntmps70
 go_wp2
 go_loopg [4,12] ps.length (fun k rest i wr=> ∃(j:Nat)(a:Option Addr)(c:Nat),i= .int .i64 j∧j≤ps.length∧Aside (k=ps.length-j)∧rest= .slice a (others nm (ps.take j)).length c∧
  Sat (rw TP 3 (.slice a (others nm (ps.take j)).length c) (Cg (others nm (ps.take j)))*(AY D M (.slice y ps.length pc) d*(rw TP 3 (.slice y ps.length pc) (Cg ps)*(B8 ps*F)))) wr)
 case atStart=>exact ⟨0,none,0,rfl,by omega,rfl,rfl,by simpa[others,Cg] using O.AG⟩
 obtain ⟨j,a,c,rfl,hj,A,rfl,b⟩:=hrel
 clear O c6
 by_cases W:j<ps.length
 · have J:(j:Int)<ps.length:=by omega
   obtain ⟨x,hx⟩: ∃x,ps[j]?=some x:=⟨ps[j],by simp[W]⟩
   obtain ⟨p0,p1,p2⟩:=aY hx
   obtain ⟨g,rfl,q0,_⟩:=(b.take (rw TP 3 (.slice y ps.length pc) (Cg ps))).WX p0
   obtain ⟨_,U,q1,_⟩:=(b.take (rw TP 3 (.slice (some ⟨g,0,none⟩) ps.length pc) (Cg ps))).WX p1
   cases U
   obtain ⟨_,e2,q2,_⟩:=(b.take (rw TP 3 (.slice (some ⟨g,0,none⟩) ps.length pc) (Cg ps))).WX p2
   cases e2
   obtain ⟨R,Y⟩:=Zu (List.mem_of_getElem? hx)
   obtain ⟨z,H,G,t⟩:=eZ (b.eq (B:=KQ x*(R*(rw TP 3 (.slice a (others nm (ps.take j)).length c) (Cg (others nm (ps.take j)))*(AY D M (.slice (some ⟨g,0,none⟩) ps.length pc) d*(rw TP 3 (.slice (some ⟨g,0,none⟩) ps.length pc) (Cg ps)*F))))) (by rw[Y];ac_rfl))
   rw[t] at q2
   have m:=b.alloc #[.string x.p.nm,.int .i64 x.p.pos,.slice z H G] TP
   have hl:=W4 nm (ps.take j)
   have a9:(ps.take j).length=j:=by simp;omega
   have T:Aside (others nm (ps.take (j+1))=if x.p.nm !=nm then others nm (ps.take j)++ [x] else others nm (ps.take j)):=(by rw[AB hx,Ux]:_=_)
   have HV:=As t
   clear hx p0 p1 p2 Y t
   by_cases v:x.p.nm=nm
   ·have l:Aside (others nm (ps.take (j+1))=others nm (ps.take j)):=(by rw[T.out,Mp,decide_eq_true v];rfl:_=_)
    have V:=jQ v
    clear T v
    go_wp2
    go_roundg (ps.length-(j+1))
    case measure=>have:=A.out;omega
    refine ⟨j+1,a,c,by go_num,by omega,rfl,by rw[l.out],?_⟩
    rw[l.out]
    exact m.right
   have l:Aside (others nm (ps.take (j+1))=others nm (ps.take j)++ [x]):=(by rw[T.out,Mp,decide_eq_false v];rfl:_=_)
   have V:=jR v
   clear T v
   have o:=m.alloc #[.string x.p.nm,.int .i64 x.p.pos,.slice z H G] TP
   have e0:(wr.alloc (.cells #[.string x.p.nm,.int .i64 x.p.pos,.slice z H G] TP)).heap.size=wr.heap.size+1:=by simp
   rw[e0] at o
   have Q:=o.take (rw TP 3 (.slice a (others nm (ps.take j)).length c) (Cg (others nm (ps.take j))))
   have q:=Src.new (P:=Tryz.prog) (s:=3) o rfl (by intro u Z;simp at Z;rcases Z with rfl|rfl|rfl<;>rfl)
   clear o m e0
   go_wp2_with (at_builtin;refine Af E rfl (.tmp 20) (.tmp 22) rfl rfl rfl Q q (by unfold maxLen;omega) (by omega) ?_;intro a' c' w' X K;clear K Q q)
   go_roundg (ps.length-(j+1))
   case measure=>have:=A.out;omega
   refine ⟨j+1,a',c',by go_num,by omega,rfl,by rw[l.out];simp,?_⟩
   rw[l.out,IG]
   have U:Cg [x]= [.string x.p.nm,.int .i64 x.p.pos,.slice z H G]:=by simp[Cg,Sy,HV.out]
   rw[U]
   simp only[List.length_append,List.length_cons,List.length_nil,Nat.zero_add]
   refine Sat.Dx (B:=block (wr.heap.size+1) TP [.string x.p.nm,.int .i64 x.p.pos,.slice z H G]*block wr.heap.size TP [.string x.p.nm,.int .i64 x.p.pos,.slice z H G]) (X.eq ?_)
   ac_rfl
 have J: ¬(j:Int)<ps.length:=by omega
 have r:ps.take j=ps:=List.take_of_length_le (by omega)
 rw[r] at b
 have I:=b
 unfold AY at I
 have f6:=I.f D 6
 have c6:=I.c D 6
 have m:=I.Kn D 6 (.slice a (others nm ps).length c)
 have HJ:=As r
 rw[HJ.out]
 clear I b r
 go_wp2
 go_end0
 refine ⟨rfl,.slice a (others nm ps).length c,?_⟩
 refine Sat.Dx (B:=rw TP 3 (.slice y ps.length pc) (Cg ps)*B8 (ps.filter fun x=>!(x.p.nm !=nm))) (m.eq ?_)
 unfold AY Dt
 rw[P0 (fun x=>x.p.nm !=nm) ps]
 show _=_*(_*B8 (ps.filter fun x=>x.p.nm !=nm)*_)*_
 ac_rfl
theorem o7(a:List UInt8)(k:Nat)(b:List UInt8):laid a k b=(a++List.replicate (k+b.length-a.length) 0).take k++b++(a++List.replicate (k+b.length-a.length) 0).drop (k+b.length):=by
 unfold laid
 congr 1
 by_cases h:k+b.length≤a.length
 ·have:k+b.length-a.length=0:=by omega
  simp[this]
 rw[List.drop_of_length_le (by omega),List.drop_of_length_le (by simp;omega)]
theorem XM(v:Value)(d:List UInt8)(k:Nat)(x:Value)(b:List UInt8)(B F:Ab)(u:Reads B x b)(w:World)(hs:Sat (rw TB 1 v (A4 d)*(B*F)) w)(h1:d.length≤35184372088832)(X:k+b.length≤35184372088832):
 Calls Tryz.prog 107 #[v,.int .i64 k,x] w fun e H=> ∃v',e= .returned v'∧Sat (rw TB 1 v' (A4 (laid d k b))*(B*F)) H:=by
 obtain ⟨i0,E⟩:=Dp
 obtain ⟨U,V,rfl,R,_⟩:=GN hs
 obtain ⟨Z,W,rfl,T,r⟩:=(u _ _ (hs.take B)).len
 have G:W≤9223372036854775807:=by simpa[maxLen] using r
 clear r
 go_enter Tryz.func107,Tryz.ntmps107
 go_wp2
 go_loopg [0] (k+b.length-d.length) (fun g t wr=> ∃(m:Nat)(a:Option Addr)(c:Nat),t= .slice a (d.length+m) c∧m≤k+b.length-d.length∧Aside (g=k+b.length-d.length-m)∧
  Sat (rw TB 1 (.slice a (d.length+m) c) (A4 (d++List.replicate m 0))*(B*F)) wr)
 case atStart=>exact ⟨0,U,V,rfl,by omega,rfl,by simpa using hs⟩
 obtain ⟨m,a,c,rfl,hm,A,f⟩:=hrel
 clear hs
 by_cases Q:d.length+m<k+b.length
 · have j:=f.alloc #[.int .u8 0] TB
   have q:=j.take (rw TB 1 (.slice a (d.length+m) c) (A4 (d++List.replicate m 0)))
   have i:=Src.Oi (P:=Tryz.prog) j rfl
   clear j
   go_wp2_with (at_builtin;refine Af E rfl (.tmp 14) (.tmp 15) rfl rfl rfl q i (by unfold maxLen;omega) (by omega) ?_;intro a' J H l p;clear p q i)
   go_roundg (k+b.length-d.length-(m+1))
   case measure=>have:=A.out;omega
   refine ⟨m+1,a',J,rfl,by omega,rfl,?_⟩
   rw[List.replicate_succ',←List.append_assoc,BL]
   refine Sat.Dx (B:=block wr.heap.size TB [.int .u8 0]) (l.eq ?_)
   show rw TB 1 _ (_++ [Value.int .u8 0])*_=_
   rw[show A4 [(0:UInt8)]= [Value.int .u8 0] from rfl]
   ac_rfl
 have O: ¬((d.length:Int)+m<k+b.length):=by omega
 obtain ⟨y,z⟩:d.length+m≤c∧c≤9223372036854775807:=by
  obtain ⟨_,_,_,K,_,L,M⟩:=MP f
  cases K
  exact ⟨L,M⟩
 have o:m=k+b.length-d.length:=by omega
 have I:=As o
 have s:k≤d.length+m:=by omega
 have hx:=u _ _ (f.take B)
 clear o
 have hcut:=E6 (P:=Tryz.prog) E (a:=a) (n:=d.length+m) (c:=c) k s
 obtain ⟨Y,D,l⟩:=LY (P:=Tryz.prog) E 26 3 (lo:=k) f hx (by omega)
 clear f hx
 go_wp2
 go_ret
 refine ⟨_,rfl,?_⟩
 rw[o7,←I.out,BL,BL,Oz,Oy]
 exact l
theorem Dl{e s:Nat}{F:Ab}{w:World}(hs:Sat F w):Sat (rw e s (.slice (some ⟨w.heap.size,0,none⟩) 0 0) []*F) (w.alloc (.cells #[] e)):=by
 have:=hs.alloc #[] e
 exact Sat.EA (sp:= []) (by simp) (by simp) (by omega) (by simp) this
theorem KD{D:Nat}{d:Dk}{nm:ByteArray}{t:Bool}{F:Ab}{w:World}(hs:Sat (Bv D d*F) w)(hm:d.may nm t=0)(a:(d.get nm).isSome=true):
 ∃M l1 n l2 pv ps,n.nm=nm∧(∀m∈l1,m.nm≠n.nm)∧Ct (l1++n::l2)=d.files∧DE ps=d.BN∧named nm=true∧d.down=false∧d.get nm=some n.f∧Sat (BC D M (l1++n::l2) pv ps d*F) w:=by
 obtain ⟨M,ns,pv,ps,h1,c,e⟩:=Sat.DG hs
 rcases Gj ns nm with ⟨l1,n,l2,rfl,g,b⟩|h
 ·rcases Hz d nm t with ⟨h,_⟩|⟨h,_⟩|⟨h,_⟩|⟨h,i,j,_⟩
  ·rw[h] at hm;cases hm
  ·rw[h] at hm;cases hm
  ·rw[h] at hm;cases hm
  subst g
  exact ⟨M,l1,n,l2,pv,ps,rfl,b,h1,c,i,j,by unfold Dk.get;rw[←h1,ED b],e⟩
 unfold Dk.get at a
 rw[←h1,FQ h] at a
 cases a
theorem LD{d:Dk}{nm:ByteArray}(h:d.may nm true=0):(d.get nm).isSome=true:=by
 rcases Hz d nm true with ⟨a,_⟩|⟨a,_⟩|⟨a,_⟩|⟨_,_,_,a⟩
 ·rw[a] at h;cases h
 ·rw[a] at h;cases h
 ·rw[a] at h;cases h
 exact a rfl
theorem Vg(D:Nat)(d:Dk)(nm:ByteArray)(F:Ab)(w:World)(hs:Sat (Bv D d*F) w)(j:nm.size≤9223372036854775807):
 Calls Tryz.prog 50 #[.pointer (some ⟨D,0,none⟩),.string nm] w fun e m=>e= .returned (.int .i64 (d.size nm))∧w=m:=by
 by_cases hm:d.may nm true=0
 ·obtain ⟨M,l1,n,l2,pv,ps,rfl,h1,l,k,o,p,r,a⟩:=KD hs hm (LD hm)
  have i:d.size n.nm=n.f.now.length:=by unfold Dk.size;rw[if_neg (by simp[hm]),r];rfl
  rw[i]
  have g:=Fo D M l1 n l2 pv ps d true F w a h1 j o p
  rw[CX] at a
  unfold CE at a
  have c0:=a.c n.b 0
  obtain ⟨t,u,s,_⟩:=GN (a.take (rw TB 1 n.nv (A4 n.f.now)))
  rw[s] at c0
  clear hs a hm l k o p r i s
  go_enter Tryz.func50,Tryz.ntmps50
  go_wp2_with (refine g.mono ?_;rintro e m ⟨rfl,rfl⟩)
  go_ret
  exact ⟨rfl,rfl⟩
 have i:d.size nm= -1:=by unfold Dk.size;rw[if_pos hm]
 rw[i]
 obtain ⟨M,ns,pv,ps,h1,l,k⟩:=Sat.DG hs
 have g:=Og D M ns pv ps d nm true F w k h1 j hm
 have hb:(d.may nm true !=0)=true:=by simpa using hm
 clear hs k h1 l i hm
 generalize d.may nm true=q at*
 go_enter Tryz.func50,Tryz.ntmps50
 go_wp2_with (refine g.mono ?_;rintro e m ⟨rfl,rfl⟩)
 go_ret
 exact ⟨rfl,rfl⟩
theorem P5(D:Nat)(d:Dk)(nm:ByteArray)(k n:Int)(F:Ab)(w:World)(hs:Sat (Bv D d*F) w)(J:nm.size≤9223372036854775807)(t: ∀p∈d.files,p.2.now.length≤Mo):
 Calls Tryz.prog 49 #[.pointer (some ⟨D,0,none⟩),.string nm,.int .i64 k,.int .i64 n] w fun e y=> ∃v,e= .returned (.tuple #[v,.int .i64 (d.read nm k n).1])∧Sat (rw TB 1 v (A4 (d.read nm k n).2)*(Bv D d*F)) y:=by
 by_cases hm:d.may nm true=0
 ·obtain ⟨M,l1,x,l2,pv,ps,rfl,h1,z,B,X,Y,O,i⟩:=KD hs hm (LD hm)
  have g:=Fo D M l1 x l2 pv ps d true F w i h1 J X Y
  have a5:x.f.now.length≤1099511627776:=t (x.nm,x.f) (by rw[←z];simp[Ct])
  rw[CX] at i
  unfold CE at i
  have c0:=i.c x.b 0
  obtain ⟨va,vc,K,a7,a8⟩:=GN (i.take (rw TB 1 x.nv (A4 x.f.now)))
  have l:=Reads.rw _ _ (i.take (rw TB 1 x.nv (A4 x.f.now)))
  rw[K] at c0 l
  by_cases hr:k<0∨n<0∨(x.f.now.length:Int)<k∨(x.f.now.length:Int)-k<n
  · have r:d.read x.nm k n=(2,[]):=by
     unfold Dk.read;rw[if_neg (by simp[hm]),O];simp only[Option.getD_some];rw[if_pos hr]
    rw[r]
    clear i hm z B X Y O r K l
    by_cases R:k<0
    · have T:decide (k<0)=true:=by simpa using R
      go_enter Tryz.func49,Tryz.ntmps49
      go_wp2_with (refine g.mono ?_;rintro e y ⟨rfl,rfl⟩)
      go_ret2
      exact ⟨_,rfl,by simpa[A4] using hs.AG⟩
    have T:decide (k<0)=false:=by simpa using R
    by_cases U:n<0
    · have V:decide (n<0)=true:=by simpa using U
      go_enter Tryz.func49,Tryz.ntmps49
      go_wp2_with (refine g.mono ?_;rintro e y ⟨rfl,rfl⟩)
      go_ret2
      exact ⟨_,rfl,by simpa[A4] using hs.AG⟩
    have V:decide (n<0)=false:=by simpa using U
    by_cases g3:(x.f.now.length:Int)<k
    · have W:decide ((x.f.now.length:Int)<k)=true:=by simpa using g3
      go_enter Tryz.func49,Tryz.ntmps49
      go_wp2_with (refine g.mono ?_;rintro e y ⟨rfl,rfl⟩)
      go_ret2
      exact ⟨_,rfl,by simpa[A4] using hs.AG⟩
    have W:decide ((x.f.now.length:Int)<k)=false:=by simpa using g3
    have g4:(x.f.now.length:Int)-k<n:=by omega
    go_enter Tryz.func49,Tryz.ntmps49
    go_wp2_with (refine g.mono ?_;rintro e y ⟨rfl,rfl⟩)
    go_ret2
    exact ⟨_,rfl,by simpa[A4] using hs.AG⟩
  obtain ⟨k,rfl⟩:=Int.eq_ofNat_of_zero_le (show 0≤k by omega)
  obtain ⟨n,rfl⟩:=Int.eq_ofNat_of_zero_le (show 0≤n by omega)
  have r:d.read x.nm k n=(0,(x.f.now.drop k).take n):=by
   unfold Dk.read;rw[if_neg (by simp[hm]),O];simp only[Option.getD_some];rw[if_neg hr];rfl
  rw[r]
  have R: ¬(x.f.now.length:Int)<k:=by omega
  have U: ¬(x.f.now.length:Int)-k<n:=by omega
  obtain ⟨i0,E⟩:=Dp
  have hcut:=DL (P:=Tryz.prog) E (a:=va) (n:=x.f.now.length) (c:=vc) k (k+n) (by omega) (by omega)
  have Q:k+n-k=n:=by omega
  rw[Int.natCast_add,Q] at hcut
  have u:=Dl (e:=TB) (s:=1) i
  have j:=Reads.rw _ _ (u.take (rw TB 1 x.nv (A4 x.f.now)))
  rw[K] at j
  have o:=j.cut k (k+n) (by omega) (by omega)
  rw[Q] at o
  have m:=o.src (P:=Tryz.prog)
  have G:((x.f.now.drop k).take n).length=n:=by simp;omega
  rw[G] at m
  have a6:x.b<w.heap.size:=World.block_lt_of_cell? w _ c0
  have HH:Aside (Ct (l1++x::l2)=d.files∧DE ps=d.BN∧x.nv= .slice va x.f.now.length vc):=⟨z,B,K⟩
  clear hs hm z B X Y O r K l j o i G Q
  go_enter Tryz.func49,Tryz.ntmps49
  go_wp2_with first|(at_builtin;refine Af E rfl (.tmp 47) (.tmp 56) rfl rfl rfl u m (by unfold maxLen;omega) (by omega) ?_;intro a' c' L I H;clear H u m)|(refine g.mono ?_;rintro e y ⟨rfl,rfl⟩)
  simp only[Nat.zero_add,List.nil_append] at I
  go_ret2
  refine ⟨_,rfl,?_⟩
  show Sat (rw TB 1 (.slice a' n c') _*_) L
  have Z:Sat (BC D M (l1++x::l2) pv ps d*(rw TB 1 (.slice a' n c') (A4 ((x.f.now.drop k).take n))*F)) L:=I.eq (by rw[CX];unfold CE;ac_rfl)
  exact (Sat.CY HH.out.1 HH.out.2.1 Z).eq (by ac_rfl)
 have r:d.read nm k n=(d.may nm true,[]):=by unfold Dk.read;rw[if_pos hm]
 rw[r]
 obtain ⟨M,ns,pv,ps,h1,z,B⟩:=Sat.DG hs
 have g:=Og D M ns pv ps d nm true F w B h1 J hm
 have hb:(d.may nm true !=0)=true:=by simpa using hm
 clear B h1 z r hm t
 generalize d.may nm true=q at*
 go_enter Tryz.func49,Tryz.ntmps49
 go_wp2_with (refine g.mono ?_;rintro e y ⟨rfl,rfl⟩)
 go_ret2
 exact ⟨_,rfl,by simpa[A4] using hs.AG⟩
theorem C1(D M:Nat)(ns:List Nf)(pv:Value)(ps:List Np)(d:Dk):BC D M ns pv ps d=AY D M pv d*(mp DO M (ns.map Gg)*(Bs ns*Dt pv ps)):=rfl
theorem cF(D:Nat)(d:Dk)(m:Nat)(nm:ByteArray)(F:Ab)(w:World)(hs:Sat (Bv D d*F) w)(H:nm.size≤9223372036854775807)(ok:Ok m d)(W:m≤Mo):
 Calls Tryz.prog 102 #[.pointer (some ⟨D,0,none⟩),.string nm] w fun e L=>e= .returned (.int .i64 (d.sync nm).1)∧Sat (Bv D (d.sync nm).2*F) L:=by
 have a0:m≤1099511627776:=W
 by_cases hm:d.may nm true=0
 ·obtain ⟨M,l1,x,l2,pv,ps,rfl,h1,u,r,T,U,V,a⟩:=KD hs hm (LD hm)
  have g:=Fo D M l1 x l2 pv ps d true F w a h1 H T U
  cases i:d.stop with
  | true =>
   have p:d.sync x.nm=(8, { d with down:=true }):=by unfold Dk.sync;rw[if_neg (by simp[hm]),if_pos i]
   rw[p]
   have n:=Jp D M pv d _ w (a.eq (by rw[C1,Az])) i
   have J:Aside (Ct (l1++x::l2)=d.files∧DE ps=d.BN):=⟨u,r⟩
   clear hs hm u r T U V p a i ok
   go_enter Tryz.func102,Tryz.ntmps102
   go_wp2_with fail
   refine g.mono ?_
   rintro e L ⟨rfl,rfl⟩
   go_wp2_with fail
   refine n.mono ?_
   rintro e O ⟨rfl,a⟩
   go_wp2
   go_ret
   refine ⟨rfl,Sat.CY (M:=M) (pv:=pv) (d:= { d with down:=true }) J.out.1 J.out.2 (a.eq ?_)⟩
   rw[C1]
   ac_rfl
  | false =>
   have p:d.sync x.nm=(0,(d.BV.put x.nm { x.f with safe:=x.f.now,sure:=true }).settled x.nm):=by
    unfold Dk.sync;rw[if_neg (by simp[hm]),if_neg (by simp[i]),V];rfl
   rw[p]
   have y:=(ok.sz (x.nm,x.f) (by rw[←u];simp[Ct])).1
   have a1:x.f.now.length≤1099511627776:=y
   have X:ps.length≤1099511627776:=by have:=ok.BN;rw[←r] at this;simp[DE] at this;omega
   have n:=Mr D M pv d _ w (a.eq (by rw[C1,Az])) i (by have:=ok.left;omega) ok.left.2 ok.changes.1 (by have:=ok.changes;omega)
   have J:Aside (Ct (l1++x::l2)=d.files∧DE ps=d.BN∧(∀m∈l1,m.nm≠x.nm)):=⟨u,r,h1⟩
   obtain ⟨i0,E⟩:=Dp
   clear hs hm u r T U V p a i ok y
   go_enter Tryz.func102,Tryz.ntmps102
   go_wp2_with fail
   refine g.mono ?_
   rintro e L ⟨rfl,rfl⟩
   go_wp2_with fail
   refine n.mono ?_
   rintro e O ⟨rfl,a⟩
   clear g n
   have k:Sat (CE x*(K0 D M l1 x l2 pv ps d.BV*F)) O:=a.eq (by rw[←Az (CE x),←CX,C1];ac_rfl)
   unfold CE at k
   have c0:=k.c x.b 0
   have a8:x.b<O.heap.size:=World.block_lt_of_cell? O _ c0
   obtain ⟨va,vc,hv,ab,ac⟩:=GN (k.take (rw TB 1 x.nv (A4 x.f.now)))
   have v:=Dl (e:=TB) (s:=1) k
   have j:=Reads.rw _ _ (v.take (rw TB 1 x.nv (A4 x.f.now)))
   rw[hv] at c0 j
   have t:=j.src (P:=Tryz.prog)
   clear a k j
   go_wp2_with (at_builtin;refine Af E rfl (.tmp 22) (.tmp 26) rfl rfl rfl v t (by unfold maxLen;omega) (by omega) ?_;intro a' K w2 l z;simp only[Nat.zero_add,List.nil_append] at l;have k1:=l.c x.b 1;have f1:=l.f x.b 1;have o:=l.Kn x.b 1 (.slice a' x.f.now.length K);have k2:=o.c x.b 2;have f2:=o.f x.b 2;have Y:=o.Kn x.b 2 (.bool true);clear v t z l o)
   have G:=NG D M pv ps d.BV x.nm (CE { x with f:= { x.f with safe:=x.f.now,sure:=true },sv:= .slice a' x.f.now.length K } *(mp DO M ((l1++x::l2).map Gg)*(Bs l1*(Bs l2*F)))) _ (Sat.Dx (B:=rw TB 1 x.sv (A4 x.f.safe)) (Y.eq (by unfold K0 CE;ac_rfl))) X
   refine G.mono ?_
   rintro e w3 ⟨I,rfl,Z⟩
   go_wp2
   go_ret
   refine ⟨rfl,?_⟩
   obtain ⟨g1,g2,g3⟩:=J.out
   have e5:Ct (l1++ { x with f:= { x.f with safe:=x.f.now,sure:=true },sv:= .slice a' x.f.now.length K } ::l2)=D9 x.nm { x.f with safe:=x.f.now,sure:=true } d.files:=by
    rw[←g1,KE _ g3]
    simp[Ct]
   refine Sat.CY (M:=M) (ns:=l1++ { x with f:= { x.f with safe:=x.f.now,sure:=true },sv:= .slice a' x.f.now.length K } ::l2) (pv:=I) (ps:=others x.nm ps) e5 (by rw[IC,g2];rfl) (Z.eq ?_)
   rw[CX]
   have e6: ∀(Q:Nf)(R:Dk),Q.b=x.b→Q.nm=x.nm→K0 D M l1 Q l2 I (others x.nm ps) R=K0 D M l1 x l2 I (others x.nm ps) R:=fun Q R hb hn=>bN hb.symm hn.symm
   rw[e6]
   · unfold K0
     show AY D M I d.BV*_=_*(AY D M I d.BV*_)*_
     ac_rfl
   · rfl
   rfl
 have p:d.sync nm=(d.may nm true,d):=by unfold Dk.sync;rw[if_pos hm]
 rw[p]
 obtain ⟨M,ns,pv,ps,h1,u,r⟩:=Sat.DG hs
 have g:=Og D M ns pv ps d nm true F w r h1 H hm
 have hb:(d.may nm true !=0)=true:=by simpa using hm
 have a7:(d.may nm true==0)=false:=by simpa using hm
 clear r h1 u p hm ok
 generalize d.may nm true=q at*
 go_enter Tryz.func102,Tryz.ntmps102
 go_wp2_with (refine g.mono ?_;rintro e L ⟨rfl,rfl⟩)
 go_ret
 exact ⟨rfl,hs⟩
theorem LS(ps:List Np)(x:Np):B8 (ps++ [x])=B8 ps*KQ x:=by rw[J8];simp[B8,Bg]
def X6(D M:Nat)(d:Dk):Ab:=
 Ev D TD 7*(Sl.cell D 0 (.int .i64 d.room)*(Sl.cell D 1 (.int .i64 d.changes)*(Sl.cell D 2 (.int .i64 d.left)*(Sl.cell D 3 (.bool d.FZ)*(Sl.cell D 4 (.bool d.down)*Sl.cell D 5 (.map (some M)))))))
theorem NZ(D M:Nat)(pv:Value)(d:Dk):AY D M pv d=Sl.cell D 6 pv*X6 D M d:=by unfold AY X6;ac_rfl
theorem Hs{M D:Nat}{ms:List (ByteArray×Value)}(nm:ByteArray){b d:Option Addr}{c e:Nat}{l:List UInt8}{B G:Ab}{w:World}
 (hs:Sat (rw TB 1 (.slice b l.length c) (A4 l)*(rw TB 1 (.slice d l.length e) (A4 l)*(B*(Sl.cell D 5 (.map (some M))*(mp DO M ms*G))))) w):
 ∃k,(Instr.mapUpdate jZ (.map (some M)) (.string nm) (.pointer (some ⟨w.heap.size,0,none⟩))).run Tryz.prog (w.alloc (.cells #[.slice b l.length c,.slice d l.length e,.bool true] TF))= .ok () k∧
  Sat (CE ⟨w.heap.size,nm,⟨l,l,true⟩,.slice b l.length c,.slice d l.length e⟩*(mp DO M (CT nm (.pointer (some ⟨w.heap.size,0,none⟩)) ms)*(B*(Sl.cell D 5 (.map (some M))*G)))) k:=by
 have g:=hs.alloc #[.slice b l.length c,.slice d l.length e,.bool true] TF
 obtain ⟨o,m,a⟩:=(g.take (mp DO M ms)).Cx
 obtain ⟨o',f,j⟩:=CJ (P:=Tryz.prog) RW Tryz.underlying148 a.obj m nm (.pointer (some ⟨w.heap.size,0,none⟩))
 refine ⟨_,j,?_⟩
 have i:=Sat.Eo f (a.GZ o')
 refine i.eq ?_
 unfold CE
 simp only[block,Sl.cells,Bg,List.length_cons,List.length_nil,Nat.zero_add,Nat.reduceAdd]
 ac_rfl
def S'(D:Nat)(pv:Value)(d:Dk):Ab:=
 Ev D TD 7*(Sl.cell D 0 (.int .i64 d.room)*(Sl.cell D 1 (.int .i64 d.changes)*(Sl.cell D 2 (.int .i64 d.left)*(Sl.cell D 3 (.bool d.FZ)*(Sl.cell D 4 (.bool d.down)*Sl.cell D 6 pv)))))
theorem X5(D M:Nat)(pv:Value)(d:Dk):AY D M pv d=Sl.cell D 5 (.map (some M))*S' D pv d:=by unfold AY S';ac_rfl
theorem QN(D M:Nat)(ns:List Nf)(pv:Value)(ps:List Np)(d:Dk)(nm:ByteArray)(fv:Value)(v:Value)(l:List UInt8)(B F:Ab)(w:World)(u:Reads B v l)(hs:Sat (BC D M ns pv ps d*(B*F)) w)
 (a1:nm.size≤9223372036854775807) (hn:named nm=true) (hl:l.length≤35184372088832) (hp:ps.length≤1099511627776)
 (T:(Instr.lookup jZ (.map (some M)) (.string nm) false).run Tryz.prog w= .ok fv w)
 (K:Calls Tryz.prog 69 #[.pointer (some ⟨D,0,none⟩),fv,.int .i64 l.length] w fun e W=>e= .returned (.int .i64 0)∧Sat (BC D M ns pv ps d*(B*F)) W):
 Calls Tryz.prog 15 #[.pointer (some ⟨D,0,none⟩),.string nm,v] w fun e W=> ∃b V nv sv,e= .returned (.int .i64 0)∧
  Sat (AY D M V d*(Dt V (others nm ps)*(CE ⟨b,nm,⟨l,l,true⟩,nv,sv⟩*(mp DO M (CT nm (.pointer (some ⟨b,0,none⟩)) (ns.map Gg))*(Bs ns*(B*F)))))) W:=by
 have U:=FU nm w a1
 rw[hn] at U
 obtain ⟨xa,xc,rfl,a7,a8⟩:=(u _ _ (hs.take B)).len
 obtain ⟨i0,E⟩:=Dp
 have c5:w.cell? ⟨D,5,none⟩=some (.map (some M)):=by unfold BC AY at hs;exact hs.c D 5
 clear hs hn
 go_enter Tryz.func15,Tryz.ntmps15
 go_wp2_with fail
 refine U.mono ?_
 rintro e W ⟨rfl,rfl⟩
 go_wp2_with fail
 refine K.mono ?_
 rintro e w1 ⟨rfl,X⟩
 have Q:=NG D M pv ps d nm (mp DO M (ns.map Gg)*(Bs ns*(B*F))) w1 (X.eq (by unfold BC;ac_rfl)) hp
 clear U T K c5 X
 go_wp2_with fail
 refine Q.mono ?_
 rintro e n ⟨V,rfl,Y⟩
 clear Q
 go_wp2_with fail
 obtain ⟨G,HG⟩: ∃G,Aside (S' D V d*(Dt V (others nm ps)*(Bs ns*F))=G):=⟨_,rfl⟩
 have Z:Sat (B*(Sl.cell D 5 (.map (some M))*(mp DO M (ns.map Gg)*G))) n:=Y.eq (by rw[←HG.out,X5];ac_rfl)
 have g5:=Z.c D 5
 have hD:D<n.heap.size:=World.block_lt_of_cell? _ _ g5
 clear Y
 have R:=(Dl (e:=TB) (s:=1) Z)
 have P:=(Dl (e:=TB) (s:=1) R).drew
 have R:=R.drew
 have e1:(n.alloc (.cells #[] TB)).heap.size=n.heap.size+1:=by simp
 rw[e1] at P
 have j1:=R.c D 5
 have j2:=P.c D 5
 clear e1
 go_region_held3 (fun W=>W.cell? ⟨D,5,none⟩=some (.map (some M))) (first|exact z|exact g|exact y|exact H|exact x|exact j1|exact j2|exact g5) (first
  |(refine A6 E rfl (.tmp 36) (.tmp 37) rfl rfl rfl (R) ((u _ _ (R.take B)).src) (by unfold maxLen;omega) (by omega) ?_;intro o p O a i;simp only[Nat.zero_add,List.nil_append] at a;have H:=a.c D 5;have x:=(Dl (e:=TB) (s:=1) a).c D 5;have I:D<O.heap.size:=World.block_lt_of_cell? _ _ H;clear i)
  |(refine A6 E rfl (.tmp 36) (.tmp 37) rfl rfl rfl (P.take (rw TB 1 (.slice (some ⟨n.heap.size,0,none⟩) 0 0) [])) ((u _ _ (P.take B)).src) (by unfold maxLen;omega) (by omega) ?_;intro o p O a i;simp only[Nat.zero_add,List.nil_append] at a;have H:=a.c D 5;have x:=(Dl (e:=TB) (s:=1) a).c D 5;have I:D<O.heap.size:=World.block_lt_of_cell? _ _ H;clear i)
  |(refine A6 E rfl (.tmp 36) (.tmp 37) rfl rfl rfl (P) ((u _ _ (P.take B)).src) (by unfold maxLen;omega) (by omega) ?_;intro o p O a i;simp only[Nat.zero_add,List.nil_append] at a;have H:=a.c D 5;have x:=(Dl (e:=TB) (s:=1) a).c D 5;have I:D<O.heap.size:=World.block_lt_of_cell? _ _ H;clear i)
  |(refine A6 E rfl (.tmp 39) (.tmp 40) rfl rfl rfl (R) ((u _ _ (R.take B)).src) (by unfold maxLen;omega) (by omega) ?_;intro q r O a i;simp only[Nat.zero_add,List.nil_append] at a;have H:=a.c D 5;have x:=(Dl (e:=TB) (s:=1) a).c D 5;have I:D<O.heap.size:=World.block_lt_of_cell? _ _ H;clear i)
  |(refine A6 E rfl (.tmp 39) (.tmp 40) rfl rfl rfl (P.take (rw TB 1 (.slice (some ⟨n.heap.size,0,none⟩) 0 0) [])) ((u _ _ (P.take B)).src) (by unfold maxLen;omega) (by omega) ?_;intro q r O a i;simp only[Nat.zero_add,List.nil_append] at a;have H:=a.c D 5;have x:=(Dl (e:=TB) (s:=1) a).c D 5;have I:D<O.heap.size:=World.block_lt_of_cell? _ _ H;clear i)
  |(refine A6 E rfl (.tmp 39) (.tmp 40) rfl rfl rfl (P) ((u _ _ (P.take B)).src) (by unfold maxLen;omega) (by omega) ?_;intro q r O a i;simp only[Nat.zero_add,List.nil_append] at a;have H:=a.c D 5;have x:=(Dl (e:=TB) (s:=1) a).c D 5;have I:D<O.heap.size:=World.block_lt_of_cell? _ _ H;clear i)
  |(refine A6 E rfl (.tmp 36) (.tmp 37) rfl rfl rfl (Dl (e:=TB) (s:=1) a) ((u _ _ ((Dl (e:=TB) (s:=1) a).take B)).src) (by unfold maxLen;omega) (by omega) ?_;intro o p t k j;simp only[Nat.zero_add,List.nil_append] at k;have m:Sat (rw TB 1 (.slice o l.length p) (A4 l)*(rw TB 1 (.slice q l.length r) (A4 l)*(B*(Sl.cell D 5 (.map (some M))*(mp DO M (ns.map Gg)*G))))) t:=k.eq (by ac_rfl);clear j;obtain ⟨w5,L,f⟩:=Hs nm m;have z:=f.c D 5;have g:=m.c D 5;have y:=(m.alloc #[.slice o l.length p,.slice q l.length r,.bool true] TF).c D 5;have J:D<t.heap.size:=World.block_lt_of_cell? _ _ g;clear a k)
  |(refine A6 E rfl (.tmp 36) (.tmp 37) rfl rfl rfl (a.take (rw TB 1 (.slice (some ⟨n.heap.size,0,none⟩) 0 0) [])) ((u _ _ (a.take B)).src) (by unfold maxLen;omega) (by omega) ?_;intro o p t k j;simp only[Nat.zero_add,List.nil_append] at k;have m:Sat (rw TB 1 (.slice o l.length p) (A4 l)*(rw TB 1 (.slice q l.length r) (A4 l)*(B*(Sl.cell D 5 (.map (some M))*(mp DO M (ns.map Gg)*G))))) t:=k.eq (by ac_rfl);clear j;obtain ⟨w5,L,f⟩:=Hs nm m;have z:=f.c D 5;have g:=m.c D 5;have y:=(m.alloc #[.slice o l.length p,.slice q l.length r,.bool true] TF).c D 5;have J:D<t.heap.size:=World.block_lt_of_cell? _ _ g;clear a k)
  |(refine A6 E rfl (.tmp 36) (.tmp 37) rfl rfl rfl (a.take (rw TB 1 (.slice (some ⟨n.heap.size+1,0,none⟩) 0 0) [])) ((u _ _ (a.take B)).src) (by unfold maxLen;omega) (by omega) ?_;intro o p t k j;simp only[Nat.zero_add,List.nil_append] at k;have m:Sat (rw TB 1 (.slice o l.length p) (A4 l)*(rw TB 1 (.slice q l.length r) (A4 l)*(B*(Sl.cell D 5 (.map (some M))*(mp DO M (ns.map Gg)*G))))) t:=k.eq (by ac_rfl);clear j;obtain ⟨w5,L,f⟩:=Hs nm m;have z:=f.c D 5;have g:=m.c D 5;have y:=(m.alloc #[.slice o l.length p,.slice q l.length r,.bool true] TF).c D 5;have J:D<t.heap.size:=World.block_lt_of_cell? _ _ g;clear a k)
  |(refine A6 E rfl (.tmp 39) (.tmp 40) rfl rfl rfl (Dl (e:=TB) (s:=1) a) ((u _ _ ((Dl (e:=TB) (s:=1) a).take B)).src) (by unfold maxLen;omega) (by omega) ?_;intro q r t k j;simp only[Nat.zero_add,List.nil_append] at k;have m:Sat (rw TB 1 (.slice o l.length p) (A4 l)*(rw TB 1 (.slice q l.length r) (A4 l)*(B*(Sl.cell D 5 (.map (some M))*(mp DO M (ns.map Gg)*G))))) t:=k.eq (by ac_rfl);clear j;obtain ⟨w5,L,f⟩:=Hs nm m;have z:=f.c D 5;have g:=m.c D 5;have y:=(m.alloc #[.slice o l.length p,.slice q l.length r,.bool true] TF).c D 5;have J:D<t.heap.size:=World.block_lt_of_cell? _ _ g;clear a k)
  |(refine A6 E rfl (.tmp 39) (.tmp 40) rfl rfl rfl (a.take (rw TB 1 (.slice (some ⟨n.heap.size,0,none⟩) 0 0) [])) ((u _ _ (a.take B)).src) (by unfold maxLen;omega) (by omega) ?_;intro q r t k j;simp only[Nat.zero_add,List.nil_append] at k;have m:Sat (rw TB 1 (.slice o l.length p) (A4 l)*(rw TB 1 (.slice q l.length r) (A4 l)*(B*(Sl.cell D 5 (.map (some M))*(mp DO M (ns.map Gg)*G))))) t:=k.eq (by ac_rfl);clear j;obtain ⟨w5,L,f⟩:=Hs nm m;have z:=f.c D 5;have g:=m.c D 5;have y:=(m.alloc #[.slice o l.length p,.slice q l.length r,.bool true] TF).c D 5;have J:D<t.heap.size:=World.block_lt_of_cell? _ _ g;clear a k)
  |(refine A6 E rfl (.tmp 39) (.tmp 40) rfl rfl rfl (a.take (rw TB 1 (.slice (some ⟨n.heap.size+1,0,none⟩) 0 0) [])) ((u _ _ (a.take B)).src) (by unfold maxLen;omega) (by omega) ?_;intro q r t k j;simp only[Nat.zero_add,List.nil_append] at k;have m:Sat (rw TB 1 (.slice o l.length p) (A4 l)*(rw TB 1 (.slice q l.length r) (A4 l)*(B*(Sl.cell D 5 (.map (some M))*(mp DO M (ns.map Gg)*G))))) t:=k.eq (by ac_rfl);clear j;obtain ⟨w5,L,f⟩:=Hs nm m;have z:=f.c D 5;have g:=m.c D 5;have y:=(m.alloc #[.slice o l.length p,.slice q l.length r,.bool true] TF).c D 5;have J:D<t.heap.size:=World.block_lt_of_cell? _ _ g;clear a k))
 all_goals
  go_wp2
  go_ret
  exact ⟨t.heap.size,V,.slice o l.length p,.slice q l.length r,rfl,f.eq (by rw[←HG.out,X5];ac_rfl)⟩
theorem Uo{l1:List Nf}{n n':Nf}{l2:List Nf}(h: ∀m∈l1,m.nm≠n.nm)(a:n'.nm=n.nm):CT n.nm (.pointer (some ⟨n'.b,0,none⟩)) ((l1++n::l2).map Gg)=(l1++n'::l2).map Gg:=by
 induction l1 with
 |nil=>simp[Gg,CT,a]
 | cons m l c =>
  show (if n.nm=m.nm then _ else _)=_
  rw[if_neg (fun e=>h m (by simp) e.symm)]
  have:=c fun m hm=>h m (by simp[hm])
  simp only[List.map_cons,List.cons_append,this]
  exact congrArg _ this
theorem Pk{ns:List Nf}{n':Nf}(h: ∀m∈ns,m.nm≠n'.nm):CT n'.nm (.pointer (some ⟨n'.b,0,none⟩)) (ns.map Gg)=(ns++ [n']).map Gg:=by
 rw[LG (Ph h)];simp[Gg]
theorem XP{m:Nat}{d:Dk}{ns:List Nf}(ok:Ok m d)(a:Ct ns=d.files):lens ns≤17592186044416:=by
 have h1: ∀l:List Nf,(∀n∈l,n.f.now.length≤1099511627776)→lens l≤l.length*1099511627776:=by
  intro l
  induction l with
  |nil=>intro _;simp[lens]
  | cons n l e =>
   intro h
   have:=e fun m hm=>h m (by simp[hm])
   have:=h n (by simp)
   rw[Hr,List.length_cons]
   omega
 have g:=h1 ns fun n c=>(ok.sz (n.nm,n.f) (by rw[←a];exact List.mem_map.2 ⟨n,c,rfl⟩)).1
 have b:ns.length≤16:=by have:=ok.nf;rw[←a] at this;simpa[Ct] using this
 have i:ns.length*1099511627776≤16*1099511627776:=Nat.mul_le_mul_right _ b
 omega
theorem TW(D:Nat)(d:Dk)(m:Nat)(nm:ByteArray)(v:Value)(l:List UInt8)(B F:Ab)(w:World)(L:Reads B v l)(hs:Sat (Bv D d*(B*F)) w)(t:nm.size≤9223372036854775807)(hl:l.length≤35184372088832)(ok:Ok m d)(O:m≤Mo):
 Calls Tryz.prog 15 #[.pointer (some ⟨D,0,none⟩),.string nm,v] w fun e n=>e= .returned (.int .i64 (d.load nm l).1)∧Sat (Bv D (d.load nm l).2*(B*F)) n:=by
 have P:m≤1099511627776:=O
 obtain ⟨U,V,rfl,R,T⟩:=(L _ _ (hs.take B)).len
 obtain ⟨M,ns,pv,ps,h1,u,p⟩:=Sat.DG hs
 have Q:=XP ok h1
 have G:ps.length≤1099511627776:=by have:=ok.BN;rw[←u] at this;simp[DE] at this;omega
 have c5:w.cell? ⟨D,5,none⟩=some (.map (some M)):=by unfold BC AY at p;exact p.c D 5
 cases j:named nm with
 | false =>
  have o:d.load nm l=(1,d):=by unfold Dk.load;rw[if_pos j]
  rw[o]
  have k:=FU nm w t
  rw[j] at k
  clear h1 u p ok j o
  go_enter Tryz.func15,Tryz.ntmps15
  go_wp2_with fail
  refine k.mono ?_
  rintro e n ⟨rfl,rfl⟩
  go_wp2
  go_ret
  exact ⟨rfl,hs⟩
 | true =>
  have bad: ∀(I:Value)(q:Int),q≠0→(Instr.lookup jZ (.map (some M)) (.string nm) false).run Tryz.prog w= .ok I w→
   (Calls Tryz.prog 69 #[.pointer (some ⟨D,0,none⟩),I,.int .i64 l.length] w fun e n=>e= .returned (.int .i64 q)∧Sat (BC D M ns pv ps d*(B*F)) n)→
   Calls Tryz.prog 15 #[.pointer (some ⟨D,0,none⟩),.string nm,.slice U l.length V] w fun e n=>e= .returned (.int .i64 q)∧Sat (BC D M ns pv ps d*(B*F)) n:=by
   intro I q hq g a
   have k:=FU nm w t
   rw[j] at k
   have hb:(q !=0)=true:=by simpa using hq
   clear h1 u p ok j hs hq
   go_enter Tryz.func15,Tryz.ntmps15
   go_wp2_with fail
   refine k.mono ?_
   rintro e n ⟨rfl,rfl⟩
   go_wp2_with fail
   refine a.mono ?_
   rintro e W ⟨rfl,i⟩
   go_wp2
   go_ret
   exact ⟨rfl,i⟩
  rcases Gj ns nm with ⟨l1,x,l2,rfl,rfl,r⟩|r
  · have z:d.get x.nm=some x.f:=by unfold Dk.get;rw[←h1,ED r]
    have g:=Ns (F:=AY D M pv d*(Bs (l1++x::l2)*(Dt pv ps*(B*F)))) (p.eq (by unfold BC;ac_rfl)) r
    have a:=Mz D M l1 x l2 pv ps d l.length (B*F) w p h1 (by omega) (by omega) (by omega)
    by_cases s:d.fits (some x.f) l.length=0
    ·rw[s] at a
     have o:d.load x.nm l=(0,(d.settled x.nm).put x.nm ⟨l,l,true⟩):=by unfold Dk.load;rw[if_neg (by simp[j]),z,if_neg (by simp[s])]
     rw[o]
     refine (QN D M _ pv ps d x.nm _ _ l B F w L p t j hl G g a).mono ?_
     rintro e n ⟨b,y,nv,sv,rfl,i⟩
     refine ⟨rfl,?_⟩
     refine Sat.CY (M:=M) (ns:=l1++⟨b,x.nm,⟨l,l,true⟩,nv,sv⟩::l2) (pv:=y) (ps:=others x.nm ps) ?_ (by rw[IC,u];rfl) ?_
     ·show _=D9 x.nm ⟨l,l,true⟩ d.files
      rw[←h1,KE _ r];simp[Ct]
     have H:=Uo (n':=⟨b,x.nm,⟨l,l,true⟩,nv,sv⟩) (l2:=l2) r rfl
     rw[H] at i
     refine Sat.Dx (B:=CE x) (i.eq ?_)
     rw[C1,CF,CF,Bs,Bs]
     show AY D M y d*_=AY D M y d*_*_*_
     ac_rfl
    have o:d.load x.nm l=(d.fits (some x.f) l.length,d):=by unfold Dk.load;rw[if_neg (by simp[j]),z,if_pos s]
    rw[o]
    exact (bad _ _ s g a).mono fun e n ⟨J,K⟩=>⟨J,Sat.CY h1 u K⟩
  have z:d.get nm=none:=by unfold Dk.get;rw[←h1,FQ r]
  have g:=KJ (F:=AY D M pv d*(Bs ns*(Dt pv ps*(B*F)))) (p.eq (by unfold BC;ac_rfl)) r
  have a:=My D M ns pv ps d l.length (B*F) w p h1 (by omega) (by omega) (by omega)
  by_cases s:d.fits none l.length=0
  · rw[s] at a
    have o:d.load nm l=(0,(d.settled nm).put nm ⟨l,l,true⟩):=by unfold Dk.load;rw[if_neg (by simp[j]),z,if_neg (by simp[s])]
    rw[o]
    refine (QN D M _ pv ps d nm _ _ l B F w L p t j hl G g a).mono ?_
    rintro e n ⟨b,y,nv,sv,rfl,i⟩
    refine ⟨rfl,?_⟩
    refine Sat.CY (M:=M) (ns:=ns++ [⟨b,nm,⟨l,l,true⟩,nv,sv⟩]) (pv:=y) (ps:=others nm ps) ?_ (by rw[IC,u];rfl) ?_
    ·show _=D9 nm ⟨l,l,true⟩ d.files
     rw[←h1,Q9 _ r];simp[Ct]
    have H:=Pk (n':=⟨b,nm,⟨l,l,true⟩,nv,sv⟩) r
    rw[H] at i
    refine i.eq ?_
    rw[C1,CF,Bs,Bs,Bg]
    show AY D M y d*_=AY D M y d*_*_
    ac_rfl
  have o:d.load nm l=(d.fits none l.length,d):=by unfold Dk.load;rw[if_neg (by simp[j]),z,if_pos s]
  rw[o]
  exact (bad _ _ s g a).mono fun e n ⟨J,K⟩=>⟨J,Sat.CY h1 u K⟩
