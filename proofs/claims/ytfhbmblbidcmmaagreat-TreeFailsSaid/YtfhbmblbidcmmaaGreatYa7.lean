/- treeFails holds for every input. No condition. (part 7) -/
import Derived.Test.YtfhbmblbidcmmaaGreatYa6
import Derived.Deep.RegionHeld3
import Derived.Deep.DrawnRows
set_option linter.all false
set_option maxRecDepth 100000
set_option maxHeartbeats 4000000
namespace Go.Proofs.YtfhbmblbidcmmaaGreat
open Go.RowKit Go.Sl Go.Dk
attribute [go_sem ↓] Go.wp_at_zero Go.wp_at_succ
def lens(ns:List Nf):Nat:=(ns.map fun n=>n.f.now.length).sum
theorem MY(ns:List Nf):sum (BE ns)=lens ns:=by simp[sum,BE,lens,Function.comp_def]
theorem Jj{ns a:List Nf}(h:ns.Perm a):lens ns=lens a:=(h.map _).sum_nat
theorem FB(n:Nf)(l:List Nf):lens (n::l)=n.f.now.length+lens l:=by simp[lens]
theorem Yw{D M:Nat}{ns:List Nf}{pv:Value}{ps:List Np}{d:Dk}{n:Nf}(h:n∈ns): ∃R,A0 ns=Bv n*R:=by
 obtain ⟨l1,l2,rfl⟩:=List.append_of_mem h
 exact ⟨A0 l1*A0 l2,by rw[Ba,A0];ac_rfl⟩
theorem Oo{e s:Nat}{v:Value}{xs:List Value}{F:Ac}{w:World}(hs:Sat (rw e s v xs*F) w): ∃a n c,v= .slice a n c∧xs.length=n*s∧n≤c∧c≤9223372036854775807:=by
 rcases hs.Cm with ⟨b,d,i⟩|⟨g,n',f,sp,b,d,i,j,k,l⟩
 ·subst d;exact ⟨_,_,_,b,by simp,by omega,by omega⟩
 exact ⟨_,_,_,b,d,j,by simpa[maxLen] using k⟩
theorem E7{v:Value}{l:List UInt8}{F:Ac}{w:World}(hs:Sat (rw TB 1 v (A4 l)*F) w): ∃a c,v= .slice a l.length c∧l.length≤c∧c≤9223372036854775807:=by
 obtain ⟨a,n,c,d,b,e,f⟩:=Oo hs
 rw[Cj,Nat.mul_one] at b
 subst b
 exact ⟨a,c,d,e,f⟩
theorem Qr(D M:Nat)(ns:List Nf)(pv:Value)(ps:List Np)(d:Dk)(F:Ac)(w:World)(hs:Sat (AS D M ns pv ps d*F) w)(hb:lens ns≤4611686018427387904):
 Calls Tryz.prog 103 #[.pointer (some ⟨D,0,none⟩)] w fun e w'=>e= .returned (.int .i64 (lens ns:Nat))∧Sat (AS D M ns pv ps d*F) w':=by
 have x:Sat (Ax D M pv d*(mp B9 M (ns.map CA)*(A0 ns*Cp pv ps))*F) w:=hs
 unfold Ax at x
 have c5:=x.c D 5
 obtain ⟨o,ho,G⟩:=(x.take (mp B9 M (ns.map CA))).Ct
 obtain ⟨Y,hI,u⟩:=E6 (P:=Tryz.prog) Tryz.underlying148 G.obj ho
 have U:=G.CH Y
 have V:Sat (raw M o*(raw w.heap.size Y*(Ax D M pv d*(A0 ns*Cp pv ps)*F))) (w.alloc Y):=U.eq (by unfold Ax;ac_rfl)
 have HO:Aside (Fi B9 o (ns.map CA)):=ho
 clear U G x hs ho
 go_enter Tryz.func103,Tryz.ntmps103
 go_wp2
 go_loopg [3] ns.length (fun k out wr=> ∃(g:Nat)(s:Obj)(a:List (ByteArray×Value))(r:List Nf),out= .int .i64 g∧Aside (k=a.length∧Iter B9 M o s (ns.map CA) a∧a.Perm (r.map CA)∧(∀n∈r,n∈ns)∧g+lens r=lens ns)∧
  Sat (raw M o*(raw w.heap.size s*(Ax D M pv d*(A0 ns*Cp pv ps)*F))) wr)
 case atStart=>exact ⟨0,Y,ns.map CA,ns,rfl,⟨by simp,hI,.refl _,fun _ h=>h,by omega⟩,V⟩
 obtain ⟨g,s,a,r,rfl,A,H⟩:=hrel
 obtain ⟨K,t,hp,l,j⟩:=A.out
 clear hI V u c5
 rcases Ft (P:=Tryz.prog) H t with ⟨T,z⟩|⟨i,k,v,I,w2,hi,z,J,W,X⟩
 · subst T
   have O:r= []:=by have:=hp.length_eq;simpa using this.symm
   subst O
   have HA:Aside (g=lens ns):=(by simpa[lens] using j:g=lens ns)
   have Z:Aside (Iter B9 M o s (ns.map CA) []):=t
   clear t A hp l j
   go_wp2
   go_ret
   refine ⟨by rw[←HA.out];rfl,?_⟩
   have p:=Sat.Dn Z.out.Un H
   refine Sat.CR (B:=raw w.heap.size s) (p.eq ?_)
   unfold AS
   ac_rfl
 obtain ⟨n,y,q,hx,Q⟩:=Gw hp hi
 have hn:n∈ns:=l n (q.mem_iff.2 (by simp))
 cases hx
 obtain ⟨R,hR⟩:=Yw (D:=D) (M:=M) (pv:=pv) (ps:=ps) (d:=d) hn
 have p:Sat (Bv n*(R*(raw M o*(raw w.heap.size I*(Ax D M pv d*Cp pv ps*F))))) w2:=W.eq (by rw[hR];ac_rfl)
 unfold Bv at p
 have c0:=p.c n.b 0
 obtain ⟨va,vc,hv,_⟩:=E7 (p.take (rw TB 1 n.nv (A4 n.f.now)))
 rw[hv] at c0
 have L:(a.eraseIdx i).length<a.length:=by
  have:=(List.getElem?_eq_some_iff.1 hi).1
  rw[List.length_eraseIdx];split<;>omega
 have a9:g+n.f.now.length≤4611686018427387904:=by rw[Jj q,FB] at j;omega
 have HL:Aside ((a.eraseIdx i).length<a.length∧gk=a.length):=⟨L,K⟩
 have Z:Aside (Iter B9 M o I (ns.map CA) (a.eraseIdx i)∧(a.eraseIdx i).Perm (y.map CA)∧(∀m∈y,m∈ns)∧g+n.f.now.length+lens y=lens ns):=by
  refine ⟨J,Q,fun m hm=>l m (q.mem_iff.2 (by simp[hm])),?_⟩
  rw[Jj q,FB] at j;omega
 clear t A L K J hi hp q Q l j p hR hn hv H
 go_wp2
 go_roundg (a.eraseIdx i).length
 case measure=>have:=HL.out;omega
 case rel=>exact ⟨g+n.f.now.length,I,_,y,by go_num,⟨rfl,Z.out⟩,W⟩
theorem Lt(D M:Nat)(ns:List Nf)(pv:Value)(ps:List Np)(d:Dk)(size:Int)(F:Ac)(w:World)(hs:Sat (AS D M ns pv ps d*F) w)(t:BE ns=d.files)(hb:lens ns≤4611686018427387904)(I:0≤size)(J:size≤1152921504606846976):
 Calls Tryz.prog 69 #[.pointer (some ⟨D,0,none⟩),.pointer none,.int .i64 size] w fun e p=>e= .returned (.int .i64 (d.fits none size))∧Sat (AS D M ns pv ps d*F) p:=by
 have f:Sat (Ax D M pv d*(mp B9 M (ns.map CA)*(A0 ns*Cp pv ps))*F) w:=hs
 unfold Ax at f
 have H:=f.c D 5
 obtain ⟨o,y,a⟩:=(f.take (mp B9 M (ns.map CA))).Ct
 have m:=fun G=>Kc (P:=Tryz.prog) Tryz.underlying148 a.obj y G
 rw[List.length_map] at m
 have l:d.files.length=ns.length:=by rw[←t];simp[BE]
 have n:sum d.files=lens ns:=by rw[←t,MY]
 obtain ⟨r,x⟩: ∃r,Aside (d.fits none size=r):=⟨_,rfl⟩
 rw[x.out]
 have hr:=x.out
 unfold Dk.fits at hr
 rw[l,n] at hr
 clear f a y t l n
 by_cases b:16≤ns.length
 · have i:Aside (r=11):=(by rw[←hr];simp[b]:r=11)
   have k:(16:Int)≤ns.length:=by omega
   clear hr
   go_enter Tryz.func69,Tryz.ntmps69
   go_wp2
   go_ret
   exact ⟨by rw[i.out];rfl,hs⟩
 have k: ¬(16:Int)≤ns.length:=by omega
 by_cases z:0<size
 · have g:=Qr D M ns pv ps d F w.drew hs.drew hb
   have W1:IntKind.i64.wrap (lens ns:Nat)=(lens ns:Nat):=IntWalk.i64_in _ (by omega)
   have W2:IntKind.i64.wrap ((lens ns:Nat)+size)=(lens ns:Nat)+size:=IntWalk.i64_in _ (by omega)
   have q:w.cell? ⟨D,0,none⟩=some (.int .i64 d.room):=by unfold AS Ax at hs;exact hs.c D 0
   by_cases u:d.room<lens ns+size
   · have i:Aside (r=7):=by
      show r=7
      rw[←hr,if_neg (by simp[b]),if_pos]
      simp only[Bool.and_eq_true,decide_eq_true_eq];have s:EN none=0:=rfl;omega
     clear hr hs
     go_enter Tryz.func69,Tryz.ntmps69
     go_wp2_with fail
     go_region_held3 (fun p=>p.cell? ⟨D,0,none⟩=some (.int .i64 d.room)) (first|exact j|exact q|(simpa using q)) (first|(go_at_call 103;refine g.mono ?_;rintro e v ⟨rfl,a⟩;have j:v.cell? ⟨D,0,none⟩=some (.int .i64 d.room):=(by unfold AS Ax at a;exact a.c D 0)))
     all_goals
      go_wp2
      go_ret
      exact ⟨by rw[i.out];rfl,a⟩
   have i:Aside (r=0):=by
    show r=0
    rw[←hr,if_neg (by simp[b]),if_neg]
    simp only[Bool.and_eq_true,decide_eq_true_eq];have s:EN none=0:=rfl;omega
   clear hr hs
   go_enter Tryz.func69,Tryz.ntmps69
   go_wp2_with fail
   go_region_held3 (fun p=>p.cell? ⟨D,0,none⟩=some (.int .i64 d.room)) (first|exact j|exact q|(simpa using q)) (first|(go_at_call 103;refine g.mono ?_;rintro e v ⟨rfl,a⟩;have j:v.cell? ⟨D,0,none⟩=some (.int .i64 d.room):=(by unfold AS Ax at a;exact a.c D 0)))
   all_goals
    go_wp2
    go_ret
    exact ⟨by rw[i.out];rfl,a⟩
 have B:size=0:=by omega
 subst B
 have i:Aside (r=0):=by
  show r=0
  rw[←hr,if_neg (by simp[b]),if_neg]
  simp[EN]
 clear hr
 go_enter Tryz.func69,Tryz.ntmps69
 go_wp2_with fail
 go_quiet (fail)
 go_wp2
 go_ret
 exact ⟨by rw[i.out];rfl,hs.drewN _⟩
theorem Lu(D M:Nat)(l1:List Nf)(n:Nf)(l2:List Nf)(pv:Value)(ps:List Np)(d:Dk)(size:Int)(F:Ac)(w:World)(hs:Sat (AS D M (l1++n::l2) pv ps d*F) w)(x:BE (l1++n::l2)=d.files)(hb:lens (l1++n::l2)≤4611686018427387904)(G:0≤size)(H:size≤1152921504606846976):
 Calls Tryz.prog 69 #[.pointer (some ⟨D,0,none⟩),.pointer (some ⟨n.b,0,none⟩),.int .i64 size] w fun e o=>e= .returned (.int .i64 (d.fits (some n.f) size))∧Sat (AS D M (l1++n::l2) pv ps d*F) o:=by
 have g:=hs
 rw[CI] at g
 unfold Bv at g
 have z:=g.c n.b 0
 obtain ⟨I,J,y,_⟩:=E7 (g.take (rw TB 1 n.nv (A4 n.f.now)))
 rw[y] at z
 have m:sum d.files=lens (l1++n::l2):=by rw[←x,MY]
 have B:n.f.now.length≤lens (l1++n::l2):=by
  have:lens (l1++n::l2)=lens (n::(l1++l2)):=Jj List.perm_middle
  rw[this,FB];omega
 obtain ⟨r,v⟩: ∃r,Aside (d.fits (some n.f) size=r):=⟨_,rfl⟩
 rw[v.out]
 have hr:=v.out
 unfold Dk.fits at hr
 rw[m] at hr
 have l:EN (some n.f)=n.f.now.length:=rfl
 rw[l] at hr
 clear g x m y l
 generalize l1++n::l2=ns at*
 by_cases t:(n.f.now.length:Int)<size
 · have i:=Qr D M ns pv ps d F w.drew hs.drew hb
   have W1:IntKind.i64.wrap ((lens ns:Nat)-(n.f.now.length:Nat))=(lens ns:Nat)-(n.f.now.length:Nat):=IntWalk.i64_in _ (by omega)
   have W2:IntKind.i64.wrap ((lens ns:Nat)-(n.f.now.length:Nat)+size)=(lens ns:Nat)-(n.f.now.length:Nat)+size:=IntWalk.i64_in _ (by omega)
   have p:w.cell? ⟨D,0,none⟩=some (.int .i64 d.room):=by unfold AS Ax at hs;exact hs.c D 0
   by_cases q:d.room<(lens ns:Nat)-(n.f.now.length:Nat)+size
   · have k:Aside (r=7):=by
      show r=7
      rw[←hr,if_neg (by simp),if_pos]
      simp only[Bool.and_eq_true,decide_eq_true_eq];omega
     clear hr hs
     go_enter Tryz.func69,Tryz.ntmps69
     go_wp2_with fail
     go_region_held3 (fun o=>o.cell? ⟨D,0,none⟩=some (.int .i64 d.room)) (first|exact j|exact p|(simpa using p)) (first|(go_at_call 103;refine i.mono ?_;rintro e u ⟨rfl,a⟩;have j:u.cell? ⟨D,0,none⟩=some (.int .i64 d.room):=(by unfold AS Ax at a;exact a.c D 0)))
     all_goals
      go_wp2
      go_ret
      exact ⟨by rw[k.out];rfl,a⟩
   have k:Aside (r=0):=by
    show r=0
    rw[←hr,if_neg (by simp),if_neg]
    simp only[Bool.and_eq_true,decide_eq_true_eq];omega
   clear hr hs
   go_enter Tryz.func69,Tryz.ntmps69
   go_wp2_with fail
   go_region_held3 (fun o=>o.cell? ⟨D,0,none⟩=some (.int .i64 d.room)) (first|exact j|exact p|(simpa using p)) (first|(go_at_call 103;refine i.mono ?_;rintro e u ⟨rfl,a⟩;have j:u.cell? ⟨D,0,none⟩=some (.int .i64 d.room):=(by unfold AS Ax at a;exact a.c D 0)))
   all_goals
    go_wp2
    go_ret
    exact ⟨by rw[k.out];rfl,a⟩
 have s:decide ((n.f.now.length:Int)<size)=false:=by simpa using t
 have k:Aside (r=0):=by
  show r=0
  rw[←hr,if_neg (by simp),if_neg]
  simp[s]
 clear hr
 go_enter Tryz.func69,Tryz.ntmps69
 go_wp2_with fail
 go_quiet (fail)
 go_wp2
 go_ret
 exact ⟨by rw[k.out];rfl,hs.drewN _⟩
theorem NA(q:Np→Bool)(ps:List Np):AM ps=AM (ps.filter q)*AM (ps.filter fun x=>!q x):=by
 induction ps with
 |nil=>simp[AM,Am]
 | cons n l a =>
  rw[AM,a]
  cases h:q n
  ·simp only[List.filter_cons,h,Bool.not_false,if_true,Bool.false_eq_true,if_false,AM];ac_rfl
  simp only[List.filter_cons,h,Bool.not_true,if_true,Bool.false_eq_true,if_false,AM];ac_rfl
def others(nm:ByteArray)(ps:List Np):List Np:=ps.filter fun x=>x.p.nm !=nm
theorem Ht(nm:ByteArray)(ps:List Np):B4 (others nm ps)=(B4 ps).filter fun p=>p.nm !=nm:=by
 simp[others,B4,List.filter_map,Function.comp_def]
theorem Rw(nm:ByteArray)(l:List Np)(x:Np):others nm (l++ [x])=if x.p.nm !=nm then others nm l++ [x] else others nm l:=by
 unfold others
 rw[List.filter_append]
 cases h:(x.p.nm !=nm)<;>simp[List.filter_cons,h]
theorem Tg(nm:ByteArray)(l:List Np):(others nm l).length≤l.length:=List.length_filter_le _ _
theorem AA{α:Type}{l:List α}{i:Nat}{x:α}(h:l[i]?=some x):l.take (i+1)=l.take i++ [x]:=by
 obtain ⟨hi,rfl⟩:=List.getElem?_eq_some_iff.1 h
 rw[List.take_succ_eq_append_getElem hi]
theorem Ln(a b:ByteArray):(a !=b)=!(decide (a=b)):=by
 simp only[bne,bytes_beq]
theorem Uw{x:Np}{F:Ac}{w:World}(hs:Sat (EX x*F) w): ∃a n c,x.v= .slice a n c:=by
 unfold EX at hs
 cases hb:x.p.b with
 |none=>rw[hb] at hs;exact ⟨_,_,_,hs.Fp.1⟩
 | some l =>
  rw[hb] at hs
  rw[Ar] at hs
  obtain ⟨g,n,c,h⟩:=hs.Fp.1
  exact ⟨_,_,_,h⟩
theorem Pp{ps:List Np}{x:Np}(h:x∈ps): ∃R,AM ps=EX x*R:=by
 obtain ⟨l1,l2,rfl⟩:=List.append_of_mem h
 exact ⟨AM l1*AM l2,by rw[IF,AM];ac_rfl⟩
theorem Mc(D M:Nat)(pv:Value)(ps:List Np)(d:Dk)(nm:ByteArray)(F:Ac)(w:World)(hs:Sat (Ax D M pv d*(Cp pv ps*F)) w)(hn:ps.length≤1099511627776):
 Calls Tryz.prog 70 #[.pointer (some ⟨D,0,none⟩),.string nm] w fun e w'=> ∃rv,e= .returned (.tuple #[])∧Sat (Ax D M rv d*(Cp rv (others nm ps)*F)) w':=by
 obtain ⟨i0,E⟩:=W3
 have n:=hs
 unfold Ax Cp at n
 have Z:=n.c D 6
 obtain ⟨I,pn,pc,rfl,O,ac,ad⟩:=Oo (n.take (rw TP 3 pv (B6 ps)))
 rw[Jo] at O
 obtain rfl:ps.length=pn:=by omega
 have Q:Sat (Ax D M (.slice I ps.length pc) d*(rw TP 3 (.slice I ps.length pc) (B6 ps)*(AM ps*F))) w:=hs.eq (by unfold Cp;ac_rfl)
 clear n hs O
 go_enter Tryz.func70,Tryz.ntmps70
 go_wp2
 go_loopg [4,12] ps.length (fun k rest i wr=> ∃(j:Nat)(a:Option Addr)(c:Nat),i= .int .i64 j∧j≤ps.length∧Aside (k=ps.length-j)∧rest= .slice a (others nm (ps.take j)).length c∧
  Sat (rw TP 3 (.slice a (others nm (ps.take j)).length c) (B6 (others nm (ps.take j)))*(Ax D M (.slice I ps.length pc) d*(rw TP 3 (.slice I ps.length pc) (B6 ps)*(AM ps*F)))) wr)
 case atStart=>exact ⟨0,none,0,rfl,by omega,rfl,rfl,by simpa[others,B6] using Q.Bj⟩
 obtain ⟨j,a,c,rfl,hj,A,rfl,b⟩:=hrel
 clear Q Z
 by_cases X:j<ps.length
 · have K:(j:Int)<ps.length:=by omega
   obtain ⟨x,hx⟩: ∃x,ps[j]?=some x:=⟨ps[j],by simp[X]⟩
   obtain ⟨p0,p1,p2⟩:=R9 hx
   obtain ⟨g,rfl,q0,_⟩:=(b.take (rw TP 3 (.slice I ps.length pc) (B6 ps))).LH p0
   obtain ⟨_,V,q1,_⟩:=(b.take (rw TP 3 (.slice (some ⟨g,0,none⟩) ps.length pc) (B6 ps))).LH p1
   cases V
   obtain ⟨_,e2,q2,_⟩:=(b.take (rw TP 3 (.slice (some ⟨g,0,none⟩) ps.length pc) (B6 ps))).LH p2
   cases e2
   obtain ⟨R,hR⟩:=Pp (List.mem_of_getElem? hx)
   obtain ⟨y,G,z,t⟩:=Uw (b.eq (B:=EX x*(R*(rw TP 3 (.slice a (others nm (ps.take j)).length c) (B6 (others nm (ps.take j)))*(Ax D M (.slice (some ⟨g,0,none⟩) ps.length pc) d*(rw TP 3 (.slice (some ⟨g,0,none⟩) ps.length pc) (B6 ps)*F))))) (by rw[hR];ac_rfl))
   rw[t] at q2
   have m:=b.alloc #[.string x.p.nm,.int .i64 x.p.pos,.slice y G z] TP
   have hl:=Tg nm (ps.take j)
   have ab:(ps.take j).length=j:=by simp;omega
   have U:Aside (others nm (ps.take (j+1))=if x.p.nm !=nm then others nm (ps.take j)++ [x] else others nm (ps.take j)):=(by rw[AA hx,Rw]:_=_)
   have HV:Aside (x.v= .slice y G z):=t
   clear hx p0 p1 p2 hR t
   by_cases H:x.p.nm=nm
   ·have l:Aside (others nm (ps.take (j+1))=others nm (ps.take j)):=(by rw[U.out,Ln,decide_eq_true H];rfl:_=_)
    have W:=ZO H
    clear U H
    go_wp2
    go_roundg (ps.length-(j+1))
    case measure=>have:=A.out;omega
    refine ⟨j+1,a,c,by go_num,by omega,rfl,by rw[l.out],?_⟩
    rw[l.out]
    exact m.right
   have l:Aside (others nm (ps.take (j+1))=others nm (ps.take j)++ [x]):=(by rw[U.out,Ln,decide_eq_false H];rfl:_=_)
   have W:=ZP H
   clear U H
   have o:=m.alloc #[.string x.p.nm,.int .i64 x.p.pos,.slice y G z] TP
   have e0:(wr.alloc (.cells #[.string x.p.nm,.int .i64 x.p.pos,.slice y G z] TP)).heap.size=wr.heap.size+1:=by simp
   rw[e0] at o
   have T:=o.take (rw TP 3 (.slice a (others nm (ps.take j)).length c) (B6 (others nm (ps.take j))))
   have q:=Src.new (P:=Tryz.prog) (s:=3) o rfl (by intro u hu;simp at hu;rcases hu with rfl|rfl|rfl<;>rfl)
   clear o m e0
   go_wp2_with (at_builtin;refine Aj E rfl (.tmp 20) (.tmp 22) rfl rfl rfl T q (by unfold maxLen;omega) (by omega) ?_;intro a' c' w' Y L;clear L T q)
   go_roundg (ps.length-(j+1))
   case measure=>have:=A.out;omega
   refine ⟨j+1,a',c',by go_num,by omega,rfl,by rw[l.out];simp,?_⟩
   rw[l.out,Hx]
   have V:B6 [x]= [.string x.p.nm,.int .i64 x.p.pos,.slice y G z]:=by simp[B6,Qe,HV.out]
   rw[V]
   simp only[List.length_append,List.length_cons,List.length_nil,Nat.zero_add]
   refine Sat.CR (B:=block (wr.heap.size+1) TP [.string x.p.nm,.int .i64 x.p.pos,.slice y G z]*block wr.heap.size TP [.string x.p.nm,.int .i64 x.p.pos,.slice y G z]) (Y.eq ?_)
   ac_rfl
 have K: ¬(j:Int)<ps.length:=by omega
 have r:ps.take j=ps:=List.take_of_length_le (by omega)
 rw[r] at b
 have J:=b
 unfold Ax at J
 have f6:=J.f D 6
 have Z:=J.c D 6
 have m:=J.Et D 6 (.slice a (others nm ps).length c)
 have HJ:Aside (ps.take j=ps):=r
 rw[HJ.out]
 clear J b r
 go_wp2
 go_end0
 refine ⟨rfl,.slice a (others nm ps).length c,?_⟩
 refine Sat.CR (B:=rw TP 3 (.slice I ps.length pc) (B6 ps)*AM (ps.filter fun x=>!(x.p.nm !=nm))) (m.eq ?_)
 unfold Ax Cp
 rw[NA (fun x=>x.p.nm !=nm) ps]
 show _=_*(_*AM (ps.filter fun x=>x.p.nm !=nm)*_)*_
 ac_rfl
theorem WR(a:List UInt8)(k:Nat)(b:List UInt8):laid a k b=(a++List.replicate (k+b.length-a.length) 0).take k++b++(a++List.replicate (k+b.length-a.length) 0).drop (k+b.length):=by
 unfold laid
 congr 1
 by_cases h:k+b.length≤a.length
 ·have:k+b.length-a.length=0:=by omega
  simp[this]
 rw[List.drop_of_length_le (by omega),List.drop_of_length_le (by simp;omega)]
theorem PO(v:Value)(d:List UInt8)(k:Nat)(x:Value)(b:List UInt8)(B F:Ac)(u:Reads B x b)(w:World)(hs:Sat (rw TB 1 v (A4 d)*(B*F)) w)(X:d.length≤35184372088832)(Y:k+b.length≤35184372088832):
 Calls Tryz.prog 107 #[v,.int .i64 k,x] w fun e H=> ∃v',e= .returned v'∧Sat (rw TB 1 v' (A4 (laid d k b))*(B*F)) H:=by
 obtain ⟨i0,E⟩:=Ez
 obtain ⟨U,V,rfl,R,_⟩:=E7 hs
 obtain ⟨xa,W,rfl,T,r⟩:=(u _ _ (hs.take B)).len
 have G:W≤9223372036854775807:=by simpa[maxLen] using r
 clear r
 go_enter Tryz.func107,Tryz.ntmps107
 go_wp2
 go_loopg [0] (k+b.length-d.length) (fun g t wr=> ∃(m:Nat)(a:Option Addr)(c:Nat),t= .slice a (d.length+m) c∧m≤k+b.length-d.length∧Aside (g=k+b.length-d.length-m)∧
  Sat (rw TB 1 (.slice a (d.length+m) c) (A4 (d++List.replicate m 0))*(B*F)) wr)
 case atStart=>exact ⟨0,U,V,rfl,by omega,rfl,by simpa using hs⟩
 obtain ⟨m,a,c,rfl,hm,A,f⟩:=hrel
 clear hs
 by_cases Q:d.length+m<k+b.length
 · have j:=f.alloc #[.int .u8 0] TB
   have q:=j.take (rw TB 1 (.slice a (d.length+m) c) (A4 (d++List.replicate m 0)))
   have i:=Src.Ut (P:=Tryz.prog) j rfl
   clear j
   go_wp2_with (at_builtin;refine Aj E rfl (.tmp 14) (.tmp 15) rfl rfl rfl q i (by unfold maxLen;omega) (by omega) ?_;intro a' J H l p;clear p q i)
   go_roundg (k+b.length-d.length-(m+1))
   case measure=>have:=A.out;omega
   refine ⟨m+1,a',J,rfl,by omega,rfl,?_⟩
   rw[List.replicate_succ',←List.append_assoc,Di]
   refine Sat.CR (B:=block wr.heap.size TB [.int .u8 0]) (l.eq ?_)
   show rw TB 1 _ (_++ [Value.int .u8 0])*_=_
   rw[show A4 [(0:UInt8)]= [Value.int .u8 0] from rfl]
   ac_rfl
 have O: ¬((d.length:Int)+m<k+b.length):=by omega
 obtain ⟨y,z⟩:d.length+m≤c∧c≤9223372036854775807:=by
  obtain ⟨_,_,_,K,_,L,M⟩:=Oo f
  cases K
  exact ⟨L,M⟩
 have o:m=k+b.length-d.length:=by omega
 have I:Aside (m=k+b.length-d.length):=o
 have s:k≤d.length+m:=by omega
 have hx:=u _ _ (f.take B)
 clear o
 have hcut:=Gb (P:=Tryz.prog) E (a:=a) (n:=d.length+m) (c:=c) k s
 obtain ⟨Z,D,l⟩:=KZ (P:=Tryz.prog) E 26 3 (lo:=k) f hx (by omega)
 clear f hx
 go_wp2
 go_ret
 refine ⟨_,rfl,?_⟩
 rw[WR,←I.out,Di,Di,Ks,ME]
 exact l
theorem Cy{e s:Nat}{F:Ac}{w:World}(hs:Sat F w):Sat (rw e s (.slice (some ⟨w.heap.size,0,none⟩) 0 0) []*F) (w.alloc (.cells #[] e)):=by
 have:=hs.alloc #[] e
 exact Sat.Fg (sp:= []) (by simp) (by simp) (by omega) (by simp) this
theorem JH{D:Nat}{d:Dk}{nm:ByteArray}{t:Bool}{F:Ac}{w:World}(hs:Sat (Bh D d*F) w)(hm:d.may nm t=0)(b:(d.get nm).isSome=true):
 ∃M l1 n l2 pv ps,n.nm=nm∧(∀m∈l1,m.nm≠n.nm)∧BE (l1++n::l2)=d.files∧B4 ps=d.AO∧named nm=true∧d.down=false∧d.get nm=some n.f∧Sat (AS D M (l1++n::l2) pv ps d*F) w:=by
 obtain ⟨M,ns,pv,ps,a,e,g⟩:=Sat.C5 hs
 rcases Fo ns nm with ⟨l1,n,l2,rfl,i,c⟩|h
 ·rcases GN d nm t with ⟨h,_⟩|⟨h,_⟩|⟨h,_⟩|⟨h,j,k,_⟩
  ·rw[h] at hm;cases hm
  ·rw[h] at hm;cases hm
  ·rw[h] at hm;cases hm
  subst i
  exact ⟨M,l1,n,l2,pv,ps,rfl,c,a,e,j,k,by unfold Dk.get;rw[←a,Ef c],g⟩
 unfold Dk.get at b
 rw[←a,EM h] at b
 cases b
theorem KI{d:Dk}{nm:ByteArray}(h:d.may nm true=0):(d.get nm).isSome=true:=by
 rcases GN d nm true with ⟨a,_⟩|⟨a,_⟩|⟨a,_⟩|⟨_,_,_,a⟩
 ·rw[a] at h;cases h
 ·rw[a] at h;cases h
 ·rw[a] at h;cases h
 exact a rfl
theorem XD(D:Nat)(d:Dk)(nm:ByteArray)(F:Ac)(w:World)(hs:Sat (Bh D d*F) w)(j:nm.size≤9223372036854775807):
 Calls Tryz.prog 50 #[.pointer (some ⟨D,0,none⟩),.string nm] w fun e o=>e= .returned (.int .i64 (d.size nm))∧w=o:=by
 by_cases hm:d.may nm true=0
 ·obtain ⟨M,l1,n,l2,pv,ps,rfl,k,m,l,p,r,s,a⟩:=JH hs hm (KI hm)
  have i:d.size n.nm=n.f.now.length:=by unfold Dk.size;rw[if_neg (by simp[hm]),s];rfl
  rw[i]
  have g:=ET D M l1 n l2 pv ps d true F w a k j p r
  rw[CI] at a
  unfold Bv at a
  have u:=a.c n.b 0
  obtain ⟨v,x,t,_⟩:=E7 (a.take (rw TB 1 n.nv (A4 n.f.now)))
  rw[t] at u
  clear hs a hm m l p r s i t
  go_enter Tryz.func50,Tryz.ntmps50
  go_wp2_with (refine g.mono ?_;rintro e o ⟨rfl,rfl⟩)
  go_ret
  exact ⟨rfl,rfl⟩
 have i:d.size nm= -1:=by unfold Dk.size;rw[if_pos hm]
 rw[i]
 obtain ⟨M,ns,pv,ps,k,m,l⟩:=Sat.C5 hs
 have g:=Mz D M ns pv ps d nm true F w l k j hm
 have hb:(d.may nm true !=0)=true:=by simpa using hm
 clear hs l k m i hm
 generalize d.may nm true=q at*
 go_enter Tryz.func50,Tryz.ntmps50
 go_wp2_with (refine g.mono ?_;rintro e o ⟨rfl,rfl⟩)
 go_ret
 exact ⟨rfl,rfl⟩
theorem X0(D:Nat)(d:Dk)(nm:ByteArray)(k n:Int)(F:Ac)(w:World)(hs:Sat (Bh D d*F) w)(J:nm.size≤9223372036854775807)(t: ∀p∈d.files,p.2.now.length≤Iq):
 Calls Tryz.prog 49 #[.pointer (some ⟨D,0,none⟩),.string nm,.int .i64 k,.int .i64 n] w fun e y=> ∃v,e= .returned (.tuple #[v,.int .i64 (d.read nm k n).1])∧Sat (rw TB 1 v (A4 (d.read nm k n).2)*(Bh D d*F)) y:=by
 by_cases hm:d.may nm true=0
 ·obtain ⟨M,l1,x,l2,pv,ps,rfl,O,z,B,Y,Z,Q,i⟩:=JH hs hm (KI hm)
  have g:=ET D M l1 x l2 pv ps d true F w i O J Y Z
  have a7:x.f.now.length≤1099511627776:=t (x.nm,x.f) (by rw[←z];simp[BE])
  rw[CI] at i
  unfold Bv at i
  have c0:=i.c x.b 0
  obtain ⟨va,vc,K,a9,aa⟩:=E7 (i.take (rw TB 1 x.nv (A4 x.f.now)))
  have l:=Reads.rw _ _ (i.take (rw TB 1 x.nv (A4 x.f.now)))
  rw[K] at c0 l
  by_cases hr:k<0∨n<0∨(x.f.now.length:Int)<k∨(x.f.now.length:Int)-k<n
  · have r:d.read x.nm k n=(2,[]):=by
     unfold Dk.read;rw[if_neg (by simp[hm]),Q];simp only[Option.getD_some];rw[if_pos hr]
    rw[r]
    clear i hm z B Y Z Q r K l
    by_cases T:k<0
    · have U:decide (k<0)=true:=by simpa using T
      go_enter Tryz.func49,Tryz.ntmps49
      go_wp2_with (refine g.mono ?_;rintro e y ⟨rfl,rfl⟩)
      go_ret2
      exact ⟨_,rfl,by simpa[A4] using hs.Bj⟩
    have U:decide (k<0)=false:=by simpa using T
    by_cases V:n<0
    · have W:decide (n<0)=true:=by simpa using V
      go_enter Tryz.func49,Tryz.ntmps49
      go_wp2_with (refine g.mono ?_;rintro e y ⟨rfl,rfl⟩)
      go_ret2
      exact ⟨_,rfl,by simpa[A4] using hs.Bj⟩
    have W:decide (n<0)=false:=by simpa using V
    by_cases g3:(x.f.now.length:Int)<k
    · have X:decide ((x.f.now.length:Int)<k)=true:=by simpa using g3
      go_enter Tryz.func49,Tryz.ntmps49
      go_wp2_with (refine g.mono ?_;rintro e y ⟨rfl,rfl⟩)
      go_ret2
      exact ⟨_,rfl,by simpa[A4] using hs.Bj⟩
    have X:decide ((x.f.now.length:Int)<k)=false:=by simpa using g3
    have g4:(x.f.now.length:Int)-k<n:=by omega
    go_enter Tryz.func49,Tryz.ntmps49
    go_wp2_with (refine g.mono ?_;rintro e y ⟨rfl,rfl⟩)
    go_ret2
    exact ⟨_,rfl,by simpa[A4] using hs.Bj⟩
  obtain ⟨k,rfl⟩:=Int.eq_ofNat_of_zero_le (show 0≤k by omega)
  obtain ⟨n,rfl⟩:=Int.eq_ofNat_of_zero_le (show 0≤n by omega)
  have r:d.read x.nm k n=(0,(x.f.now.drop k).take n):=by
   unfold Dk.read;rw[if_neg (by simp[hm]),Q];simp only[Option.getD_some];rw[if_neg hr];rfl
  rw[r]
  have T: ¬(x.f.now.length:Int)<k:=by omega
  have V: ¬(x.f.now.length:Int)-k<n:=by omega
  obtain ⟨i0,E⟩:=Ez
  have hcut:=MA (P:=Tryz.prog) E (a:=va) (n:=x.f.now.length) (c:=vc) k (k+n) (by omega) (by omega)
  have R:k+n-k=n:=by omega
  rw[Int.natCast_add,R] at hcut
  have u:=Cy (e:=TB) (s:=1) i
  have j:=Reads.rw _ _ (u.take (rw TB 1 x.nv (A4 x.f.now)))
  rw[K] at j
  have o:=j.cut k (k+n) (by omega) (by omega)
  rw[R] at o
  have m:=o.src (P:=Tryz.prog)
  have G:((x.f.now.drop k).take n).length=n:=by simp;omega
  rw[G] at m
  have a8:x.b<w.heap.size:=World.block_lt_of_cell? w _ c0
  have HH:Aside (BE (l1++x::l2)=d.files∧B4 ps=d.AO∧x.nv= .slice va x.f.now.length vc):=⟨z,B,K⟩
  clear hs hm z B Y Z Q r K l j o i G R
  go_enter Tryz.func49,Tryz.ntmps49
  go_wp2_with first|(at_builtin;refine Aj E rfl (.tmp 47) (.tmp 56) rfl rfl rfl u m (by unfold maxLen;omega) (by omega) ?_;intro a' c' L I H;clear H u m)|(refine g.mono ?_;rintro e y ⟨rfl,rfl⟩)
  simp only[Nat.zero_add,List.nil_append] at I
  go_ret2
  refine ⟨_,rfl,?_⟩
  show Sat (rw TB 1 (.slice a' n c') _*_) L
  have a0:Sat (AS D M (l1++x::l2) pv ps d*(rw TB 1 (.slice a' n c') (A4 ((x.f.now.drop k).take n))*F)) L:=I.eq (by rw[CI];unfold Bv;ac_rfl)
  exact (Sat.Ce HH.out.1 HH.out.2.1 a0).eq (by ac_rfl)
 have r:d.read nm k n=(d.may nm true,[]):=by unfold Dk.read;rw[if_pos hm]
 rw[r]
 obtain ⟨M,ns,pv,ps,O,z,B⟩:=Sat.C5 hs
 have g:=Mz D M ns pv ps d nm true F w B O J hm
 have hb:(d.may nm true !=0)=true:=by simpa using hm
 clear B O z r hm t
 generalize d.may nm true=q at*
 go_enter Tryz.func49,Tryz.ntmps49
 go_wp2_with (refine g.mono ?_;rintro e y ⟨rfl,rfl⟩)
 go_ret2
 exact ⟨_,rfl,by simpa[A4] using hs.Bj⟩
theorem Cr(D M:Nat)(ns:List Nf)(pv:Value)(ps:List Np)(d:Dk):AS D M ns pv ps d=Ax D M pv d*(mp B9 M (ns.map CA)*(A0 ns*Cp pv ps)):=rfl
theorem XI(D:Nat)(d:Dk)(m:Nat)(nm:ByteArray)(F:Ac)(w:World)(hs:Sat (Bh D d*F) w)(I:nm.size≤9223372036854775807)(ok:Ok m d)(X:m≤Iq):
 Calls Tryz.prog 102 #[.pointer (some ⟨D,0,none⟩),.string nm] w fun e O=>e= .returned (.int .i64 (d.sync nm).1)∧Sat (Bh D (d.sync nm).2*F) O:=by
 have a2:m≤1099511627776:=X
 by_cases hm:d.may nm true=0
 ·obtain ⟨M,l1,x,l2,pv,ps,rfl,y,u,r,U,V,W,a⟩:=JH hs hm (KI hm)
  have g:=ET D M l1 x l2 pv ps d true F w a y I U V
  cases i:d.stop with
  | true =>
   have p:d.sync x.nm=(8, { d with down:=true }):=by unfold Dk.sync;rw[if_neg (by simp[hm]),if_pos i]
   rw[p]
   have n:=Ir D M pv d _ w (a.eq (by rw[Cr,Ar])) i
   have K:Aside (BE (l1++x::l2)=d.files∧B4 ps=d.AO):=⟨u,r⟩
   clear hs hm u r U V W p a i ok
   go_enter Tryz.func102,Tryz.ntmps102
   go_wp2_with fail
   refine g.mono ?_
   rintro e O ⟨rfl,rfl⟩
   go_wp2_with fail
   refine n.mono ?_
   rintro e Q ⟨rfl,a⟩
   go_wp2
   go_ret
   refine ⟨rfl,Sat.Ce (M:=M) (pv:=pv) (d:= { d with down:=true }) K.out.1 K.out.2 (a.eq ?_)⟩
   rw[Cr]
   ac_rfl
  | false =>
   have p:d.sync x.nm=(0,(d.Bz.put x.nm { x.f with safe:=x.f.now,sure:=true }).settled x.nm):=by
    unfold Dk.sync;rw[if_neg (by simp[hm]),if_neg (by simp[i]),W];rfl
   rw[p]
   have z:=(ok.sz (x.nm,x.f) (by rw[←u];simp[BE])).1
   have a3:x.f.now.length≤1099511627776:=z
   have Y:ps.length≤1099511627776:=by have:=ok.AO;rw[←r] at this;simp[B4] at this;omega
   have n:=Lo D M pv d _ w (a.eq (by rw[Cr,Ar])) i (by have:=ok.left;omega) ok.left.2 ok.changes.1 (by have:=ok.changes;omega)
   have K:Aside (BE (l1++x::l2)=d.files∧B4 ps=d.AO∧(∀m∈l1,m.nm≠x.nm)):=⟨u,r,y⟩
   obtain ⟨i0,E⟩:=Ez
   clear hs hm u r U V W p a i ok z
   go_enter Tryz.func102,Tryz.ntmps102
   go_wp2_with fail
   refine g.mono ?_
   rintro e O ⟨rfl,rfl⟩
   go_wp2_with fail
   refine n.mono ?_
   rintro e Q ⟨rfl,a⟩
   clear g n
   have k:Sat (Bv x*(J7 D M l1 x l2 pv ps d.Bz*F)) Q:=a.eq (by rw[←Ar (Bv x),←CI,Cr];ac_rfl)
   unfold Bv at k
   have c0:=k.c x.b 0
   have aa:x.b<Q.heap.size:=World.block_lt_of_cell? Q _ c0
   obtain ⟨va,vc,hv,ad,ae⟩:=E7 (k.take (rw TB 1 x.nv (A4 x.f.now)))
   have v:=Cy (e:=TB) (s:=1) k
   have j:=Reads.rw _ _ (v.take (rw TB 1 x.nv (A4 x.f.now)))
   rw[hv] at c0 j
   have t:=j.src (P:=Tryz.prog)
   clear a k j
   go_wp2_with (at_builtin;refine Aj E rfl (.tmp 22) (.tmp 26) rfl rfl rfl v t (by unfold maxLen;omega) (by omega) ?_;intro a' L w2 l G;simp only[Nat.zero_add,List.nil_append] at l;have k1:=l.c x.b 1;have f1:=l.f x.b 1;have o:=l.Et x.b 1 (.slice a' x.f.now.length L);have k2:=o.c x.b 2;have f2:=o.f x.b 2;have Z:=o.Et x.b 2 (.bool true);clear v t G l o)
   have H:=Mc D M pv ps d.Bz x.nm (Bv { x with f:= { x.f with safe:=x.f.now,sure:=true },sv:= .slice a' x.f.now.length L } *(mp B9 M ((l1++x::l2).map CA)*(A0 l1*(A0 l2*F)))) _ (Sat.CR (B:=rw TB 1 x.sv (A4 x.f.safe)) (Z.eq (by unfold J7 Bv;ac_rfl))) Y
   refine H.mono ?_
   rintro e w3 ⟨J,rfl,a0⟩
   go_wp2
   go_ret
   refine ⟨rfl,?_⟩
   obtain ⟨g1,g2,g3⟩:=K.out
   have e5:BE (l1++ { x with f:= { x.f with safe:=x.f.now,sure:=true },sv:= .slice a' x.f.now.length L } ::l2)=Dj x.nm { x.f with safe:=x.f.now,sure:=true } d.files:=by
    rw[←g1,JJ _ g3]
    simp[BE]
   refine Sat.Ce (M:=M) (ns:=l1++ { x with f:= { x.f with safe:=x.f.now,sure:=true },sv:= .slice a' x.f.now.length L } ::l2) (pv:=J) (ps:=others x.nm ps) e5 (by rw[Ht,g2];rfl) (a0.eq ?_)
   rw[CI]
   have e6: ∀(R:Nf)(T:Dk),R.b=x.b→R.nm=x.nm→J7 D M l1 R l2 J (others x.nm ps) T=J7 D M l1 x l2 J (others x.nm ps) T:=fun R T hb hn=>X2 hb.symm hn.symm
   rw[e6]
   · unfold J7
     show Ax D M J d.Bz*_=_*(Ax D M J d.Bz*_)*_
     ac_rfl
   · rfl
   rfl
 have p:d.sync nm=(d.may nm true,d):=by unfold Dk.sync;rw[if_pos hm]
 rw[p]
 obtain ⟨M,ns,pv,ps,y,u,r⟩:=Sat.C5 hs
 have g:=Mz D M ns pv ps d nm true F w r y I hm
 have hb:(d.may nm true !=0)=true:=by simpa using hm
 have a9:(d.may nm true==0)=false:=by simpa using hm
 clear r y u p hm ok
 generalize d.may nm true=q at*
 go_enter Tryz.func102,Tryz.ntmps102
 go_wp2_with (refine g.mono ?_;rintro e O ⟨rfl,rfl⟩)
 go_ret
 exact ⟨rfl,hs⟩
theorem KT(ps:List Np)(x:Np):AM (ps++ [x])=AM ps*EX x:=by rw[IF];simp[AM,Bd]
def TZ(D M:Nat)(d:Dk):Ac:=
 Dl D TD 7*(Sl.cell D 0 (.int .i64 d.room)*(Sl.cell D 1 (.int .i64 d.changes)*(Sl.cell D 2 (.int .i64 d.left)*(Sl.cell D 3 (.bool d.D5)*(Sl.cell D 4 (.bool d.down)*Sl.cell D 5 (.map (some M)))))))
theorem Ms(D M:Nat)(pv:Value)(d:Dk):Ax D M pv d=Sl.cell D 6 pv*TZ D M d:=by unfold Ax TZ;ac_rfl
theorem GG{M D:Nat}{ms:List (ByteArray×Value)}(nm:ByteArray){b d:Option Addr}{c e:Nat}{l:List UInt8}{B G:Ac}{w:World}
 (hs:Sat (rw TB 1 (.slice b l.length c) (A4 l)*(rw TB 1 (.slice d l.length e) (A4 l)*(B*(Sl.cell D 5 (.map (some M))*(mp B9 M ms*G))))) w):
 ∃k,(Instr.mapUpdate Zx (.map (some M)) (.string nm) (.pointer (some ⟨w.heap.size,0,none⟩))).run Tryz.prog (w.alloc (.cells #[.slice b l.length c,.slice d l.length e,.bool true] TF))= .ok () k∧
  Sat (Bv ⟨w.heap.size,nm,⟨l,l,true⟩,.slice b l.length c,.slice d l.length e⟩*(mp B9 M (Er nm (.pointer (some ⟨w.heap.size,0,none⟩)) ms)*(B*(Sl.cell D 5 (.map (some M))*G)))) k:=by
 have g:=hs.alloc #[.slice b l.length c,.slice d l.length e,.bool true] TF
 obtain ⟨o,m,a⟩:=(g.take (mp B9 M ms)).Ct
 obtain ⟨o',f,j⟩:=Ch (P:=Tryz.prog) JO Tryz.underlying148 a.obj m nm (.pointer (some ⟨w.heap.size,0,none⟩))
 refine ⟨_,j,?_⟩
 have i:=Sat.Dn f (a.Gy o')
 refine i.eq ?_
 unfold Bv
 simp only[block,Sl.cells,Bd,List.length_cons,List.length_nil,Nat.zero_add,Nat.reduceAdd]
 ac_rfl
def Wm(D:Nat)(pv:Value)(d:Dk):Ac:=
 Dl D TD 7*(Sl.cell D 0 (.int .i64 d.room)*(Sl.cell D 1 (.int .i64 d.changes)*(Sl.cell D 2 (.int .i64 d.left)*(Sl.cell D 3 (.bool d.D5)*(Sl.cell D 4 (.bool d.down)*Sl.cell D 6 pv)))))
theorem TY(D M:Nat)(pv:Value)(d:Dk):Ax D M pv d=Sl.cell D 5 (.map (some M))*Wm D pv d:=by unfold Ax Wm;ac_rfl
theorem OV(D M:Nat)(ns:List Nf)(pv:Value)(ps:List Np)(d:Dk)(nm:ByteArray)(fv:Value)(v:Value)(l:List UInt8)(B F:Ac)(w:World)(u:Reads B v l)(hs:Sat (AS D M ns pv ps d*(B*F)) w)
 (a1:nm.size≤9223372036854775807) (hn:named nm=true) (hl:l.length≤35184372088832) (hp:ps.length≤1099511627776)
 (T:(Instr.lookup Zx (.map (some M)) (.string nm) false).run Tryz.prog w= .ok fv w)
 (K:Calls Tryz.prog 69 #[.pointer (some ⟨D,0,none⟩),fv,.int .i64 l.length] w fun e W=>e= .returned (.int .i64 0)∧Sat (AS D M ns pv ps d*(B*F)) W):
 Calls Tryz.prog 15 #[.pointer (some ⟨D,0,none⟩),.string nm,v] w fun e W=> ∃b V nv sv,e= .returned (.int .i64 0)∧
  Sat (Ax D M V d*(Cp V (others nm ps)*(Bv ⟨b,nm,⟨l,l,true⟩,nv,sv⟩*(mp B9 M (Er nm (.pointer (some ⟨b,0,none⟩)) (ns.map CA))*(A0 ns*(B*F)))))) W:=by
 have U:=FD nm w a1
 rw[hn] at U
 obtain ⟨xa,xc,rfl,a8,a9⟩:=(u _ _ (hs.take B)).len
 obtain ⟨i0,E⟩:=Ez
 have c5:w.cell? ⟨D,5,none⟩=some (.map (some M)):=by unfold AS Ax at hs;exact hs.c D 5
 clear hs hn
 go_enter Tryz.func15,Tryz.ntmps15
 go_wp2_with fail
 refine U.mono ?_
 rintro e W ⟨rfl,rfl⟩
 go_wp2_with fail
 refine K.mono ?_
 rintro e w1 ⟨rfl,X⟩
 have Q:=Mc D M pv ps d nm (mp B9 M (ns.map CA)*(A0 ns*(B*F))) w1 (X.eq (by unfold AS;ac_rfl)) hp
 clear U T K c5 X
 go_wp2_with fail
 refine Q.mono ?_
 rintro e n ⟨V,rfl,Y⟩
 clear Q
 go_wp2_with fail
 obtain ⟨G,HG⟩: ∃G,Aside (Wm D V d*(Cp V (others nm ps)*(A0 ns*F))=G):=⟨_,rfl⟩
 have Z:Sat (B*(Sl.cell D 5 (.map (some M))*(mp B9 M (ns.map CA)*G))) n:=Y.eq (by rw[←HG.out,TY];ac_rfl)
 have g5:=Z.c D 5
 have hD:D<n.heap.size:=World.block_lt_of_cell? _ _ g5
 clear Y
 have R:=(Cy (e:=TB) (s:=1) Z)
 have P:=(Cy (e:=TB) (s:=1) R).drew
 have R:=R.drew
 have e1:(n.alloc (.cells #[] TB)).heap.size=n.heap.size+1:=by simp
 rw[e1] at P
 have j1:=R.c D 5
 have j2:=P.c D 5
 clear e1
 go_region_held3 (fun W=>W.cell? ⟨D,5,none⟩=some (.map (some M))) (first|exact z|exact g|exact y|exact H|exact x|exact j1|exact j2|exact g5) (first
  |(refine A1 E rfl (.tmp 36) (.tmp 37) rfl rfl rfl (R) ((u _ _ (R.take B)).src) (by unfold maxLen;omega) (by omega) ?_;intro o p O a i;simp only[Nat.zero_add,List.nil_append] at a;have H:=a.c D 5;have x:=(Cy (e:=TB) (s:=1) a).c D 5;have I:D<O.heap.size:=World.block_lt_of_cell? _ _ H;clear i)
  |(refine A1 E rfl (.tmp 36) (.tmp 37) rfl rfl rfl (P.take (rw TB 1 (.slice (some ⟨n.heap.size,0,none⟩) 0 0) [])) ((u _ _ (P.take B)).src) (by unfold maxLen;omega) (by omega) ?_;intro o p O a i;simp only[Nat.zero_add,List.nil_append] at a;have H:=a.c D 5;have x:=(Cy (e:=TB) (s:=1) a).c D 5;have I:D<O.heap.size:=World.block_lt_of_cell? _ _ H;clear i)
  |(refine A1 E rfl (.tmp 36) (.tmp 37) rfl rfl rfl (P) ((u _ _ (P.take B)).src) (by unfold maxLen;omega) (by omega) ?_;intro o p O a i;simp only[Nat.zero_add,List.nil_append] at a;have H:=a.c D 5;have x:=(Cy (e:=TB) (s:=1) a).c D 5;have I:D<O.heap.size:=World.block_lt_of_cell? _ _ H;clear i)
  |(refine A1 E rfl (.tmp 39) (.tmp 40) rfl rfl rfl (R) ((u _ _ (R.take B)).src) (by unfold maxLen;omega) (by omega) ?_;intro q r O a i;simp only[Nat.zero_add,List.nil_append] at a;have H:=a.c D 5;have x:=(Cy (e:=TB) (s:=1) a).c D 5;have I:D<O.heap.size:=World.block_lt_of_cell? _ _ H;clear i)
  |(refine A1 E rfl (.tmp 39) (.tmp 40) rfl rfl rfl (P.take (rw TB 1 (.slice (some ⟨n.heap.size,0,none⟩) 0 0) [])) ((u _ _ (P.take B)).src) (by unfold maxLen;omega) (by omega) ?_;intro q r O a i;simp only[Nat.zero_add,List.nil_append] at a;have H:=a.c D 5;have x:=(Cy (e:=TB) (s:=1) a).c D 5;have I:D<O.heap.size:=World.block_lt_of_cell? _ _ H;clear i)
  |(refine A1 E rfl (.tmp 39) (.tmp 40) rfl rfl rfl (P) ((u _ _ (P.take B)).src) (by unfold maxLen;omega) (by omega) ?_;intro q r O a i;simp only[Nat.zero_add,List.nil_append] at a;have H:=a.c D 5;have x:=(Cy (e:=TB) (s:=1) a).c D 5;have I:D<O.heap.size:=World.block_lt_of_cell? _ _ H;clear i)
  |(refine A1 E rfl (.tmp 36) (.tmp 37) rfl rfl rfl (Cy (e:=TB) (s:=1) a) ((u _ _ ((Cy (e:=TB) (s:=1) a).take B)).src) (by unfold maxLen;omega) (by omega) ?_;intro o p t k j;simp only[Nat.zero_add,List.nil_append] at k;have m:Sat (rw TB 1 (.slice o l.length p) (A4 l)*(rw TB 1 (.slice q l.length r) (A4 l)*(B*(Sl.cell D 5 (.map (some M))*(mp B9 M (ns.map CA)*G))))) t:=k.eq (by ac_rfl);clear j;obtain ⟨w5,L,f⟩:=GG nm m;have z:=f.c D 5;have g:=m.c D 5;have y:=(m.alloc #[.slice o l.length p,.slice q l.length r,.bool true] TF).c D 5;have J:D<t.heap.size:=World.block_lt_of_cell? _ _ g;clear a k)
  |(refine A1 E rfl (.tmp 36) (.tmp 37) rfl rfl rfl (a.take (rw TB 1 (.slice (some ⟨n.heap.size,0,none⟩) 0 0) [])) ((u _ _ (a.take B)).src) (by unfold maxLen;omega) (by omega) ?_;intro o p t k j;simp only[Nat.zero_add,List.nil_append] at k;have m:Sat (rw TB 1 (.slice o l.length p) (A4 l)*(rw TB 1 (.slice q l.length r) (A4 l)*(B*(Sl.cell D 5 (.map (some M))*(mp B9 M (ns.map CA)*G))))) t:=k.eq (by ac_rfl);clear j;obtain ⟨w5,L,f⟩:=GG nm m;have z:=f.c D 5;have g:=m.c D 5;have y:=(m.alloc #[.slice o l.length p,.slice q l.length r,.bool true] TF).c D 5;have J:D<t.heap.size:=World.block_lt_of_cell? _ _ g;clear a k)
  |(refine A1 E rfl (.tmp 36) (.tmp 37) rfl rfl rfl (a.take (rw TB 1 (.slice (some ⟨n.heap.size+1,0,none⟩) 0 0) [])) ((u _ _ (a.take B)).src) (by unfold maxLen;omega) (by omega) ?_;intro o p t k j;simp only[Nat.zero_add,List.nil_append] at k;have m:Sat (rw TB 1 (.slice o l.length p) (A4 l)*(rw TB 1 (.slice q l.length r) (A4 l)*(B*(Sl.cell D 5 (.map (some M))*(mp B9 M (ns.map CA)*G))))) t:=k.eq (by ac_rfl);clear j;obtain ⟨w5,L,f⟩:=GG nm m;have z:=f.c D 5;have g:=m.c D 5;have y:=(m.alloc #[.slice o l.length p,.slice q l.length r,.bool true] TF).c D 5;have J:D<t.heap.size:=World.block_lt_of_cell? _ _ g;clear a k)
  |(refine A1 E rfl (.tmp 39) (.tmp 40) rfl rfl rfl (Cy (e:=TB) (s:=1) a) ((u _ _ ((Cy (e:=TB) (s:=1) a).take B)).src) (by unfold maxLen;omega) (by omega) ?_;intro q r t k j;simp only[Nat.zero_add,List.nil_append] at k;have m:Sat (rw TB 1 (.slice o l.length p) (A4 l)*(rw TB 1 (.slice q l.length r) (A4 l)*(B*(Sl.cell D 5 (.map (some M))*(mp B9 M (ns.map CA)*G))))) t:=k.eq (by ac_rfl);clear j;obtain ⟨w5,L,f⟩:=GG nm m;have z:=f.c D 5;have g:=m.c D 5;have y:=(m.alloc #[.slice o l.length p,.slice q l.length r,.bool true] TF).c D 5;have J:D<t.heap.size:=World.block_lt_of_cell? _ _ g;clear a k)
  |(refine A1 E rfl (.tmp 39) (.tmp 40) rfl rfl rfl (a.take (rw TB 1 (.slice (some ⟨n.heap.size,0,none⟩) 0 0) [])) ((u _ _ (a.take B)).src) (by unfold maxLen;omega) (by omega) ?_;intro q r t k j;simp only[Nat.zero_add,List.nil_append] at k;have m:Sat (rw TB 1 (.slice o l.length p) (A4 l)*(rw TB 1 (.slice q l.length r) (A4 l)*(B*(Sl.cell D 5 (.map (some M))*(mp B9 M (ns.map CA)*G))))) t:=k.eq (by ac_rfl);clear j;obtain ⟨w5,L,f⟩:=GG nm m;have z:=f.c D 5;have g:=m.c D 5;have y:=(m.alloc #[.slice o l.length p,.slice q l.length r,.bool true] TF).c D 5;have J:D<t.heap.size:=World.block_lt_of_cell? _ _ g;clear a k)
  |(refine A1 E rfl (.tmp 39) (.tmp 40) rfl rfl rfl (a.take (rw TB 1 (.slice (some ⟨n.heap.size+1,0,none⟩) 0 0) [])) ((u _ _ (a.take B)).src) (by unfold maxLen;omega) (by omega) ?_;intro q r t k j;simp only[Nat.zero_add,List.nil_append] at k;have m:Sat (rw TB 1 (.slice o l.length p) (A4 l)*(rw TB 1 (.slice q l.length r) (A4 l)*(B*(Sl.cell D 5 (.map (some M))*(mp B9 M (ns.map CA)*G))))) t:=k.eq (by ac_rfl);clear j;obtain ⟨w5,L,f⟩:=GG nm m;have z:=f.c D 5;have g:=m.c D 5;have y:=(m.alloc #[.slice o l.length p,.slice q l.length r,.bool true] TF).c D 5;have J:D<t.heap.size:=World.block_lt_of_cell? _ _ g;clear a k))
 all_goals
  go_wp2
  go_ret
  exact ⟨t.heap.size,V,.slice o l.length p,.slice q l.length r,rfl,f.eq (by rw[←HG.out,TY];ac_rfl)⟩
theorem Rg{l1:List Nf}{n n':Nf}{l2:List Nf}(h: ∀m∈l1,m.nm≠n.nm)(a:n'.nm=n.nm):Er n.nm (.pointer (some ⟨n'.b,0,none⟩)) ((l1++n::l2).map CA)=(l1++n'::l2).map CA:=by
 induction l1 with
 |nil=>simp[CA,Er,a]
 | cons m l c =>
  show (if n.nm=m.nm then _ else _)=_
  rw[if_neg (fun e=>h m (by simp) e.symm)]
  have:=c fun m hm=>h m (by simp[hm])
  simp only[List.map_cons,List.cons_append,this]
  exact congrArg _ this
theorem Nn{ns:List Nf}{n':Nf}(h: ∀m∈ns,m.nm≠n'.nm):Er n'.nm (.pointer (some ⟨n'.b,0,none⟩)) (ns.map CA)=(ns++ [n']).map CA:=by
 rw[Nl (Nk h)];simp[CA]
theorem Ul{m:Nat}{d:Dk}{ns:List Nf}(ok:Ok m d)(a:BE ns=d.files):lens ns≤17592186044416:=by
 have b: ∀l:List Nf,(∀n∈l,n.f.now.length≤1099511627776)→lens l≤l.length*1099511627776:=by
  intro l
  induction l with
  |nil=>intro _;simp[lens]
  | cons n l g =>
   intro h
   have:=g fun m hm=>h m (by simp[hm])
   have:=h n (by simp)
   rw[FB,List.length_cons]
   omega
 have i:=b ns fun n e=>(ok.sz (n.nm,n.f) (by rw[←a];exact List.mem_map.2 ⟨n,e,rfl⟩)).1
 have c:ns.length≤16:=by have:=ok.nf;rw[←a] at this;simpa[BE] using this
 have j:ns.length*1099511627776≤16*1099511627776:=Nat.mul_le_mul_right _ c
 omega
theorem WV(D:Nat)(d:Dk)(m:Nat)(nm:ByteArray)(v:Value)(l:List UInt8)(B F:Ac)(w:World)(O:Reads B v l)(hs:Sat (Bh D d*(B*F)) w)(u:nm.size≤9223372036854775807)(hl:l.length≤35184372088832)(ok:Ok m d)(P:m≤Iq):
 Calls Tryz.prog 15 #[.pointer (some ⟨D,0,none⟩),.string nm,v] w fun e o=>e= .returned (.int .i64 (d.load nm l).1)∧Sat (Bh D (d.load nm l).2*(B*F)) o:=by
 have Q:m≤1099511627776:=P
 obtain ⟨V,W,rfl,T,U⟩:=(O _ _ (hs.take B)).len
 obtain ⟨M,ns,pv,ps,j,y,r⟩:=Sat.C5 hs
 have R:=Ul ok j
 have H:ps.length≤1099511627776:=by have:=ok.AO;rw[←y] at this;simp[B4] at this;omega
 have X:w.cell? ⟨D,5,none⟩=some (.map (some M)):=by unfold AS Ax at r;exact r.c D 5
 cases k:named nm with
 | false =>
  have p:d.load nm l=(1,d):=by unfold Dk.load;rw[if_pos k]
  rw[p]
  have n:=FD nm w u
  rw[k] at n
  clear j y r ok k p
  go_enter Tryz.func15,Tryz.ntmps15
  go_wp2_with fail
  refine n.mono ?_
  rintro e o ⟨rfl,rfl⟩
  go_wp2
  go_ret
  exact ⟨rfl,hs⟩
 | true =>
  have bad: ∀(J:Value)(q:Int),q≠0→(Instr.lookup Zx (.map (some M)) (.string nm) false).run Tryz.prog w= .ok J w→
   (Calls Tryz.prog 69 #[.pointer (some ⟨D,0,none⟩),J,.int .i64 l.length] w fun e o=>e= .returned (.int .i64 q)∧Sat (AS D M ns pv ps d*(B*F)) o)→
   Calls Tryz.prog 15 #[.pointer (some ⟨D,0,none⟩),.string nm,.slice V l.length W] w fun e o=>e= .returned (.int .i64 q)∧Sat (AS D M ns pv ps d*(B*F)) o:=by
   intro J q hq g a
   have n:=FD nm w u
   rw[k] at n
   have hb:(q !=0)=true:=by simpa using hq
   clear j y r ok k hs hq
   go_enter Tryz.func15,Tryz.ntmps15
   go_wp2_with fail
   refine n.mono ?_
   rintro e o ⟨rfl,rfl⟩
   go_wp2_with fail
   refine a.mono ?_
   rintro e Y ⟨rfl,i⟩
   go_wp2
   go_ret
   exact ⟨rfl,i⟩
  rcases Fo ns nm with ⟨l1,x,l2,rfl,rfl,s⟩|s
  · have G:d.get x.nm=some x.f:=by unfold Dk.get;rw[←j,Ef s]
    have g:=I6 (F:=Ax D M pv d*(A0 (l1++x::l2)*(Cp pv ps*(B*F)))) (r.eq (by unfold AS;ac_rfl)) s
    have a:=Lu D M l1 x l2 pv ps d l.length (B*F) w r j (by omega) (by omega) (by omega)
    by_cases t:d.fits (some x.f) l.length=0
    ·rw[t] at a
     have p:d.load x.nm l=(0,(d.settled x.nm).put x.nm ⟨l,l,true⟩):=by unfold Dk.load;rw[if_neg (by simp[k]),G,if_neg (by simp[t])]
     rw[p]
     refine (OV D M _ pv ps d x.nm _ _ l B F w O r u k hl H g a).mono ?_
     rintro e o ⟨b,z,nv,sv,rfl,i⟩
     refine ⟨rfl,?_⟩
     refine Sat.Ce (M:=M) (ns:=l1++⟨b,x.nm,⟨l,l,true⟩,nv,sv⟩::l2) (pv:=z) (ps:=others x.nm ps) ?_ (by rw[Ht,y];rfl) ?_
     ·show _=Dj x.nm ⟨l,l,true⟩ d.files
      rw[←j,JJ _ s];simp[BE]
     have I:=Rg (n':=⟨b,x.nm,⟨l,l,true⟩,nv,sv⟩) (l2:=l2) s rfl
     rw[I] at i
     refine Sat.CR (B:=Bv x) (i.eq ?_)
     rw[Cr,Ba,Ba,A0,A0]
     show Ax D M z d*_=Ax D M z d*_*_*_
     ac_rfl
    have p:d.load x.nm l=(d.fits (some x.f) l.length,d):=by unfold Dk.load;rw[if_neg (by simp[k]),G,if_pos t]
    rw[p]
    exact (bad _ _ t g a).mono fun e o ⟨K,L⟩=>⟨K,Sat.Ce j y L⟩
  have G:d.get nm=none:=by unfold Dk.get;rw[←j,EM s]
  have g:=JQ (F:=Ax D M pv d*(A0 ns*(Cp pv ps*(B*F)))) (r.eq (by unfold AS;ac_rfl)) s
  have a:=Lt D M ns pv ps d l.length (B*F) w r j (by omega) (by omega) (by omega)
  by_cases t:d.fits none l.length=0
  · rw[t] at a
    have p:d.load nm l=(0,(d.settled nm).put nm ⟨l,l,true⟩):=by unfold Dk.load;rw[if_neg (by simp[k]),G,if_neg (by simp[t])]
    rw[p]
    refine (OV D M _ pv ps d nm _ _ l B F w O r u k hl H g a).mono ?_
    rintro e o ⟨b,z,nv,sv,rfl,i⟩
    refine ⟨rfl,?_⟩
    refine Sat.Ce (M:=M) (ns:=ns++ [⟨b,nm,⟨l,l,true⟩,nv,sv⟩]) (pv:=z) (ps:=others nm ps) ?_ (by rw[Ht,y];rfl) ?_
    ·show _=Dj nm ⟨l,l,true⟩ d.files
     rw[←j,OJ _ s];simp[BE]
    have I:=Nn (n':=⟨b,nm,⟨l,l,true⟩,nv,sv⟩) s
    rw[I] at i
    refine i.eq ?_
    rw[Cr,Ba,A0,A0,Bd]
    show Ax D M z d*_=Ax D M z d*_*_
    ac_rfl
  have p:d.load nm l=(d.fits none l.length,d):=by unfold Dk.load;rw[if_neg (by simp[k]),G,if_pos t]
  rw[p]
  exact (bad _ _ t g a).mono fun e o ⟨K,L⟩=>⟨K,Sat.Ce j y L⟩
