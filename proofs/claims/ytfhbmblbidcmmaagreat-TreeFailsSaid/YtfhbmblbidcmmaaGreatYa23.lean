/- treeFails holds for every input. No condition. (part 23) -/
import Derived.Test.YtfhbmblbidcmmaaGreatYa20
import Derived.Handy
set_option linter.all false
set_option maxRecDepth 100000
set_option maxHeartbeats 1600000
namespace Go.Proofs.YtfhbmblbidcmmaaGreat
open Go.RowKit Go.Sl Go.Dk Go.Tr
theorem To(b:Nat)(ns:List Int)(e:ns.length≤1048576):Al 1 (Sl.block b ED (ints ns)) (.slice (some ⟨b,0,none⟩) ns.length ns.length) ns.length (ints ns):=by
 refine ⟨by simp[ints],_,_,rfl,Nat.le_refl _,by omega,fun j u d=>⟨b,0,rfl,?_⟩⟩
 haveI:At (ints ns) j u:=⟨d⟩
 rw[Nat.zero_add]
 infer_instance
section
variable (o:List UInt8) (a:Option Addr) (m c b:Nat) (F:Ac) (w:World)
theorem NB(x:Int)(hm:m=o.length)(hs:Sat (rw TB 1 (.slice a m c) (A4 o)*(Sl.block b ED [.int .i64 x]*F)) w)(p:m≤1048576)(q:0≤x)(hx:x<256):
 Calls Tryz.prog 233 #[.slice a m c,.int .i64 1,.slice (some ⟨b,0,none⟩) 1 1] w fun e k=> ∃a' d,e= .returned (.slice a' (m+1) d)∧Sat (rw TB 1 (.slice a' (m+1) d) (A4 (o++BF x.toNat 1))*(Sl.block b ED [.int .i64 x]*F)) k:=by
 subst hm
 have f:n4 x=x.toNat:=by unfold n4;rw[if_neg (by omega)]
 have h:=L3 o a c 1 [x] _ _ F w (To b [x] (by simp)) hs p (by simp) (by omega) (by omega) (by intro n j;simp at j;subst j;rw[f];omega)
 refine h.mono ?_
 rintro e k ⟨a',d,rfl,i⟩
 have l:o++Oi 1 [x]=o++BF x.toNat 1:=by simp[Oi,f]
 have g:(o++Oi 1 [x]).length=o.length+1:=by rw[List.length_append,PW];rfl
 rw[g,l] at i
 exact ⟨a',d,by rw[g],i⟩
theorem Xu(x y z:Int)(hm:m=o.length)(hs:Sat (rw TB 1 (.slice a m c) (A4 o)*(Sl.block b ED [.int .i64 x,.int .i64 y,.int .i64 z]*F)) w)(l:m≤1048576)(hx: -1≤x∧x≤16777216)(hy: -1≤y∧y≤16777216)(p: -1≤z∧z≤16777216):
 Calls Tryz.prog 233 #[.slice a m c,.int .i64 4,.slice (some ⟨b,0,none⟩) 3 3] w fun e j=> ∃a' d,e= .returned (.slice a' (m+12) d)∧Sat (rw TB 1 (.slice a' (m+12) d) (A4 (o++(BF (n4 x) 4++(BF (n4 y) 4++BF (n4 z) 4))))*(Sl.block b ED [.int .i64 x,.int .i64 y,.int .i64 z]*F)) j:=by
 subst hm
 have h:=L3 o a c 4 [x,y,z] _ _ F w (To b [x,y,z] (by simp)) hs l (by simp) (by omega) (by omega) (by
  intro n i
  simp at i
  rcases i with rfl|rfl|rfl
  ·exact ⟨hx.1,by omega,Gm (by omega)⟩
  ·exact ⟨hy.1,by omega,Gm (by omega)⟩
  exact ⟨p.1,by omega,Gm (by omega)⟩)
 refine h.mono ?_
 rintro e j ⟨a',d,rfl,g⟩
 have k:Oi 4 [x,y,z]=BF (n4 x) 4++(BF (n4 y) 4++BF (n4 z) 4):=by simp[Oi]
 have f:(o++Oi 4 [x,y,z]).length=o.length+12:=by rw[List.length_append,PW];rfl
 rw[f,k] at g
 exact ⟨a',d,by rw[f],g⟩
theorem Xv(x y z q:Int)(hm:m=o.length)(hs:Sat (rw TB 1 (.slice a m c) (A4 o)*(Sl.block b ED [.int .i64 x,.int .i64 y,.int .i64 z,.int .i64 q]*F)) w)(l:m≤1048576)(hx: -1≤x∧x≤16777216)(hy: -1≤y∧y≤16777216)(p: -1≤z∧z≤16777216)(hq: -1≤q∧q≤16777216):
 Calls Tryz.prog 233 #[.slice a m c,.int .i64 4,.slice (some ⟨b,0,none⟩) 4 4] w fun e j=> ∃a' d,e= .returned (.slice a' (m+16) d)∧Sat (rw TB 1 (.slice a' (m+16) d) (A4 (o++(BF (n4 x) 4++(BF (n4 y) 4++(BF (n4 z) 4++BF (n4 q) 4)))))*(Sl.block b ED [.int .i64 x,.int .i64 y,.int .i64 z,.int .i64 q]*F)) j:=by
 subst hm
 have h:=L3 o a c 4 [x,y,z,q] _ _ F w (To b [x,y,z,q] (by simp)) hs l (by simp) (by omega) (by omega) (by
  intro n i
  simp at i
  rcases i with rfl|rfl|rfl|rfl
  ·exact ⟨hx.1,by omega,Gm (by omega)⟩
  ·exact ⟨hy.1,by omega,Gm (by omega)⟩
  ·exact ⟨p.1,by omega,Gm (by omega)⟩
  exact ⟨hq.1,by omega,Gm (by omega)⟩)
 refine h.mono ?_
 rintro e j ⟨a',d,rfl,g⟩
 have k:Oi 4 [x,y,z,q]=BF (n4 x) 4++(BF (n4 y) 4++(BF (n4 z) 4++BF (n4 q) 4)):=by simp[Oi]
 have f:(o++Oi 4 [x,y,z,q]).length=o.length+16:=by rw[List.length_append,PW];rfl
 rw[f,k] at g
 exact ⟨a',d,by rw[f],g⟩
end
theorem Xa{x:As}(h:Ai x=true):(0≤x.src∧x.src<2)∧(0≤x.pos∧x.pos≤16777216)∧(1≤x.len∧x.len≤1048576)∧(-1≤x.lines∧x.lines≤x.len):=by
 unfold Ai at h
 simp only[decide_eq_true_eq] at h
 omega
theorem Xb{x:Kd}(h:AE x=true):(1≤x.Ay∧x.Ay<1048576)∧(1≤x.bytes∧x.bytes≤1048576)∧(-1≤x.lines∧x.lines≤x.bytes)∧(1≤x.A7∧x.A7≤x.bytes):=by
 unfold AE at h
 simp only[decide_eq_true_eq] at h
 omega
end Go.Proofs.YtfhbmblbidcmmaaGreat
namespace Go.Sl
class Sz (w:World) (n:outParam Nat):Prop where
 out:w.heap.size=n
instance(priority:=low) sz_self (w:World):Sz w w.heap.size:=⟨rfl⟩
instance f'(w:World)(o:Obj)(n:Nat)[h:Sz w n]:Sz (w.alloc o) (n+1):=⟨by show (w.heap.push _).size=_;rw[Array.size_push,h.out]⟩
instance l0(w:World)(n:Nat)[h:Sz w n]:Sz w.drew n:=⟨h.out⟩
instance i6(w:World)(n k:Nat)[h:Sz w n]:Sz (w.drewN k) n:=⟨h.out⟩
instance(priority:=20000) alloc_sz {A:Ac} {w:World} {c:Array Value} {t n:Nat} [h:BG A w] [z:Sz w n]:BG (Sl.block n t c.toList*A) (w.alloc (.cells c t)):=⟨by
 have:=h.out.alloc c t
 rwa [z.out] at this⟩
instance(priority:=21000) alloc_szl {A:Ac} {w:World} {l:List Value} {t n:Nat} [h:BG A w] [z:Sz w n]:BG (Sl.block n t l*A) (w.alloc (.cells l.toArray t)):=⟨by
 have:=h.out.alloc l.toArray t
 rwa [z.out] at this⟩
end Go.Sl
namespace Go.Proofs.YtfhbmblbidcmmaaGreat
open Go.RowKit Go.Sl Go.Dk Go.Tr
def Kn(B F:Ac)(r:Int×List UInt8×Int)(e:Ending)(d:World):Prop:= ∃a c,e= .returned (.tuple #[.int .i64 r.1,.slice a r.2.1.length c,.int .i64 r.2.2])∧Sat (rw TB 1 (.slice a r.2.1.length c) (A4 r.2.1)*(B*F)) d
theorem Rm(es:List As)(n:Nat)(hn:es.length=n)(p H:Option Addr)(r J I:Nat)(B F:Ac)(w:World)(hE:Aq B (.slice p es.length r) es)(hs:Sat (B*F) w)(ai:n≤12)(G: ∀x∈es,Ai x=true)
 (k: ∀F w,Sat (B*F) w→Calls Tryz.prog 133 #[.agg #[.bool true,.slice p n r,.slice H J I]] w fun e d=>e= .returned (.bool true)∧Sat (B*F) d):
 Calls Tryz.prog 192 #[.agg #[.bool true,.slice p n r,.slice H J I]] w (Kn B F (1,BF n 1++es.flatMap eb,0)):=by
 have HE:Aside (Aq B (.slice p es.length r) es):=hE
 have Z:Aside (es.length=n):=hn
 have K:Aside (∀x∈es,Ai x=true):=G
 haveI:=hs.i
 clear hE G hn
 go_enter Tryz.func192,Tryz.ntmps192
 go_wp2_with fail
 refine (k _ _ (Ae B)).mono ?_
 rintro e Y ⟨rfl,V⟩
 clear hs k
 obtain ⟨N,hN⟩: ∃N,w.heap.size=N:=⟨_,rfl⟩
 rw[hN] at V⊢
 clear hN this
 haveI:=V.i
 go_wp2_with fail
 refine (NB [] none 0 0 Y.heap.size _ _ (n:Int) rfl (Sat.Bj (e:=TB) (s:=1) (Es:Sat _ (Y.alloc (.cells #[.int .i64 n] ED)))) (by simp) (by omega) (by omega)).mono ?_
 rintro e w3 ⟨O,P,rfl,q3⟩
 have W:Sat (rw TB 1 (.slice O 1 P) (A4 (BF n 1))*(B*(Sl.block N Ev [.bool true,.slice p n r,.slice H J I]*F))) w3:=Sat.CR (B:=Sl.block Y.heap.size ED [.int .i64 n]) (q3.eq (by rw[Int.toNat_natCast];show rw TB 1 (.slice O 1 P) (A4 ([]++BF n 1))*_=_;rw[List.nil_append];ac_rfl))
 clear q3 V this
 haveI:=W.i
 go_wp2_with fail
 go_loopg [3,23] n (fun g t3 X wr=> ∃(i m:Nat)(o:List UInt8)(j:Option Addr)(c2:Nat),X= .int .i64 i∧t3= .slice j m c2∧i≤n∧m≤1048000∧Aside (m=1+13*i∧m=o.length)∧Aside (g=n-i∧o=BF n 1++(es.take i).flatMap eb)∧
  Sat (rw TB 1 (.slice j m c2) (A4 o)*(B*(Sl.block N Ev [.bool true,.slice p n r,.slice H J I]*F))) wr)
 case atStart=>exact ⟨0,1,_,O,P,rfl,rfl,by omega,by omega,⟨rfl,by rw[AB]⟩,⟨rfl,by simp⟩,W⟩
 obtain ⟨i,m,o,j,c2,rfl,rfl,hi,hm,l,A,U⟩:=hrel
 clear W this
 haveI:=U.i
 by_cases Q:i<n
 · have D:(i:Int)<n:=by omega
   obtain ⟨y,hy⟩: ∃y,es[i]?=some y:=⟨_,List.getElem?_eq_getElem (by rw[Z.out];exact Q)⟩
   obtain ⟨b,q,rfl,r1,r2,r3,r4⟩:=BW HE.out hy
   obtain ⟨g1,g2,g3,g4⟩:=Xa (K.out y (List.mem_of_getElem? hy))
   have HT:Aside (es.take (i+1)=es.take i++ [y]):=AA hy
   have HY:Aside (eb y=BF y.src.toNat 1++(BF (n4 y.pos) 4++(BF (n4 y.len) 4++BF (n4 y.lines) 4))):=rfl
   obtain ⟨f,t,u,v⟩:=y
   simp only at g1 g2 g3 g4 r1 r2 r3 r4 HY
   clear hy
   have L:Aside (∀b F w,Sat (rw TB 1 (.slice j m c2) (A4 o)*(Sl.block b ED [.int .i64 f]*F)) w→Calls Tryz.prog 233 #[.slice j m c2,.int .i64 1,.slice (some ⟨b,0,none⟩) 1 1] w fun e d=> ∃a' z,e= .returned (.slice a' (m+1) z)∧Sat (rw TB 1 (.slice a' (m+1) z) (A4 (o++BF f.toNat 1))*(Sl.block b ED [.int .i64 f]*F)) d):=
    fun b F w h=>NB o j m c2 b F w f l.out.2 h (by omega) (by omega) (by omega)
   have M:Aside (∀a c b F w,Sat (rw TB 1 (.slice a (m+1) c) (A4 (o++BF f.toNat 1))*(Sl.block b ED [.int .i64 t,.int .i64 u,.int .i64 v]*F)) w→Calls Tryz.prog 233 #[.slice a (m+1) c,.int .i64 4,.slice (some ⟨b,0,none⟩) 3 3] w fun e d=> ∃a' z,e= .returned (.slice a' (m+1+12) z)∧Sat (rw TB 1 (.slice a' (m+1+12) z) (A4 (o++BF f.toNat 1++(BF (n4 t) 4++(BF (n4 u) 4++BF (n4 v) 4))))*(Sl.block b ED [.int .i64 t,.int .i64 u,.int .i64 v]*F)) d):=
    fun a c b F w h=>Xu (o++BF f.toNat 1) a (m+1) c b F w t u v (by rw[List.length_append,AB];have:=l.out.2;omega) h (by omega) (by omega) (by omega) (by omega)
   clear g1 g2 g3 g4
   go_upto_region 8 with (fail)
   go_region_held3 (fun d=>d.cell? ⟨wr.heap.size,0,none⟩=some (.int .i64 f)∧d.cell? ⟨wr.heap.size,1,none⟩=some (.int .i64 t)∧d.cell? ⟨wr.heap.size,2,none⟩=some (.int .i64 u)∧d.cell? ⟨wr.heap.size,3,none⟩=some (.int .i64 v)) (exact ⟨Aa _ _ _,Aa _ _ _,Aa _ _ _,Aa _ _ _⟩) (first
    |(go_at_call 233;with_reducible refine Calls.mono (L.out _ _ _ (AY _ _)) ?_;rintro e w6 ⟨a6,c6,rfl,R⟩;haveI:=R.i)
    |(go_at_call 233;with_reducible refine Calls.mono (M.out _ _ _ _ _ (AY _ _)) ?_;rintro e w7 ⟨a7,c7,rfl,T⟩;haveI:=T.i))
   all_goals
    go_wp2_with fail
    go_roundg (n-(i+1))
    case measure=>have:=A.out.1;omega
    refine ⟨i+1,m+1+12,o++BF f.toNat 1++(BF (n4 t) 4++(BF (n4 u) 4++BF (n4 v) 4)),a7,c7,by go_num,rfl,by omega,by have:=l.out.1;omega,⟨by have:=l.out.1;omega,by have:=l.out.2;simp[AB];omega⟩,⟨rfl,?_⟩,Dv _ _ _ _⟩
    rw[HT.out,List.flatMap_append,←List.append_assoc (BF n 1),←A.out.2]
    simp[HY.out]
 have D: ¬(i:Int)<n:=by omega
 obtain rfl:i=n:=by omega
 have HO:Aside (o=BF i 1++es.flatMap eb):=(by rw[A.out.2,List.take_of_length_le (by rw[Z.out];exact Nat.le_refl _)]:_=_)
 go_wp2
 go_ret3
 refine ⟨j,c2,?_,?_⟩
 · simp only[Kn]
   rw[←HO.out,←l.out.2]
   rfl
 show Sat (rw TB 1 (.slice j (BF i 1++es.flatMap eb).length c2) (A4 (BF i 1++es.flatMap eb))*(B*F)) wr
 rw[←HO.out,←l.out.2]
 exact AR _ _ _
theorem PY(es:List Kd)(n:Nat)(hn:es.length=n)(D k:Option Addr)(G H l:Nat)(B F:Ac)(w:World)(hE:B1 B (.slice k es.length l) es)(hs:Sat (B*F) w)(af:n≤12)(r: ∀x∈es,AE x=true)
 (f: ∀F w,Sat (B*F) w→Calls Tryz.prog 133 #[.agg #[.bool false,.slice D H G,.slice k n l]] w fun e U=>e= .returned (.bool true)∧Sat (B*F) U):
 Calls Tryz.prog 192 #[.agg #[.bool false,.slice D H G,.slice k n l]] w (Kn B F (2,BF n 1++es.flatMap kb,0)):=by
 have HE:Aside (B1 B (.slice k es.length l) es):=hE
 have W:Aside (es.length=n):=hn
 have I:Aside (∀x∈es,AE x=true):=r
 haveI:=hs.i
 clear hE r hn
 go_enter Tryz.func192,Tryz.ntmps192
 go_wp2_with fail
 refine (f _ _ (Ae B)).mono ?_
 rintro e V ⟨rfl,Q⟩
 clear hs f
 obtain ⟨N,hN⟩: ∃N,w.heap.size=N:=⟨_,rfl⟩
 rw[hN] at Q⊢
 clear hN this
 haveI:=Q.i
 go_wp2_with fail
 refine (NB [] none 0 0 V.heap.size _ _ (n:Int) rfl (Sat.Bj (e:=TB) (s:=1) (Es:Sat _ (V.alloc (.cells #[.int .i64 n] ED)))) (by simp) (by omega) (by omega)).mono ?_
 rintro e w3 ⟨K,L,rfl,q3⟩
 have R:Sat (rw TB 1 (.slice K 1 L) (A4 (BF n 1))*(B*(Sl.block N Ev [.bool false,.slice D H G,.slice k n l]*F))) w3:=Sat.CR (B:=Sl.block V.heap.size ED [.int .i64 n]) (q3.eq (by rw[Int.toNat_natCast];show rw TB 1 (.slice K 1 L) (A4 ([]++BF n 1))*_=_;rw[List.nil_append];ac_rfl))
 clear q3 Q this
 haveI:=R.i
 go_wp2_with fail
 go_loopg [3,54] n (fun g t3 T wr=> ∃(i m:Nat)(o:List UInt8)(d:Option Addr)(c2:Nat),T= .int .i64 i∧t3= .slice d m c2∧i≤n∧m≤1048000∧Aside (m=1+16*i∧m=o.length)∧Aside (g=n-i∧o=BF n 1++(es.take i).flatMap kb)∧
  Sat (rw TB 1 (.slice d m c2) (A4 o)*(B*(Sl.block N Ev [.bool false,.slice D H G,.slice k n l]*F))) wr)
 case atStart=>exact ⟨0,1,_,K,L,rfl,rfl,by omega,by omega,⟨rfl,by rw[AB]⟩,⟨rfl,by simp⟩,R⟩
 obtain ⟨i,m,o,d,c2,rfl,rfl,hi,hm,j,A,P⟩:=hrel
 clear R this
 haveI:=P.i
 by_cases M:i<n
 · have p:(i:Int)<n:=by omega
   obtain ⟨y,hy⟩: ∃y,es[i]?=some y:=⟨_,List.getElem?_eq_getElem (by rw[W.out];exact M)⟩
   obtain ⟨b,q,rfl,r1,r2,r3,r4⟩:=Dc HE.out hy
   obtain ⟨g1,g2,g3,g4⟩:=Xb (I.out y (List.mem_of_getElem? hy))
   have HT:Aside (es.take (i+1)=es.take i++ [y]):=AA hy
   have Y:Aside (kb y=BF (n4 y.Ay) 4++(BF (n4 y.bytes) 4++(BF (n4 y.lines) 4++BF (n4 y.A7) 4))):=rfl
   obtain ⟨t,u,v,z⟩:=y
   simp only at g1 g2 g3 g4 r1 r2 r3 r4 Y
   clear hy
   have J:Aside (∀b F w,Sat (rw TB 1 (.slice d m c2) (A4 o)*(Sl.block b ED [.int .i64 t,.int .i64 u,.int .i64 v,.int .i64 z]*F)) w→Calls Tryz.prog 233 #[.slice d m c2,.int .i64 4,.slice (some ⟨b,0,none⟩) 4 4] w fun e U=> ∃a' Z,e= .returned (.slice a' (m+16) Z)∧Sat (rw TB 1 (.slice a' (m+16) Z) (A4 (o++(BF (n4 t) 4++(BF (n4 u) 4++(BF (n4 v) 4++BF (n4 z) 4)))))*(Sl.block b ED [.int .i64 t,.int .i64 u,.int .i64 v,.int .i64 z]*F)) U):=
    fun b F w h=>Xv o d m c2 b F w t u v z j.out.2 h (by omega) (by omega) (by omega) (by omega) (by omega)
   clear g1 g2 g3 g4
   go_wp2_with fail
   refine Calls.mono (J.out _ _ _ (AY _ (Sl.block _ ED _))) ?_
   rintro e w7 ⟨a7,c7,rfl,O⟩
   haveI:=O.i
   go_wp2_with fail
   go_roundg (n-(i+1))
   case measure=>have:=A.out.1;omega
   refine ⟨i+1,m+16,o++(BF (n4 t) 4++(BF (n4 u) 4++(BF (n4 v) 4++BF (n4 z) 4))),a7,c7,by go_num,rfl,by omega,by have:=j.out.1;omega,⟨by have:=j.out.1;omega,by have:=j.out.2;simp[AB];omega⟩,⟨rfl,?_⟩,Dv _ _ _ _⟩
   rw[HT.out,List.flatMap_append,←List.append_assoc (BF n 1),←A.out.2]
   simp[Y.out]
 have p: ¬(i:Int)<n:=by omega
 obtain rfl:i=n:=by omega
 have X:Aside (o=BF i 1++es.flatMap kb):=(by rw[A.out.2,List.take_of_length_le (by rw[W.out];exact Nat.le_refl _)]:_=_)
 go_wp2
 go_ret3
 refine ⟨d,c2,?_,?_⟩
 · simp only[Kn]
   rw[←X.out,←j.out.2]
   rfl
 show Sat (rw TB 1 (.slice d (BF i 1++es.flatMap kb).length c2) (A4 (BF i 1++es.flatMap kb))*(B*F)) wr
 rw[←X.out,←j.out.2]
 exact AR _ _ _
theorem Cl{n:Nd}(h:may n=true):n.Ao.length≤12∧n.kids.length≤12:=by
 unfold may at h
 split at h
 ·cases h
 rename_i d
 split at h
 ·cases h
 rename_i e
 simp only[decide_eq_true_eq] at h
 cases hl:n.leaf with
 | true =>
  rw[hl] at h e
  simp only[if_true] at h
  have:n.kids= []:=by
   cases f:n.kids with
   |nil=>rfl
   |cons k l=>rw[f] at e;simp at e
  rw[this]
  exact ⟨h.2.1,by simp⟩
 | false =>
  rw[hl] at h d
  simp only[Bool.false_eq_true,if_false] at h
  have:n.Ao= []:=by
   cases f:n.Ao with
   |nil=>rfl
   |cons k l=>rw[f] at d;simp at d
  rw[this]
  exact ⟨by simp,h.2.1⟩
theorem Db{n:Nd}(h:may n=true):(∀x∈n.Ao,n.leaf=true∧Ai x=true)∧(∀x∈n.kids,n.leaf=false∧AE x=true):=by
 constructor
 ·intro x hx
  cases d:n.leaf with
  |false=>rw[FT hx (.inl d)] at h;cases h
  | true =>
   cases e:Ai x with
   |true=>exact ⟨rfl,rfl⟩
   |false=>rw[FT hx (.inr e)] at h;cases h
 intro x hx
 cases d:n.leaf with
 |true=>rw[KF hx (.inl d)] at h;cases h
 | false =>
  cases e:AE x with
  |true=>exact ⟨rfl,rfl⟩
  |false=>rw[KF hx (.inr e)] at h;cases h
theorem Tb(n:Nd)(v:Value)(B F:Ac)(w:World)(s:AN B v n)(hs:Sat (B*F) w)(j:n.Ao.length≤4294967296)(k:n.kids.length≤4294967296):
 Calls Tryz.prog 192 #[v] w (Kn B F (CU n)):=by
 have d:=fun F w h=>KE n v B F w s h j k
 obtain ⟨I,J,rfl,f,g⟩:=s
 obtain ⟨l,q,rfl,y,z⟩:=f.v
 obtain ⟨p,r,rfl,D,G⟩:=g.v
 unfold CU
 cases hm:may n with
 | false =>
  rw[if_pos rfl]
  rw[hm] at d
  haveI:=hs.i
  clear f g hm
  go_enter Tryz.func192,Tryz.ntmps192
  go_wp2_with fail
  refine (d _ _ (Ae B)).mono ?_
  rintro e K ⟨rfl,H⟩
  haveI:=H.i
  go_wp2
  go_ret3
  exact ⟨none,0,rfl,by simpa[A4] using (Av B F).Bj⟩
 | true =>
  rw[if_neg (by simp)]
  rw[hm] at d
  obtain ⟨t,u⟩:=Db hm
  obtain ⟨l1,l2⟩:n.Ao.length≤12∧n.kids.length≤12:=Cl hm
  cases hl:n.leaf with
  | true =>
   rw[hl] at d
   exact Rm n.Ao _ rfl l p q _ r B F w f hs l1 (fun x hx=>(t x hx).2) d
  | false =>
   rw[hl] at d
   exact PY n.kids _ rfl l p q _ r B F w g hs l2 (fun x hx=>(u x hx).2) d
