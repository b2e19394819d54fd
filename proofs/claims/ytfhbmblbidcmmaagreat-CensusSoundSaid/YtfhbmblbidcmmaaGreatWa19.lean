/- censusSound holds for every input. No condition. (part 19) -/
import Derived.Test.YtfhbmblbidcmmaaGreatWa16
import Derived.Handy
set_option linter.all false
set_option maxRecDepth 100000
set_option maxHeartbeats 1600000
namespace Go.Proofs.YtfhbmblbidcmmaaGreat
open Go.RowKit Go.Sl Go.Dk Go.Tr
theorem WJ(b:Nat)(ns:List Int)(e:ns.length≤1048576):Ai 1 (Sl.block b CN (ints ns)) (.slice (some ⟨b,0,none⟩) ns.length ns.length) ns.length (ints ns):=by
 refine ⟨by simp[ints],_,_,rfl,Nat.le_refl _,by omega,fun j u d=>⟨b,0,rfl,?_⟩⟩
 haveI:At (ints ns) j u:=⟨d⟩
 rw[Nat.zero_add]
 infer_instance
section
variable (o:List UInt8) (a:Option Addr) (m c b:Nat) (F:Ab) (w:World)
theorem P1(x:Int)(hm:m=o.length)(hs:Sat (rw TB 1 (.slice a m c) (A4 o)*(Sl.block b CN [.int .i64 x]*F)) w)(l:m≤1048576)(h0:0≤x)(hx:x<256):
 Calls Tryz.prog 233 #[.slice a m c,.int .i64 1,.slice (some ⟨b,0,none⟩) 1 1] w fun e j=> ∃a' d,e= .returned (.slice a' (m+1) d)∧Sat (rw TB 1 (.slice a' (m+1) d) (A4 (o++Bz x.toNat 1))*(Sl.block b CN [.int .i64 x]*F)) j:=by
 subst hm
 have f:n4 x=x.toNat:=by unfold n4;rw[if_neg (by omega)]
 have h:=MC o a c 1 [x] _ _ F w (WJ b [x] (by simp)) hs l (by simp) (by omega) (by omega) (by intro n i;simp at i;subst i;rw[f];omega)
 refine h.mono ?_
 rintro e j ⟨a',d,rfl,h1⟩
 have k:o++QW 1 [x]=o++Bz x.toNat 1:=by simp[QW,f]
 have g:(o++QW 1 [x]).length=o.length+1:=by rw[List.length_append,Sk];rfl
 rw[g,k] at h1
 exact ⟨a',d,by rw[g],h1⟩
theorem bC(x y z:Int)(hm:m=o.length)(hs:Sat (rw TB 1 (.slice a m c) (A4 o)*(Sl.block b CN [.int .i64 x,.int .i64 y,.int .i64 z]*F)) w)(k:m≤1048576)(hx: -1≤x∧x≤16777216)(hy: -1≤y∧y≤16777216)(l: -1≤z∧z≤16777216):
 Calls Tryz.prog 233 #[.slice a m c,.int .i64 4,.slice (some ⟨b,0,none⟩) 3 3] w fun e i=> ∃a' d,e= .returned (.slice a' (m+12) d)∧Sat (rw TB 1 (.slice a' (m+12) d) (A4 (o++(Bz (n4 x) 4++(Bz (n4 y) 4++Bz (n4 z) 4))))*(Sl.block b CN [.int .i64 x,.int .i64 y,.int .i64 z]*F)) i:=by
 subst hm
 have h:=MC o a c 4 [x,y,z] _ _ F w (WJ b [x,y,z] (by simp)) hs k (by simp) (by omega) (by omega) (by
  intro n g
  simp at g
  rcases g with rfl|rfl|rfl
  ·exact ⟨hx.1,by omega,GI (by omega)⟩
  ·exact ⟨hy.1,by omega,GI (by omega)⟩
  exact ⟨l.1,by omega,GI (by omega)⟩)
 refine h.mono ?_
 rintro e i ⟨a',d,rfl,h1⟩
 have j:QW 4 [x,y,z]=Bz (n4 x) 4++(Bz (n4 y) 4++Bz (n4 z) 4):=by simp[QW]
 have f:(o++QW 4 [x,y,z]).length=o.length+12:=by rw[List.length_append,Sk];rfl
 rw[f,j] at h1
 exact ⟨a',d,by rw[f],h1⟩
theorem bD(x y z q:Int)(hm:m=o.length)(hs:Sat (rw TB 1 (.slice a m c) (A4 o)*(Sl.block b CN [.int .i64 x,.int .i64 y,.int .i64 z,.int .i64 q]*F)) w)(k:m≤1048576)(hx: -1≤x∧x≤16777216)(hy: -1≤y∧y≤16777216)(l: -1≤z∧z≤16777216)(hq: -1≤q∧q≤16777216):
 Calls Tryz.prog 233 #[.slice a m c,.int .i64 4,.slice (some ⟨b,0,none⟩) 4 4] w fun e i=> ∃a' d,e= .returned (.slice a' (m+16) d)∧Sat (rw TB 1 (.slice a' (m+16) d) (A4 (o++(Bz (n4 x) 4++(Bz (n4 y) 4++(Bz (n4 z) 4++Bz (n4 q) 4)))))*(Sl.block b CN [.int .i64 x,.int .i64 y,.int .i64 z,.int .i64 q]*F)) i:=by
 subst hm
 have h:=MC o a c 4 [x,y,z,q] _ _ F w (WJ b [x,y,z,q] (by simp)) hs k (by simp) (by omega) (by omega) (by
  intro n g
  simp at g
  rcases g with rfl|rfl|rfl|rfl
  ·exact ⟨hx.1,by omega,GI (by omega)⟩
  ·exact ⟨hy.1,by omega,GI (by omega)⟩
  ·exact ⟨l.1,by omega,GI (by omega)⟩
  exact ⟨hq.1,by omega,GI (by omega)⟩)
 refine h.mono ?_
 rintro e i ⟨a',d,rfl,h1⟩
 have j:QW 4 [x,y,z,q]=Bz (n4 x) 4++(Bz (n4 y) 4++(Bz (n4 z) 4++Bz (n4 q) 4)):=by simp[QW]
 have f:(o++QW 4 [x,y,z,q]).length=o.length+16:=by rw[List.length_append,Sk];rfl
 rw[f,j] at h1
 exact ⟨a',d,by rw[f],h1⟩
end
theorem r9{x:Av}(h:Ah x=true):(0≤x.src∧x.src<2)∧(0≤x.pos∧x.pos≤16777216)∧(1≤x.len∧x.len≤1048576)∧(-1≤x.lines∧x.lines≤x.len):=by
 unfold Ah at h
 simp only[decide_eq_true_eq] at h
 omega
theorem x9{x:Kd}(h:AE x=true):(1≤x.Au∧x.Au<1048576)∧(1≤x.bytes∧x.bytes≤1048576)∧(-1≤x.lines∧x.lines≤x.bytes)∧(1≤x.AA∧x.AA≤x.bytes):=by
 unfold AE at h
 simp only[decide_eq_true_eq] at h
 omega
end Go.Proofs.YtfhbmblbidcmmaaGreat
namespace Go.Sl
class Sz (w:World) (n:outParam Nat):Prop where
 out:w.heap.size=n
instance(priority:=low) sz_self (w:World):Sz w w.heap.size:=⟨rfl⟩
instance kW(w:World)(o:Obj)(n:Nat)[h:Sz w n]:Sz (w.alloc o) (n+1):=⟨by show (w.heap.push _).size=_;rw[Array.size_push,h.out]⟩
instance lS(w:World)(n:Nat)[h:Sz w n]:Sz w.drew n:=⟨h.out⟩
instance kX(w:World)(n k:Nat)[h:Sz w n]:Sz (w.drewN k) n:=⟨h.out⟩
instance(priority:=20000) alloc_sz {A:Ab} {w:World} {c:Array Value} {t n:Nat} [h:AR A w] [z:Sz w n]:AR (Sl.block n t c.toList*A) (w.alloc (.cells c t)):=⟨by
 have:=h.out.alloc c t
 rwa [z.out] at this⟩
instance(priority:=21000) alloc_szl {A:Ab} {w:World} {l:List Value} {t n:Nat} [h:AR A w] [z:Sz w n]:AR (Sl.block n t l*A) (w.alloc (.cells l.toArray t)):=⟨by
 have:=h.out.alloc l.toArray t
 rwa [z.out] at this⟩
end Go.Sl
namespace Go.Proofs.YtfhbmblbidcmmaaGreat
open Go.RowKit Go.Sl Go.Dk Go.Tr
def Lm(B F:Ab)(r:Int×List UInt8×Int)(e:Ending)(d:World):Prop:= ∃a c,e= .returned (.tuple #[.int .i64 r.1,.slice a r.2.1.length c,.int .i64 r.2.2])∧Sat (rw TB 1 (.slice a r.2.1.length c) (A4 r.2.1)*(B*F)) d
theorem Uu(es:List Av)(n:Nat)(hn:es.length=n)(aE D:Option Addr)(cE H G:Nat)(B F:Ab)(w:World)(hE:A1 B (.slice aE es.length cE) es)(hs:Sat (B*F) w)(ae:n≤12)(z: ∀x∈es,Ah x=true)
 (k: ∀F w,Sat (B*F) w→Calls Tryz.prog 133 #[.agg #[.bool true,.slice aE n cE,.slice D H G]] w fun e d=>e= .returned (.bool true)∧Sat (B*F) d):
 Calls Tryz.prog 192 #[.agg #[.bool true,.slice aE n cE,.slice D H G]] w (Lm B F (1,Bz n 1++es.flatMap eb,0)):=by
 have HE:=As hE
 have W:=As hn
 have I:=As z
 haveI:=hs.i
 clear hE z hn
 go_enter Tryz.func192,Tryz.ntmps192
 go_wp2_with fail
 refine (k _ _ (Ae B)).mono ?_
 rintro e V ⟨rfl,R⟩
 clear hs k
 obtain ⟨N,hN⟩:=Aq w.heap.size
 rw[hN] at R⊢
 clear hN this
 haveI:=R.i
 go_wp2_with fail
 refine (P1 [] none 0 0 V.heap.size _ _ (n:Int) rfl (Sat.AG (e:=TB) (s:=1) (ES:Sat _ (V.alloc (.cells #[.int .i64 n] CN)))) (by simp) (by omega) (by omega)).mono ?_
 rintro e w3 ⟨L,c3,rfl,q3⟩
 have T:Sat (rw TB 1 (.slice L 1 c3) (A4 (Bz n 1))*(B*(Sl.block N Cy [.bool true,.slice aE n cE,.slice D H G]*F))) w3:=Sat.Dx (B:=Sl.block V.heap.size CN [.int .i64 n]) (q3.eq (by rw[Int.toNat_natCast];show rw TB 1 (.slice L 1 c3) (A4 ([]++Bz n 1))*_=_;rw[List.nil_append];ac_rfl))
 clear q3 R this
 haveI:=T.i
 go_wp2_with fail
 go_loopg [3,23] n (fun g t3 U wr=> ∃(i m:Nat)(o:List UInt8)(j:Option Addr)(c2:Nat),U= .int .i64 i∧t3= .slice j m c2∧i≤n∧m≤1048000∧Aside (m=1+13*i∧m=o.length)∧Aside (g=n-i∧o=Bz n 1++(es.take i).flatMap eb)∧
  Sat (rw TB 1 (.slice j m c2) (A4 o)*(B*(Sl.block N Cy [.bool true,.slice aE n cE,.slice D H G]*F))) wr)
 case atStart=>exact ⟨0,1,_,L,c3,rfl,rfl,by omega,by omega,⟨rfl,by rw[AF]⟩,⟨rfl,by simp⟩,T⟩
 obtain ⟨i,m,o,j,c2,rfl,rfl,hi,hm,l,A,Q⟩:=hrel
 clear T this
 haveI:=Q.i
 by_cases M:i<n
 · have v:(i:Int)<n:=by omega
   obtain ⟨y,hy⟩: ∃y,es[i]?=some y:=⟨_,List.getElem?_eq_getElem (by rw[W.out];exact M)⟩
   obtain ⟨b,q,rfl,r1,r2,r3,r4⟩:=BH HE.out hy
   obtain ⟨Z,g2,g3,g4⟩:=r9 (I.out y (List.mem_of_getElem? hy))
   have HT:Aside (es.take (i+1)=es.take i++ [y]):=AB hy
   have Y:Aside (eb y=Bz y.src.toNat 1++(Bz (n4 y.pos) 4++(Bz (n4 y.len) 4++Bz (n4 y.lines) 4))):=rfl
   obtain ⟨f,p,r,t⟩:=y
   simp only at Z g2 g3 g4 r1 r2 r3 r4 Y
   clear hy
   have J:Aside (∀b F w,Sat (rw TB 1 (.slice j m c2) (A4 o)*(Sl.block b CN [.int .i64 f]*F)) w→Calls Tryz.prog 233 #[.slice j m c2,.int .i64 1,.slice (some ⟨b,0,none⟩) 1 1] w fun e d=> ∃a' u,e= .returned (.slice a' (m+1) u)∧Sat (rw TB 1 (.slice a' (m+1) u) (A4 (o++Bz f.toNat 1))*(Sl.block b CN [.int .i64 f]*F)) d):=
    fun b F w h=>P1 o j m c2 b F w f l.out.2 h (by omega) (by omega) (by omega)
   have K:Aside (∀a c b F w,Sat (rw TB 1 (.slice a (m+1) c) (A4 (o++Bz f.toNat 1))*(Sl.block b CN [.int .i64 p,.int .i64 r,.int .i64 t]*F)) w→Calls Tryz.prog 233 #[.slice a (m+1) c,.int .i64 4,.slice (some ⟨b,0,none⟩) 3 3] w fun e d=> ∃a' u,e= .returned (.slice a' (m+1+12) u)∧Sat (rw TB 1 (.slice a' (m+1+12) u) (A4 (o++Bz f.toNat 1++(Bz (n4 p) 4++(Bz (n4 r) 4++Bz (n4 t) 4))))*(Sl.block b CN [.int .i64 p,.int .i64 r,.int .i64 t]*F)) d):=
    fun a c b F w h=>bC (o++Bz f.toNat 1) a (m+1) c b F w p r t (by rw[List.length_append,AF];have:=l.out.2;omega) h (by omega) (by omega) (by omega) (by omega)
   clear Z g2 g3 g4
   go_upto_region 8 with (fail)
   go_region_held3 (fun d=>d.cell? ⟨wr.heap.size,0,none⟩=some (.int .i64 f)∧d.cell? ⟨wr.heap.size,1,none⟩=some (.int .i64 p)∧d.cell? ⟨wr.heap.size,2,none⟩=some (.int .i64 r)∧d.cell? ⟨wr.heap.size,3,none⟩=some (.int .i64 t)) (exact ⟨Ac _ _ _,Ac _ _ _,Ac _ _ _,Ac _ _ _⟩) (first
    |(go_at_call 233;with_reducible refine Calls.mono (J.out _ _ _ (Bh _ _)) ?_;rintro e w6 ⟨a6,c6,rfl,O⟩;haveI:=O.i)
    |(go_at_call 233;with_reducible refine Calls.mono (K.out _ _ _ _ _ (Bh _ _)) ?_;rintro e w7 ⟨a7,c7,rfl,P⟩;haveI:=P.i))
   all_goals
    go_wp2_with fail
    go_roundg (n-(i+1))
    case measure=>have:=A.out.1;omega
    refine ⟨i+1,m+1+12,o++Bz f.toNat 1++(Bz (n4 p) 4++(Bz (n4 r) 4++Bz (n4 t) 4)),a7,c7,by go_num,rfl,by omega,by have:=l.out.1;omega,⟨by have:=l.out.1;omega,by have:=l.out.2;simp[AF];omega⟩,⟨rfl,?_⟩,Cz _ _ _ _⟩
    rw[HT.out,List.flatMap_append,←List.append_assoc (Bz n 1),←A.out.2]
    simp[Y.out]
 have v: ¬(i:Int)<n:=by omega
 obtain rfl:i=n:=by omega
 have X:Aside (o=Bz i 1++es.flatMap eb):=(by rw[A.out.2,List.take_of_length_le (by rw[W.out];exact Nat.le_refl _)]:_=_)
 go_wp2
 go_ret3
 refine ⟨j,c2,?_,?_⟩
 · simp only[Lm]
   rw[←X.out,←l.out.2]
   rfl
 show Sat (rw TB 1 (.slice j (Bz i 1++es.flatMap eb).length c2) (A4 (Bz i 1++es.flatMap eb))*(B*F)) wr
 rw[←X.out,←l.out.2]
 exact AD _ _ _
theorem Sq(es:List Kd)(n:Nat)(hn:es.length=n)(aE k:Option Addr)(cE D l:Nat)(B F:Ab)(w:World)(hE:BE B (.slice k es.length l) es)(hs:Sat (B*F) w)(ab:n≤12)(r: ∀x∈es,AE x=true)
 (f: ∀F w,Sat (B*F) w→Calls Tryz.prog 133 #[.agg #[.bool false,.slice aE D cE,.slice k n l]] w fun e Q=>e= .returned (.bool true)∧Sat (B*F) Q):
 Calls Tryz.prog 192 #[.agg #[.bool false,.slice aE D cE,.slice k n l]] w (Lm B F (2,Bz n 1++es.flatMap kb,0)):=by
 have HE:=As hE
 have T:=As hn
 have G:=As r
 haveI:=hs.i
 clear hE r hn
 go_enter Tryz.func192,Tryz.ntmps192
 go_wp2_with fail
 refine (f _ _ (Ae B)).mono ?_
 rintro e R ⟨rfl,M⟩
 clear hs f
 obtain ⟨N,hN⟩:=Aq w.heap.size
 rw[hN] at M⊢
 clear hN this
 haveI:=M.i
 go_wp2_with fail
 refine (P1 [] none 0 0 R.heap.size _ _ (n:Int) rfl (Sat.AG (e:=TB) (s:=1) (ES:Sat _ (R.alloc (.cells #[.int .i64 n] CN)))) (by simp) (by omega) (by omega)).mono ?_
 rintro e w3 ⟨I,c3,rfl,q3⟩
 have O:Sat (rw TB 1 (.slice I 1 c3) (A4 (Bz n 1))*(B*(Sl.block N Cy [.bool false,.slice aE D cE,.slice k n l]*F))) w3:=Sat.Dx (B:=Sl.block R.heap.size CN [.int .i64 n]) (q3.eq (by rw[Int.toNat_natCast];show rw TB 1 (.slice I 1 c3) (A4 ([]++Bz n 1))*_=_;rw[List.nil_append];ac_rfl))
 clear q3 M this
 haveI:=O.i
 go_wp2_with fail
 go_loopg [3,54] n (fun g t3 P wr=> ∃(i m:Nat)(o:List UInt8)(d:Option Addr)(c2:Nat),P= .int .i64 i∧t3= .slice d m c2∧i≤n∧m≤1048000∧Aside (m=1+16*i∧m=o.length)∧Aside (g=n-i∧o=Bz n 1++(es.take i).flatMap kb)∧
  Sat (rw TB 1 (.slice d m c2) (A4 o)*(B*(Sl.block N Cy [.bool false,.slice aE D cE,.slice k n l]*F))) wr)
 case atStart=>exact ⟨0,1,_,I,c3,rfl,rfl,by omega,by omega,⟨rfl,by rw[AF]⟩,⟨rfl,by simp⟩,O⟩
 obtain ⟨i,m,o,d,c2,rfl,rfl,hi,hm,j,A,L⟩:=hrel
 clear O this
 haveI:=L.i
 by_cases J:i<n
 · have p:(i:Int)<n:=by omega
   obtain ⟨y,hy⟩: ∃y,es[i]?=some y:=⟨_,List.getElem?_eq_getElem (by rw[T.out];exact J)⟩
   obtain ⟨b,q,rfl,r1,r2,r3,r4⟩:=Cp HE.out hy
   obtain ⟨X,Y,Z,g4⟩:=x9 (G.out y (List.mem_of_getElem? hy))
   have HT:Aside (es.take (i+1)=es.take i++ [y]):=AB hy
   have V:Aside (kb y=Bz (n4 y.Au) 4++(Bz (n4 y.bytes) 4++(Bz (n4 y.lines) 4++Bz (n4 y.AA) 4))):=rfl
   obtain ⟨t,u,v,z⟩:=y
   simp only at X Y Z g4 r1 r2 r3 r4 V
   clear hy
   have H:Aside (∀b F w,Sat (rw TB 1 (.slice d m c2) (A4 o)*(Sl.block b CN [.int .i64 t,.int .i64 u,.int .i64 v,.int .i64 z]*F)) w→Calls Tryz.prog 233 #[.slice d m c2,.int .i64 4,.slice (some ⟨b,0,none⟩) 4 4] w fun e Q=> ∃a' W,e= .returned (.slice a' (m+16) W)∧Sat (rw TB 1 (.slice a' (m+16) W) (A4 (o++(Bz (n4 t) 4++(Bz (n4 u) 4++(Bz (n4 v) 4++Bz (n4 z) 4)))))*(Sl.block b CN [.int .i64 t,.int .i64 u,.int .i64 v,.int .i64 z]*F)) Q):=
    fun b F w h=>bD o d m c2 b F w t u v z j.out.2 h (by omega) (by omega) (by omega) (by omega) (by omega)
   clear X Y Z g4
   go_wp2_with fail
   refine Calls.mono (H.out _ _ _ (Bh _ (Sl.block _ CN _))) ?_
   rintro e w7 ⟨a7,c7,rfl,K⟩
   haveI:=K.i
   go_wp2_with fail
   go_roundg (n-(i+1))
   case measure=>have:=A.out.1;omega
   refine ⟨i+1,m+16,o++(Bz (n4 t) 4++(Bz (n4 u) 4++(Bz (n4 v) 4++Bz (n4 z) 4))),a7,c7,by go_num,rfl,by omega,by have:=j.out.1;omega,⟨by have:=j.out.1;omega,by have:=j.out.2;simp[AF];omega⟩,⟨rfl,?_⟩,Cz _ _ _ _⟩
   rw[HT.out,List.flatMap_append,←List.append_assoc (Bz n 1),←A.out.2]
   simp[V.out]
 have p: ¬(i:Int)<n:=by omega
 obtain rfl:i=n:=by omega
 have U:Aside (o=Bz i 1++es.flatMap kb):=(by rw[A.out.2,List.take_of_length_le (by rw[T.out];exact Nat.le_refl _)]:_=_)
 go_wp2
 go_ret3
 refine ⟨d,c2,?_,?_⟩
 · simp only[Lm]
   rw[←U.out,←j.out.2]
   rfl
 show Sat (rw TB 1 (.slice d (Bz i 1++es.flatMap kb).length c2) (A4 (Bz i 1++es.flatMap kb))*(B*F)) wr
 rw[←U.out,←j.out.2]
 exact AD _ _ _
theorem Cn{n:Nd}(h:may n=true):n.Ag.length≤12∧n.kids.length≤12:=by
 unfold may at h
 split at h
 ·cases h
 rename_i h1
 split at h
 ·cases h
 rename_i d
 simp only[decide_eq_true_eq] at h
 cases hl:n.leaf with
 | true =>
  rw[hl] at h d
  simp only[if_true] at h
  have:n.kids= []:=by
   cases e:n.kids with
   |nil=>rfl
   |cons k l=>rw[e] at d;simp at d
  rw[this]
  exact ⟨h.2.1,by simp⟩
 | false =>
  rw[hl] at h h1
  simp only[Bool.false_eq_true,if_false] at h
  have:n.Ag= []:=by
   cases e:n.Ag with
   |nil=>rfl
   |cons k l=>rw[e] at h1;simp at h1
  rw[this]
  exact ⟨by simp,h.2.1⟩
theorem Ds{n:Nd}(h:may n=true):(∀x∈n.Ag,n.leaf=true∧Ah x=true)∧(∀x∈n.kids,n.leaf=false∧AE x=true):=by
 constructor
 ·intro x hx
  cases h1:n.leaf with
  |false=>rw[Gi hx (.inl h1)] at h;cases h
  | true =>
   cases d:Ah x with
   |true=>exact ⟨rfl,rfl⟩
   |false=>rw[Gi hx (.inr d)] at h;cases h
 intro x hx
 cases h1:n.leaf with
 |true=>rw[Hw hx (.inl h1)] at h;cases h
 | false =>
  cases d:AE x with
  |true=>exact ⟨rfl,rfl⟩
  |false=>rw[Hw hx (.inr d)] at h;cases h
theorem Wx(n:Nd)(v:Value)(B F:Ab)(w:World)(q:AN B v n)(hs:Sat (B*F) w)(j:n.Ag.length≤4294967296)(k:n.kids.length≤4294967296):
 Calls Tryz.prog 192 #[v] w (Lm B F (Di n)):=by
 have d:=fun F w h=>LB n v B F w q h j k
 obtain ⟨G,vK,rfl,f,g⟩:=q
 obtain ⟨aE,cE,rfl,t,u⟩:=f.v
 obtain ⟨l,p,rfl,y,z⟩:=g.v
 unfold Di
 cases hm:may n with
 | false =>
  rw[if_pos rfl]
  rw[hm] at d
  haveI:=hs.i
  clear f g hm
  go_enter Tryz.func192,Tryz.ntmps192
  go_wp2_with fail
  refine (d _ _ (Ae B)).mono ?_
  rintro e H ⟨rfl,D⟩
  haveI:=D.i
  go_wp2
  go_ret3
  exact ⟨none,0,rfl,by simpa[A4] using (Ar B F).AG⟩
 | true =>
  rw[if_neg (by simp)]
  rw[hm] at d
  obtain ⟨r,s⟩:=Ds hm
  obtain ⟨l1,l2⟩:n.Ag.length≤12∧n.kids.length≤12:=Cn hm
  cases hl:n.leaf with
  | true =>
   rw[hl] at d
   exact Uu n.Ag _ rfl aE l cE _ p B F w f hs l1 (fun x hx=>(r x hx).2) d
  | false =>
   rw[hl] at d
   exact Sq n.kids _ rfl aE l cE _ p B F w g hs l2 (fun x hx=>(s x hx).2) d
