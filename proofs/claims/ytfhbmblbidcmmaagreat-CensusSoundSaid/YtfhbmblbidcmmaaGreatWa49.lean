/- censusSound holds for every input. No condition. (part 49) -/
import Derived.Test.YtfhbmblbidcmmaaGreatWa46
import Derived.Test.YtfhbmblbidcmmaaGreatWa48
set_option linter.all false
set_option maxRecDepth 100000
set_option maxHeartbeats 6400000
namespace Go.Proofs.YtfhbmblbidcmmaaGreat
open Go.RowKit Go.Sl Go.Dk Go.Tr
theorem VY{file:List UInt8}(h:file.length≤256*65000): ∀p n,Aw file p=some n→may n=true∧1≤p∧p<(65000:Nat):=fun p n hp=>by
 have:=Ty hp
 exact ⟨FJ hp,this.1,by omega⟩
theorem cR{V:Int→Option Nd}{d:Dk}{O T:List UInt8}(c:A0 d EH=O)(f:A0 d E7=T)(a b:Nat)(vl:List (Int×Int)):vl.all (E5 V d a b)=vl.all (Dj V (D1 (O.take a) (T.take b))):=by
 have e:C5 d a b=D1 (O.take a) (T.take b):=by
  funext src
  unfold C5 D1
  rw[c,f]
 unfold E5 Dj
 rw[e]
structure nI (O T:List UInt8) (s:TS) (file:List UInt8):Prop where
 nm:s.ck.nm=FM
 BU:Da s.ck.d FM
 kN:Da s.ck.d EH
 kO:Da s.ck.d E7
 now:A0 s.ck.d FM=file
 mJ:A0 s.ck.d EH=O
 mK:A0 s.ck.d E7=T
 len:file.length≤256*65000
 Qi:D2 (Aw file) 59000000 s
theorem iH{O T:List UInt8}{s:TS}(f:GS true s)(l:Clean s.ck)(hl:59000000≤AM s)(b:Fv (Mj O T 7) s):nI O T s (A0 s.ck.d FM):=by
 have a:s.ck.nm=FM:=b.nm
 have c: ∀n,n≠FM→s.ck.d.get n=(Jr O T).get n:=b.Jk
 have j:s.ck.d.get EH=some ⟨O,O,true⟩:=by rw[c EH jA.symm];exact gK _ _
 have k:s.ck.d.get E7=some ⟨T,T,true⟩:=by rw[c E7 jB.symm];exact gL _ _
 have g:Da s.ck.d FM:=by have:=f.Bn.BU;rwa [a] at this
 have e:=f.Bn.top.1
 rw[a,show VA=65000 from rfl] at e
 have hr:=Yz f l
 have i:fileOf s=A0 s.ck.d FM:=by unfold fileOf;rw[a]
 rw[i] at hr
 exact ⟨a,g,Iy g (by decide+kernel) (by rw[j];rfl),Iy g (by decide+kernel) (by rw[k];rfl),rfl,by unfold A0;rw[j];rfl,by unfold A0;rw[k];rfl,e,hr.less hl⟩
theorem cQ(O T:List UInt8)(c:Int):AM (Mj O T c)=67108850:=by
 show (BG-0)/2=67108850
 unfold BG
 rfl
theorem Ol{k:Nat}(e:TypeId)(b n:Nat)(xs:List Value)(hx:xs.length=n*k)(c:n≤1000):Ai k (Sl.block b e xs) (.slice (some ⟨b,0,none⟩) n n) n xs:=by
 refine ⟨hx,_,_,rfl,Nat.le_refl _,by omega,fun j u a=>⟨b,0,rfl,?_⟩⟩
 haveI:At xs j u:=⟨a⟩
 rw[Nat.zero_add]
 infer_instance
theorem VK{s:TS}{V:Int→Option Nd}(A:dC s V){ns:List Int}(hp:ns.Pairwise (· < ·))(h:(∀v∈ [((1:Int),(5:Int)),(1,5),(0,0)],(AJ V v.1).ok=true)→ ∀x,x∈ns↔ ∃v∈ [((1:Int),(5:Int)),(1,5),(0,0)],x∈(AJ V v.1).A7):ns= [1]:=by
 have e0:AJ V 0=⟨true,0,[],[]⟩:=by unfold AJ;rw[if_pos rfl]
 have h1:=h (by
  intro v a
  simp only[List.mem_cons,List.not_mem_nil,or_false] at a
  rcases a with rfl|rfl|rfl
  · rw[A.tree]
  · rw[A.tree]
  rw[e0])
 refine Rs hp (by simp) fun x=>(h1 x).trans ⟨?_,?_⟩
 · rintro ⟨v,a,hx⟩
   simp only[List.mem_cons,List.not_mem_nil,or_false] at a
   rcases a with rfl|rfl|rfl
   · rwa [A.tree] at hx
   · rwa [A.tree] at hx
   rw[e0] at hx;cases hx
 intro hx
 exact ⟨(1,5),by simp,by rw[A.tree];exact hx⟩
theorem J'{s:TS}{V:Int→Option Nd}(A:dC s V):(∃v∈ [((1:Int),(5:Int)),(1,5),(0,0)],(AJ V v.1).ok=false)→False:=by
 have e0:AJ V 0=⟨true,0,[],[]⟩:=by unfold AJ;rw[if_pos rfl]
 rintro ⟨v,a,hx⟩
 simp only[List.mem_cons,List.not_mem_nil,or_false] at a
 rcases a with rfl|rfl|rfl
 ·rw[A.tree] at hx;cases hx
 ·rw[A.tree] at hx;cases hx
 rw[e0] at hx;cases hx
theorem Tk{s s2:TS}{V:Int→Option Nd}(A:dC s V)(c:s2.ck.d=s.ck.d)(n:Int): [((1:Int),n)].all (E5 V s2.ck.d 5 1)=decide (n=5):=by
 simp only[List.all_cons,List.all_nil,Bool.and_true]
 unfold E5
 simp only
 rw[A.tree]
 simp only[Bool.true_and,List.all_cons,List.all_nil,Bool.and_true]
 have a:Aa [⟨0,0,5,-1⟩]=5:=by decide
 have b:BP (C5 s2.ck.d 5 1 0) ⟨0,0,5,-1⟩=true:=by
  unfold C5
  rw[if_pos rfl,c,A.mC]
  decide
 rw[a,b,Bool.and_true]
 by_cases h:n=5
 · subst h;rfl
 rw[decide_eq_false h,decide_eq_false (fun e=>h e.symm)]
theorem XR{P:Program}{s e:TypeId}(h1:P.underlying s=some (.slice e))(j:P.underlying e=some (.int .u8))(cs:Array Value)(t:TypeId)(n:Nat){F:Ab}{w:World}(hs:Sat F w):
 ∃g,Sem.run P (convert s s (.slice (some ⟨w.heap.size,0,none⟩) n n)) (w.alloc (.cells cs t))= .ok (.slice (some ⟨w.heap.size,0,none⟩) n n) g∧Sat (raw w.heap.size (.cells cs t (cs.size,cs.size+1))*F) g∧g.heap.size=w.heap.size+1:=by
 have q:=hs.CW (.cells cs t)
 have k:=q.GZ (.cells cs t (cs.size,cs.size+1))
 have hb:(w.alloc (.cells cs t)).heap[w.heap.size]?=some (.cells cs t):=q.obj
 have b:(w.alloc (.cells cs t)).freeze ⟨w.heap.size,cs.size,none⟩ 1= { w.alloc (.cells cs t) with heap:=(w.alloc (.cells cs t)).heap.setIfInBounds w.heap.size (.cells cs t (cs.size,cs.size+1)) } :=by
  unfold World.freeze
  rw[if_neg (by decide)]
  congr 1
  apply Array.ext_getElem?
  intro i
  simp only[Array.getElem?_modify,Array.getElem?_setIfInBounds]
  by_cases a:w.heap.size=i
  ·subst a
   have d:=Gh hb
   have c:=(Array.getElem?_eq_some_iff.1 hb).2
   simp[d,c]
  simp[a]
 refine ⟨_,?_,k,by simp⟩
 unfold convert
 have f:(w.alloc (.cells cs t)).shape? w.heap.size=some (t,cs.size):=by simp only[World.shape?,hb]
 simp[Go.underlying,h1,j,markStringish,Go.shape,f,Go.freeze,Sem.run_bind,Sem.run,b]
theorem Reads.kT{b t:Nat}{a:Nat×Nat}{l:List UInt8}(hm:l.length≤maxLen):Reads (raw b (.cells (A4 l).toArray t a)) (.slice (some ⟨b,0,none⟩) l.length l.length) l:=fun F w hs=>by
 have h1:=hs.obj
 refine ⟨_,_,rfl,Nat.le_refl _,hm,fun i x hx=>⟨b,0,rfl,?_⟩⟩
 rw[Nat.zero_add]
 simp[World.cell?,h1,A4,hx]
theorem Jn(F:Ab)(w:World)(hs:Sat F w):Calls Tryz.prog 53 #[] w fun e j=>e= .returned (.bool true)∧Sat F j:=by
 obtain ⟨s1,V,A⟩:=VJ
 obtain ⟨m,a5,R,a7⟩:=XR (P:=Tryz.prog) Tryz.underlying26 Tryz.underlying5 #[.int .u8 97,.int .u8 98,.int .u8 10,.int .u8 99,.int .u8 100] TB 5 hs
 obtain ⟨U,a6,T,a8⟩:=XR (P:=Tryz.prog) Tryz.underlying26 Tryz.underlying5 #[.int .u8 120] TB 1 R
 have q0:Sat ((raw w.heap.size (.cells (A4 Eu).toArray TB (5,6))*raw m.heap.size (.cells (A4 Ez).toArray TB (1,2)))*F) U:=T.eq (by show raw m.heap.size (.cells (A4 Ez).toArray TB (1,2))*(raw w.heap.size (.cells (A4 Eu).toArray TB (5,6))*F)=_;ac_rfl)
 have f:=Ry Eu Ez (.slice (some ⟨w.heap.size,0,none⟩) 5 5) (.slice (some ⟨m.heap.size,0,none⟩) 1 1) (raw w.heap.size (.cells (A4 Eu).toArray TB (5,6))*raw m.heap.size (.cells (A4 Ez).toArray TB (1,2))) F U (Reads.left (Reads.kT (l:=Eu) (by decide))) (Reads.right (Reads.kT (l:=Ez) (by decide))) q0 (by decide) (by decide)
 obtain ⟨BB,y⟩:=Aq (raw w.heap.size (.cells (A4 Eu).toArray TB (5,6))*raw m.heap.size (.cells (A4 Ez).toArray TB (1,2)))
 rw[y] at f
 have Y:Aside (∀(h:Th)(v:Value)(B F:Ab)(w:World),A1 B v [⟨0,0,5,-1⟩]→Sat (Ad h (Mj Eu Ez 7)*(B*F)) w→
  Calls Tryz.prog 23 #[.pointer (some ⟨h.t,0,none⟩),v] w fun e j=>e= .returned (.tuple #[.int .i64 1,.int .i64 0])∧Sat (Ad h s1*(B*F)) j):=fun h v B F w hE q=>by
  have:=Yx h (Mj Eu Ez 7) [⟨0,0,5,-1⟩] v B F w hE q (by simp) (by rw[A.run];simp)
  rw[A.run] at this
  exact this
 obtain ⟨s0,M⟩:=Aq (Mj Eu Ez 7)
 rw[M] at f Y
 have o:=As A
 haveI:=hs.i
 clear M q0 A R T a7 a8 y
 go_enter Tryz.func53,Tryz.ntmps53
 go_wp2_with fail
 refine f.mono ?_
 rintro e O ⟨b,h,rfl,q1⟩
 unfold DQ at q1
 haveI:=q1.i
 clear f a5 a6
 go_wp2_with fail
 have q2:Sat (Ad h s0*(Sl.block O.heap.size AK (AQ [⟨0,0,5,-1⟩])*(Sl.block b Hf [.pointer (some ⟨h.D,0,none⟩),.pointer (some ⟨h.C,0,none⟩),.pointer (some ⟨h.t,0,none⟩)]*F))) (O.alloc (.cells #[.int .i64 0,.int .i64 0,.int .i64 5,.int .i64 (-1)] AK)):=by
  show Sat (Ad h s0*(Sl.block O.heap.size AK [.int .i64 0,.int .i64 0,.int .i64 5,.int .i64 (-1)]*_)) _
  exact Ax (C:=BB) (by ac_rfl)
 refine (Y.out h _ _ _ _ (Ol (k:=4) AK O.heap.size 1 _ rfl (by omega)) q2).mono ?_
 rintro e Q ⟨rfl,W⟩
 haveI:=W.i
 clear q1 q2 Y
 obtain ⟨B1,u⟩:=Aq (Sl.block O.heap.size AK (AQ [⟨0,0,5,-1⟩]))
 rw[u] at W
 haveI:=W.i
 clear u
 go_wp2_with fail
 have q4:Sat (Ad h s1*(Sl.block Q.heap.size K7 (B9 [(1,5),(1,5),(0,0)])*(Sl.block b Hf [.pointer (some ⟨h.D,0,none⟩),.pointer (some ⟨h.C,0,none⟩),.pointer (some ⟨h.t,0,none⟩)]*F))) (Q.alloc (.cells #[.int .i64 1,.int .i64 5,.int .i64 1,.int .i64 5,.int .i64 0,.int .i64 0] K7)):=by
  show Sat (Ad h s1*(Sl.block Q.heap.size K7 [.int .i64 1,.int .i64 5,.int .i64 1,.int .i64 5,.int .i64 0,.int .i64 0]*_)) _
  exact Ax (C:=B1) (by ac_rfl)
 refine (VP V [1] h 50000000 s1 _ [(1,5),(1,5),(0,0)] _ _ _ o.out.view (by decide) (o.out.Qi.less (by decide)) (Ol (k:=2) K7 Q.heap.size 3 _ rfl (by omega)) (by decide) q4).mono ?_
 rintro e w3 ⟨s2,a2,G,⟨ns,a,c,rfl,J,K,r,X⟩|⟨rfl,_,z,_⟩⟩
 rotate_left
 · exact (J' o.out z).elim
 obtain rfl:=VK o.out J r
 obtain ⟨g,rfl⟩:=Dv (hs:=X) (by decide)
 obtain ⟨B2,x⟩:=Aq (Sl.block Q.heap.size K7 (B9 [(1,5),(1,5),(0,0)]))
 rw[x] at X
 have a0:Aside (∀(b:Nat)(F:Ab) w,Sat (Ad h s2*(Sl.block b K7 [.int .i64 1,.int .i64 5]*F)) w→Calls Tryz.prog 60 #[.pointer (some ⟨h.t,0,none⟩),.slice (some ⟨b,0,none⟩) 1 1,.pointer (some ⟨h.D,0,none⟩),.int .i64 5,.int .i64 1] w fun e j=> ∃s3,e= .returned (.int .i64 0)∧Aside (D2 V 40000000 s3∧s3.ck.d=s2.ck.d)∧Sat (Ad h s3*(Sl.block b K7 [.int .i64 1,.int .i64 5]*F)) j):=fun b F w q=>by
  refine (KB V 2 h 40000000 s2 _ [(1,5)] (Sl.block b K7 [.int .i64 1,.int .i64 5]) F 5 1 w (fun p n hp=>by have:=o.out.view p n hp;exact ⟨this.2.2.1,this.1,by have:=this.2.2.2;simp at this;omega⟩) (K.less (by decide)) (by omega) (by omega) (by rw[G];exact o.out.BU) (Ol (k:=2) K7 b 1 [.int .i64 1,.int .i64 5] rfl (by omega)) (by decide) q).mono ?_
  rintro e j ⟨s3,m',q',_,H,L,I,s⟩
  rw[Tk o.out G] at I s
  exact ⟨s3,I,⟨L.less (s rfl),H⟩,q'⟩
 have a1:Aside (∀(s3:TS)(b:Nat)(F:Ab) w,Aside (D2 V 40000000 s3∧s3.ck.d=s2.ck.d)→Sat (Ad h s3*(Sl.block b K7 [.int .i64 1,.int .i64 6]*F)) w→Calls Tryz.prog 60 #[.pointer (some ⟨h.t,0,none⟩),.slice (some ⟨b,0,none⟩) 1 1,.pointer (some ⟨h.D,0,none⟩),.int .i64 5,.int .i64 1] w fun e j=> ∃s4,e= .returned (.int .i64 13)∧Sat (Ad h s4*(Sl.block b K7 [.int .i64 1,.int .i64 6]*F)) j):=fun s3 b F w hr q=>by
  refine (KB V 2 h 30000000 s3 _ [(1,6)] (Sl.block b K7 [.int .i64 1,.int .i64 6]) F 5 1 w (fun p n hp=>by have:=o.out.view p n hp;exact ⟨this.2.2.1,this.1,by have:=this.2.2.2;simp at this;omega⟩) (hr.out.1.less (by decide)) (by omega) (by omega) (by rw[hr.out.2,G];exact o.out.BU) (Ol (k:=2) K7 b 1 [.int .i64 1,.int .i64 6] rfl (by omega)) (by decide) q).mono ?_
  rintro e j ⟨s4,m',q',_,H,L,I,s⟩
  rw[Tk o.out (hr.out.2.trans G)] at I
  exact ⟨s4,I,q'⟩
 have q6:Sat (Ad h s2*(rw CN 1 (.slice (some ⟨g,0,none⟩) 1 c) [.int .i64 1]*(Sl.block b Hf [.pointer (some ⟨h.D,0,none⟩),.pointer (some ⟨h.C,0,none⟩),.pointer (some ⟨h.t,0,none⟩)]*(B2*F)))) w3:=X.eq (by show rw CN 1 (.slice (some ⟨g,0,none⟩) 1 c) [.int .i64 1]*_=_;ac_rfl)
 haveI:=q6.i
 clear W q4 X x J K r a2 G
 go_wp2_with fail
 go_region_held3 (fun j=>j.cell? ⟨b,0,none⟩=some (.pointer (some ⟨h.D,0,none⟩))∧j.cell? ⟨b,2,none⟩=some (.pointer (some ⟨h.t,0,none⟩))∧j.cell? ⟨g,0,none⟩=some (.int .i64 1)) (first|exact ⟨Ac _ _ _,Ac _ _ _,Ac _ _ _⟩) (first
  |(go_at_call 60;with_reducible refine Calls.mono (a0.out _ _ _ (Bh (Ad h s2) (Sl.block w3.heap.size K7 [.int .i64 1,.int .i64 5]))) ?_;rintro e w5 ⟨s3,rfl,Z,q7⟩;haveI:=q7.i)
  |(go_at_call 60;with_reducible refine Calls.mono (a1.out s3 _ _ _ Z (Bh (Ad h s3) (Sl.block w5.heap.size K7 [.int .i64 1,.int .i64 6]))) ?_;rintro e w6 ⟨s4,rfl,q8⟩;haveI:=q8.i))
 all_goals
  go_wp2
  go_ret
  exact ⟨rfl,n8 F⟩
theorem Iq{A R:Ab}{w a:World}[h:AR A a][t:Take A (Fq w) R]:Below w.heap.size w a:=(h.out.take (Fq w)).Rf
theorem Mq(O T:List UInt8)(u:Option Addr)(f m:Nat)(v:Option Addr)(g n:Nat)(va:Value)(cs:List MW)(less more:Int)(w:World)(hO:Reads (Fq w) (.slice u f m) O)(hT:Reads (Fq w) (.slice v g n) T)(hM:Ot (Fq w) va cs)(a6: ∀c∈cs,A1 (Fq w) (.slice c.a c.put.length c.c) c.put)(a7:cs.length≤9223372036854775807):
 Calls Tryz.prog 10 #[.agg #[.slice u f m,.slice v g n],va,.int .i64 less,.int .i64 more] w fun e M=>e= .returned (.bool true)∧Below w.heap.size w M:=by
 have o:Sat (Fq w*1) w:=(Sat.aM w).eq (Bg _).symm
 have a8:O.length=f:=by obtain ⟨_,_,e0,_,_⟩:=IL hO o;cases e0;rfl
 have U:T.length=g:=by obtain ⟨_,_,e0,_,_⟩:=IL hT o;cases e0;rfl
 have L:=fun F w q=>Wj u v f m g n F w q
 haveI:=o.i
 by_cases p:3000<f∨3000<g
 · rw[decide_eq_true p] at L
   clear hO hT hM a6 a7 a8 U p
   go_enter Tryz.func10,Tryz.ntmps10
   go_wp2_with fail
   with_reducible refine Dz (Jn _ _ (Ae (Fq w))) fun w1 q1 _=>?_
   go_wp2_with fail
   with_reducible refine Dz (L _ _ (Ae (Fq w))) fun w2 q2 _=>?_
   go_wp2_with fail
   with_reducible refine Dz (Jn _ _ (Ae (Fq w))) fun w3 q3 _=>?_
   go_wp2
   go_ret
   exact ⟨rfl,Iq⟩
 rw[decide_eq_false p] at L
 have br:f≤3000:=by omega
 have b4:g≤3000:=by omega
 have J:=As fun(F:Ab)(w1:World)(q:Sat (Fq w*F) w1)=>Ry O T (.slice u f m) (.slice v g n) (Fq w) F w1 hO hT q (by omega) (by omega)
 have R:=As fun(h:Th)(b:Nat)(F:Ab)(w1:World)(q:Sat (Ad h (Mj O T 7)*(DQ b h*(Fq w*F))) w1)=>Tn h (Mj O T 7) b u f m v g n T cs va (Fq w) F w1 (SS O T 7 (by omega) (by omega) (by omega) (by omega)) (by rw[cQ];omega) (by rw[Vq];omega) (by show (7:Int)≤1000;omega) hT U b4 hM a6 a7 q
 obtain ⟨s0,ab⟩:=Aq (Mj O T 7)
 rw[ab] at J R
 have al:=As ab
 have bo:f≤m∧m≤9223372036854775807:=by obtain ⟨_,_,e0,h1,h2⟩:=IL hO o;cases e0;exact ⟨h1,h2⟩
 have bp:g≤n∧n≤9223372036854775807:=by obtain ⟨_,_,e0,h1,h2⟩:=IL hT o;cases e0;exact ⟨h1,h2⟩
 have s:Aside (Reads (Fq w) (.slice u f m) O∧O.length=f∧Reads (Fq w) (.slice v g n) T∧T.length=g):=⟨hO,a8,hT,U⟩
 obtain ⟨i0,E⟩:=Dp
 clear ab o hO hT hM a6 a7 a8 U p
 obtain ⟨N,hN⟩:=Aq w.heap.size
 go_enter Tryz.func10,Tryz.ntmps10
 go_wp2_with fail
 with_reducible refine Dz (Jn _ _ (Ae (Fq w))) fun w1 q1 _=>?_
 try rw[hN] at q1
 try rw[hN]
 haveI:=q1.i
 clear hN
 go_wp2_with fail
 with_reducible refine Dz (L _ _ (Ae (Fq w))) fun w2 q2 _=>?_
 clear q1
 go_wp2_with fail
 with_reducible refine Calls.mono (J.out _ _ (Ae (Fq w))) ?_
 rintro e w3 ⟨b,h,rfl,q3⟩
 haveI:=q3.i
 clear q2 L J
 go_wp2_with fail
 with_reducible refine Calls.mono (R.out h b _ _ (SR (Ad h s0) (DQ b h) (Fq w))) ?_
 rintro e w4 (⟨rfl,s',q5⟩|⟨s',vl,a,c,rfl,b6,an,ap,aq,a2,q5⟩)
 · haveI:=q5.i
   clear q3 R
   go_wp2
   go_ret
   exact ⟨rfl,Iq⟩
 have I:=iH (O:=O) (T:=T) an ap aq (by rw[al.out];exact a2)
 clear q3 R al an ap aq a2
 obtain ⟨file,K⟩:=Aq (A0 s'.ck.d FM)
 rw[K] at I
 clear K
 have r:=fun F w q=>Xl h s' F w q I.BU
 rw[I.now] at r
 have G:=fun F w q=>Lg h s' FM F w q (by decide)
 have a3:max 0 (s'.ck.d.size FM)=(file.length:Int):=by rw[←I.now];exact Kj I.BU
 have V:=I.len
 obtain ⟨nf,W⟩:=Aq file.length
 rw[W] at r a3 V
 obtain ⟨z,hz⟩:=Aq (s'.ck.d.size FM)
 rw[hz] at G a3
 obtain ⟨nv,X⟩:=Aq vl.length
 have ai:Aside (∀(j l:Nat) F w,j≤3000→l≤3000→Sat (Ad h s'*(rw Kq 2 (.slice a nv c) (B9 vl)*F)) w→Calls Tryz.prog 60 #[.pointer (some ⟨h.t,0,none⟩),.slice a nv c,.pointer (some ⟨h.D,0,none⟩),.int .i64 j,.int .i64 l] w fun e M=> ∃(s2:TS)(Q:Int),e= .returned (.int .i64 Q)∧Aside (Q=if vl.all (Dj (Aw file) (D1 (O.take j) (T.take l))) then 0 else 13)∧Sat (Ad h s2*(rw Kq 2 (.slice a nv c) (B9 vl)*F)) M):=fun j l F w h1 h2 q=>by
  subst X
  refine (KB (Aw file) 65000 h 0 s' _ vl (rw Kq 2 (.slice a vl.length c) (B9 vl)) F j l w (VY (by rw[W];exact V)) (I.Qi.less (by omega)) (by omega) (by omega) ⟨I.kN,I.kO⟩ (Ai.rw (q.eq (Vf _ _ _)) ⟨a,c,rfl⟩) (by omega) q).mono ?_
  rintro e M ⟨s2,m',q',_,_,_,he,_⟩
  rw[cR I.mJ I.mK] at he
  exact ⟨s2,_,he,rfl,q'⟩
 have ak:Aside (∀(x:Option Addr)(y:Nat)(Y:Option Addr)(j:Nat)(Z:Option Addr)(l:Nat) F w9,j≤f∧Reads (Fq w) (.slice Y j m) (O.take j)→l≤g∧Reads (Fq w) (.slice Z l n) (T.take l)→Sat (rw TB 1 (.slice x nf y) (A4 file)*(rw Kq 2 (.slice a nv c) (B9 vl)*(Fq w*F))) w9→Calls Tryz.prog 61 #[.slice x nf y,.slice a nv c,.slice Y j m,.slice Z l n] w9 fun e M=>e= .returned (.bool (vl.all (Dj (Aw file) (D1 (O.take j) (T.take l)))))∧Sat (rw TB 1 (.slice x nf y) (A4 file)*(rw Kq 2 (.slice a nv c) (B9 vl)*(Fq w*F))) M):=fun x y Y j Z l F w9 b7 b8 q=>by
  subst X
  exact SD file (O.take j) (T.take l) (.slice x nf y) (.slice a vl.length c) Y j m Z l n vl (rw TB 1 (.slice x nf y) (A4 file)) (rw Kq 2 (.slice a vl.length c) (B9 vl)) (Fq w) F w9 (by subst W;exact Reads.rw) (by omega) b7.2 b8.2 (by rw[List.length_take,s.out.2.1];omega) (by rw[List.length_take,s.out.2.2.2];omega) (by omega) (by omega) (Ai.rw (q.eq (Vf _ _ _)) ⟨a,c,rfl⟩) (by omega) q
 unfold FM at r G
 have aj:=As r
 have am:=As G
 rw[X] at q5⊢
 have q6:Sat (Ad h s'*(rw Kq 2 (.slice a nv c) (B9 vl)*(Sl.block b Hf [.pointer (some ⟨h.D,0,none⟩),.pointer (some ⟨h.C,0,none⟩),.pointer (some ⟨h.t,0,none⟩)]*(Fq w*Sl.block N GQ [.slice u f m,.slice v g n])))) w4:=q5.eq (by unfold DQ;simp only[Bg];ac_rfl)
 have bj:=V
 clear q5 I r G V W hz X b6
 haveI:=q6.i
 go_wp2_with fail
 go_region
 go_upto_region 10 with (fail)
 go_cut [51] (fun bd P=>bd= .bool (decide (0<less∧less≤(f:Int)))∧Sat (Ad h s'*(rw Kq 2 (.slice a nv c) (B9 vl)*(Sl.block b Hf [.pointer (some ⟨h.D,0,none⟩),.pointer (some ⟨h.C,0,none⟩),.pointer (some ⟨h.t,0,none⟩)]*(Fq w*Sl.block N GQ [.slice u f m,.slice v g n])))) P)
 case first=>
  have H: ¬0<less∨0<less∧ ¬less≤(f:Int)∨0<less∧less≤(f:Int):=by omega
  rcases H with h1|⟨h1,h2⟩|⟨h1,h2⟩
  · go_wp2
    go_meet
    exact ⟨by rw[decide_eq_false (by omega)],Ap (by ac_rfl)⟩
  · go_wp2
    go_meet
    exact ⟨by rw[decide_eq_false (by omega)],Ap (by ac_rfl)⟩
  go_wp2
  go_meet
  exact ⟨by rw[decide_eq_true (by omega)],Ap (by ac_rfl)⟩
 obtain ⟨rfl,ac⟩:=hcut
 haveI:=ac.i
 clear q6 this
 haveI:=ac.i
 go_upto_if 51 with (fail)
 go_cut [12] (fun b9 P=> ∃(Y:Option Addr)(j:Nat),b9= .slice Y j m∧Aside (j≤f∧Reads (Fq w) (.slice Y j m) (O.take j))∧Sat (Ad h s'*(rw Kq 2 (.slice a nv c) (B9 vl)*(Sl.block b Hf [.pointer (some ⟨h.D,0,none⟩),.pointer (some ⟨h.C,0,none⟩),.pointer (some ⟨h.t,0,none⟩)]*(Fq w*Sl.block N GQ [.slice u f m,.slice v g n])))) P)
 case first=>
  by_cases h1:0<less∧less≤(f:Int)
  · rw[decide_eq_true h1]
    obtain ⟨k,rfl⟩: ∃k:Nat,less=k:=⟨less.toNat,by omega⟩
    have hk:k≤f:=by omega
    have hw:IntKind.i64.wrap ((f:Int)-k)=((f-k:Nat):Int):=by rw[IntWalk.i64_in _ (by omega)];omega
    have b5: ∀w,(Instr.sliceAt 26 (.slice u f m) none (some (.int .i64 ((f-k:Nat):Int))) none).run Tryz.prog w= .ok (.slice (AH u m 0 1) (f-k) m) w:=fun w=>Ln E (f-k) (by omega) w
    have B:=Reads.to s.out.1 (f-k) (by omega)
    go_wp2
    go_meet
    exact ⟨_,_,rfl,⟨by omega,B⟩,Ap (by ac_rfl)⟩
  rw[decide_eq_false h1]
  have B:Reads (Fq w) (.slice u f m) (O.take f):=by rw[List.take_of_length_le (by have:=s.out.2.1;omega)];exact s.out.1
  go_wp2
  go_meet
  exact ⟨_,_,rfl,⟨Nat.le_refl _,B⟩,Ap (by ac_rfl)⟩
 obtain ⟨Y,j,rfl,HO,a4⟩:=hcut
 clear ac this
 haveI:=a4.i
 go_upto_region 12 with (fail)
 go_cut [65] (fun be P=>be= .bool (decide (0<more∧more≤(g:Int)))∧Sat (Ad h s'*(rw Kq 2 (.slice a nv c) (B9 vl)*(Sl.block b Hf [.pointer (some ⟨h.D,0,none⟩),.pointer (some ⟨h.C,0,none⟩),.pointer (some ⟨h.t,0,none⟩)]*(Fq w*Sl.block N GQ [.slice u f m,.slice v g n])))) P)
 case first=>
  have H: ¬0<more∨0<more∧ ¬more≤(g:Int)∨0<more∧more≤(g:Int):=by omega
  rcases H with h1|⟨h1,h2⟩|⟨h1,h2⟩
  · go_wp2
    go_meet
    exact ⟨by rw[decide_eq_false (by omega)],Ap (by ac_rfl)⟩
  · go_wp2
    go_meet
    exact ⟨by rw[decide_eq_false (by omega)],Ap (by ac_rfl)⟩
  go_wp2
  go_meet
  exact ⟨by rw[decide_eq_true (by omega)],Ap (by ac_rfl)⟩
 obtain ⟨rfl,ad⟩:=hcut
 haveI:=ad.i
 clear a4 this
 haveI:=ad.i
 go_upto_if 65 with (fail)
 go_cut [13] (fun ba P=> ∃(Z:Option Addr)(l:Nat),ba= .slice Z l n∧Aside (l≤g∧Reads (Fq w) (.slice Z l n) (T.take l))∧Sat (Ad h s'*(rw Kq 2 (.slice a nv c) (B9 vl)*(Sl.block b Hf [.pointer (some ⟨h.D,0,none⟩),.pointer (some ⟨h.C,0,none⟩),.pointer (some ⟨h.t,0,none⟩)]*(Fq w*Sl.block N GQ [.slice u f m,.slice v g n])))) P)
 case first=>
  by_cases h1:0<more∧more≤(g:Int)
  · rw[decide_eq_true h1]
    obtain ⟨k,rfl⟩: ∃k:Nat,more=k:=⟨more.toNat,by omega⟩
    have hk:k≤g:=by omega
    have hw:IntKind.i64.wrap ((g:Int)-k)=((g-k:Nat):Int):=by rw[IntWalk.i64_in _ (by omega)];omega
    have b5: ∀w,(Instr.sliceAt 26 (.slice v g n) none (some (.int .i64 ((g-k:Nat):Int))) none).run Tryz.prog w= .ok (.slice (AH v n 0 1) (g-k) n) w:=fun w=>Ln E (g-k) (by omega) w
    have B:=Reads.to s.out.2.2.1 (g-k) (by omega)
    go_wp2
    go_meet
    exact ⟨_,_,rfl,⟨by omega,B⟩,Ap (by ac_rfl)⟩
  rw[decide_eq_false h1]
  have B:Reads (Fq w) (.slice v g n) (T.take g):=by rw[List.take_of_length_le (by have:=s.out.2.2.2;omega)];exact s.out.2.2.1
  go_wp2
  go_meet
  exact ⟨_,_,rfl,⟨Nat.le_refl _,B⟩,Ap (by ac_rfl)⟩
 obtain ⟨Z,l,rfl,HT,a5⟩:=hcut
 clear ad this
 haveI:=a5.i
 have b2:j≤3000:=by have:=HO.out.1;omega
 have b3:l≤3000:=by have:=HT.out.1;omega
 go_wp2_with fail
 go_cut [14] (fun bb P=> ∃(x:Option Addr)(y:Nat),bb= .slice x nf y∧Sat (Ad h s'*(rw TB 1 (.slice x nf y) (A4 file)*(rw Kq 2 (.slice a nv c) (B9 vl)*(Sl.block b Hf [.pointer (some ⟨h.D,0,none⟩),.pointer (some ⟨h.C,0,none⟩),.pointer (some ⟨h.t,0,none⟩)]*(Fq w*Sl.block N GQ [.slice u f m,.slice v g n]))))) P)
 case first=>
  go_region_held3 (fun M=>M.cell? ⟨b,0,none⟩=some (.pointer (some ⟨h.D,0,none⟩))) (exact Ac _ _ _) (first
   |(go_at_call 50;with_reducible refine Calls.mono (am.out _ _ (Ae (Ad h s'))) ?_;rintro e w5 ⟨rfl,rfl⟩)
   |(go_at_call 49;with_reducible refine Calls.mono (aj.out _ _ (Ae (Ad h s'))) ?_;rintro e w5 ⟨x,y,er,rfl,q7⟩;haveI:=q7.i))
  all_goals
   go_wp2_with fail
   go_meet
   exact ⟨x,y,rfl,Ap (by ac_rfl)⟩
 obtain ⟨x,y,rfl,q7⟩:=hcut
 clear a5 aj am this
 haveI:=q7.i
 go_wp2_with fail
 go_cut [16] (fun bc P=> ∃(s2:TS)(Q:Int),bc= .int .i64 Q∧Aside (Q=if vl.all (Dj (Aw file) (D1 (O.take j) (T.take l))) then 0 else 13)∧Sat (Ad h s2*(rw TB 1 (.slice x nf y) (A4 file)*(rw Kq 2 (.slice a nv c) (B9 vl)*(Fq w*1)))) P)
 case first=>
  go_region_held3 (fun M=>M.cell? ⟨b,0,none⟩=some (.pointer (some ⟨h.D,0,none⟩))∧M.cell? ⟨b,2,none⟩=some (.pointer (some ⟨h.t,0,none⟩))) (first|exact ⟨Ac _ _ _,Ac _ _ _⟩) (first
   |(go_at_call 60;with_reducible refine Calls.mono (ai.out j l _ _ b2 b3 (Bh (Ad h s') (rw Kq 2 (.slice a nv c) (B9 vl)))) ?_;rintro e w8 ⟨s2,Q,rfl,HC,q8⟩;haveI:=q8.i))
  all_goals
   go_wp2_with fail
   go_meet
   exact ⟨s2,Q,rfl,HC,Ax (C:=Sl.block b Hf [.pointer (some ⟨h.D,0,none⟩),.pointer (some ⟨h.C,0,none⟩),.pointer (some ⟨h.t,0,none⟩)]*Sl.block N GQ [.slice u f m,.slice v g n]) (by rw[Bg];ac_rfl)⟩
 obtain ⟨s2,Q,rfl,HC,q8⟩:=hcut
 clear q7 ai this
 haveI:=q8.i
 have av:Sat (rw TB 1 (.slice x nf y) (A4 file)*(rw Kq 2 (.slice a nv c) (B9 vl)*(Fq w*(Ad h s2*1)))) wc:=q8.eq (by ac_rfl)
 have aa:=ak.out x y Y j Z l _ _ HO.out HT.out av
 obtain ⟨bl,ao⟩:=Aq (vl.all (Dj (Aw file) (D1 (O.take j) (T.take l))))
 rw[ao] at HC aa
 have a0:=As aa
 clear ak aa ao av
 go_wp2_with fail
 with_reducible refine Dz a0.out fun w9 q9 _=>?_
 clear q8 a0
 cases bl
 · obtain rfl:Q=13:=HC.out
   go_wp2
   go_ret
   exact ⟨rfl,Iq⟩
 obtain rfl:Q=0:=HC.out
 go_wp2
 go_ret
 exact ⟨rfl,Iq⟩
open Go.ChangeShapes Go.WideShapes
theorem MO{α:Type}{f:α→List Value}{p:α→Prop} : ∀l:List (List Value),(∀r∈l,∃c,r=f c∧p c)→ ∃cs:List α,l=cs.map f∧ ∀c∈cs,p c
 | [],_=>⟨[],rfl,by simp⟩
 | r :: l, hl => by
  obtain ⟨c,rfl,e⟩:=hl r (by simp)
  obtain ⟨cs,rfl,b⟩:=MO l fun g d=>hl g (by simp[d])
  exact ⟨c::cs,rfl,fun i a=>by rcases List.mem_cons.1 a with rfl|h;exact e;exact b _ h⟩
theorem jV{n:Int}(h:(Lit.int .u8 n).wf=true): ∃x:UInt8,n=(x.toNat:Int):=by
 have h1:0≤n∧n≤255:=by simpa[Lit.wf,IntKind.min,IntKind.max,IntKind.signed,IntKind.bits] using h
 refine ⟨UInt8.ofNat n.toNat,?_⟩
 simp[UInt8.toNat_ofNat']
 omega
theorem Rz{H:Type}{enc:TypeId×Value→H}{w:World}{d:Nat}{b:Nat→Bool}{g:Bool}{t e f:Nat}{v:Value}{x:DataW H×List MemPlace}
 (l:Tryz.prog.underlying t=some (.slice e)) (h:DataW.trod enc Tryz.prog w d b g f t [v]=some x): ∃a n c,v= .slice a n c∧n≤c∧c≤maxLen:=by
 rcases DataW.trod_slice l h with ⟨h0,_⟩|⟨a,len,cap,i,rest,n,_,h1,_,_,j,k,_⟩
 ·exact ⟨none,0,0,by simpa using h0,Nat.le_refl _,by unfold maxLen;decide⟩
 exact ⟨some a,len,cap,by simpa using h1,j,k⟩
theorem Qw{H:Type}{enc:TypeId×Value→H}{w:World}{j:Nat}{g:Nat→Bool}{k:Bool}{v:Value}
 (h: ∃d x,DataW.trod enc Tryz.prog w j g k d 26 [v]=some x):
 ∃(a:Option Addr)(n c:Nat)(l:List UInt8),v= .slice a n c∧NV w (.slice a n c) l:=by
 obtain ⟨d,x,hx⟩:=h
 obtain ⟨a,len,cap,rfl,e⟩:=Rz Tryz.underlying26 hx
 obtain ⟨G,h1,K,L,u⟩:=IU (s:=1) Tryz.underlying26 (by kernel_rfl) (by omega) hx
 obtain ⟨zs,rfl,q⟩:=MO (f:=fun z:UInt8=> [Value.int .u8 z.toNat]) (p:=fun z=>True) G (by
  intro r hr
  obtain ⟨n,y,hy⟩:=u r hr
  obtain ⟨z,q,_,hw⟩:=DataW.trod_int Tryz.underlying5 hy
  obtain ⟨I,rfl⟩:=jV hw
  exact ⟨I,q,trivial⟩)
 obtain ⟨a',J,t,B⟩:=h1
 have m:=t
 simp only[List.length_map,Value.slice.injEq] at m
 obtain ⟨rfl,rfl,rfl⟩:=m
 refine ⟨a,_,cap,zs,rfl,a,cap,rfl,e.1,e.2,fun i z hi=>?_⟩
 obtain ⟨_,b,o,rfl,D⟩:=B i [.int .u8 z.toNat] (by simp[hi])
 exact ⟨b,o,rfl,by have:=D 0 _ rfl;simpa[bv] using this⟩
theorem WK{α:Type}{f:α→List Value}{s:Nat}(p: ∀x,(f x).length=s)(hp:0<s){w:World}{a:Option Addr}{cap:Nat}{l:List α}(h:iA w (.slice a l.length cap) s (l.map f))(h1:l.length≤cap)(t:cap≤9223372036854775807):Ai s (Fq w) (.slice a l.length cap) l.length (l.flatMap f):=by
 have d:(l.flatMap f).length=l.length*s:=M0 p l
 refine ⟨d,a,cap,rfl,h1,t,fun j u q=>?_⟩
 have g:j<l.length*s:=by
  rw[←d]
  exact (List.getElem?_eq_some_iff.1 q).1
 have e:j/s<l.length:=Nat.div_lt_of_lt_mul (by rw[Nat.mul_comm];exact g)
 have k:j%s<s:=Nat.mod_lt _ hp
 have m:j/s*s+j%s=j:=by rw[Nat.mul_comm];exact Nat.div_add_mod j s
 obtain ⟨x,hx⟩: ∃x,l[j/s]?=some x:=⟨_,List.getElem?_eq_getElem e⟩
 have c:=JX (f:=f) (s:=s) p l (j/s) (j%s) x hx k
 rw[m] at c
 obtain ⟨b,o,rfl,v⟩:=h.at (i:=j/s) (r:=f x) (by simp[hx])
 refine ⟨b,o,rfl,?_⟩
 have n:=v (j%s) u (c.symm.trans q)
 rw[Nat.add_assoc,m] at n
 haveI:ZT w b (o+j) u:=⟨n⟩
 exact inferInstance
theorem FR{H:Type}{enc:TypeId×Value→H}{w:World}{b:Nat}{a:Nat→Bool}{d:Bool}{t e:Nat}{r:List Value}{x:DataW H×List MemPlace}{fs:Array Field}
 (s:Tryz.prog.underlying t=some (.struct fs)) (h:DataW.trod enc Tryz.prog w b a d e t r=some x) (i j g c:Nat) (q:(fs[i]?).map (fun f=>(f.type,f.offset))=some (j,g)) (p:Tryz.prog.cellsOf j=c):
 ∃n y,DataW.trod enc Tryz.prog w b a d n j ((r.drop g).take c)=some y:=by
 obtain ⟨_,n,l⟩:=Fy s h
 obtain ⟨f,m,o⟩:=Option.map_eq_some_iff.1 q
 obtain ⟨y,k⟩:=l i f m
 cases o
 rw[p] at k
 exact ⟨n,y,k⟩
theorem Zo{H:Type}{enc:TypeId×Value→H}{P:Program}{t:TypeId}{W:World}{a:Nat}{sp:Nat→Bool}{b:Bool}{g i:Field}{r:Reach}{o:Nat}{v:Value}{d:DataW H}{ps:List MemPlace}(n:P.underlying t=some (.struct #[g,i]))
 (s:g.offset=0) (u:i.offset=1) (c0:P.cellsOf g.type=1) (c1:P.cellsOf i.type=1) (j:P.cellsOf t=2)
 (c:Value.okWide P W r o t v) (p:DataW.Trod enc P W a sp b t v d ps): ∃x y,v= .agg #[x,y]∧(∃m q,DataW.trod enc P W a sp b m g.type [x]=some q)∧(∃m q,DataW.trod enc P W a sp b m i.type [y]=some q):=by
 simp only[Value.okWide,n] at c
 obtain ⟨cs,rfl,hs,_⟩:=c
 obtain ⟨f,e⟩:=p
 cases f with
 |zero=>simp[DataW.trod] at e
 | succ m =>
  rw[DataW.trod_step] at e
  unfold DataW.trodStep at e
  simp only[n,Value.cells] at e
  rw[j] at hs
  obtain ⟨l⟩:=cs
  match l,hs with
  | [x,y],_=>
   simp only[j,List.length_cons,List.length_nil,if_true,List.mapM_cons,List.mapM_nil,s,u,c0,c1,Option.map_eq_some_iff,bind,Option.bind_eq_some_iff,pure,Option.some.injEq] at e
   obtain ⟨xs,⟨w,e0,l1,⟨z,k,l2,rfl,rfl⟩,rfl⟩,_⟩:=e
   simp at e0 k
   exact ⟨x,y,rfl,⟨m,w,e0⟩,⟨m,z,k⟩⟩
theorem jM{r:List Value}(h:r.length=6): ∃a b c d e f,r= [a,b,c,d,e,f]:=by
 match r,h with
 | [a,b,c,d,e,f],_=>exact ⟨a,b,c,d,e,f,rfl⟩
theorem Wn{H:Type}{enc:TypeId×Value→H}{w:World}{g:Nat}{e:Nat→Bool}{i:Bool}{a:Option Addr}{len cap:Nat}
 (h: ∃d x,DataW.trod enc Tryz.prog w g e i d 117 [.slice a len cap]=some x):
 ∃cs:List MW,cs.length=len∧Ot (Fq w) (.slice a cs.length cap) cs∧cs.length≤9223372036854775807∧ ∀c∈cs,A1 (Fq w) (.slice c.a c.put.length c.c) c.put:=by
 obtain ⟨d,x,hx⟩:=h
 obtain ⟨a',t,o,J,b⟩:=Rz Tryz.underlying117 hx
 cases J
 obtain ⟨M,h1,D,V,G⟩:=IU (s:=6) Tryz.underlying117 (by kernel_rfl) (by omega) hx
 obtain ⟨cs,rfl,m⟩:=MO (f:=eU) (p:=fun c=>A1 (Fq w) (.slice c.a c.put.length c.c) c.put) M (by
  intro r hr
  obtain ⟨n,y,hy⟩:=G r hr
  obtain ⟨hl,n',W⟩:=Fy Tryz.underlying232 hy
  obtain ⟨v0,v1,v2,v3,v4,v5,rfl⟩:=jM (hl.trans (by kernel_rfl))
  have c0:Tryz.prog.cellsOf 3=1:=by kernel_rfl
  have c3:Tryz.prog.cellsOf 29=1:=by kernel_rfl
  obtain ⟨_,y0,e0⟩:=FR Tryz.underlying232 hy 0 3 0 1 rfl c0
  obtain ⟨_,y1,u⟩:=FR Tryz.underlying232 hy 1 3 1 1 rfl c0
  obtain ⟨_,y2,v⟩:=FR Tryz.underlying232 hy 2 3 2 1 rfl c0
  obtain ⟨K,O,q⟩:=FR Tryz.underlying232 hy 3 29 3 1 rfl c3
  obtain ⟨_,y4,z⟩:=FR Tryz.underlying232 hy 4 3 4 1 rfl c0
  obtain ⟨_,y5,B⟩:=FR Tryz.underlying232 hy 5 3 5 1 rfl c0
  obtain ⟨P,rfl,X⟩:=Dd Tryz.underlying3 e0
  obtain ⟨Q,rfl,Y⟩:=Dd Tryz.underlying3 u
  obtain ⟨R,rfl,Z⟩:=Dd Tryz.underlying3 v
  obtain ⟨T,rfl,w4⟩:=Dd Tryz.underlying3 z
  obtain ⟨U,rfl,w5⟩:=Dd Tryz.underlying3 B
  have hs: ∃a n c,v3= .slice a n c:=by
   rcases DataW.trod_slice Tryz.underlying29 q with ⟨h0,_⟩|⟨a,len,cap,k,rest,n,_,h1,_⟩
   ·exact ⟨none,0,0,by simpa using h0⟩
   exact ⟨some a,len,cap,by simpa using h1⟩
  obtain ⟨L,pn,pc,rfl⟩:=hs
  obtain ⟨l,hl,I⟩:=VT ⟨K,O,q⟩
  subst hl
  exact ⟨⟨P,Q,R,L,pc,l,T,U⟩,rfl,I⟩)
 have j:cs.length=len:=by simpa using D
 subst j
 exact ⟨cs,rfl,WK (f:=eU) (s:=6) (fun _=>rfl) (by omega) h1 b.1 (by simpa[maxLen] using b.2),by have:=b.1;have:=b.2;unfold maxLen at this;omega,m⟩
