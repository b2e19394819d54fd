/- censusSound holds for every input. No condition. (part 45) -/
import Derived.Test.YtfhbmblbidcmmaaGreatWa44
set_option linter.all false
set_option maxRecDepth 100000
set_option maxHeartbeats 12800000
namespace Go.Proofs.YtfhbmblbidcmmaaGreat
open Go.RowKit Go.Sl Go.Tr Go.Dk
theorem S6(x:UInt8)(rest:List UInt8)(v:Value)(B F:Ab)(w:World)(V:Reads B v (x::rest))(hs:Sat (B*F) w)(k:rest.length=x.toNat*16):
 Calls Tryz.prog 156 #[.int .i64 2,v] w (Kt B F (if may ⟨false,[],Gz x.toNat rest⟩ then (⟨false,[],Gz x.toNat rest⟩,0) else (I9,4))):=by
 obtain ⟨va,I,rfl,ay,br⟩:=(V F w hs).len
 obtain ⟨iB,R⟩:=Dp
 obtain ⟨i0,E⟩:=Mu
 haveI:=hs.i
 have hx:=x.toNat_lt
 have d:Reads B (.slice (AH va I 1 1) rest.length (I-1)) rest:=by
  have K:=Reads.from V 1 (by simp)
  simpa using K
 obtain ⟨m,hm⟩:=Aq x.toNat
 obtain ⟨n,hn⟩:=Aq rest.length
 rw[List.length_cons,hn] at V ay⊢
 rw[hn] at k d
 rw[hm] at k hx⊢
 obtain ⟨rr,O⟩:=Aq (if may ⟨false,[],Gz m rest⟩ then ((⟨false,[],Gz m rest⟩:Nd),(0:Int)) else (I9,4))
 have ak:=As O
 rw[O]
 clear O
 have X: ∀w,(Instr.sliceAt 26 (.slice va (n+1) I) (some (.int .i64 1)) none none).run Tryz.prog w= .ok (.slice (AH va I 1 1) n (I-1)) w:=fun w=>E6 R 1 (by omega) w
 obtain ⟨b2,o2,e5,an⟩:=byte_at V hs (q:=0) (x:=x) rfl
 rw[Nat.add_zero,hm] at an
 subst e5
 obtain ⟨T,a4⟩:=Aq (AH (some ⟨b2,o2,none⟩) I 1 1)
 rw[a4] at X d
 have t:Aside (Reads B (.slice T n (I-1)) rest∧rest.length=n∧n≤I-1∧n=m*16):=⟨d,hn,by omega,k⟩
 have ar: ¬((n:Int)+1<1):=by omega
 have b9:16*(m:Int)≤4080:=by omega
 have bo:((n:Int)==16*(m:Int))=true:=by simp;omega
 have au:(n:Int)=16*(m:Int):=by omega
 obtain ⟨z,ap⟩:=Aq (I-1)
 rw[ap] at X t
 clear V hn hm d a4 k au
 go_enter Tryz.func156,Tryz.ntmps156
 go_wp2_with fail
 obtain ⟨N,hN⟩:=Aq w.heap.size
 have q0:Sat (Sl.block (N+1) Cy [.bool false,.slice none 0 0,.slice none 0 0]*(Sl.block N Cy [.bool false,.slice none 0 0,.slice none 0 0]*(B*F))) ((w.alloc (.cells #[.bool false,.slice none 0 0,.slice none 0 0] Cy)).alloc (.cells #[.bool false,.slice none 0 0,.slice none 0 0] Cy)):=by
  rw[←hN]
  exact Ap (by ac_rfl)
 rw[hN]
 generalize ((w.alloc (.cells #[.bool false,.slice none 0 0,.slice none 0 0] Cy)).alloc (.cells #[.bool false,.slice none 0 0,.slice none 0 0] Cy))=w0 at q0⊢
 clear hN hs this
 go_loopg [11] m (fun g b1 wr=> ∃(i:Nat)(aE:Option Addr)(cE:Nat),b1= .int .i64 i∧i≤m∧Aside (g=m-i)∧
  Sat (rw Lh 4 (.slice aE i cE) (Hd (Gz i rest))*(Sl.block (N+1) Cy [.bool false,.slice none 0 0,.slice aE i cE]*(Sl.block N Cy [.bool false,.slice none 0 0,.slice none 0 0]*(B*F)))) wr)
 case atStart=>
  exact ⟨0,none,0,rfl,by omega,(rfl:_=_),Sat.AG q0⟩
 obtain ⟨i,aE,cE,rfl,hi,A,o⟩:=hrel
 haveI:=o.i
 clear q0
 by_cases bq:i<m
 · have a5:(i:Int)<m:=by omega
   obtain ⟨p,hp⟩:=Aq (16*i)
   obtain ⟨Q,av⟩:=Aq (p+16)
   have a8:Q≤n:=by have:=t.out.2.2.2;omega
   have a6:n≤z:=t.out.2.2.1
   have hw1:IntKind.i64.wrap (16*(i:Int))=(p:Int):=(IntWalk.i64_in _ (by omega)).trans (by omega)
   have hw2:IntKind.i64.wrap ((p:Int)+16)=(Q:Int):=(IntWalk.i64_in _ (by omega)).trans (by omega)
   have ao: ∀w,(Instr.sliceAt 26 (.slice T n z) (some (.int .i64 p)) (some (.int .i64 Q)) none).run Tryz.prog w= .ok (.slice (AH T z p 1) 16 (z-p)) w:=fun w=>by
    have K:=DL (P:=Tryz.prog) R (a:=T) (n:=n) (c:=z) p Q (by omega) (by omega) w
    rw[show Q-p=16 by omega] at K
    exact K
   have j:Reads B (.slice (AH T z p 1) 16 (z-p)) ((rest.drop p).take 16):=fun F w h=>by
    have K:=(t.out.1 F w h).cut p Q (by omega) a8
    rw[show Q-p=16 by omega] at K
    exact K
   obtain ⟨pc,H⟩:=Aq ((rest.drop p).take 16)
   have aw:pc.length=16:=by rw[←H,List.length_take,List.length_drop,t.out.2.1];omega
   have HY:Aside (Hd (Gz (i+1) rest)=Hd (Gz i rest)++Qe (uk pc)):=(by rw[Vs,hp,H];simp[Hd]:_=_)
   rw[H] at j
   obtain ⟨f,a3⟩:=Aq (AH T z p 1)
   obtain ⟨b,a2⟩:=Aq (z-p)
   rw[a3,a2] at j ao
   have aq:16≤b:=by omega
   have rA:Reads B (.slice (AH f b 0 1) 4 b) (pc.take 4):=fun F w h=>(j F w h).cut 0 4 (by omega) (by omega)
   have rB:Reads B (.slice (AH f b 4 1) 4 (b-4)) ((pc.drop 4).take 4):=fun F w h=>(j F w h).cut 4 8 (by omega) (by omega)
   have rC:Reads B (.slice (AH f b 8 1) 4 (b-8)) ((pc.drop 8).take 4):=fun F w h=>(j F w h).cut 8 12 (by omega) (by omega)
   have rD:Reads B (.slice (AH f b 12 1) 4 (b-12)) ((pc.drop 12).take 4):=fun F w h=>(j F w h).cut 12 16 (by omega) (by omega)
   have hA: ∀w,(Instr.sliceAt 26 (.slice f 16 b) (some (.int .i64 0)) (some (.int .i64 4)) none).run Tryz.prog w= .ok (.slice (AH f b 0 1) 4 b) w:=fun w=>DL R 0 4 (by omega) (by omega) w
   have al: ∀w,(Instr.sliceAt 26 (.slice f 16 b) (some (.int .i64 4)) (some (.int .i64 8)) none).run Tryz.prog w= .ok (.slice (AH f b 4 1) 4 (b-4)) w:=fun w=>DL R 4 8 (by omega) (by omega) w
   have hC: ∀w,(Instr.sliceAt 26 (.slice f 16 b) (some (.int .i64 8)) (some (.int .i64 12)) none).run Tryz.prog w= .ok (.slice (AH f b 8 1) 4 (b-8)) w:=fun w=>DL R 8 12 (by omega) (by omega) w
   have hD: ∀w,(Instr.sliceAt 26 (.slice f 16 b) (some (.int .i64 12)) (some (.int .i64 16)) none).run Tryz.prog w= .ok (.slice (AH f b 12 1) 4 (b-12)) w:=fun w=>DL R 12 16 (by omega) (by omega) w
   have nA:=fun F w q=>Eg _ _ B F w rA q (by simp;omega)
   have nB:=fun F w q=>Eg _ _ B F w rB q (by simp;omega)
   have nC:=fun F w q=>Eg _ _ B F w rC q (by simp;omega)
   have nD:=fun F w q=>Eg _ _ B F w rD q (by simp;omega)
   have aa:uk pc=⟨i4 (BX (pc.take 4)),i4 (BX ((pc.drop 4).take 4)),i4 (BX ((pc.drop 8).take 4)),i4 (BX ((pc.drop 12).take 4))⟩:=rfl
   obtain ⟨y1,hy1⟩:=Aq (i4 (BX (pc.take 4)))
   obtain ⟨y2,hy2⟩:=Aq (i4 (BX ((pc.drop 4).take 4)))
   obtain ⟨y3,hy3⟩:=Aq (i4 (BX ((pc.drop 8).take 4)))
   obtain ⟨y4,hy4⟩:=Aq (i4 (BX ((pc.drop 12).take 4)))
   rw[hy1] at nA
   rw[hy2] at nB
   rw[hy3] at nC
   rw[hy4] at nD
   rw[aa,hy1,hy2,hy3,hy4] at HY
   obtain ⟨cA,Y⟩:=Aq (AH f b 0 1)
   obtain ⟨cB,Z⟩:=Aq (AH f b 4 1)
   obtain ⟨cC,a0⟩:=Aq (AH f b 8 1)
   obtain ⟨cD,a1⟩:=Aq (AH f b 12 1)
   rw[Y] at hA nA
   rw[Z] at al nB
   rw[a0] at hC nC
   rw[a1] at hD nD
   have NA:=As nA
   have NB:=As nB
   have NC:=As nC
   have ND:=As nD
   clear nA nB nC nD rA rB rC rD j aa hy1 hy2 hy3 hy4 Y Z a0 a1 a3 a2 H aw hp av a8 a6
   have bp:i≤255:=by omega
   go_upto_region 18 with (fail)
   refine Dr.Ft (fun r=>r.cell? ⟨N+1,2,none⟩=some (.slice aE i cE)) [17,18] (by kernel_rfl) (Ac _ _ _) (fun L=>?_)
   refine Dr.Am 0 (v:=?v0) (by simp only[List.getElem?_toArray,List.getElem?_cons_succ,List.getElem?_cons_zero];rfl) (by kernel_rfl) ?hQ0 (.inl ⟨?hw0,fun r=>?hy0⟩) ?_
   case hy0=>go_simp;try (with_reducible rfl)
   case hQ0=>exact fun _ _ _ h=>h
   case hw0=>rfl
   simp only[Act.put,List.setIfInBounds_toArray,List.set_cons_zero,List.set_cons_succ]
   refine Dr.Dy 1 (v:=?v1) (by simp only[List.getElem?_toArray,List.getElem?_cons_succ,List.getElem?_cons_zero];rfl) (by kernel_rfl) ?hQ1 (.inl ⟨?hw1,fun r hw=>?hy1⟩) L ?_
   case hy1=>(try dsimp only at hw);go_simp;try (with_reducible rfl)
   case hQ1=>exact fun _ _ _ h=>h
   case hw1=>rfl
   simp only[Act.put,List.setIfInBounds_toArray,List.set_cons_zero,List.set_cons_succ]
   refine Dr.Am 2 (v:=?v2) (by simp only[List.getElem?_toArray,List.getElem?_cons_succ,List.getElem?_cons_zero];rfl) (by kernel_rfl) ?hQ2 (.inl ⟨?hw2,fun r=>?hy2⟩) ?_
   case hy2=>go_simp;try (with_reducible rfl)
   case hQ2=>exact fun _ _ _ h=>h
   case hw2=>rfl
   simp only[Act.put,List.setIfInBounds_toArray,List.set_cons_zero,List.set_cons_succ]
   refine Dr.Am 3 (v:=?v3) (by simp only[List.getElem?_toArray,List.getElem?_cons_succ,List.getElem?_cons_zero];rfl) (by kernel_rfl) ?hQ3 (.inl ⟨?hw3,fun r=>?hy3⟩) ?_
   case hy3=>go_simp;try (with_reducible rfl)
   case hQ3=>exact fun _ _ _ h=>h
   case hw3=>rfl
   simp only[Act.put,List.setIfInBounds_toArray,List.set_cons_zero,List.set_cons_succ]
   refine Dr.Am 5 (v:=?v5) (by simp only[List.getElem?_toArray,List.getElem?_cons_succ,List.getElem?_cons_zero];rfl) (by kernel_rfl) ?hQ5 (.inl ⟨?hw5,fun r=>?hy5⟩) ?_
   case hy5=>go_simp;try (with_reducible rfl)
   case hQ5=>exact fun _ _ _ h=>h
   case hw5=>rfl
   simp only[Act.put,List.setIfInBounds_toArray,List.set_cons_zero,List.set_cons_succ]
   refine Dr.Am 6 (v:=?v6) (by simp only[List.getElem?_toArray,List.getElem?_cons_succ,List.getElem?_cons_zero];rfl) (by kernel_rfl) ?hQ6 (.inl ⟨?hw6,fun r=>?hy6⟩) ?_
   case hy6=>go_simp;try (with_reducible rfl)
   case hQ6=>exact fun _ _ _ h=>h
   case hw6=>rfl
   simp only[Act.put,List.setIfInBounds_toArray,List.set_cons_zero,List.set_cons_succ]
   refine Dr.Am 8 (v:=?v8) (by simp only[List.getElem?_toArray,List.getElem?_cons_succ,List.getElem?_cons_zero];rfl) (by kernel_rfl) ?hQ8 (.inl ⟨?hw8,fun r=>?hy8⟩) ?_
   case hy8=>go_simp;try (with_reducible rfl)
   case hQ8=>exact fun _ _ _ h=>h
   case hw8=>rfl
   simp only[Act.put,List.setIfInBounds_toArray,List.set_cons_zero,List.set_cons_succ]
   refine Dr.Am 9 (v:=?v9) (by simp only[List.getElem?_toArray,List.getElem?_cons_succ,List.getElem?_cons_zero];rfl) (by kernel_rfl) ?hQ9 (.inl ⟨?hw9,fun r=>?hy9⟩) ?_
   case hy9=>go_simp;try (with_reducible rfl)
   case hQ9=>exact fun _ _ _ h=>h
   case hw9=>rfl
   simp only[Act.put,List.setIfInBounds_toArray,List.set_cons_zero,List.set_cons_succ]
   refine Dr.Am 11 (v:=?v11) (by simp only[List.getElem?_toArray,List.getElem?_cons_succ,List.getElem?_cons_zero];rfl) (by kernel_rfl) ?hQ11 (.inl ⟨?hw11,fun r=>?hy11⟩) ?_
   case hy11=>go_simp;try (with_reducible rfl)
   case hQ11=>exact fun _ _ _ h=>h
   case hw11=>rfl
   simp only[Act.put,List.setIfInBounds_toArray,List.set_cons_zero,List.set_cons_succ]
   refine Dr.Am 12 (v:=?v12) (by simp only[List.getElem?_toArray,List.getElem?_cons_succ,List.getElem?_cons_zero];rfl) (by kernel_rfl) ?hQ12 (.inl ⟨?hw12,fun r=>?hy12⟩) ?_
   case hy12=>go_simp;try (with_reducible rfl)
   case hQ12=>exact fun _ _ _ h=>h
   case hw12=>rfl
   simp only[Act.put,List.setIfInBounds_toArray,List.set_cons_zero,List.set_cons_succ]
   refine Dr.CC 4 (by simp only[List.getElem?_toArray,List.getElem?_cons_succ,List.getElem?_cons_zero];rfl) (by kernel_rfl) ?_
   go_wp2_with ((go_simp;go_at_call 179;with_reducible refine Calls.mono (NA.out _ _ (Ae B)) ?_;rintro e w7 ⟨rfl,rfl⟩))
   refine Dr.C9 ⟨(Ac _ _ _),?_⟩
   refine Dr.CC 7 (by simp only[List.getElem?_toArray,List.getElem?_cons_succ,List.getElem?_cons_zero];rfl) (by kernel_rfl) ?_
   go_wp2_with ((go_simp;go_at_call 179;with_reducible refine Calls.mono (NB.out _ _ (Ae B)) ?_;rintro e w7 ⟨rfl,rfl⟩))
   refine Dr.C9 ⟨(Ac _ _ _),?_⟩
   refine Dr.CC 10 (by simp only[List.getElem?_toArray,List.getElem?_cons_succ,List.getElem?_cons_zero];rfl) (by kernel_rfl) ?_
   go_wp2_with ((go_simp;go_at_call 179;with_reducible refine Calls.mono (NC.out _ _ (Ae B)) ?_;rintro e w7 ⟨rfl,rfl⟩))
   refine Dr.C9 ⟨(Ac _ _ _),?_⟩
   refine Dr.CC 13 (by simp only[List.getElem?_toArray,List.getElem?_cons_succ,List.getElem?_cons_zero];rfl) (by kernel_rfl) ?_
   go_wp2_with ((go_simp;go_at_call 179;with_reducible refine Calls.mono (ND.out _ _ (Ae B)) ?_;rintro e w7 ⟨rfl,rfl⟩))
   refine Dr.C9 ⟨(Ac _ _ _),?_⟩
   refine Dr.Am 14 (v:=?v14) (by simp only[List.getElem?_toArray,List.getElem?_cons_succ,List.getElem?_cons_zero];rfl) (by kernel_rfl) ?hQ14 (.inl ⟨?hw14,fun r=>?hy14⟩) ?_
   case hy14=>go_simp;try (with_reducible rfl)
   case hQ14=>exact fun _ _ _ h=>h
   case hw14=>rfl
   simp only[Act.put,List.setIfInBounds_toArray,List.set_cons_zero,List.set_cons_succ]
   refine Dr.CC 15 (by simp only[List.getElem?_toArray,List.getElem?_cons_succ,List.getElem?_cons_zero];rfl) (by kernel_rfl) ?_
   go_wp2_with (fail)
   refine Dr.C9 ⟨(Ac _ _ _),?_⟩
   refine Dr.CC 16 (by simp only[List.getElem?_toArray,List.getElem?_cons_succ,List.getElem?_cons_zero];rfl) (by kernel_rfl) ?_
   go_wp2_with (at_builtin;refine Af E rfl (.tmp 87) (.tmp 101) rfl rfl rfl (Ae (rw Lh 4 (.slice aE i cE) (Hd (Gz i rest)))) (Src.new (e:=Lh) (s:=4) (vs:= [.int .i64 y1,.int .i64 y2,.int .i64 y3,.int .i64 y4]) (Ae (Sl.block _ Lh [.int .i64 y1,.int .i64 y2,.int .i64 y3,.int .i64 y4])) rfl (by intro u hu;simp at hu;rcases hu with rfl|rfl|rfl|rfl<;>rfl)) (by unfold maxLen;omega) (by omega) ?_;intro a9 c9 w9 ax a7;clear a7;haveI:=ax.i)
   refine Dr.C9 ⟨(Ac _ _ _),?_⟩
   refine Dr.Gu [17,18] (os:= [_,_]) (by decide) (by simp only[List.map_cons,List.map_nil,List.getElem?_toArray,List.getElem?_cons_succ,List.getElem?_cons_zero];rfl) (by kernel_rfl) ?_
   go_wp2_with fail
   go_roundg (m-(i+1))
   case measure=>have:=A.out;omega
   refine ⟨i+1,a9,c9,by go_num,by omega,(rfl:_=_),?_⟩
   rw[HY.out]
   exact Ax (C:=Sl.block wr.heap.size Lh [.int .i64 y1,.int .i64 y2,.int .i64 y3,.int .i64 y4]) (by unfold Qe;ac_rfl)
 have a5: ¬(i:Int)<m:=by omega
 obtain rfl:i=m:=by omega
 have y:=Yo rest i
 have D:BE (rw Lh 4 (.slice aE i cE) (Hd (Gz i rest))) (.slice aE i cE) (Gz i rest):=Z3 o y.symm
 obtain ⟨es,G⟩:=Aq (Gz i rest)
 rw[G] at y D o
 have ah:=As G
 have J:Aside ((if may ⟨false,[],es⟩ then ((⟨false,[],es⟩:Nd),(0:Int)) else (I9,4))=rr):=(by rw[←ak.out,G]:_=_)
 have W:BE (rw Lh 4 (.slice aE i cE) (Hd es)) (.slice aE es.length cE) es:=by rw[y];exact D
 have l:=U9 es aE cE _ _ wr W o
 rw[y] at l
 have aj:=As D
 haveI:=o.i
 obtain ⟨mb,M⟩:=Aq (may ⟨false,[],es⟩)
 rw[M] at l
 have U:=As M
 clear G y D W M ah
 go_wp2_with fail
 with_reducible refine Calls.mono l ?_
 rintro e w7 ⟨rfl,q7⟩
 haveI:=q7.i
 clear l o
 cases mb with
 | true =>
   have HF:Aside (rr=(⟨false,[],es⟩,0)):=(by rw[←J.out,U.out];rfl:_=_)
   go_wp2
   go_returns
   rw[HF.out]
   exact ⟨_,_,rfl,⟨_,_,rfl,Ai.nil 4 _,aj.out⟩,AD _ B F⟩
 | false =>
   have HF:Aside (rr=(I9,4)):=(by rw[←J.out,U.out];rfl:_=_)
   go_wp2
   go_returns
   rw[HF.out]
   exact Fz (Ar B F)
theorem UA(kind:Int)(b:List UInt8)(v:Value)(B F:Ab)(w:World)(c:Reads B v b)(hs:Sat (B*F) w)(hl:b.length≤1048576):
 Calls Tryz.prog 156 #[.int .i64 kind,v] w (Kt B F (DN kind b)):=by
 cases b with
 |nil=>exact S8 kind v B F w c hs
 | cons x rest =>
  rw[List.length_cons] at hl
  unfold DN
  simp only
  by_cases d:kind≠1∧kind≠2
  ·rw[if_pos d]
   exact JB kind x rest v B F w c hs (by omega) (fun h=>d.1 h.1) (fun h=>d.2 h.1)
  rw[if_neg d]
  by_cases h1:kind=1
  ·subst h1
   simp only[if_true]
   by_cases a:rest.length≠x.toNat*13
   ·rw[if_pos a]
    exact JB 1 x rest v B F w c hs (by omega) (fun h=>a h.2) (fun h=>by omega)
   rw[if_neg a]
   exact S7 x rest v B F w c hs (by omega)
  have e:kind=2:=by omega
  subst e
  simp only[show¬(2:Int)=1 by omega,if_false]
  by_cases a:rest.length≠x.toNat*16
  ·rw[if_pos a]
   exact JB 2 x rest v B F w c hs (by omega) (fun h=>by omega) (fun h=>a h.2)
  rw[if_neg a]
  exact S6 x rest v B F w c hs (by omega)
theorem Wv{kind:Int}{b:List UInt8}(h:(DN kind b).2≠0):(DN kind b).1=I9:=by
 cases b with
 |nil=>rfl
 | cons b rest =>
  unfold DN at h⊢
  simp only at h⊢
  by_cases h1:kind≠1∧kind≠2
  ·rw[if_pos h1]
  rw[if_neg h1] at h⊢
  by_cases a:rest.length≠b.toNat*(if kind=1 then 13 else 16)
  ·rw[if_pos a]
  rw[if_neg a] at h⊢
  generalize (if kind=1 then (⟨true,Gy b.toNat rest,[]⟩:Nd) else ⟨false,[],Gz b.toNat rest⟩)=n at h⊢
  by_cases c:may n=true
  ·rw[if_pos c] at h;exact absurd rfl h
  rw[if_neg c]
def RD(B F:Ab)(o:Option Nd)(e:Ending)(a:World):Prop:= ∃v' G,e= .returned (.tuple #[v',.bool o.isSome])∧AN G v' (o.getD I9)∧Sat (G*(B*F)) a
theorem FN{B F:Ab}{w:World}(hs:Sat (B*F) w):RD B F none (.returned (.tuple #[.agg #[.bool false,.slice none 0 0,.slice none 0 0],.bool false])) w:=
 ⟨_,1,rfl,⟨_,_,rfl,Ai.nil 4 _,Ai.nil 4 _⟩,by rw[Ay];exact hs⟩
theorem JC(file:List UInt8)(v:Value)(no:Int)(B F:Ab)(w:World)(W:Reads B v file)(hl:file.length≤1099511627776)(hs:Sat (B*F) w):
 Calls Tryz.prog 126 #[v,.int .i64 no] w (RD B F (Aw file no)):=by
 obtain ⟨i0,E⟩:=Dp
 obtain ⟨H,m,rfl,a2,aj⟩:=(W F w hs).len
 have HB:=As W
 obtain ⟨R,Z⟩:=Aq (Aw file no)
 have K:=As Z
 rw[Z]
 obtain ⟨n,hn⟩:=Aq file.length
 have O:=As hn
 rw[hn] at hl a2⊢
 clear W Z hn
 haveI:=hs.i
 by_cases h1:no<1
 · have d1:decide (no<1)=true:=decide_eq_true h1
   have f:Aside (R=none):=(by rw[←K.out];unfold Aw;rw[if_pos (.inl h1)]:_=_)
   go_enter Tryz.func126,Tryz.ntmps126
   go_wp2
   go_returns
   rw[f.out]
   exact FN (Ar B F)
 have d1:decide (no<1)=false:=decide_eq_false h1
 by_cases U:1048576≤no
 · have d2:decide (1048576≤no)=true:=decide_eq_true U
   have f:Aside (R=none):=(by rw[←K.out];unfold Aw;rw[if_pos (.inr (.inl U))]:_=_)
   go_enter Tryz.func126,Tryz.ntmps126
   go_wp2
   go_returns
   rw[f.out]
   exact FN (Ar B F)
 have d2:decide (1048576≤no)=false:=decide_eq_false U
 obtain ⟨p,hp⟩: ∃p:Nat,no=p:=⟨no.toNat,by omega⟩
 subst hp
 have hw1:IntKind.i64.wrap (256*(p:Int))=((256*p:Nat):Int):=(IntWalk.i64_in _ (by omega)).trans (by omega)
 have hw2:IntKind.i64.wrap (((256*p:Nat):Int)+256)=((256*p+256:Nat):Int):=(IntWalk.i64_in _ (by omega)).trans (by omega)
 obtain ⟨q,hq⟩:=Aq (256*p)
 rw[hq] at hw1 hw2
 obtain ⟨d,a1⟩:=Aq (q+256)
 rw[a1] at hw2
 by_cases h3:n<d
 · have d3:decide ((n:Int)<(d:Int))=true:=decide_eq_true (by omega)
   have V:(n:Int)<(d:Int):=by omega
   have f:Aside (R=none):=(by rw[←K.out];unfold Aw;rw[if_pos (.inr (.inr (by rw[O.out];omega)))]:_=_)
   go_enter Tryz.func126,Tryz.ntmps126
   go_wp2
   go_returns
   rw[f.out]
   exact FN (Ar B F)
 have d3:decide ((n:Int)<(d:Int))=false:=decide_eq_false (by omega)
 have V: ¬(n:Int)<(d:Int):=by omega
 have hc: ∀w,(Instr.sliceAt 26 (.slice H n m) (some (.int .i64 q)) (some (.int .i64 (d:Int))) none).run Tryz.prog w= .ok (.slice (AH H m q 1) 256 (m-q)) w:=fun w=>by
  have g:=DL (P:=Tryz.prog) E (a:=H) (n:=n) (c:=m) q d (by omega) (by omega) w
  rw[show d-q=256 by omega] at g
  exact g
 obtain ⟨t,l⟩:=Aq ((file.drop q).take 256)
 have hr:Reads B (.slice (AH H m q 1) 256 (m-q)) t:=fun F w h=>by
  have g:=(HB.out F w h).cut q d (by omega) (by rw[O.out];omega)
  rw[show d-q=256 by omega,l] at g
  exact g
 have HG:Aside (R=CU (p:Int) t):=(by
  rw[←K.out]
  unfold Aw
  rw[if_neg (by rw[O.out];omega),Int.toNat_natCast,hq,l]:_=_)
 have s:=fun F w h=>UU (p:Int) _ t B F w hr h
 unfold ZV at s
 obtain ⟨⟨zk,r,ze⟩,M⟩:=Aq (AO (p:Int) t)
 have T:=As M
 rw[M] at s
 obtain ⟨cv,y⟩:=Aq (AH H m q 1)
 rw[y] at hc s
 have ak:r.length≤256:=by
  have g:=LN (p:Int) t
  have h8:t.length≤256:=by rw[←l,List.length_take];omega
  rw[M] at g
  simp only at g
  omega
 simp only at s
 clear M hr y l
 go_enter Tryz.func126,Tryz.ntmps126
 go_wp2_with fail
 with_reducible refine Calls.mono (s _ _ (Ae B)) ?_
 rintro e w1 ⟨a,c,rfl,q1⟩
 haveI:=q1.i
 clear s hs
 by_cases L:ze=0
 · subst L
   have D:=UA zk r (.slice a r.length c) (rw TB 1 (.slice a r.length c) (A4 r)) _ w1 Reads.rw q1 (by omega)
   go_wp2_with fail
   with_reducible refine Calls.mono D ?_
   rintro e w2 ⟨v',G,rfl,hN,d⟩
   obtain ⟨vE,vK,rfl,X,Y⟩:=hN
   obtain ⟨aE,cE,rfl,u,af⟩:=X.v
   obtain ⟨aK,cK,rfl,x,ag⟩:=Y.v
   haveI:=d.i
   have HH:=As HG
   have I:=As X
   have J:=As Y
   obtain ⟨⟨o,oe⟩,j⟩:=Aq (DN zk r)
   have HO:=As j
   rw[j] at I J u x⊢
   simp only at I J u x⊢
   have z:oe≠0→o=I9:=fun h=>by have g:=Wv (kind:=zk) (b:=r) (by rw[j];exact h);rw[j] at g;exact g
   have Q:=As z
   clear D X Y q1 j z
   by_cases k:oe=0
   ·subst k
    have f:Aside (R=some o):=(by rw[HH.out];unfold CU;rw[T.out];simp only;rw[HO.out];simp:_=_)
    go_wp2
    go_returns
    rw[f.out]
    exact ⟨_,G,rfl,⟨_,_,rfl,I.out,J.out⟩,AD G B F⟩
   have d4:(oe==0)=false:=by simpa using k
   have f:Aside (R=none):=(by rw[HH.out];unfold CU;rw[T.out];simp only;rw[HO.out];simp[k]:_=_)
   have HD:Aside (o=I9):=Q.out k
   go_wp2
   go_returns
   rw[f.out]
   exact ⟨_,G,rfl,by rw[show (none:Option Nd).getD I9=o from HD.out.symm];exact ⟨_,_,rfl,I.out,J.out⟩,AD G B F⟩
 have d4:(ze !=0)=true:=by simpa using L
 have d5:(ze==0)=false:=by simpa using L
 have f:Aside (R=none):=(by rw[HG.out];unfold CU;rw[T.out];exact if_neg L:_=_)
 go_wp2
 go_returns
 rw[f.out]
 exact FN (Ar B F)
abbrev Je:TypeId:=47
def SZ(l:List Int):List Value:=l.map (Value.int .i64)
theorem XH(l:List Int): ∀u∈SZ l,u.oneCell'=true:=by
 intro u a
 unfold SZ at a
 obtain ⟨x,_,rfl⟩:=List.mem_map.1 a
 rfl
theorem XB(a b:List Av):AQ (a++b)=AQ a++AQ b:=by simp[AQ]
theorem XG(a b:List Int):SZ (a++b)=SZ a++SZ b:=by simp[SZ]
def Jm(B:Ab)(v:Value)(l:List Int):Prop:=Ai 1 B v l.length (SZ l)
def dJ(G:Ab)(v:Value)(l:Lk):Prop:= ∃a b,v= .agg #[.bool l.ok,.int .i64 l.Al,a,b]∧A1 G a l.Ag∧Jm G b l.A7
def Tc(B F:Ab)(l:Lk)(e:Ending)(a:World):Prop:= ∃v G,e= .returned v∧dJ G v l∧Sat (G*(B*F)) a
theorem Eb{B F:Ab}{w:World}(hs:Sat (B*F) w):Tc B F Fh (.returned (.agg #[.bool false,.int .i64 0,.slice none 0 0,.slice none 0 0])) w:=
 ⟨_,1,rfl,⟨_,_,rfl,Ai.nil 4 _,Ai.nil 1 _⟩,by rw[Ay];exact hs⟩
theorem Rp{a:Option Addr}{n c:Nat}{l:List Int}{F:Ab}{w:World}(hs:Sat (rw CN 1 (.slice a n c) (SZ l)*F) w)(b:n=l.length):Jm (rw CN 1 (.slice a n c) (SZ l)) (.slice a n c) l:=by
 subst b
 exact Ai.rw hs ⟨a,c,rfl⟩
structure lW (V:Int→Option Nd) (f:Nat) (kids:List Kd) (R:Lk) (J:Ab) (g lk j ne np:Nat) (oh:Int) (oe:List Av) (op:List Int) (aE:Option Addr) (cE:Nat) (aP:Option Addr) (cP:Nat) (vK:Value):Prop where
 iZ:g=lk-j
 rest:B6 V (fun p=>AP V f p false) (kids.drop j) (j==0) ⟨true,oh,oe,op⟩=R
 e:A1 J (.slice aE ne cE) oe
 p:Jm J (.slice aP np cP) op
 k:BE J vK kids
 ne:oe.length=ne
 np:op.length=np
theorem iG{e s n g:Nat}{l:List Value}{F:Ab}{w:World}(hl:l.length=n*s)(a:n≤1099511627776)(hs:Sat (Sl.block g e l*F) w):Sat (rw e s (.slice (some ⟨g,0,none⟩) n n) l*F) w:=
 Sat.EA (sp:= []) hl (by simpa using hl) (Nat.le_refl _) (by unfold maxLen;omega) (by simpa using hs)
theorem bL{V:Int→Option Nd}{bl:Int→Lk}{ks:List Kd}{j:Nat}{k:Kd}(c:ks[j]?=some k)(o:Lk):B6 V bl (ks.drop j) (j==0) o=match GV (bl k.Au) (GW (BA V k.Au)) (j==0) k o with
 |none=>Fh
 |some o'=>B6 V bl (ks.drop (j+1)) (j+1==0) o':=by
 have h1:ks.drop j=k::ks.drop (j+1):=by
  obtain ⟨a,b⟩:=List.getElem?_eq_some_iff.1 c
  rw[List.drop_eq_getElem_cons a,b]
 rw[h1]
 rfl
theorem UD{V:Int→Option Nd}{p:Int}(h:V p=none)(f:Nat)(top:Bool):AP V (f+1) p top=Fh:=by
 show (match V p with|none=>Fh|some n=>if top=false∧many n<4 then Fh else B6 V (fun p=>AP V f p false) n.kids true ⟨true,0,n.Ag,[p]⟩)=_
 rw[h]
theorem UE{V:Int→Option Nd}{p:Int}{n:Nd}(h:V p=some n)(f:Nat)(top:Bool):AP V (f+1) p top=if top=false∧many n<4 then Fh else B6 V (fun p=>AP V f p false) n.kids true ⟨true,0,n.Ag,[p]⟩:=by
 show (match V p with|none=>Fh|some n=>if top=false∧many n<4 then Fh else B6 V (fun p=>AP V f p false) n.kids true ⟨true,0,n.Ag,[p]⟩)=_
 rw[h]
theorem Zz{x:Lk}{s:Int×Int×Int}{first:Bool}{k:Kd}{o:Lk}(h:x.ok=false∨s.1≠k.bytes∨s.2.1≠k.lines∨s.2.2≠k.AA∨(first=false∧x.Al+1≠o.Al)):GV x s first k o=none:=by
 unfold GV
 rw[if_pos h]
theorem S9(file : List UInt8)(v : Value)(B : Ab)(hB : Reads B v file)(hl : file.length ≤ 1099511627776) : ∀(f : Nat)(no q : Int)(top : Bool)(F : Ab)(w : World), f ≤ 13 → q = 13 - (f : Int) → Sat (B * F) w →
 Calls Tryz.prog 71 #[v,.int .i64 no,.bool top,.int .i64 q] w (Tc B F (AP (Aw file) f no top)):=by
 intro f
 induction f with
 | zero =>
  intro no q top F w hf hd hs
  have hq:q=13:=by omega
  clear hd hf
  subst hq
  haveI:=hs.i
  have dr:=JC file v no B F w hB hl hs
  unfold AP
  go_enter Tryz.func71,Tryz.ntmps71
  go_wp2_with fail
  with_reducible refine Calls.mono (JC file v no B _ _ hB hl (Ae B)) ?_
  rintro e w1 ⟨v',G,rfl,hN,q1⟩
  obtain ⟨vE,vK,rfl,hE,hK⟩:=hN
  obtain ⟨aE,cE,rfl,W,dg⟩:=hE.v
  obtain ⟨aK,cK,rfl,X,di⟩:=hK.v
  haveI:=q1.i
  obtain ⟨b,hb⟩:=Aq ((Aw file no).isSome)
  rw[hb]
  obtain ⟨o,ho⟩:=Aq ((Aw file no).getD I9)
  rw[ho] at W X⊢
  obtain ⟨le,Y⟩:=Aq o.Ag.length
  obtain ⟨lk,cq⟩:=Aq o.kids.length
  obtain ⟨lf,ac⟩:=Aq o.leaf
  rw[Y] at W⊢
  rw[cq] at X⊢
  rw[ac]
  clear dr hs hE hK hb ho Y cq ac
  cases b with
  | true =>
   go_wp2
   go_returns
   exact Eb (Ar B F)
  | false =>
   go_wp2
   go_returns
   exact Eb (Ar B F)
 | succ f ih =>
  intro no q top F w hf hd hs
  obtain ⟨i0,E⟩:=EW
  obtain ⟨i1,E1⟩:=Mt
  haveI:=hs.i
  obtain ⟨R,hR⟩:=Aq (AP (Aw file) (f+1) no top)
  have HR:=As hR
  rw[hR]
  clear hR
  have cm: ¬(12:Int)<q:=by omega
  have dm:decide ((12:Int)<q)=false:=decide_eq_false cm
  have f7:=Bb (q+1) (by omega)
  have HD:Aside (q=13-((f+1:Nat):Int)∧f+1≤13):=⟨hd,hf⟩
  have IH:=As ih
  have NO:Aside (∀(no:Int)(F:Ab)(w:World),Sat (B*F) w→Calls Tryz.prog 126 #[v,.int .i64 no] w (RD B F (Aw file no))):=fun no F w h=>JC file v no B F w hB hl h
  have HV:Aside (∀p n,Aw file p=some n→may n=true):=fun p n h=>FJ h
  clear ih hd hf
  go_enter Tryz.func71,Tryz.ntmps71
  go_wp2_with fail
  with_reducible refine Calls.mono (NO.out no _ _ (Ae B)) ?_
  rintro e w1 ⟨v',G,rfl,hN,q1⟩
  obtain ⟨vE,vK,rfl,hE,hK⟩:=hN
  obtain ⟨aE,cE,rfl,W,dg⟩:=hE.v
  obtain ⟨aK,cK,rfl,X,di⟩:=hK.v
  clear hs
  cases H:Aw file no with
  | none =>
   have HF:Aside (R=Fh):=(by rw[←HR.out];exact UD H _ _:_=_)
   haveI:=q1.i
   clear hE hK H
   go_wp2
   go_returns
   rw[HF.out]
   exact Eb (Ar B F)
  | some n =>
   rw[H] at hE hK W X
   simp only[Option.getD_some,Option.isSome_some] at hE hK W X⊢
   have hm:=HV.out no n H
   have Y:n.Ag.length≤12∧n.kids.length≤12:=⟨(EM.of hm).e,(EM.of hm).k⟩
   have HF:Aside (R=if top=false∧many n<4 then Fh else B6 (Aw file) (fun p=>AP (Aw file) f p false) n.kids true ⟨true,0,n.Ag,[no]⟩):=(by rw[←HR.out];exact UE H _ _:_=_)
   have HM:=As hm
   have HE:=As hE
   have HK:=As hK
   obtain ⟨le,ab⟩:=Aq n.Ag.length
   obtain ⟨lk,ad⟩:=Aq n.kids.length
   have aj:=As ab
   have V:=As ad
   rw[ab] at Y W⊢
   rw[ad] at Y X⊢
   obtain ⟨eg,eh⟩:=Y
   have f9:=Bb ((le:Int)+(lk:Int)) (by omega)
   obtain ⟨lf,ac⟩:=Aq n.leaf
   rw[ac]
   haveI:=q1.i
   clear hE hK H hm ab ad ac
   obtain ⟨fw,co⟩:=Aq (decide (top=false∧le+lk<4))
   have U:=As co
   clear co
   go_upto_region 2 with (fail)
   go_cut [45] (fun dx wx=>dx= .bool fw∧Sat (Sl.block w1.heap.size Cy [.bool lf,.slice aE le cE,.slice aK lk cK]*(Sl.block w.heap.size Je [.bool false,.int .i64 0,.slice none 0 0,.slice none 0 0]*(G*(B*F)))) wx)
   case first =>
    cases top with
    | true =>
      have I:fw=false:=by rw[←U.out];simp
      subst I
      go_wp2_with fail
      go_meet
      exact ⟨rfl,Ap (by ac_rfl)⟩
    | false =>
      by_cases h4:le+lk<4
      · have I:fw=true:=by rw[←U.out];simp[h4]
        subst I
        have aa:(le:Int)+(lk:Int)<4:=by omega
        have cn:decide ((le:Int)+(lk:Int)<4)=true:=decide_eq_true aa
        go_wp2_with fail
        go_meet
        exact ⟨rfl,Ap (by ac_rfl)⟩
      have I:fw=false:=by rw[←U.out];simp[h4]
      subst I
      have aa: ¬(le:Int)+(lk:Int)<4:=by omega
      have cn:decide ((le:Int)+(lk:Int)<4)=false:=decide_eq_false aa
      go_wp2_with fail
      go_meet
      exact ⟨rfl,Ap (by ac_rfl)⟩
   obtain ⟨rfl,q2⟩:=hcut
   obtain ⟨N9,ch⟩:=Aq w1.heap.size
   obtain ⟨N8,cg⟩:=Aq w.heap.size
   rw[ch,cg] at q2⊢
   clear q1 this cg ch
   haveI:=q2.i
   cases fw with
   | true =>
     have ai:Aside (R=Fh):=(by
      rw[HF.out,if_pos]
      have r:=of_decide_eq_true U.out
      exact ⟨r.1,by unfold many;rw[aj.out,V.out];exact r.2⟩:_=_)
     go_wp2
     go_returns
     rw[ai.out]
     exact Eb (Ar B F)
   | false =>
     have ai:Aside (B6 (Aw file) (fun p=>AP (Aw file) f p false) n.kids true ⟨true,0,n.Ag,[no]⟩=R):=(by
      rw[HF.out,if_neg]
      have r:=of_decide_eq_false U.out
      rintro ⟨h1,h2⟩
      exact r ⟨h1,by unfold many at h2;rw[aj.out,V.out] at h2;exact h2⟩:_=_)
     clear HF HR U
     obtain ⟨i0,E⟩:=EW
     obtain ⟨i1,E1⟩:=Mt
     go_wp2_with fail
     obtain ⟨N,hN⟩:=Aq wc.heap.size
     have q3:Sat (Sl.block N CN [.int .i64 no]*(Sl.block (N+1) Je [.bool true,.int .i64 0,.slice aE le cE,.slice (some ⟨N,0,none⟩) 1 1]*(Sl.block N9 Cy [.bool lf,.slice aE le cE,.slice aK lk cK]*(Sl.block N8 Je [.bool false,.int .i64 0,.slice none 0 0,.slice none 0 0]*(G*(B*F)))))) ((wc.alloc (.cells #[.int .i64 no] CN)).alloc (.cells #[.bool true,.int .i64 0,.slice aE le cE,.slice (some ⟨wc.heap.size,0,none⟩) 1 1] Je)):=by
      rw[←hN]
      exact Ap (by ac_rfl)
     rw[hN] at q3⊢
     generalize ((wc.alloc (.cells #[.int .i64 no] CN)).alloc (.cells #[.bool true,.int .i64 0,.slice aE le cE,.slice (some ⟨N,0,none⟩) 1 1] Je))=w3 at q3⊢
     have q4:=iG (s:=1) (n:=1) rfl (by omega) q3
     have cc:Jm (rw CN 1 (.slice (some ⟨N,0,none⟩) 1 1) [.int .i64 no]) (.slice (some ⟨N,0,none⟩) 1 1) [no]:=Rp (l:= [no]) q4 rfl
     have bs:Aside (lW (Aw file) f n.kids R (rw CN 1 (.slice (some ⟨N,0,none⟩) 1 1) [.int .i64 no]*G) lk lk 0 le 1 0 n.Ag [no] aE cE (some ⟨N,0,none⟩) 1 (.slice aK lk cK)):=
      ⟨rfl,ai.out,by have:=HE.out;rw[aj.out] at this;exact Ai.right this,Ai.left cc,by have:=HK.out;rw[V.out] at this;exact Ai.right this,aj.out,rfl⟩
     obtain ⟨u,b0⟩:=Aq (N+1)
     rw[b0] at q4⊢
     clear q2 q3 hN b0 cc ai this
     go_loopg [12] lk (fun g dw wr=> ∃(j ne np:Nat)(oh:Int)(oe:List Av)(op:List Int)(a1:Option Addr)(c1:Nat)(a2:Option Addr)(c2:Nat)(J:Ab),dw= .int .i64 j∧j≤lk∧0≤oh∧oh≤13∧ne≤1036∧np≤1037∧np≤ne+1∧Aside (lW (Aw file) f n.kids R J g lk j ne np oh oe op a1 c1 a2 c2 (.slice aK lk cK))∧
      Sat (Sl.block u Je [.bool true,.int .i64 oh,.slice a1 ne c1,.slice a2 np c2]*(Sl.block N9 Cy [.bool lf,.slice aE le cE,.slice aK lk cK]*(Sl.block N8 Je [.bool false,.int .i64 0,.slice none 0 0,.slice none 0 0]*(J*(B*F))))) wr)
     case atStart=>exact ⟨0,le,1,0,n.Ag,[no],aE,cE,some ⟨N,0,none⟩,1,_,rfl,by omega,by omega,by omega,by omega,by omega,by omega,bs,q4.eq (by ac_rfl)⟩
     obtain ⟨j,ne,np,oh,oe,op,a1,c1,a2,c2,J,rfl,hj,f5,f6,f3,f4,av,A,q5⟩:=hrel
     clear q4 bs
     haveI:=q5.i
     by_cases dq:j<lk
     · have cr : (j : Int) < lk := by omega
       obtain ⟨k,hk⟩: ∃k,n.kids[j]?=some k:=⟨_,List.getElem?_eq_getElem (by rw[V.out];exact dq)⟩
       obtain ⟨b,af,e9,r1,r2,r3,r4⟩:=Cp (a:=aK) (c:=cK) (by have:=A.out.k;rw[←V.out] at this;exact this) hk
       subst e9
       obtain ⟨x,hx⟩:=Aq (AP (Aw file) f k.Au false)
       have K:RC false f x:=by rw[←hx];exact FX HV.out f k.Au false
       have bc:EM (BA (Aw file) k.Au):=by
        unfold BA
        cases hq:Aw file k.Au with
        |none=>exact EM.zero
        |some m=>exact EM.of (HV.out _ m hq)
       obtain ⟨⟨s1,s2,s3⟩,Q⟩:=Aq (GW (BA (Aw file) k.Au))
       have b5:Aside (R=match GV x (s1,s2,s3) (j==0) k ⟨true,oh,oe,op⟩ with
        |none=>Fh
        |some o'=>B6 (Aw file) (fun p=>AP (Aw file) f p false) (n.kids.drop (j+1)) (j+1==0) o'):=(by
        have r:=A.out.rest
        rw[bL hk,hx,Q] at r
        exact r.symm:_=_)
       obtain ⟨k1,k2,k3,k4⟩:=k
       simp only at r1 r2 r3 r4 hx bc Q
       have HX:=As hx
       have a4:=As K
       have d8:=As bc
       have bw:=As Q
       clear hk hx K bc Q
       go_wp2_with fail
       with_reducible refine Calls.mono (IH.out k1 (q+1) false _ _ ?_ ?_ (Ae B)) ?_
       · have:=HD.out;omega
       · have:=HD.out;omega
       rintro e w4 ⟨v2,G2,rfl,ce,q6⟩
       rw[HX.out] at ce
       obtain ⟨ff,fi,rfl,an,ap⟩:=ce
       obtain ⟨xE,dE,rfl,c9,ez⟩:=an.v
       obtain ⟨xP,dP,rfl,cj,f2⟩:=ap.v
       have ds:=a4.out.h0
       have ct:=a4.out.h1
       have cs:=a4.out.Ag
       have be:=a4.out.A7
       obtain ⟨xo,L,T,Z⟩:=x
       simp only at ds ct cs be c9 cj an ap
       obtain ⟨z,ar⟩:=Aq T.length
       obtain ⟨d,au⟩:=Aq Z.length
       have D:Aside (T.length=z∧Z.length=d):=⟨ar,au⟩
       have bx:Aside (A1 G2 (.slice xE T.length dE) T∧Jm G2 (.slice xP Z.length dP) Z):=⟨an,ap⟩
       have ef:(f:Int)≤12:=by have:=HD.out;omega
       rw[ar] at cs c9 be
       rw[au] at cj be
       simp only[ar,au] at q6⊢
       haveI:=q6.i
       have f8:=Bb (L+1) (by omega)
       clear an ap ar au q5
       go_wp2_with fail
       with_reducible refine Calls.mono (NO.out k1 _ _ (Ae B)) ?_
       rintro e w5 ⟨v3,G3,rfl,cf,q7⟩
       have a9:AN G3 v3 (BA (Aw file) k1):=cf
       have ae:=WB (BA (Aw file) k1) v3 G3
       rw[bw.out] at ae
       simp only at ae
       obtain ⟨fg,fh,rfl,ca,cd⟩:=cf
       obtain ⟨bE,fE,rfl,dh,f0⟩:=ca.v
       obtain ⟨bK,fK,rfl,dj,f1⟩:=cd.v
       obtain ⟨nn,av⟩:=Aq ((Aw file k1).getD I9)
       obtain ⟨ge,b8⟩:=Aq nn.Ag.length
       obtain ⟨gk,b9⟩:=Aq nn.kids.length
       obtain ⟨gl,ba⟩:=Aq nn.leaf
       obtain ⟨go,cp⟩:=Aq ((Aw file k1).isSome)
       rw[av,b8,b9,ba] at a9 ae
       rw[av,b8,b9,ba,cp]
       have bv:Aside (∀(F:Ab)(w:World),Sat (G3*F) w→Calls Tryz.prog 127 #[.agg #[.bool gl,.slice bE ge fE,.slice bK gk fK]] w fun e O=>e= .returned (.tuple #[.int .i64 s1,.int .i64 s2,.int .i64 s3])∧Sat (G3*F) O):=fun F w h=>ae F w a9 d8.out h
       haveI:=q7.i
       clear a9 ae ca cd dh dj av b8 b9 ba cp q6
       go_wp2_with fail
       with_reducible refine Calls.mono (bv.out _ _ (Ae G3)) ?_
       rintro e w6 ⟨rfl,q8⟩
       haveI:=q8.i
       clear q7
       obtain ⟨bd,cl⟩:=Aq (decide (xo=false∨s1≠k2∨s2≠k3∨s3≠k4∨((j==0)=false∧L+1≠oh)))
       have t:=As cl
       clear cl
       have q9:Sat (Sl.block w4.heap.size Je [.bool xo,.int .i64 L,.slice xE z dE,.slice xP d dP]*(G2*(Sl.block u Je [.bool true,.int .i64 oh,.slice a1 ne c1,.slice a2 np c2]*(Sl.block N9 Cy [.bool lf,.slice aE le cE,.slice (some ⟨b,af,none⟩) lk cK]*(Sl.block N8 Je [.bool false,.int .i64 0,.slice none 0 0,.slice none 0 0]*(J*(B*F))))))) w6:=Ax (C:=G3*(Sl.block w5.heap.size Cy [.bool gl,.slice bE ge fE,.slice bK gk fK]*Sl.block wr.heap.size 141 [.int .i64 k1,.int .i64 k2,.int .i64 k3,.int .i64 k4])) (by ac_rfl)
       go_upto_region 12 with (fail)
       go_cut [115] (fun cz wx=>cz= .bool bd∧Sat (Sl.block w4.heap.size Je [.bool xo,.int .i64 L,.slice xE z dE,.slice xP d dP]*(G2*(Sl.block u Je [.bool true,.int .i64 oh,.slice a1 ne c1,.slice a2 np c2]*(Sl.block N9 Cy [.bool lf,.slice aE le cE,.slice (some ⟨b,af,none⟩) lk cK]*(Sl.block N8 Je [.bool false,.int .i64 0,.slice none 0 0,.slice none 0 0]*(J*(B*F))))))) wx)
       case first =>
        cases K:xo with
        | false =>
          subst K
          have I:bd=true:=by rw[←t.out];simp
          subst I
          go_wp2_with fail
          go_meet
          exact ⟨rfl,q9⟩
        | true =>
          subst K
          cases e2:(s1 !=k2) with
          | true =>
            have I:bd=true:=by
             have c2:s1≠k2:=by simpa using e2
             rw[←t.out]
             simp[*]
            subst I
            go_wp2_with fail
            go_meet
            exact ⟨rfl,q9⟩
          | false =>
            cases e3:(s2 !=k3) with
            | true =>
              have I:bd=true:=by
               have c3:s2≠k3:=by simpa using e3
               rw[←t.out]
               simp[*]
              subst I
              go_wp2_with fail
              go_meet
              exact ⟨rfl,q9⟩
            | false =>
              cases e4:(s3 !=k4) with
              | true =>
                have I:bd=true:=by
                 have c4:s3≠k4:=by simpa using e4
                 rw[←t.out]
                 simp[*]
                subst I
                go_wp2_with fail
                go_meet
                exact ⟨rfl,q9⟩
              | false =>
                by_cases c5:j=0
                · have dn:(j:Int)=0:=by omega
                  have aq:decide ((0:Int)<(j:Int))=false:=decide_eq_false (by omega)
                  have I:bd=false:=by
                   clear dn aq
                   have c2:s1=k2:=by simpa using e2
                   have c3:s2=k3:=by simpa using e3
                   have c4:s3=k4:=by simpa using e4
                   rw[←t.out]
                   simp[*]
                  subst I
                  go_wp2_with fail
                  go_meet
                  exact ⟨rfl,q9⟩
                have bb:(0:Int)<j:=by omega
                have aq:decide ((0:Int)<(j:Int))=true:=decide_eq_true bb
                cases e6:(L+1 !=oh) with
                | true =>
                  have I:bd=true:=by
                   clear bb aq
                   have c6:L+1≠oh:=by simpa using e6
                   rw[←t.out]
                   simp[*]
                  subst I
                  go_wp2_with fail
                  go_meet
                  exact ⟨rfl,q9⟩
                | false =>
                  have I:bd=false:=by
                   clear bb aq
                   have c2:s1=k2:=by simpa using e2
                   have c3:s2=k3:=by simpa using e3
                   have c4:s3=k4:=by simpa using e4
                   have c6:L+1=oh:=by simpa using e6
                   rw[←t.out]
                   simp[*]
                  subst I
                  go_wp2_with fail
                  go_meet
                  exact ⟨rfl,q9⟩
       obtain ⟨rfl,aw⟩:=hcut
       clear q8 q9 this bv
       haveI:=aw.i
       cases bd with
       | true =>
         have M:Aside (R=Fh):=(by
          rw[b5.out,Zz (of_decide_eq_true t.out)]:_=_)
         go_wp2
         go_returns
         rw[M.out]
         exact Eb (Ar B F)
       | false =>
         obtain ⟨NX,ci⟩:=Aq w4.heap.size
         rw[ci] at aw⊢
         clear ci this
         haveI:=aw.i
         have SE:Aside (∀(F:Ab)(w:World),Sat (J*F) w→Src Tryz.prog 4 w (.slice a1 ne c1) ne (AQ oe)):=fun F w h=>by
          have r:=Ai.src (P:=Tryz.prog) A.out.e (Is oe) h
          rw[A.out.ne] at r
          exact r
         have SP:Aside (∀(F:Ab)(w:World),Sat (J*F) w→Src Tryz.prog 1 w (.slice a2 np c2) np (SZ op)):=fun F w h=>by
          have r:=Ai.src (P:=Tryz.prog) A.out.p (XH op) h
          rw[A.out.np] at r
          exact r
         have SX:Aside (∀(F:Ab)(w:World),Sat (G2*F) w→Src Tryz.prog 4 w (.slice xE z dE) z (AQ T)):=fun F w h=>by
          have r:=Ai.src (P:=Tryz.prog) bx.out.1 (Is T) h
          rw[D.out.1] at r
          exact r
         have da:Aside (∀(F:Ab)(w:World),Sat (G2*F) w→Src Tryz.prog 1 w (.slice xP d dP) d (SZ Z)):=fun F w h=>by
          have r:=Ai.src (P:=Tryz.prog) bx.out.2 (XH Z) h
          rw[D.out.2] at r
          exact r
         go_upto_region 15 with (fail)
         have cv:Sat (Sl.block u Je [.bool true,.int .i64 (L+1),.slice a1 ne c1,.slice a2 np c2]*(Sl.block NX Je [.bool xo,.int .i64 L,.slice xE z dE,.slice xP d dP]*(G2*(Sl.block N9 Cy [.bool lf,.slice aE le cE,.slice (some ⟨b,af,none⟩) lk cK]*(Sl.block N8 Je [.bool false,.int .i64 0,.slice none 0 0,.slice none 0 0]*(J*(B*F))))))) (wc.setCell ⟨u,1,none⟩ (.int .i64 (L+1))):=Ap (by ac_rfl)
         generalize wc.setCell ⟨u,1,none⟩ (.int .i64 (L+1))=w7 at cv⊢
         clear aw this
         haveI:=cv.i
         refine Dr.Ft (fun O=>O.cell? ⟨u,2,none⟩=some (.slice a1 ne c1)∧O.cell? ⟨NX,2,none⟩=some (.slice xE z dE)) [7,8] (by kernel_rfl) ⟨Ac _ _ _,Ac _ _ _⟩ (fun y=>?_)
         refine Dr.Am 1 (v:=?v1) (by simp only[List.getElem?_toArray,List.getElem?_cons_succ,List.getElem?_cons_zero];rfl) (by kernel_rfl) ?hQ1 (.inl ⟨?hw1,fun O=>?hy1⟩) ?_
         case hy1=>go_simp;try (with_reducible rfl)
         case hQ1=>exact fun _ _ _ h=>h
         case hw1=>rfl
         simp only[Act.put,List.setIfInBounds_toArray,List.set_cons_zero,List.set_cons_succ]
         refine Dr.Dy 2 (v:=?v2) (by simp only[List.getElem?_toArray,List.getElem?_cons_succ,List.getElem?_cons_zero];rfl) (by kernel_rfl) ?hQ2 (.inl ⟨?hw2,fun O hw=>?hy2⟩) y ?_
         case hy2=>(try dsimp only at hw);go_simp;try (with_reducible rfl)
         case hQ2=>exact fun _ _ _ h=>h
         case hw2=>rfl
         simp only[Act.put,List.setIfInBounds_toArray,List.set_cons_zero,List.set_cons_succ]
         refine Dr.Am 4 (v:=?v4) (by simp only[List.getElem?_toArray,List.getElem?_cons_succ,List.getElem?_cons_zero];rfl) (by kernel_rfl) ?hQ4 (.inl ⟨?hw4,fun O=>?hy4⟩) ?_
         case hy4=>go_simp;try (with_reducible rfl)
         case hQ4=>exact fun _ _ _ h=>h
         case hw4=>rfl
         simp only[Act.put,List.setIfInBounds_toArray,List.set_cons_zero,List.set_cons_succ]
         refine Dr.Dy 5 (v:=?v5) (by simp only[List.getElem?_toArray,List.getElem?_cons_succ,List.getElem?_cons_zero];rfl) (by kernel_rfl) ?hQ5 (.inl ⟨?hw5,fun O hw=>?hy5⟩) y ?_
         case hy5=>(try dsimp only at hw);go_simp;try (with_reducible rfl)
         case hQ5=>exact fun _ _ _ h=>h
         case hw5=>rfl
         simp only[Act.put,List.setIfInBounds_toArray,List.set_cons_zero,List.set_cons_succ]
         refine Dr.CC 0 (by simp only[List.getElem?_toArray,List.getElem?_cons_succ,List.getElem?_cons_zero];rfl) (by kernel_rfl) ?_
         go_wp2_with (fail)
         refine Dr.C9 ⟨⟨Ac _ _ _,Ac _ _ _⟩,?_⟩
         refine Dr.CC 3 (by simp only[List.getElem?_toArray,List.getElem?_cons_succ,List.getElem?_cons_zero];rfl) (by kernel_rfl) ?_
         go_wp2_with (at_builtin;refine Af E rfl (.tmp 121) (.tmp 123) rfl rfl rfl Yg (SE.out _ _ (Ae J)) (by unfold maxLen;omega) (by omega) ?_;intro a5 c5 w8 bg z9;clear z9;rw[Nat.zero_add,List.nil_append] at bg;rw[Nat.zero_add];haveI:=bg.i)
         refine Dr.C9 ⟨⟨Ac _ _ _,Ac _ _ _⟩,?_⟩
         refine Dr.CC 6 (by simp only[List.getElem?_toArray,List.getElem?_cons_succ,List.getElem?_cons_zero];rfl) (by kernel_rfl) ?_
         go_wp2_with (at_builtin;refine Af E rfl (.tmp 124) (.tmp 126) rfl rfl rfl (Ae (rw AK 4 (.slice a5 ne c5) (AQ oe))) (SX.out _ _ (Ae G2)) (by unfold maxLen;omega) (by omega) ?_;intro a6 c6 w9 cw z9;clear z9;haveI:=cw.i)
         refine Dr.C9 ⟨⟨Ac _ _ _,Ac _ _ _⟩,?_⟩
         refine Dr.Gu [7,8] (os:= [_,_]) (by decide) (by simp only[List.map_cons,List.map_nil,List.getElem?_toArray,List.getElem?_cons_succ,List.getElem?_cons_zero];rfl) (by kernel_rfl) ?_
         go_upto_region 16 with (fail)
         have bh:Sat (Sl.block u Je [.bool true,.int .i64 (L+1),.slice a6 (ne+z) c6,.slice a2 np c2]*(Sl.block NX Je [.bool xo,.int .i64 L,.slice xE z dE,.slice xP d dP]*(G2*(Sl.block N9 Cy [.bool lf,.slice aE le cE,.slice (some ⟨b,af,none⟩) lk cK]*(Sl.block N8 Je [.bool false,.int .i64 0,.slice none 0 0,.slice none 0 0]*(rw AK 4 (.slice a6 (ne+z) c6) (AQ oe++AQ T)*(J*(B*F)))))))) (w9.setCell ⟨u,2,none⟩ (.slice a6 (ne+z) c6)):=Ap (by ac_rfl)
         generalize w9.setCell ⟨u,2,none⟩ (.slice a6 (ne+z) c6)=w10 at bh⊢
         clear bg cw this
         haveI:=bh.i
         refine Dr.Ft (fun O=>O.cell? ⟨u,3,none⟩=some (.slice a2 np c2)∧O.cell? ⟨NX,3,none⟩=some (.slice xP d dP)) [7,8] (by kernel_rfl) ⟨Ac _ _ _,Ac _ _ _⟩ (fun y=>?_)
         refine Dr.Am 1 (v:=?v1b) (by simp only[List.getElem?_toArray,List.getElem?_cons_succ,List.getElem?_cons_zero];rfl) (by kernel_rfl) ?hQ1b (.inl ⟨?hw1b,fun O=>?hy1b⟩) ?_
         case hy1b=>go_simp;try (with_reducible rfl)
         case hQ1b=>exact fun _ _ _ h=>h
         case hw1b=>rfl
         simp only[Act.put,List.setIfInBounds_toArray,List.set_cons_zero,List.set_cons_succ]
         refine Dr.Dy 2 (v:=?v2b) (by simp only[List.getElem?_toArray,List.getElem?_cons_succ,List.getElem?_cons_zero];rfl) (by kernel_rfl) ?hQ2b (.inl ⟨?hw2b,fun O hw=>?hy2b⟩) y ?_
         case hy2b=>(try dsimp only at hw);go_simp;try (with_reducible rfl)
         case hQ2b=>exact fun _ _ _ h=>h
         case hw2b=>rfl
         simp only[Act.put,List.setIfInBounds_toArray,List.set_cons_zero,List.set_cons_succ]
         refine Dr.Am 4 (v:=?v4b) (by simp only[List.getElem?_toArray,List.getElem?_cons_succ,List.getElem?_cons_zero];rfl) (by kernel_rfl) ?hQ4b (.inl ⟨?hw4b,fun O=>?hy4b⟩) ?_
         case hy4b=>go_simp;try (with_reducible rfl)
         case hQ4b=>exact fun _ _ _ h=>h
         case hw4b=>rfl
         simp only[Act.put,List.setIfInBounds_toArray,List.set_cons_zero,List.set_cons_succ]
         refine Dr.Dy 5 (v:=?v5b) (by simp only[List.getElem?_toArray,List.getElem?_cons_succ,List.getElem?_cons_zero];rfl) (by kernel_rfl) ?hQ5b (.inl ⟨?hw5b,fun O hw=>?hy5b⟩) y ?_
         case hy5b=>(try dsimp only at hw);go_simp;try (with_reducible rfl)
         case hQ5b=>exact fun _ _ _ h=>h
         case hw5b=>rfl
         simp only[Act.put,List.setIfInBounds_toArray,List.set_cons_zero,List.set_cons_succ]
         refine Dr.CC 0 (by simp only[List.getElem?_toArray,List.getElem?_cons_succ,List.getElem?_cons_zero];rfl) (by kernel_rfl) ?_
         go_wp2_with (fail)
         refine Dr.C9 ⟨⟨Ac _ _ _,Ac _ _ _⟩,?_⟩
         refine Dr.CC 3 (by simp only[List.getElem?_toArray,List.getElem?_cons_succ,List.getElem?_cons_zero];rfl) (by kernel_rfl) ?_
         go_wp2_with (at_builtin;refine Af E1 rfl (.tmp 129) (.tmp 131) rfl rfl rfl Yg (SP.out _ _ (Ae J)) (by unfold maxLen;omega) (by omega) ?_;intro a7 c7 fj cx z9;clear z9;rw[Nat.zero_add,List.nil_append] at cx;rw[Nat.zero_add];haveI:=cx.i)
         refine Dr.C9 ⟨⟨Ac _ _ _,Ac _ _ _⟩,?_⟩
         refine Dr.CC 6 (by simp only[List.getElem?_toArray,List.getElem?_cons_succ,List.getElem?_cons_zero];rfl) (by kernel_rfl) ?_
         go_wp2_with (at_builtin;refine Af E1 rfl (.tmp 132) (.tmp 134) rfl rfl rfl (Ae (rw CN 1 (.slice a7 np c7) (SZ op))) (da.out _ _ (Ae G2)) (by unfold maxLen;omega) (by omega) ?_;intro a8 c8 fk cy z9;clear z9;haveI:=cy.i)
         refine Dr.C9 ⟨⟨Ac _ _ _,Ac _ _ _⟩,?_⟩
         refine Dr.Gu [7,8] (os:= [_,_]) (by decide) (by simp only[List.map_cons,List.map_nil,List.getElem?_toArray,List.getElem?_cons_succ,List.getElem?_cons_zero];rfl) (by kernel_rfl) ?_
         go_upto_region 17 with (fail)
         by_cases b1:1024<ne+z
         · have dl:(1024:Int)<((ne+z:Nat):Int):=by omega
           have M:Aside (R=Fh):=(by rw[b5.out];unfold GV;rw[if_neg (of_decide_eq_false t.out),if_pos (by rw[List.length_append,D.out.1,A.out.ne];exact b1)]:_=_)
           go_wp2
           go_returns
           rw[M.out]
           exact Eb (Ar B F)
         have dl: ¬(1024:Int)<((ne+z:Nat):Int):=by omega
         have M:Aside (B6 (Aw file) (fun p=>AP (Aw file) f p false) (n.kids.drop (j+1)) (j+1==0) ⟨true,L+1,oe++T,op++Z⟩=R):=(by rw[b5.out];unfold GV;rw[if_neg (of_decide_eq_false t.out),if_neg (by rw[List.length_append,D.out.1,A.out.ne];exact b1)]:_=_)
         have K:xo=true:=by
          cases xo with
          |true=>rfl
          |false=>exact absurd (.inl rfl) (of_decide_eq_false t.out)
         have bt:Aside (d+1≤z):=(by have r:=a4.out.low rfl K;simp only[D.out.1,D.out.2] at r;exact r:_≤_)
         have cb:A1 (rw AK 4 (.slice a6 (ne+z) c6) (AQ oe++AQ T)) (.slice a6 (ne+z) c6) (oe++T):=by
          rw[←XB]
          exact DH (by rw[XB];exact bh.take (rw AK 4 (.slice a6 (ne+z) c6) (AQ oe++AQ T))) (by rw[List.length_append,D.out.1,A.out.ne])
         have ck:Jm (rw CN 1 (.slice a8 (np+d) c8) (SZ op++SZ Z)) (.slice a8 (np+d) c8) (op++Z):=by
          rw[←XG]
          exact Rp (by rw[XG];exact cy.take (rw CN 1 (.slice a8 (np+d) c8) (SZ op++SZ Z))) (by rw[List.length_append,D.out.2,A.out.np])
         have d5:Aside (lW (Aw file) f n.kids R (rw AK 4 (.slice a6 (ne+z) c6) (AQ oe++AQ T)*(rw CN 1 (.slice a8 (np+d) c8) (SZ op++SZ Z)*J)) (lk-(j+1)) lk (j+1) (ne+z) (np+d) (L+1) (oe++T) (op++Z) a6 c6 a8 c8 (.slice (some ⟨b,af,none⟩) lk cK)):=
          ⟨rfl,M.out,Ai.left cb,Ai.right (Ai.left ck),Ai.right (Ai.right A.out.k),by rw[List.length_append,D.out.1,A.out.ne],by rw[List.length_append,D.out.2,A.out.np]⟩
         clear cb ck K
         go_wp2_with fail
         go_roundg (lk-(j+1))
         case measure=>have:=A.out.iZ;omega
         exact ⟨j+1,ne+z,np+d,L+1,oe++T,op++Z,a6,c6,a8,c8,_,by go_num,by omega,by omega,by omega,by omega,by have:=bt.out;omega,by have:=bt.out;omega,d5,Ax (C:=G2*Sl.block NX Je [.bool xo,.int .i64 L,.slice xE z dE,.slice xP d dP]) (by ac_rfl)⟩
     have cr: ¬(j:Int)<lk:=by omega
     obtain rfl:j=lk:=by omega
     have M:Aside (R=⟨true,oh,oe,op⟩):=(by
      have r:=A.out.rest
      rw[←V.out,List.drop_length] at r
      exact r.symm:_=_)
     have bq:Aside (A1 J (.slice a1 oe.length c1) oe∧Jm J (.slice a2 op.length c2) op):=⟨by have:=A.out.e;rw[←A.out.ne] at this;exact this,by have:=A.out.p;rw[←A.out.np] at this;exact this⟩
     have bu:Aside (oe.length=ne∧op.length=np):=⟨A.out.ne,A.out.np⟩
     clear A
     go_wp2
     go_returns
     rw[M.out]
     refine ⟨_,J,rfl,⟨_,_,rfl,by have:=bq.out.1;rw[bu.out.1] at this;exact this,by have:=bq.out.2;rw[bu.out.2] at this;exact this⟩,AD J B F⟩
theorem Uk{l:List Av}{i:Nat}{y:Av}(hy:l[i]?=some y)(h:1048576<Aa (l.take i)+y.len):Bk l=false:=by
 rw[EG]
 by_cases a:l.all Ah=true
 ·have h1:Aa l=Aa (l.take (i+1))+Aa (l.drop (i+1)):=by rw[←Ao,List.take_append_drop]
  have b:0≤Aa (l.drop (i+1)):=by
   have:=(Dc (l:=l.drop (i+1)) (fun x hx=>by
    have:=Ca (List.all_eq_true.1 a x (List.mem_of_mem_drop hx))
    omega) (l.drop (i+1)).length).1
   rwa [List.take_of_length_le (Nat.le_refl _)] at this
  have c:=BZ hy
  rw[decide_eq_false (by omega),Bool.and_false]
 rw[Bool.not_eq_true] at a
 rw[a]
 rfl
theorem i7(y:Av):AQ [y]=Dq y:=by simp[AQ]
theorem WI{y:Av}{a:Option Addr}{c:Nat}{F:Ab}{w:World}(h:Sat (rw AK 4 (.slice a 1 c) (Dq y)*F) w):A1 (rw AK 4 (.slice a 1 c) (Dq y)) (.slice a 1 c) [y]:=by
 rw[←i7] at h⊢
 exact DH h rfl
theorem P9(l:List Av)(v:Value)(B F:Ab)(w:World)(J:A1 B v l)(hs:Sat (B*F) w)(hl:l.length≤65536):
 Calls Tryz.prog 105 #[v] w fun e R=>e= .returned (.bool (Bk l))∧Sat (B*F) R:=by
 obtain ⟨i0,E⟩:=EW
 obtain ⟨a0,c0,rfl,a3,a4⟩:=J.v
 have HE:=As J
 obtain ⟨n,M⟩:=Aq l.length
 rw[M] at hl⊢
 have T:=As M
 obtain ⟨t,k⟩:=Aq (Bk l)
 rw[k]
 have I:=As k
 haveI:=hs.i
 clear J M k
 go_enter Tryz.func105,Tryz.ntmps105
 go_wp2
 go_loopg [3,4] n (fun g t3 t4 wr=> ∃(i:Nat),t4= .int .i64 i∧t3= .int .i64 (Aa (l.take i))∧i≤n∧Aside (g=n-i)∧Aside ((∀x∈l.take i,Ah x=true)∧0≤Aa (l.take i)∧Aa (l.take i)≤1048576)∧Sat (B*F) wr)
 case atStart=>exact ⟨0,rfl,by simp[Aa],by omega,rfl,⟨by simp,by simp[Aa],by simp[Aa]⟩,hs⟩
 obtain ⟨i,rfl,rfl,hi,A,G,O⟩:=hrel
 haveI:=O.i
 clear hs
 by_cases L:i<n
 · have p:(i:Int)<n:=by omega
   obtain ⟨y,hy⟩: ∃y,l[i]?=some y:=⟨_,List.getElem?_eq_getElem (by rw[T.out];exact L)⟩
   obtain ⟨b,q,rfl,r1,r2,r3,r4⟩:=BH HE.out hy
   have m:Aside (Aa (l.take (i+1))=Aa (l.take i)+y.len∧l.take (i+1)=l.take i++ [y]):=⟨BZ hy,AB hy⟩
   have d:Aside (∀(a:Option Addr)(c:Nat)(F:Ab)(w:World),Sat (rw AK 4 (.slice a 1 c) (Dq y)*F) w→Calls Tryz.prog 64 #[.agg #[.bool true,.slice a 1 c,.slice none 0 0]] w fun e R=>e= .returned (.bool (Ah y))∧Sat (rw AK 4 (.slice a 1 c) (Dq y)*F) R):=fun a c F w h=>
    bQ y a c _ F w (WI h) h
   have H:Aside (Ah y=false→t=false):=fun h=>I.out.symm.trans (LA hy h)
   have f:Aside (1048576<Aa (l.take i)+y.len→t=false):=fun h=>I.out.symm.trans (Uk hy h)
   have K:=G.out.2
   obtain ⟨z,V⟩:=Aq (Aa (l.take i))
   rw[V] at K m f⊢
   obtain ⟨me,r⟩:=Aq (Ah y)
   have j:=As r
   rw[r] at d
   obtain ⟨X,Y,D,Z⟩:=y
   unfold Dq at d
   simp only at r1 r2 r3 r4 m f d
   clear hy V
   go_wp2_with (at_builtin;refine Af E rfl (.tmp 12) (.tmp 17) rfl rfl rfl (Sat.AG (e:=AK) (s:=4) ES) (Src.new (b:=wr.heap.size) (e:=AK) (s:=4) (vs:= [.int .i64 X,.int .i64 Y,.int .i64 D,.int .i64 Z]) (Ae _) rfl (by intro u U;simp at U;rcases U with rfl|rfl|rfl|rfl<;>rfl)) (by unfold maxLen;omega) (by omega) ?_;intro a9 c9 w9 W z9;clear z9)
   rw[Nat.zero_add,List.nil_append] at W
   haveI:=W.i
   go_wp2_with fail
   refine (d.out _ _ _ _ (Ae (rw AK 4 (.slice a9 1 c9) [.int .i64 X,.int .i64 Y,.int .i64 D,.int .i64 Z]))).mono ?_
   rintro e ac ⟨rfl,Q⟩
   haveI:=Q.i
   cases me with
   | false =>
     have o:Aside (t=false):=H.out j.out
     go_wp2
     go_ret
     exact ⟨by rw[o.out];rfl,Ar B F⟩
   | true =>
     have P:=Ca j.out
     simp only at P
     have hw:=Bb (z+D) (by omega)
     by_cases hb:1048576<z+D
     ·have o:Aside (t=false):=f.out hb
      go_wp2
      go_ret
      exact ⟨by rw[o.out];rfl,Ar B F⟩
     go_wp2
     go_roundg (n-(i+1))
     case measure=>have:=A.out;omega
     refine ⟨i+1,by go_num,by rw[m.out.1],by omega,rfl,⟨?_,by rw[m.out.1];omega,by rw[m.out.1];omega⟩,Ar _ _⟩
     rw[m.out.2]
     intro x hx
     rcases List.mem_append.1 hx with hx|hx
     ·exact G.out.1 x hx
     simp at hx;subst hx;exact j.out
 have p: ¬(i:Int)<n:=by omega
 obtain rfl:i=n:=by omega
 have o:Aside (t=true):=(by
  rw[←I.out]
  have h:=G.out
  rw[List.take_of_length_le (by rw[T.out];exact Nat.le_refl _)] at h
  rw[EG]
  rw[List.all_eq_true.2 h.1,decide_eq_true h.2.2]
  rfl:_=_)
 go_wp2
 go_ret
 exact ⟨by rw[o.out];rfl,Ar B F⟩
theorem Ms(p:List Av)(a:Av)(n:Nat)(b:p.length=n)(l m:Int):((AQ (p++ [a])).set (n*4+3) (.int .i64 m)).set (n*4+2) (.int .i64 l)=AQ (p++ [⟨a.src,a.pos,l,m⟩]):=by
 rw[←Ls p a n b l m,List.set_comm _ _ (by omega)]
theorem MM(l:List Av)(v:Value)(B F:Ab)(w:World)(hE:A1 B v l)(hs:Sat (B*F) w)(hl:l.length≤1048576)(hm: ∀x∈l,Ah x=true)(hb:Aa l≤1099511627776):
 Calls Tryz.prog 72 #[v] w fun e w'=> ∃a c,e= .returned (.slice a (join l).length c)∧Sat (rw AK 4 (.slice a (join l).length c) (AQ (join l))*(B*F)) w':=by
 obtain ⟨i0,E⟩:=EW
 obtain ⟨a0,c0,rfl,ao,b6⟩:=hE.v
 have HL:=As hE
 have HM:=As hm
 have am:=As hb
 obtain ⟨R,hR⟩:=Aq (join l)
 rw[hR]
 have HR:=As hR
 obtain ⟨L,X⟩:=Aq l.length
 have V:=As X
 rw[X] at hl ao⊢
 have q0:=hs.AG (e:=AK) (s:=4)
 haveI:=hs.i
 clear hE hm hb X hR
 go_enter Tryz.func72,Tryz.ntmps72
 go_wp2
 go_loopg [3,4] L (fun g t3 t4 wr=> ∃(j:Nat)(H:List Av)(a2:Option Addr)(c2:Nat),t4= .int .i64 j∧t3= .slice a2 H.length c2∧j≤L∧H.length≤1048576∧Aside (g=L-j∧H=(l.take j).foldl A8 [])∧Aside (H.length≤j∧(∀y∈H,Ll y)∧Aa H=Aa (l.take j))∧
  Sat (rw AK 4 (.slice a2 H.length c2) (AQ H)*(B*F)) wr)
 case atStart=>exact ⟨0,[],none,0,rfl,rfl,by omega,by simp,⟨rfl,rfl⟩,⟨by simp,by simp,by simp[Aa]⟩,q0⟩
 obtain ⟨j,H,a2,c2,rfl,rfl,hj,ad,J,J2,t⟩:=hrel
 clear q0 hs this
 haveI:=t.i
 by_cases b9:j<L
 · have ac:(j:Int)<L:=by omega
   obtain ⟨y,hy⟩: ∃y,l[j]?=some y:=⟨_,List.getElem?_eq_getElem (by have:=V.out;omega)⟩
   obtain ⟨b,q,rfl,r1,r2,r3,r4⟩:=BH HL.out hy
   have W:Aside ((l.take (j+1)).foldl A8 []=A8 H y∧Aa (l.take (j+1))=Aa (l.take j)+y.len):=⟨by rw[AB hy,List.foldl_append,←J.out.2];rfl,BZ hy⟩
   obtain ⟨Z,ar⟩:=Ll.of (HM.out y (List.mem_of_getElem? hy))
   have M:Aside ((A8 H y).length≤j+1∧(∀z∈A8 H y,Ll z)∧Aa (A8 H y)=Aa (l.take (j+1))∧(A8 H y).length≤1048576):=by
    have h1:=KG H y
    have h2:=J2.out.1
    have h5:=V.out
    refine ⟨by omega,Uv J2.out.2.1 Z,?_,by omega⟩
    rw[Fx,W.out.2,J2.out.2.2]
   have ae:Ll y:=Z
   obtain ⟨O,D,k,r⟩:=y
   unfold Ll at ae
   simp only at ae ar r1 r2 r3 r4
   clear Z hy
   have ab:Aa H≤1099511627776:=by
    have h1:=J2.out.2.2
    have h3:=am.out
    have h4:Aa l=Aa (l.take j)+Aa (l.drop j):=by rw[←Ao,List.take_append_drop]
    have h5:=(GJ (o:=l.drop j) (fun y hy=>(Ll.of (HM.out y (List.mem_of_mem_drop hy))).1)).1
    omega
   have Y:=GJ J2.out.2.1
   rcases List.eq_nil_or_concat H with rfl|⟨p,a,Q⟩
   · clear ab Y
     simp only[List.length_nil] at t⊢
     haveI:=t.i
     go_wp2_with fail
     go_quiet (fail)
     go_wp2_with (at_builtin;refine Af E rfl (.tmp 93) (.tmp 95) rfl rfl rfl (Ae (rw AK 4 (.slice a2 0 c2) (AQ []))) (Src.new (b:=wr.heap.size+1) (e:=AK) (s:=4) (vs:= [.int .i64 O,.int .i64 D,.int .i64 k,.int .i64 r]) (Ae _) rfl (by intro u U;simp at U;rcases U with rfl|rfl|rfl|rfl<;>rfl)) (by unfold maxLen;omega) (by omega) ?_;intro P c9 w9 q9 z9;clear z9;haveI:=q9.i)
     go_roundg (L-(j+1))
     case measure=>have:=J.out.1;omega
     refine ⟨j+1,[⟨O,D,k,r⟩],P,c9,by go_num,rfl,by omega,by simp,⟨rfl,?_⟩,?_,?_⟩
     ·rw[W.out.1];rfl
     ·have:=M.out;exact ⟨this.1,this.2.1,this.2.2.1⟩
     show Sat (rw AK 4 (.slice P (0+1) c9) (AQ []++ [.int .i64 O,.int .i64 D,.int .i64 k,.int .i64 r])*(B*F)) _
     exact AD _ _ _
   rw[List.concat_eq_append] at Q
   subst Q
   obtain ⟨np,I⟩:=Aq p.length
   have K:=As I
   have T:(p++ [a]).length=np+1:=by rw[List.length_append,I];rfl
   have aa:=Y.2 a (by simp)
   have a8:=J2.out.2.1 a (by simp)
   rw[T] at ad t⊢
   obtain ⟨g,rfl⟩:=Dv t (by omega)
   have t0:=Jt p a np I 0 _ rfl
   have t1:=Jt p a np I 1 _ rfl
   have t2:=Jt p a np I 2 _ rfl
   have t3:=Jt p a np I 3 _ rfl
   obtain ⟨d,m,f,n⟩:=a
   unfold Ll at a8
   simp only at a8 aa t0 t1 t2 t3
   have b7:f≤1099511627776:=by omega
   obtain ⟨xs,a1⟩:=Aq (AQ (p++ [⟨d,m,f,n⟩]))
   have HX:=As a1
   rw[a1] at t0 t1 t2 t3 t
   clear a1
   haveI:At xs (np*4) (.int .i64 d):=⟨t0⟩
   haveI:At xs (np*4+1) (.int .i64 m):=⟨t1⟩
   haveI:At xs (np*4+2) (.int .i64 f):=⟨t2⟩
   haveI:At xs (np*4+3) (.int .i64 n):=⟨t3⟩
   haveI: ∀u,At (xs.set (np*4+3) u) (np*4+2) (.int .i64 f):=fun u=>⟨by rw[List.getElem?_set_ne (by omega)];exact t2⟩
   haveI:=t.i
   have b8:(np:Int)<(np:Int)+1:=by omega
   have aw:(0:Int)≤(np:Int):=by omega
   have hd:decide ((0:Int)≤(np:Int))=true:=decide_eq_true (by omega)
   have ba:(np:Int)≤1048576:=by omega
   have hw0:IntKind.i64.wrap ((np:Int)+1-1)=(np:Int):=by rw[IntWalk.i64_in _ (by omega)];omega
   have hw1:=Bb (m+f) (by omega)
   have hw2:=Bb (f+k) (by omega)
   have hw3:=Bb (n+r) (by omega)
   clear ab Y aa I T t0 t1 t2 t3
   by_cases h1:d=O
   · subst h1
     have b1:(d==d)=true:=by simp
     by_cases h2:m+f=D
     ·have hm:meets ⟨d,m,f,n⟩ ⟨d,D,k,r⟩=true:=by unfold meets;simp[h2]
      have b2:(m+f==D)=true:=by simp[h2]
      by_cases h4:n<0
      ·have G:Aside (A8 (p++ [⟨d,m,f,n⟩]) ⟨d,D,k,r⟩=p++ [⟨d,m,f+k,-1⟩]):=by rw[FT hm];unfold glue;simp[h4];exact (trivial:True)
       have d1:decide (0≤n)=false:=decide_eq_false (by omega)
       clear hm
       go_wp2_with fail
       go_quiet (fail)
       go_wp2_with fail
       go_region
       go_wp2_with fail
       go_roundg (L-(j+1))
       case measure=>have:=J.out.1;omega
       refine ⟨j+1,p++ [⟨d,m,f+k,-1⟩],some ⟨g,0,none⟩,c2,by go_num,?_,by omega,?_,⟨rfl,?_⟩,?_,?_⟩
       ·rw[List.length_append,K.out];rfl
       ·have:=M.out.2.2.2;rw[G.out] at this;exact this
       ·rw[W.out.1,G.out]
       ·have:=M.out;rw[G.out] at this;exact ⟨this.1,this.2.1,this.2.2.1⟩
       rw[show AQ (p++ [⟨d,m,f+k,-1⟩])=_ from (Ms p (Av.mk d m f n) np K.out (f+k) (-1)).symm,HX.out,List.length_append,K.out]
       show Sat (rw AK 4 (.slice (some ⟨g,0,none⟩) (np+1) c2) ((xs.set (np*4+3) (Value.int .i64 (-1))).set (np*4+2) (Value.int .i64 (f+k)))*(B*F)) _
       first|exact AD _ _ _|exact Sat.drewN 1 (AD _ _ _)
      have d1:decide (0≤n)=true:=decide_eq_true (by omega)
      by_cases h5:r<0
      ·have G:Aside (A8 (p++ [⟨d,m,f,n⟩]) ⟨d,D,k,r⟩=p++ [⟨d,m,f+k,-1⟩]):=by rw[FT hm];unfold glue;simp[h4,h5];exact (trivial:True)
       have d2:decide (0≤r)=false:=decide_eq_false (by omega)
       clear hm
       go_wp2_with fail
       go_quiet (fail)
       go_wp2_with fail
       go_region
       go_wp2_with fail
       go_roundg (L-(j+1))
       case measure=>have:=J.out.1;omega
       refine ⟨j+1,p++ [⟨d,m,f+k,-1⟩],some ⟨g,0,none⟩,c2,by go_num,?_,by omega,?_,⟨rfl,?_⟩,?_,?_⟩
       ·rw[List.length_append,K.out];rfl
       ·have:=M.out.2.2.2;rw[G.out] at this;exact this
       ·rw[W.out.1,G.out]
       ·have:=M.out;rw[G.out] at this;exact ⟨this.1,this.2.1,this.2.2.1⟩
       rw[show AQ (p++ [⟨d,m,f+k,-1⟩])=_ from (Ms p (Av.mk d m f n) np K.out (f+k) (-1)).symm,HX.out,List.length_append,K.out]
       show Sat (rw AK 4 (.slice (some ⟨g,0,none⟩) (np+1) c2) ((xs.set (np*4+3) (Value.int .i64 (-1))).set (np*4+2) (Value.int .i64 (f+k)))*(B*F)) _
       first|exact AD _ _ _|exact Sat.drewN 1 (AD _ _ _)
      have G:Aside (A8 (p++ [⟨d,m,f,n⟩]) ⟨d,D,k,r⟩=p++ [⟨d,m,f+k,n+r⟩]):=by rw[FT hm];unfold glue;simp[h4,h5];exact (trivial:True)
      have d2:decide (0≤r)=true:=decide_eq_true (by omega)
      clear hm
      go_wp2_with fail
      go_quiet (fail)
      go_wp2_with fail
      go_region
      go_wp2_with fail
      go_region
      go_wp2_with fail
      go_roundg (L-(j+1))
      case measure=>have:=J.out.1;omega
      refine ⟨j+1,p++ [⟨d,m,f+k,n+r⟩],some ⟨g,0,none⟩,c2,by go_num,?_,by omega,?_,⟨rfl,?_⟩,?_,?_⟩
      ·rw[List.length_append,K.out];rfl
      ·have:=M.out.2.2.2;rw[G.out] at this;exact this
      ·rw[W.out.1,G.out]
      ·have:=M.out;rw[G.out] at this;exact ⟨this.1,this.2.1,this.2.2.1⟩
      rw[show AQ (p++ [⟨d,m,f+k,n+r⟩])=_ from (Ms p (Av.mk d m f n) np K.out (f+k) (n+r)).symm,HX.out,List.length_append,K.out]
      show Sat (rw AK 4 (.slice (some ⟨g,0,none⟩) (np+1) c2) ((xs.set (np*4+3) (Value.int .i64 (n+r))).set (np*4+2) (Value.int .i64 (f+k)))*(B*F)) _
      first|exact AD _ _ _|exact Sat.drewN 1 (AD _ _ _)
     have G:Aside (A8 (p++ [⟨d,m,f,n⟩]) ⟨d,D,k,r⟩=(p++ [⟨d,m,f,n⟩])++ [⟨d,D,k,r⟩]):=GB (by unfold meets;simp[h2])
     have b2:(m+f==D)=false:=by simp[h2]
     go_wp2_with fail
     go_quiet (fail)
     go_wp2_with (at_builtin;refine Af E rfl (.tmp 93) (.tmp 95) rfl rfl rfl (Ae (rw AK 4 (.slice (some ⟨g,0,none⟩) (np+1) c2) xs)) (Src.new (b:=wr.heap.size+1) (e:=AK) (s:=4) (vs:= [.int .i64 d,.int .i64 D,.int .i64 k,.int .i64 r]) (Ae _) rfl (by intro u U;simp at U;rcases U with rfl|rfl|rfl|rfl<;>rfl)) (by unfold maxLen;omega) (by omega) ?_;intro P c9 w9 q9 z9;clear z9;haveI:=q9.i)
     go_roundg (L-(j+1))
     case measure=>have:=J.out.1;omega
     refine ⟨j+1,(p++ [⟨d,m,f,n⟩])++ [⟨d,D,k,r⟩],P,c9,by go_num,?_,by omega,?_,⟨rfl,?_⟩,?_,?_⟩
     ·rw[List.length_append,List.length_append,K.out];rfl
     ·have:=M.out.2.2.2;rw[G.out] at this;exact this
     ·rw[W.out.1,G.out]
     ·have:=M.out;rw[G.out] at this;exact ⟨this.1,this.2.1,this.2.2.1⟩
     rw[Dn (p++ [Av.mk d m f n]),HX.out,List.length_append,List.length_append,K.out]
     show Sat (rw AK 4 (.slice P (np+1+1) c9) (xs++ [.int .i64 d,.int .i64 D,.int .i64 k,.int .i64 r])*(B*F)) _
     exact AD _ _ _
   have G:Aside (A8 (p++ [⟨d,m,f,n⟩]) ⟨O,D,k,r⟩=(p++ [⟨d,m,f,n⟩])++ [⟨O,D,k,r⟩]):=GB (by unfold meets;simp[h1])
   have b1:(d==O)=false:=by simp[h1]
   go_wp2_with fail
   go_quiet (fail)
   go_wp2_with (at_builtin;refine Af E rfl (.tmp 93) (.tmp 95) rfl rfl rfl (Ae (rw AK 4 (.slice (some ⟨g,0,none⟩) (np+1) c2) xs)) (Src.new (b:=wr.heap.size+1) (e:=AK) (s:=4) (vs:= [.int .i64 O,.int .i64 D,.int .i64 k,.int .i64 r]) (Ae _) rfl (by intro u U;simp at U;rcases U with rfl|rfl|rfl|rfl<;>rfl)) (by unfold maxLen;omega) (by omega) ?_;intro P c9 w9 q9 z9;clear z9;haveI:=q9.i)
   go_roundg (L-(j+1))
   case measure=>have:=J.out.1;omega
   refine ⟨j+1,(p++ [⟨d,m,f,n⟩])++ [⟨O,D,k,r⟩],P,c9,by go_num,?_,by omega,?_,⟨rfl,?_⟩,?_,?_⟩
   · rw[List.length_append,List.length_append,K.out];rfl
   · have:=M.out.2.2.2;rw[G.out] at this;exact this
   · rw[W.out.1,G.out]
   · have:=M.out;rw[G.out] at this;exact ⟨this.1,this.2.1,this.2.2.1⟩
   rw[Dn (p++ [Av.mk d m f n]),HX.out,List.length_append,List.length_append,K.out]
   show Sat (rw AK 4 (.slice P (np+1+1) c9) (xs++ [.int .i64 O,.int .i64 D,.int .i64 k,.int .i64 r])*(B*F)) _
   exact AD _ _ _
 have ac: ¬(j:Int)<L:=by omega
 have hJ:=J.out.2
 rw[List.take_of_length_le (by rw[V.out];omega)] at hJ
 have HF:Aside (H=R):=(by rw[hJ,←HR.out];rfl:_=_)
 clear hJ
 go_wp2
 go_ret
 exact ⟨a2,c2,by rw[HF.out];rfl,by rw[←HF.out];exact AD _ _ _⟩
theorem kM{l:List Av}(hm: ∀x∈l,Ah x=true):Aa l≤l.length*1048576:=by
 induction l with
 |nil=>simp[Aa]
 | cons x l a =>
  have h1:=Cb.1 (hm x (List.mem_cons_self ..))
  have b:=a fun y hy=>hm y (List.mem_cons_of_mem _ hy)
  rw[Bt,List.length_cons]
  omega
theorem UB(file:List UInt8)(v:Value)(B:Ab)(root:Int)(F:Ab)(w:World)(X:Reads B v file)(hl:file.length≤1099511627776)(hs:Sat (B*F) w):
 Calls Tryz.prog 16 #[v,.int .i64 root] w (Tc B F (AJ (Aw file) root)):=by
 by_cases h0:root=0
 · subst h0
   have u:AJ (Aw file) 0=⟨true,0,[],[]⟩:=rfl
   rw[u]
   haveI:=hs.i
   go_enter Tryz.func16,Tryz.ntmps16
   go_wp2
   go_returns
   exact ⟨_,1,rfl,⟨_,_,rfl,Ai.nil 4 _,Ai.nil 1 _⟩,by rw[Ay];exact Ar B F⟩
 obtain ⟨R,u⟩:=Aq (AJ (Aw file) root)
 obtain ⟨x,hx⟩:=Aq (AP (Aw file) 13 root true)
 have J:Aside (R=if x.ok=false∨(join x.Ag).length≠x.Ag.length then Fh else x):=(by
  rw[←u];unfold AJ;rw[if_neg h0,hx]:_=_)
 rw[u]
 have l:RC true 13 x:=by rw[←hx];exact FX (fun p n h=>FJ h) 13 root true
 have g:=S9 file v B X hl 13 root 0 true
 rw[hx] at g
 have o:Aside (∀(F:Ab)(w:World),Sat (B*F) w→Calls Tryz.prog 71 #[v,.int .i64 root,.bool true,.int .i64 0] w (Tc B F x)):=fun F w h=>g F w (by omega) (by omega) h
 have W:(root==0)=false:=by simpa using h0
 haveI:=hs.i
 clear u hx g
 go_enter Tryz.func16,Tryz.ntmps16
 go_wp2_with fail
 with_reducible refine Calls.mono (o.out _ _ (Ae B)) ?_
 rintro e U ⟨v1,G,rfl,Z,T⟩
 obtain ⟨vE,vP,rfl,r,H⟩:=Z
 obtain ⟨O,K,rfl,s,Y⟩:=r.v
 obtain ⟨xP,V,rfl,t,a0⟩:=H.v
 have Q:=As l
 have y:=l.Ag
 obtain ⟨xo,xh,d,D⟩:=x
 simp only at y r H s t
 have P:Aside (∀(F:Ab)(w:World),Sat (G*F) w→Calls Tryz.prog 72 #[.slice O d.length K] w fun e I=> ∃a c,e= .returned (.slice a (join d).length c)∧Sat (rw AK 4 (.slice a (join d).length c) (AQ (join d))*(G*F)) I):=fun F w h=>MM d _ G F w r h (by omega) Q.out.may (by have:=kM Q.out.may;simp only at this;omega)
 obtain ⟨z,j⟩:=Aq ((join d).length)
 obtain ⟨m,f⟩:=Aq d.length
 obtain ⟨M,k⟩:=Aq D.length
 have b:Aside (A1 G (.slice O d.length K) d∧Jm G (.slice xP D.length V) D∧(join d).length=z∧d.length=m∧D.length=M):=⟨r,H,j,f,k⟩
 simp only[j,f] at P
 simp only[f,k] at T⊢
 haveI:=T.i
 clear r H s t y l j f k hs o
 cases xo with
 | false =>
   have q:Aside (R=Fh):=(by rw[J.out,if_pos (.inl rfl)]:_=_)
   go_upto_region 4 with (fail)
   go_region
   go_wp2
   go_returns
   rw[q.out]
   exact Eb (Ar B F)
 | true =>
   go_upto_region 4 with (fail)
   go_region_held3 (fun I=>I.cell? ⟨U.heap.size,0,none⟩=some (.bool true)∧I.cell? ⟨U.heap.size,2,none⟩=some (.slice O m K)) (exact ⟨Ac _ _ _,Ac _ _ _⟩) (first
    |(go_at_call 72;with_reducible refine Calls.mono (P.out _ _ (Ae G)) ?_;rintro e w7 ⟨a7,c7,rfl,q7⟩;haveI:=q7.i))
   all_goals
    cases L:((z:Int) !=(m:Int)) with
    | true =>
     have q:Aside (R=Fh):=(by
      have c9:z≠m:=by intro h;rw[h] at L;simp at L
      rw[J.out,if_pos (.inr (by rw[b.out.2.2.1,b.out.2.2.2.1];exact c9))]:_=_)
     go_wp2
     go_returns
     rw[q.out]
     exact Eb (Ar B F)
    | false =>
     have q:Aside (R=⟨true,xh,d,D⟩):=(by
      have c9:z=m:=by
       have:(z:Int)=m:=by simpa using L
       omega
      rw[J.out,if_neg (by rw[b.out.2.2.1,b.out.2.2.2.1];simp[c9])]:_=_)
     go_wp2
     go_returns
     rw[q.out]
     exact ⟨_,G,rfl,⟨_,_,rfl,by have:=b.out.1;rw[b.out.2.2.2.1] at this;exact this,by have:=b.out.2.1;rw[b.out.2.2.2.2] at this;exact this⟩,AD G B F⟩
