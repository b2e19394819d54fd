/- censusPages holds for every input. No condition. (part 18) -/
import Derived.Test.YtfhbmblbidcmmaaGreatVa17
import Derived.Test.YtfhbmblbidcmmaaGreatVa7
set_option linter.all false
set_option maxRecDepth 100000
set_option maxHeartbeats 3200000
namespace Go.Proofs.YtfhbmblbidcmmaaGreat
open Go.RowKit Go.Sl Go.Dk Go.Tr
theorem bR{g e:Nat}{v1 v2:Value}{l1 l2:List UInt8}{B F:Ab}{w:World}(h1:Reads B v1 l1)(b:Reads B v2 l2)(hs:Sat (block g e [v1,v2]*(B*F)) w):X6 w (.slice (some ⟨g,0,none⟩) 2 2) [l1,l2]:=by
 refine ⟨some ⟨g,0,none⟩,2,rfl,by simp,fun i l hl=>?_⟩
 have hb:=hs.take B
 have a:=hs
 simp only[block,Sl.cells,Bm] at a
 match i,hl with
 |0,hl=>cases hl;exact ⟨g,0,v1,rfl,a.c g 0,h1 _ _ hb⟩
 |1,hl=>cases hl;exact ⟨g,0,v2,rfl,a.c g 1,b _ _ hb⟩
 |i+2,hl=>cases hl
theorem S4(no:Int)(v:Value)(b:List UInt8)(B F:Ab)(w:World)(hB:Reads B v b)(hs:Sat (B*F) w)(cg:b.length≤1099511627776):
 Calls Tryz.prog 159 #[.int .i64 no,v] w fun e w'=> ∃a c,e= .returned (.tuple #[.int .i64 (AP no b).1,.slice a (AP no b).2.1.length c,.int .i64 (AP no b).2.2])∧Sat (rw TB 1 (.slice a (AP no b).2.1.length c) (A0 (AP no b).2.1)*(B*F)) w':=by
 obtain ⟨i0,E⟩:=D3
 obtain ⟨t,j,rfl,bn,ci⟩:=(hB F w hs).len
 obtain ⟨⟨Q,O,P⟩,d⟩:=Aq (AP no b)
 rw[d]
 unfold AP at d
 by_cases J:no<0∨1048576≤no
 · rw[if_pos J] at d
   obtain ⟨rfl,rfl,rfl⟩:Q=0∧O= []∧P=1:=by simpa[eq_comm] using d
   clear d
   by_cases g1:no<0
   · have be:decide (no<0)=true:=by simpa using g1
     go_enter Tryz.func159,Tryz.ntmps159
     go_wp2
     go_ret3
     exact ⟨none,0,rfl,by simpa[A0] using hs.AE⟩
   have be:decide (no<0)=false:=by simpa using g1
   have g2:1048576≤no:=by omega
   go_enter Tryz.func159,Tryz.ntmps159
   go_wp2
   go_ret3
   exact ⟨none,0,rfl,by simpa[A0] using hs.AE⟩
 rw[if_neg J] at d
 obtain ⟨no,rfl⟩:=Int.eq_ofNat_of_zero_le (show 0≤no by omega)
 have g2: ¬(1048576:Int)≤no:=by omega
 by_cases z:b.length≠256
 · rw[if_pos z] at d
   obtain ⟨rfl,rfl,rfl⟩:Q=0∧O= []∧P=3:=by simpa[eq_comm] using d
   have ch:((b.length:Int) !=256)=true:=by simp;omega
   clear d J
   go_enter Tryz.func159,Tryz.ntmps159
   go_wp2
   go_ret3
   exact ⟨none,0,rfl,by simpa[A0] using hs.AE⟩
 have o:b.length=256:=by omega
 rw[if_neg z] at d
 rw[o] at hB bn⊢
 have HB:Aside (Reads B (.slice t 256 j) b):=hB
 have H:Aside (b.length=256):=o
 have r1:Reads B (.slice (AK t j 8 1) 4 (j-8)) ((b.drop 8).take 4):=fun F w h=>(hB F w h).cut 8 12 (by omega) (by omega)
 have r2:Reads B (.slice (AK t j 0 1) 8 j) (b.take 8):=Reads.to hB 8 (by omega)
 have r3:Reads B (.slice (AK t j 12 1) 244 (j-12)) (b.drop 12):=Reads.from hB 12 (by omega)
 have aa:=QS _ _ w (r1 F w hs) (by simp;omega) (by simp;omega)
 have bi: ∀w,(Instr.sliceAt 26 (.slice t 256 j) (some (.int .i64 8)) (some (.int .i64 12)) none).run Tryz.prog w= .ok (.slice (AK t j 8 1) 4 (j-8)) w:=fun w=>DN E 8 12 (by omega) (by omega) w
 have bj: ∀w,(Instr.sliceAt 26 (.slice t 256 j) none (some (.int .i64 8)) none).run Tryz.prog w= .ok (.slice (AK t j 0 1) 8 j) w:=fun w=>Ov E 8 (by omega) w
 have bk: ∀w,(Instr.sliceAt 26 (.slice t 256 j) (some (.int .i64 12)) none none).run Tryz.prog w= .ok (.slice (AK t j 12 1) 244 (j-12)) w:=fun w=>E7 E 12 (by omega) w
 have a7:=O4 (b.take 8++b.drop 12)
 have a0:Aside (∀(g e:Nat)(F:Ab)(w:World),Sat (block g e [.slice (AK t j 0 1) 8 j,.slice (AK t j 12 1) 244 (j-12)]*(B*F)) w→Calls Tryz.prog 183 #[.slice (some ⟨g,0,none⟩) 2 2] w fun e w'=>e= .returned (.int .u32 (Qh (b.take 8++b.drop 12):Nat))∧w=w'):=fun g e F w h=>by
  have:=Q6 _ _ w (bR r2 r3 h)
  simpa using this
 obtain ⟨cr,U⟩:=Aq (Qh (b.take 8++b.drop 12))
 obtain ⟨su,X⟩:=Aq (BX ((b.drop 8).take 4))
 rw[U] at a7 a0 d
 rw[X] at aa d
 have HZ:Aside _:=d
 clear d r1 r2 r3 U X J z o hB
 haveI:=hs.i
 go_enter Tryz.func159,Tryz.ntmps159
 go_wp2_with fail
 refine aa.mono ?_
 rintro e w1 ⟨rfl,rfl⟩
 clear aa
 go_upto_region 6 with (fail)
 have hw1:IntKind.i64.wrap (cr:Int)=cr:=IntWalk.i64_in _ (by omega)
 obtain ⟨bz,an⟩: ∃q:Bool,((su:Int) !=(cr:Int))=q:=⟨_,rfl⟩
 have u:Aside (((su:Int) !=(cr:Int))=bz):=an
 clear an
 go_cut [38] (fun bp wx=>bp= .bool bz∧Sat (B*F) wx)
 case first=>
  go_region_law first
   |(go_simp;go_at_call 183;refine (a0.out w.heap.size _ _ _ (ES:Sat (block w.heap.size _ _*(B*F)) _)).mono ?_;rintro e w3 ⟨rfl,rfl⟩)
  all_goals
   go_wp2_with fail
   go_meet
   exact ⟨by rw[u.out],A4 (C:=block w.heap.size _ _) (FA _ _)⟩
 obtain ⟨rfl,ad⟩:=hcut
 clear hs hw1 a0 bi bj bk this
 have d:=HZ.out
 by_cases M:su≠cr
 · rw[if_pos M] at d
   obtain ⟨rfl,rfl,rfl⟩:Q=0∧O= []∧P=5:=by simpa[eq_comm] using d
   obtain rfl:bz=true:=by rw[←u.out];simp;omega
   clear d HZ M a7 u
   go_wp2
   go_ret3
   exact ⟨none,0,rfl,by simpa[A0] using ad.AE⟩
 rw[if_neg M] at d
 obtain rfl:bz=false:=by rw[←u.out];simp;omega
 have a9:=H.out
 have au:=Hl _ b B F _ HB.out ad (by omega)
 have ah:Aside _:=d
 clear d HZ M a9 a7 u
 go_wp2_with fail
 refine au.mono ?_
 rintro e w2 ⟨R,p,r,rfl,av⟩
 clear au ad
 have a9:=H.out
 have h3:=Ee R p r b 0 1 _ w2 av (by omega) (by omega) (by omega) (by omega)
 have h4:=fun w h=>P6 R p r b 1 1 (B*F) w h (by omega) (by omega)
 clear a9
 rw[List.drop_zero,Nat.zero_add] at h3
 go_wp2_with fail
 refine h3.mono ?_
 rintro e w3 ⟨rfl,K⟩
 clear h3 av
 have x:=H.out
 have ao:=Si (b.take 1)
 have bl:BX (b.take 1)<256:=by
  have:(b.take 1).length=1:=by simp;omega
  rw[this] at ao;omega
 obtain ⟨l,a8⟩:=Aq (BX (b.take 1))
 rw[a8] at bl⊢
 have d:=ah.out
 rw[a8] at d
 obtain ⟨bq,a6⟩: ∃q:Bool,((b.drop 1).take 1).any (· !=0)=q:=⟨_,rfl⟩
 rw[a6] at h4
 have s:(b.drop 1).take 1≠ [0]↔bq=true:=by
  have bm:((b.drop 1).take 1).length=1:=by simp;omega
  obtain ⟨y,hy⟩: ∃y,(b.drop 1).take 1= [y]:=List.length_eq_one_iff.1 bm
  rw[←a6,hy]
  simp
 clear ah ao a8 a6
 cases bq with
 | true =>
   rw[if_pos (.inl (s.2 rfl))] at d
   obtain ⟨rfl,rfl,rfl⟩:Q=0∧O= []∧P=4:=by simpa[eq_comm] using d
   have h5:=fun w h=>Ee R p r b 1 2 (B*F) w h (by omega) (by omega) (by omega) (by omega)
   have h6:=fun w h=>Ee R p r b (1+2) 4 (B*F) w h (by omega) (by omega) (by omega) (by omega)
   obtain ⟨n5,ap⟩:=Aq (BX ((b.drop 1).take 2))
   obtain ⟨n6,aq⟩:=Aq (BX ((b.drop (1+2)).take 4))
   rw[ap] at h5
   rw[aq] at h6
   clear d s ap aq x
   have Z:=h4 w3 K
   simp only[if_true] at Z
   clear h4
   go_wp2_with fail
   refine Z.mono ?_
   rintro e w4 ⟨rfl,D⟩
   have H5:=h5 w4 D
   clear Z K h5
   go_wp2_with fail
   refine H5.mono ?_
   rintro e w5 ⟨rfl,L⟩
   have H6:=h6 w5 L
   clear H5 D h6
   go_wp2_with fail
   refine H6.mono ?_
   rintro e w6 ⟨rfl,G⟩
   go_wp2
   go_ret3
   exact ⟨none,0,rfl,by simpa[A0] using (Sat.right G).AE⟩
 | false =>
   have ar: ¬((b.drop 1).take 1≠ [0]):=fun h=>by have:=s.1 h;cases this
   have h5:=fun w h=>Ee R p r b 2 2 (B*F) w h (by omega) (by omega) (by omega) (by omega)
   have h6:=fun w h=>Ee R p r b (2+2) 4 (B*F) w h (by omega) (by omega) (by omega) (by omega)
   obtain ⟨f,ab⟩:=Aq (BX ((b.drop 2).take 2))
   obtain ⟨Y,ac⟩:=Aq (BX ((b.drop 4).take 4))
   rw[ab] at h5 d
   rw[show 2+2=4 from rfl,ac] at h6
   rw[ac] at d
   have Z:=h4 w3 K
   simp only[Bool.false_eq_true,if_false] at Z
   obtain ⟨T,am⟩: ∃q:Bool,decide (l<1∨9<l∨244<f∨Y≠no)=q:=⟨_,rfl⟩
   have n:Aside (decide (l<1∨9<l∨244<f∨Y≠no)=T):=am
   have a1:Aside ((if l<1∨9<l∨244<f∨Y≠no then (0,[],4) else if (b.drop (12+f)).any (· !=0) then (0,[],4) else ((l:Int),(b.drop 12).take f,0))=(Q,O,P)):=(by
    rw[←d]
    by_cases m:l<1∨9<l∨244<f∨Y≠no
    · rw[if_pos m,if_pos (.inr (by omega))]
    have bh: ¬((b.drop 1).take 1≠ [0]∨l<1∨9<l∨244<f∨(Y:Int)≠(no:Int)):=by
     rintro (h|h)
     · exact ar h
     omega
    rw[if_neg m,if_neg bh]:_=_)
   clear d s ab ac x h4 am ar
   go_wp2_with fail
   refine Z.mono ?_
   rintro e w4 ⟨rfl,D⟩
   have H5:=h5 w4 D
   clear Z K h5
   go_wp2_with fail
   refine H5.mono ?_
   rintro e w5 ⟨rfl,L⟩
   have H6:=h6 w5 L
   clear H5 D h6
   go_wp2_with fail
   refine H6.mono ?_
   rintro e w6 ⟨rfl,G⟩
   clear H6 L
   go_upto_region 13 with (fail)
   go_cut [76] (fun br wx=>br= .bool T∧w6=wx)
   case first=>
    by_cases c1:l<1
    · have k:Aside (T=true):=(by rw[←n.out];simp[c1]:_=_)
      have b6:decide ((l:Int)<1)=true:=by simp;omega
      clear c1
      go_wp2_with fail
      go_meet
      exact ⟨by rw[k.out],rfl⟩
    have b6:decide ((l:Int)<1)=false:=by simp;omega
    by_cases c2:9<l
    · have k:Aside (T=true):=(by rw[←n.out];simp[c2]:_=_)
      have b9:decide ((9:Int)<l)=true:=by simp;omega
      clear c1 c2
      go_wp2_with fail
      go_meet
      exact ⟨by rw[k.out],rfl⟩
    have b9:decide ((9:Int)<l)=false:=by simp;omega
    by_cases c3:244<f
    · have k:Aside (T=true):=(by rw[←n.out];simp[c3]:_=_)
      have ba:decide ((244:Int)<f)=true:=by simp;omega
      clear c1 c2 c3
      go_wp2_with fail
      go_meet
      exact ⟨by rw[k.out],rfl⟩
    have ba:decide ((244:Int)<f)=false:=by simp;omega
    by_cases c4:Y≠no
    · have k:Aside (T=true):=(by rw[←n.out];simp[c4]:_=_)
      have bb:((Y:Int) !=(no:Int))=true:=by simp;omega
      clear c1 c2 c3 c4
      go_wp2_with fail
      go_meet
      exact ⟨by rw[k.out],rfl⟩
    have k:Aside (T=false):=(by rw[←n.out];simp;omega:_=_)
    have bb:((Y:Int) !=(no:Int))=false:=by simp;omega
    clear c1 c2 c3 c4
    go_wp2_with fail
    go_meet
    exact ⟨by rw[k.out],rfl⟩
   obtain ⟨rfl,rfl⟩:=hcut
   have d:=a1.out
   cases T with
   | true =>
     rw[if_pos (of_decide_eq_true n.out)] at d
     obtain ⟨rfl,rfl,rfl⟩:Q=0∧O= []∧P=4:=by simpa[eq_comm] using d
     clear d a1
     go_wp2
     go_ret3
     exact ⟨none,0,rfl,by simpa[A0] using (Sat.right G).AE⟩
   | false =>
     have m:=of_decide_eq_false n.out
     rw[if_neg m] at d
     have x:=H.out
     have ab:f≤244:=by omega
     have h7:=Rw R p r b 8 4 (B*F) w6 G (by omega) (by omega)
     have h8:=fun F w h=>Rw R p r b 12 f F w h (by omega) (by omega)
     have h9:=fun F w h=>IE R p r b (12+f) F w h (by omega) (by omega)
     have I:=fun F w h=>P6 R p r b (12+f) (256-(12+f)) F w h (by omega) (by omega)
     rw[x] at h9
     have aj:(b.drop (12+f)).take (256-(12+f))=b.drop (12+f):=List.take_of_length_le (by simp;omega)
     rw[aj] at I
     have ag:Aside (((b.drop 12).take f).length=f):=(by simp;omega:_=_)
     obtain ⟨az,al⟩: ∃q:Bool,(b.drop (12+f)).any (· !=0)=q:=⟨_,rfl⟩
     rw[al] at I d
     have a2:Aside ((if az then (0,[],4) else ((l:Int),(b.drop 12).take f,0))=(Q,O,P)):=d
     clear d a1 m x aj al
     go_wp2_with fail
     refine h7.mono ?_
     rintro e w7 ⟨b7,d7,rfl,aw⟩
     clear h7 G
     have H8:=h8 (rw TB 1 (.slice b7 4 d7) (A0 ((b.drop 8).take 4))*(B*F)) w7 (aw.eq (by ac_rfl))
     clear h8 aw
     go_wp2_with fail
     refine H8.mono ?_
     rintro e w8 ⟨b8,d8,rfl,ax⟩
     clear H8
     have ay:Sat (El R p r b (12+f)*(rw TB 1 (.slice b8 f d8) (A0 ((b.drop 12).take f))*(rw TB 1 (.slice b7 4 d7) (A0 ((b.drop 8).take 4))*(B*F)))) w8:=ax.eq (by ac_rfl)
     clear ax
     have H9:=h9 _ w8 ay
     clear h9
     go_wp2_with fail
     refine H9.mono ?_
     rintro e w9 ⟨rfl,V⟩
     clear H9 ay
     have ae:=I _ w9 V
     clear I
     go_wp2_with fail
     refine ae.mono ?_
     rintro e cj ⟨rfl,W⟩
     clear ae V
     have d:=a2.out
     cases az with
     | true =>
       obtain ⟨rfl,rfl,rfl⟩:Q=0∧O= []∧P=4:=by simpa[eq_comm] using d
       clear d a2
       go_wp2
       go_ret3
       exact ⟨none,0,rfl,by simpa[A0] using (Sat.Dn (A:=B*F) (B:=El R p r b (12+f)*(rw TB 1 (.slice b8 f d8) (A0 ((b.drop 12).take f))*rw TB 1 (.slice b7 4 d7) (A0 ((b.drop 8).take 4)))) (W.eq (by show El R p r b (12+f)*_=_;ac_rfl))).AE⟩
     | false =>
       obtain ⟨rfl,rfl,rfl⟩:Q=l∧O=(b.drop 12).take f∧P=0:=by simpa[eq_comm] using d
       clear d a2
       go_wp2
       go_ret3
       refine ⟨b8,d8,by rw[ag.out];rfl,?_⟩
       rw[ag.out]
       exact Sat.Dn (B:=El R p r b (12+f+(256-(12+f)))*rw TB 1 (.slice b7 4 d7) (A0 ((b.drop 8).take 4))) (W.eq (by show El R p r b (12+f+(256-(12+f)))*_=_;ac_rfl))
def Dw(x:Ar):List Value:= [.int .i64 x.src,.int .i64 x.pos,.int .i64 x.len,.int .i64 x.lines]
def Ql(k:Kd):List Value:= [.int .i64 k.Ap,.int .i64 k.bytes,.int .i64 k.lines,.int .i64 k.A7]
abbrev eT(x:Ar):Value:= .agg #[.int .i64 x.src,.int .i64 x.pos,.int .i64 x.len,.int .i64 x.lines]
abbrev mW(k:Kd):Value:= .agg #[.int .i64 k.Ap,.int .i64 k.bytes,.int .i64 k.lines,.int .i64 k.A7]
theorem Jj(a b:Int)(w:World):Calls Tryz.prog 190 #[.int .i64 a,.int .i64 b] w fun e i=>e= .returned (.bool (decide (-1≤a∧a≤b)))∧w=i:=by
 by_cases h1: -1≤a
 ·have f:decide (-1≤a)=true:=by simpa using h1
  by_cases d:a≤b
  ·have g:decide (a≤b)=true:=by simpa using d
   have c:Aside (decide (-1≤a∧a≤b)=true):=(by simp[h1,d]:_=_)
   go_enter Tryz.func190,Tryz.ntmps190
   go_wp2
   go_ret
   first|exact ⟨by rw[c.out];rfl,rfl⟩|exact ⟨rfl,rfl⟩
  have g:decide (a≤b)=false:=by simpa using d
  have c:Aside (decide (-1≤a∧a≤b)=false):=(by simp[h1,d]:_=_)
  go_enter Tryz.func190,Tryz.ntmps190
  go_wp2
  go_ret
  first|exact ⟨by rw[c.out];rfl,rfl⟩|exact ⟨rfl,rfl⟩
 have f:decide (-1≤a)=false:=by simpa using h1
 have c:Aside (decide (-1≤a∧a≤b)=false):=(by simp[h1]:_=_)
 go_enter Tryz.func190,Tryz.ntmps190
 go_wp2
 go_ret
 first|exact ⟨by rw[c.out];rfl,rfl⟩|exact ⟨rfl,rfl⟩
theorem Pd(s o l n:Int)(F:Ab)(w:World)(hs:Sat F w):
 Calls Tryz.prog 162 #[eT ⟨s,o,l,n⟩] w fun e c=>e= .returned (.bool (Ai ⟨s,o,l,n⟩))∧Sat F c:=by
 by_cases h0:s=0
 ·subst h0
  by_cases c0:0≤o
  ·have d : decide (0 ≤ o) = true := by simpa using c0
   by_cases c1:o≤16777216
   ·have f : decide (o ≤ 16777216) = true := by simpa using c1
    by_cases c2:1≤l
    ·have g : decide (1 ≤ l) = true := by simpa using c2
     by_cases c3:l≤16777216-o
     ·have j:decide (l≤16777216-o)=true:=by simpa using c3
      by_cases c4:l≤1048576
      ·have k:decide (l≤1048576)=true:=by simpa using c4
       have b:=fun w=>Jj n l w
       by_cases c5: -1≤n∧n≤l
       ·rw[decide_eq_true c5] at b
        have b:=fun w=>b w
        by_cases c6:n= -1
        ·subst c6
         have a:Aside (Ai ⟨0,o,l,-1⟩=true):=(by unfold Ai;simp;omega:_=_)
         haveI:=hs.i
         go_enter Tryz.func162,Tryz.ntmps162
         go_wp2_with (go_at_call 190;refine (b _).mono ?_;rintro e c ⟨rfl,rfl⟩)
         go_ret
         exact ⟨by rw[a.out];rfl,(hs.alloc #[.int .i64 0,.int .i64 o,.int .i64 l,.int .i64 (-1)] 77|>.alloc #[.int .i64 0,.int .i64 o,.int .i64 l] 75).right.right⟩
        have m:(n== -1)=false:=by simpa using c6
        have a:Aside (Ai ⟨0,o,l,n⟩=false):=(by unfold Ai;simp;omega:_=_)
        haveI:=hs.i
        go_enter Tryz.func162,Tryz.ntmps162
        go_wp2_with (go_at_call 190;refine (b _).mono ?_;rintro e c ⟨rfl,rfl⟩)
        go_ret
        exact ⟨by rw[a.out];rfl,(hs.alloc #[.int .i64 0,.int .i64 o,.int .i64 l,.int .i64 n] 77|>.alloc #[.int .i64 0,.int .i64 o,.int .i64 l] 75).right.right⟩
       rw[decide_eq_false c5] at b
       have a:Aside (Ai ⟨0,o,l,n⟩=false):=(by unfold Ai;simp;omega:_=_)
       haveI:=hs.i
       go_enter Tryz.func162,Tryz.ntmps162
       go_wp2_with (go_at_call 190;refine (b _).mono ?_;rintro e c ⟨rfl,rfl⟩)
       go_ret
       exact ⟨by rw[a.out];rfl,(hs.alloc #[.int .i64 0,.int .i64 o,.int .i64 l,.int .i64 n] 77|>.alloc #[.int .i64 0,.int .i64 o,.int .i64 l] 75).right.right⟩
      have k:decide (l≤1048576)=false:=by simpa using c4
      have a:Aside (Ai ⟨0,o,l,n⟩=false):=(by unfold Ai;simp;omega:_=_)
      haveI:=hs.i
      go_enter Tryz.func162,Tryz.ntmps162
      go_wp2
      go_ret
      exact ⟨by rw[a.out];rfl,(hs.alloc #[.int .i64 0,.int .i64 o,.int .i64 l,.int .i64 n] 77|>.alloc #[.int .i64 0,.int .i64 o,.int .i64 l] 75).right.right⟩
     have j:decide (l≤16777216-o)=false:=by simpa using c3
     have a:Aside (Ai ⟨0,o,l,n⟩=false):=(by unfold Ai;simp;omega:_=_)
     haveI:=hs.i
     go_enter Tryz.func162,Tryz.ntmps162
     go_wp2
     go_ret
     exact ⟨by rw[a.out];rfl,(hs.alloc #[.int .i64 0,.int .i64 o,.int .i64 l,.int .i64 n] 77|>.alloc #[.int .i64 0,.int .i64 o,.int .i64 l] 75).right.right⟩
    have g:decide (1≤l)=false:=by simpa using c2
    have a:Aside (Ai ⟨0,o,l,n⟩=false):=(by unfold Ai;simp;omega:_=_)
    haveI:=hs.i
    go_enter Tryz.func162,Tryz.ntmps162
    go_wp2
    go_ret
    exact ⟨by rw[a.out];rfl,(hs.alloc #[.int .i64 0,.int .i64 o,.int .i64 l,.int .i64 n] 77|>.alloc #[.int .i64 0,.int .i64 o,.int .i64 l] 75).right.right⟩
   have f:decide (o≤16777216)=false:=by simpa using c1
   have a:Aside (Ai ⟨0,o,l,n⟩=false):=(by unfold Ai;simp;omega:_=_)
   haveI:=hs.i
   go_enter Tryz.func162,Tryz.ntmps162
   go_wp2
   go_ret
   exact ⟨by rw[a.out];rfl,(hs.alloc #[.int .i64 0,.int .i64 o,.int .i64 l,.int .i64 n] 77|>.alloc #[.int .i64 0,.int .i64 o,.int .i64 l] 75).right.right⟩
  have d:decide (0≤o)=false:=by simpa using c0
  have a:Aside (Ai ⟨0,o,l,n⟩=false):=(by unfold Ai;simp;omega:_=_)
  haveI:=hs.i
  go_enter Tryz.func162,Tryz.ntmps162
  go_wp2
  go_ret
  exact ⟨by rw[a.out];rfl,(hs.alloc #[.int .i64 0,.int .i64 o,.int .i64 l,.int .i64 n] 77|>.alloc #[.int .i64 0,.int .i64 o,.int .i64 l] 75).right.right⟩
 have e0:(s==0)=false:=by simpa using h0
 by_cases h1:s=1
 ·subst h1
  by_cases c0:0≤o
  ·have d : decide (0 ≤ o) = true := by simpa using c0
   by_cases c1:o≤16777216
   ·have f : decide (o ≤ 16777216) = true := by simpa using c1
    by_cases c2:1≤l
    ·have g:decide (1≤l)=true:=by simpa using c2
     by_cases c3:l≤16777216-o
     ·have j:decide (l≤16777216-o)=true:=by simpa using c3
      by_cases c4:l≤1048576
      ·have k:decide (l≤1048576)=true:=by simpa using c4
       have b:=fun w=>Jj n l w
       by_cases c5: -1≤n∧n≤l
       ·rw[decide_eq_true c5] at b
        have b:=fun w=>b w
        have a:Aside (Ai ⟨1,o,l,n⟩=true):=(by unfold Ai;simp;omega:_=_)
        haveI:=hs.i
        go_enter Tryz.func162,Tryz.ntmps162
        go_wp2_with (go_at_call 190;refine (b _).mono ?_;rintro e c ⟨rfl,rfl⟩)
        go_ret
        exact ⟨by rw[a.out];rfl,(hs.alloc #[.int .i64 1,.int .i64 o,.int .i64 l,.int .i64 n] 77|>.alloc #[.int .i64 1,.int .i64 o,.int .i64 l] 75).right.right⟩
       rw[decide_eq_false c5] at b
       have a:Aside (Ai ⟨1,o,l,n⟩=false):=(by unfold Ai;simp;omega:_=_)
       haveI:=hs.i
       go_enter Tryz.func162,Tryz.ntmps162
       go_wp2_with (go_at_call 190;refine (b _).mono ?_;rintro e c ⟨rfl,rfl⟩)
       go_ret
       exact ⟨by rw[a.out];rfl,(hs.alloc #[.int .i64 1,.int .i64 o,.int .i64 l,.int .i64 n] 77|>.alloc #[.int .i64 1,.int .i64 o,.int .i64 l] 75).right.right⟩
      have k:decide (l≤1048576)=false:=by simpa using c4
      have a:Aside (Ai ⟨1,o,l,n⟩=false):=(by unfold Ai;simp;omega:_=_)
      haveI:=hs.i
      go_enter Tryz.func162,Tryz.ntmps162
      go_wp2
      go_ret
      exact ⟨by rw[a.out];rfl,(hs.alloc #[.int .i64 1,.int .i64 o,.int .i64 l,.int .i64 n] 77|>.alloc #[.int .i64 1,.int .i64 o,.int .i64 l] 75).right.right⟩
     have j:decide (l≤16777216-o)=false:=by simpa using c3
     have a:Aside (Ai ⟨1,o,l,n⟩=false):=(by unfold Ai;simp;omega:_=_)
     haveI:=hs.i
     go_enter Tryz.func162,Tryz.ntmps162
     go_wp2
     go_ret
     exact ⟨by rw[a.out];rfl,(hs.alloc #[.int .i64 1,.int .i64 o,.int .i64 l,.int .i64 n] 77|>.alloc #[.int .i64 1,.int .i64 o,.int .i64 l] 75).right.right⟩
    have g:decide (1≤l)=false:=by simpa using c2
    have a:Aside (Ai ⟨1,o,l,n⟩=false):=(by unfold Ai;simp;omega:_=_)
    haveI:=hs.i
    go_enter Tryz.func162,Tryz.ntmps162
    go_wp2
    go_ret
    exact ⟨by rw[a.out];rfl,(hs.alloc #[.int .i64 1,.int .i64 o,.int .i64 l,.int .i64 n] 77|>.alloc #[.int .i64 1,.int .i64 o,.int .i64 l] 75).right.right⟩
   have f:decide (o≤16777216)=false:=by simpa using c1
   have a:Aside (Ai ⟨1,o,l,n⟩=false):=(by unfold Ai;simp;omega:_=_)
   haveI:=hs.i
   go_enter Tryz.func162,Tryz.ntmps162
   go_wp2
   go_ret
   exact ⟨by rw[a.out];rfl,(hs.alloc #[.int .i64 1,.int .i64 o,.int .i64 l,.int .i64 n] 77|>.alloc #[.int .i64 1,.int .i64 o,.int .i64 l] 75).right.right⟩
  have d:decide (0≤o)=false:=by simpa using c0
  have a:Aside (Ai ⟨1,o,l,n⟩=false):=(by unfold Ai;simp;omega:_=_)
  haveI:=hs.i
  go_enter Tryz.func162,Tryz.ntmps162
  go_wp2
  go_ret
  exact ⟨by rw[a.out];rfl,(hs.alloc #[.int .i64 1,.int .i64 o,.int .i64 l,.int .i64 n] 77|>.alloc #[.int .i64 1,.int .i64 o,.int .i64 l] 75).right.right⟩
 have p:(s==1)=false:=by simpa using h1
 have a:Aside (Ai ⟨s,o,l,n⟩=false):=(by unfold Ai;simp;omega:_=_)
 haveI:=hs.i
 go_enter Tryz.func162,Tryz.ntmps162
 go_wp2
 go_ret
 exact ⟨by rw[a.out];rfl,(hs.alloc #[.int .i64 s,.int .i64 o,.int .i64 l,.int .i64 n] 77|>.alloc #[.int .i64 s,.int .i64 o,.int .i64 l] 75).right.right⟩
theorem Pe(p b l s:Int)(F:Ab)(w:World)(hs:Sat F w):
 Calls Tryz.prog 163 #[mW ⟨p,b,l,s⟩] w fun e d=>e= .returned (.bool (AB ⟨p,b,l,s⟩))∧Sat F d:=by
 have c:=fun w=>Jj l b w
 by_cases c0:1≤p
 ·have f : decide (1 ≤ p) = true := by simpa using c0
  by_cases c1:p<1048576
  ·have g : decide (p < 1048576) = true := by simpa using c1
   by_cases c2:1≤b
   ·have j : decide (1 ≤ b) = true := by simpa using c2
    by_cases c3:b≤1048576
    ·have k:decide (b≤1048576)=true:=by simpa using c3
     by_cases c5: -1≤l∧l≤b
     ·rw [decide_eq_true c5] at c
      by_cases c6:1≤s
      ·have m:decide (1≤s)=true:=by simpa using c6
       by_cases c7:s≤b
       ·have n:decide (s≤b)=true:=by simpa using c7
        have a:Aside (AB ⟨p,b,l,s⟩=true):=(by unfold AB;simp;omega:_=_)
        haveI:=hs.i
        go_enter Tryz.func163,Tryz.ntmps163
        go_wp2_with (go_at_call 190;refine (c _).mono ?_;rintro e d ⟨rfl,rfl⟩)
        go_ret
        exact ⟨by rw[a.out];rfl,(hs.alloc #[.int .i64 p,.int .i64 b,.int .i64 l,.int .i64 s] 141).right⟩
       have n:decide (s≤b)=false:=by simpa using c7
       have a:Aside (AB ⟨p,b,l,s⟩=false):=(by unfold AB;simp;omega:_=_)
       haveI:=hs.i
       go_enter Tryz.func163,Tryz.ntmps163
       go_wp2_with (go_at_call 190;refine (c _).mono ?_;rintro e d ⟨rfl,rfl⟩)
       go_ret
       exact ⟨by rw[a.out];rfl,(hs.alloc #[.int .i64 p,.int .i64 b,.int .i64 l,.int .i64 s] 141).right⟩
      have m:decide (1≤s)=false:=by simpa using c6
      have a:Aside (AB ⟨p,b,l,s⟩=false):=(by unfold AB;simp;omega:_=_)
      haveI:=hs.i
      go_enter Tryz.func163,Tryz.ntmps163
      go_wp2_with (go_at_call 190;refine (c _).mono ?_;rintro e d ⟨rfl,rfl⟩)
      go_ret
      exact ⟨by rw[a.out];rfl,(hs.alloc #[.int .i64 p,.int .i64 b,.int .i64 l,.int .i64 s] 141).right⟩
     rw[decide_eq_false c5] at c
     have a:Aside (AB ⟨p,b,l,s⟩=false):=(by unfold AB;simp;omega:_=_)
     haveI:=hs.i
     go_enter Tryz.func163,Tryz.ntmps163
     go_wp2_with (go_at_call 190;refine (c _).mono ?_;rintro e d ⟨rfl,rfl⟩)
     go_ret
     exact ⟨by rw[a.out];rfl,(hs.alloc #[.int .i64 p,.int .i64 b,.int .i64 l,.int .i64 s] 141).right⟩
    have k:decide (b≤1048576)=false:=by simpa using c3
    have a:Aside (AB ⟨p,b,l,s⟩=false):=(by unfold AB;simp;omega:_=_)
    haveI:=hs.i
    go_enter Tryz.func163,Tryz.ntmps163
    go_wp2
    go_ret
    exact ⟨by rw[a.out];rfl,(hs.alloc #[.int .i64 p,.int .i64 b,.int .i64 l,.int .i64 s] 141).right⟩
   have j:decide (1≤b)=false:=by simpa using c2
   have a:Aside (AB ⟨p,b,l,s⟩=false):=(by unfold AB;simp;omega:_=_)
   haveI:=hs.i
   go_enter Tryz.func163,Tryz.ntmps163
   go_wp2
   go_ret
   exact ⟨by rw[a.out];rfl,(hs.alloc #[.int .i64 p,.int .i64 b,.int .i64 l,.int .i64 s] 141).right⟩
  have g:decide (p<1048576)=false:=by simpa using c1
  have a:Aside (AB ⟨p,b,l,s⟩=false):=(by unfold AB;simp;omega:_=_)
  haveI:=hs.i
  go_enter Tryz.func163,Tryz.ntmps163
  go_wp2
  go_ret
  exact ⟨by rw[a.out];rfl,(hs.alloc #[.int .i64 p,.int .i64 b,.int .i64 l,.int .i64 s] 141).right⟩
 have f:decide (1≤p)=false:=by simpa using c0
 have a:Aside (AB ⟨p,b,l,s⟩=false):=(by unfold AB;simp;omega:_=_)
 haveI:=hs.i
 go_enter Tryz.func163,Tryz.ntmps163
 go_wp2
 go_ret
 exact ⟨by rw[a.out];rfl,(hs.alloc #[.int .i64 p,.int .i64 b,.int .i64 l,.int .i64 s] 141).right⟩
abbrev AG:TypeId:=77
abbrev Kr:TypeId:=141
abbrev C1:TypeId:=32
def AO(l:List Ar):List Value:=l.flatMap Dw
def G0(l:List Kd):List Value:=l.flatMap Ql
abbrev Au(B:Ab)(v:Value)(l:List Ar):Prop:=Aj 4 B v l.length (AO l)
abbrev AS(B:Ab)(v:Value)(l:List Kd):Prop:=Aj 4 B v l.length (G0 l)
def AJ(B:Ab)(v:Value)(n:Nd):Prop:= ∃a vK,v= .agg #[.bool n.leaf,a,vK]∧Au B a n.Ag∧AS B vK n.kids
theorem BN{B:Ab}{a:Option Addr}{c:Nat}{l:List Ar}(h:Au B (.slice a l.length c) l){i:Nat}{x:Ar}(hi:l[i]?=some x):
 ∃b o,a=some ⟨b,o,none⟩∧Mm B b (o+i*4) (.int .i64 x.src)∧Mm B b (o+i*4+1) (.int .i64 x.pos)∧Mm B b (o+i*4+2) (.int .i64 x.len)∧Mm B b (o+i*4+3) (.int .i64 x.lines):=by
 obtain ⟨b,o,e,r⟩:=Aj.row (f:=Dw) (fun _=>rfl) (by omega) h hi
 exact ⟨b,o,e,r 0 _ rfl,r 1 _ rfl,r 2 _ rfl,r 3 _ rfl⟩
theorem Co{B:Ab}{a:Option Addr}{c:Nat}{l:List Kd}(h:AS B (.slice a l.length c) l){i:Nat}{x:Kd}(hi:l[i]?=some x):
 ∃b o,a=some ⟨b,o,none⟩∧Mm B b (o+i*4) (.int .i64 x.Ap)∧Mm B b (o+i*4+1) (.int .i64 x.bytes)∧Mm B b (o+i*4+2) (.int .i64 x.lines)∧Mm B b (o+i*4+3) (.int .i64 x.A7):=by
 obtain ⟨b,o,e,r⟩:=Aj.row (f:=Ql) (fun _=>rfl) (by omega) h hi
 exact ⟨b,o,e,r 0 _ rfl,r 1 _ rfl,r 2 _ rfl,r 3 _ rfl⟩
theorem BZ{l:List Ar}{i:Nat}{x:Ar}(h:l[i]?=some x):Aa (l.take (i+1))=Aa (l.take i)+x.len:=by
 rw[AA h];simp[Aa]
theorem GF{l:List Kd}{i:Nat}{x:Kd}(h:l[i]?=some x):Bd (l.take (i+1))=Bd (l.take i)+x.bytes:=by
 rw[AA h];simp[Bd]
theorem FN{l:List Kd}{i:Nat}{x:Kd}(h:l[i]?=some x):Bl (l.take (i+1))=Bl (l.take i)+x.A7:=by
 rw[AA h];simp[Bl]
theorem Cq{x:Ar}(h:Ai x=true):1≤x.len∧x.len≤1048576:=by
 unfold Ai at h
 simp only[decide_eq_true_eq] at h
 exact ⟨h.2.2.2.1,h.2.2.2.2.2.1⟩
theorem Nt{x:Kd}(h:AB x=true):1≤x.bytes∧x.bytes≤1048576∧1≤x.A7∧x.A7≤x.bytes:=by
 unfold AB at h
 simp only[decide_eq_true_eq] at h
 exact ⟨h.2.2.1,h.2.2.2.1,h.2.2.2.2.2.1,h.2.2.2.2.2.2⟩
theorem Gn{n:Nd}{x:Ar}(hx:x∈n.Ag)(h:n.leaf=false∨Ai x=false):may n=false:=by
 unfold may
 rw[if_pos (List.any_eq_true.2 ⟨x,hx,by rcases h with h|h<;>simp[h]⟩)]
theorem Hs{n:Nd}{x:Kd}(hx:x∈n.kids)(h:n.leaf=true∨AB x=false):may n=false:=by
 unfold may
 split
 ·rfl
 rw[if_pos (List.any_eq_true.2 ⟨x,hx,by rcases h with h|h<;>simp[h]⟩)]
theorem Ht{n:Nd}(h1: ∀x∈n.Ag,n.leaf=true∧Ai x=true)(a: ∀x∈n.kids,n.leaf=false∧AB x=true):
 may n=decide ((if n.leaf then 1 else 2)≤(if n.leaf then n.Ag.length else n.kids.length)∧(if n.leaf then n.Ag.length else n.kids.length)≤12∧Aa n.Ag+Bd n.kids≤1048576∧Bl n.kids≤1024):=by
 unfold may
 rw[if_neg (by simp only[List.any_eq_true];rintro ⟨x,hx,h⟩;have:=h1 x hx;simp[this.1,this.2] at h),if_neg (by simp only[List.any_eq_true];rintro ⟨x,hx,h⟩;have:=a x hx;simp[this.1,this.2] at h)]
theorem L9(n:Nd)(v:Value)(B F:Ab)(w:World)(hN:AJ B v n)(hs:Sat (B*F) w)(ac:n.Ag.length≤4294967296)(ad:n.kids.length≤4294967296):
 Calls Tryz.prog 133 #[v] w fun e P=>e= .returned (.bool (may n))∧Sat (B*F) P:=by
 obtain ⟨vE,vK,rfl,Y,Z⟩:=hN
 obtain ⟨aE,cE,rfl,a7,a8⟩:=Y.v
 obtain ⟨R,T,rfl,a9,aa⟩:=Z.v
 have HE:Aside (Au B (.slice aE n.Ag.length cE) n.Ag):=Y
 have HK:Aside (AS B (.slice R n.kids.length T) n.kids):=Z
 obtain ⟨l,I⟩:=Aq (may n)
 have K:Aside (may n=l):=I
 rw[I]
 obtain ⟨lf,G⟩:=Aq n.leaf
 have J:Aside (n.leaf=lf):=G
 rw[G]
 clear Y Z I G
 haveI:=hs.i
 go_enter Tryz.func133,Tryz.ntmps133
 go_wp2
 go_loopg [3,14] n.Ag.length (fun g t3 a1 wr=> ∃(i:Nat)(d:Int),a1= .int .i64 i∧t3= .int .i64 d∧i≤n.Ag.length∧0≤d∧d≤i*1048576∧Aside (g=n.Ag.length-i∧d=Aa (n.Ag.take i)∧(∀x∈n.Ag.take i,lf=true∧Ai x=true))∧
  Sat (Sl.block w.heap.size C1 [.bool lf,.slice aE n.Ag.length cE,.slice R n.kids.length T]*(B*F)) wr)
 case atStart=>exact ⟨0,0,rfl,rfl,by omega,by omega,by omega,⟨rfl,by simp[Aa],by simp⟩,ES⟩
 obtain ⟨i,d,rfl,rfl,hi,a6,ag,A,O⟩:=hrel
 haveI:=O.i
 by_cases H:i<n.Ag.length
 · have q:(i:Int)<n.Ag.length:=by omega
   obtain ⟨x,hx⟩: ∃x,n.Ag[i]?=some x:=⟨_,List.getElem?_eq_getElem H⟩
   obtain ⟨b,o,rfl,r1,r2,r3,r4⟩:=BN HE.out hx
   have r:Aside (n.Ag[i]?=some x):=hx
   obtain ⟨z,s,t,u⟩:=x
   clear hs hx
   cases lf with
   | false =>
    have c:Aside (l=false):=(by rw[←K.out];exact Gn (List.mem_of_getElem? r.out) (.inl J.out):_=_)
    go_wp2
    go_ret
    exact ⟨by rw[c.out];rfl,Ao B F⟩
   | true =>
    cases hm:Ai ⟨z,s,t,u⟩ with
    | false =>
     have c:Aside (l=false):=(by rw[←K.out];exact Gn (List.mem_of_getElem? r.out) (.inr hm):_=_)
     have p:=fun F w h=>Pd z s t u F w h
     rw[hm] at p
     clear hm
     go_wp2_with (go_at_call 162;refine (p _ _ ES).mono ?_;rintro e P ⟨rfl,m⟩;haveI:=m.i)
     go_ret
     exact ⟨by rw[c.out];rfl,Ao B F⟩
    | true =>
     have Q:Aside (Ai ⟨z,s,t,u⟩=true):=hm
     have p:=fun F w h=>Pd z s t u F w h
     rw[hm] at p
     have hb:=Cq hm
     simp only at hb
     clear hm
     go_wp2_with (go_at_call 162;refine (p _ _ ES).mono ?_;rintro e P ⟨rfl,m⟩;haveI:=m.i)
     go_roundg (n.Ag.length-(i+1))
     case measure=>have:=A.out.1;omega
     refine ⟨i+1,d+t,by go_num,rfl,by omega,by omega,by omega,⟨rfl,?_,?_⟩,?_⟩
     ·rw[BZ r.out,A.out.2.1]
     ·rw[AA r.out]
      intro y hy
      rcases List.mem_append.1 hy with hy|hy
      ·exact A.out.2.2 y hy
      simp at hy;subst hy;exact ⟨trivial,Q.out⟩
     exact AD _ B F
 have q: ¬(i:Int)<n.Ag.length:=by omega
 have L:n.Ag.take i=n.Ag:=List.take_of_length_le (by omega)
 have D:Aside (d=Aa n.Ag∧ ∀x∈n.Ag,lf=true∧Ai x=true):=(by have:=A.out.2;rw[L] at this;exact this:_∧_)
 clear A L hs HE
 go_wp2
 go_loopg [3,4,35] n.kids.length (fun g t3 t4 a3 wq=> ∃(j:Nat)(f k:Int),a3= .int .i64 j∧t3= .int .i64 (d+f)∧t4= .int .i64 k∧j≤n.kids.length∧0≤f∧f≤j*1048576∧0≤k∧k≤j*1048576∧Aside (g=n.kids.length-j∧f=Bd (n.kids.take j)∧k=Bl (n.kids.take j)∧(∀x∈n.kids.take j,lf=false∧AB x=true))∧
  Sat (Sl.block w.heap.size C1 [.bool lf,.slice aE n.Ag.length cE,.slice R n.kids.length T]*(B*F)) wq)
 case atStart=>exact ⟨0,0,0,rfl,by simp,rfl,by omega,by omega,by omega,by omega,by omega,⟨rfl,by simp[Bd],by simp[Bl],by simp⟩,ES⟩
 obtain ⟨j,f,k,rfl,rfl,rfl,hj,mT,hk,ae,af,A,a0⟩:=hrel
 clear O
 haveI:=a0.i
 by_cases H:j<n.kids.length
 · have q:(j:Int)<n.kids.length:=by omega
   obtain ⟨x,hx⟩: ∃x,n.kids[j]?=some x:=⟨_,List.getElem?_eq_getElem H⟩
   obtain ⟨b,o,rfl,r1,r2,r3,r4⟩:=Co HK.out hx
   have r:Aside (n.kids[j]?=some x):=hx
   obtain ⟨z,s,t,u⟩:=x
   clear hx
   cases lf with
   | true =>
    have c:Aside (l=false):=(by rw[←K.out];exact Hs (List.mem_of_getElem? r.out) (.inl J.out):_=_)
    go_wp2
    go_ret
    exact ⟨by rw[c.out];rfl,Ao B F⟩
   | false =>
    cases hm:AB ⟨z,s,t,u⟩ with
    | false =>
     have c:Aside (l=false):=(by rw[←K.out];exact Hs (List.mem_of_getElem? r.out) (.inr hm):_=_)
     have p:=fun F w h=>Pe z s t u F w h
     rw[hm] at p
     clear hm
     go_wp2_with (go_at_call 163;refine (p _ _ ES).mono ?_;rintro e P ⟨rfl,m⟩;haveI:=m.i)
     go_ret
     exact ⟨by rw[c.out];rfl,Ao B F⟩
    | true =>
     have Q:Aside (AB ⟨z,s,t,u⟩=true):=hm
     have p:=fun F w h=>Pe z s t u F w h
     rw[hm] at p
     have hb:=Nt hm
     simp only at hb
     clear hm
     go_wp2_with (go_at_call 163;refine (p _ _ ES).mono ?_;rintro e P ⟨rfl,m⟩;haveI:=m.i)
     go_roundg (n.kids.length-(j+1))
     case measure=>have:=A.out.1;omega
     refine ⟨j+1,f+s,k+u,by go_num,by go_num,rfl,by omega,by omega,by omega,by omega,by omega,⟨rfl,?_,?_,?_⟩,?_⟩
     ·rw[GF r.out,A.out.2.1]
     ·rw[FN r.out,A.out.2.2.1]
     ·rw[AA r.out]
      intro y hy
      rcases List.mem_append.1 hy with hy|hy
      ·exact A.out.2.2.2 y hy
      simp at hy;subst hy;exact ⟨trivial,Q.out⟩
     exact AD _ B F
 have q: ¬(j:Int)<n.kids.length:=by omega
 have M:n.kids.take j=n.kids:=List.take_of_length_le (by omega)
 have c:Aside (l=decide ((if lf then 1 else 2)≤(if lf then n.Ag.length else n.kids.length)∧(if lf then n.Ag.length else n.kids.length)≤12∧d+f≤1048576∧k≤1024)):=(by
  have h1:=A.out.2
  rw[M] at h1
  rw[←K.out,D.out.1,h1.1,h1.2.1,←J.out]
  exact Ht (by rw[J.out];exact D.out.2) (by rw[J.out];exact h1.2.2):_=_)
 clear A M HK D
 cases lf with
 | true =>
   simp only[if_true,Bool.false_eq_true,if_false] at c
   by_cases c0:1≤n.Ag.length
   ·have U:decide ((1:Int)≤n.Ag.length)=true:=by simpa using (by omega:(1:Int)≤n.Ag.length)
    by_cases c1:n.Ag.length≤12
    ·have V:decide ((n.Ag.length:Int)≤12)=true:=by simpa using (by omega:(n.Ag.length:Int)≤12)
     by_cases c2:d+f≤1048576
     ·have W:decide (d+f≤1048576)=true:=by simpa using (by omega:d+f≤1048576)
      by_cases c3:k≤1024
      ·have X:decide (k≤1024)=true:=by simpa using (by omega:k≤1024)
       have a:Aside (l=true):=(by rw[c.out];exact decide_eq_true ⟨c0,c1,c2,c3⟩:_=_)
       clear c c0 c1 c2 c3
       go_wp2_with fail
       go_quiet (fail)
       go_wp2_with fail
       go_quiet (fail)
       go_wp2
       go_ret
       exact ⟨by rw[a.out];rfl,Ao B F⟩
      have X:decide (k≤1024)=false:=by simpa using (by omega: ¬k≤1024)
      have a:Aside (l=false):=(by rw[c.out];exact decide_eq_false (fun h=>c3 h.2.2.2):_=_)
      clear c c0 c1 c2 c3
      go_wp2_with fail
      go_quiet (fail)
      go_wp2_with fail
      go_quiet (fail)
      go_wp2
      go_ret
      exact ⟨by rw[a.out];rfl,Ao B F⟩
     have W:decide (d+f≤1048576)=false:=by simpa using (by omega: ¬d+f≤1048576)
     have a:Aside (l=false):=(by rw[c.out];exact decide_eq_false (fun h=>c2 h.2.2.1):_=_)
     clear c c0 c1 c2
     go_wp2_with fail
     go_quiet (fail)
     go_wp2_with fail
     go_quiet (fail)
     go_wp2
     go_ret
     exact ⟨by rw[a.out];rfl,Ao B F⟩
    have V:decide ((n.Ag.length:Int)≤12)=false:=by simpa using (by omega: ¬(n.Ag.length:Int)≤12)
    have a:Aside (l=false):=(by rw[c.out];exact decide_eq_false (fun h=>c1 h.2.1):_=_)
    clear c c0 c1
    go_wp2_with fail
    go_quiet (fail)
    go_wp2_with fail
    go_quiet (fail)
    go_wp2
    go_ret
    exact ⟨by rw[a.out];rfl,Ao B F⟩
   have U:decide ((1:Int)≤n.Ag.length)=false:=by simpa using (by omega: ¬(1:Int)≤n.Ag.length)
   have a:Aside (l=false):=(by rw[c.out];exact decide_eq_false (fun h=>c0 h.1):_=_)
   clear c c0
   go_wp2_with fail
   go_quiet (fail)
   go_wp2_with fail
   go_quiet (fail)
   go_wp2
   go_ret
   exact ⟨by rw[a.out];rfl,Ao B F⟩
 | false =>
   simp only[if_true,Bool.false_eq_true,if_false] at c
   by_cases c0:2≤n.kids.length
   ·have U:decide ((2:Int)≤n.kids.length)=true:=by simpa using (by omega:(2:Int)≤n.kids.length)
    by_cases c1:n.kids.length≤12
    ·have V:decide ((n.kids.length:Int)≤12)=true:=by simpa using (by omega:(n.kids.length:Int)≤12)
     by_cases c2:d+f≤1048576
     ·have W:decide (d+f≤1048576)=true:=by simpa using (by omega:d+f≤1048576)
      by_cases c3:k≤1024
      ·have X:decide (k≤1024)=true:=by simpa using (by omega:k≤1024)
       have a:Aside (l=true):=(by rw[c.out];exact decide_eq_true ⟨c0,c1,c2,c3⟩:_=_)
       clear c c0 c1 c2 c3
       go_wp2_with fail
       go_quiet (fail)
       go_wp2
       go_ret
       exact ⟨by rw[a.out];rfl,Ao B F⟩
      have X:decide (k≤1024)=false:=by simpa using (by omega: ¬k≤1024)
      have a:Aside (l=false):=(by rw[c.out];exact decide_eq_false (fun h=>c3 h.2.2.2):_=_)
      clear c c0 c1 c2 c3
      go_wp2_with fail
      go_quiet (fail)
      go_wp2
      go_ret
      exact ⟨by rw[a.out];rfl,Ao B F⟩
     have W:decide (d+f≤1048576)=false:=by simpa using (by omega: ¬d+f≤1048576)
     have a:Aside (l=false):=(by rw[c.out];exact decide_eq_false (fun h=>c2 h.2.2.1):_=_)
     clear c c0 c1 c2
     go_wp2_with fail
     go_quiet (fail)
     go_wp2
     go_ret
     exact ⟨by rw[a.out];rfl,Ao B F⟩
    have V:decide ((n.kids.length:Int)≤12)=false:=by simpa using (by omega: ¬(n.kids.length:Int)≤12)
    have a:Aside (l=false):=(by rw[c.out];exact decide_eq_false (fun h=>c1 h.2.1):_=_)
    clear c c0 c1
    go_wp2_with fail
    go_quiet (fail)
    go_wp2
    go_ret
    exact ⟨by rw[a.out];rfl,Ao B F⟩
   have U:decide ((2:Int)≤n.kids.length)=false:=by simpa using (by omega: ¬(2:Int)≤n.kids.length)
   have a:Aside (l=false):=(by rw[c.out];exact decide_eq_false (fun h=>c0 h.1):_=_)
   clear c c0
   go_wp2_with fail
   go_quiet (fail)
   go_wp2
   go_ret
   exact ⟨by rw[a.out];rfl,Ao B F⟩
