/- censusSound holds for every input. No condition. (part 15) -/
import Derived.Test.YtfhbmblbidcmmaaGreatWa14
import Derived.Test.YtfhbmblbidcmmaaGreatWa6
set_option linter.all false
set_option maxRecDepth 100000
set_option maxHeartbeats 3200000
namespace Go.Proofs.YtfhbmblbidcmmaaGreat
open Go.RowKit Go.Sl Go.Dk Go.Tr
theorem aS{g e:Nat}{v1 v2:Value}{l1 l2:List UInt8}{B F:Ab}{w:World}(h1:Reads B v1 l1)(b:Reads B v2 l2)(hs:Sat (block g e [v1,v2]*(B*F)) w):Xx w (.slice (some ⟨g,0,none⟩) 2 2) [l1,l2]:=by
 refine ⟨some ⟨g,0,none⟩,2,rfl,by simp,fun i l hl=>?_⟩
 have hb:=hs.take B
 have a:=hs
 simp only[block,Sl.cells,Bg] at a
 match i,hl with
 |0,hl=>cases hl;exact ⟨g,0,v1,rfl,a.c g 0,h1 _ _ hb⟩
 |1,hl=>cases hl;exact ⟨g,0,v2,rfl,a.c g 1,b _ _ hb⟩
 |i+2,hl=>cases hl
theorem Sw(no:Int)(v:Value)(b:List UInt8)(B F:Ab)(w:World)(hB:Reads B v b)(hs:Sat (B*F) w)(cg:b.length≤1099511627776):
 Calls Tryz.prog 159 #[.int .i64 no,v] w fun e w'=> ∃a c,e= .returned (.tuple #[.int .i64 (AO no b).1,.slice a (AO no b).2.1.length c,.int .i64 (AO no b).2.2])∧Sat (rw TB 1 (.slice a (AO no b).2.1.length c) (A4 (AO no b).2.1)*(B*F)) w':=by
 obtain ⟨i0,E⟩:=Dp
 obtain ⟨G,k,rfl,bn,ci⟩:=(hB F w hs).len
 obtain ⟨⟨W,U,V⟩,d⟩:=Aq (AO no b)
 rw[d]
 unfold AO at d
 by_cases J:no<0∨1048576≤no
 · rw[if_pos J] at d
   obtain ⟨rfl,rfl,rfl⟩:W=0∧U= []∧V=1:=by simpa[eq_comm] using d
   clear d
   by_cases g1:no<0
   · have be:decide (no<0)=true:=by simpa using g1
     go_enter Tryz.func159,Tryz.ntmps159
     go_wp2
     go_ret3
     exact ⟨none,0,rfl,by simpa[A4] using hs.AG⟩
   have be:decide (no<0)=false:=by simpa using g1
   have g2:1048576≤no:=by omega
   go_enter Tryz.func159,Tryz.ntmps159
   go_wp2
   go_ret3
   exact ⟨none,0,rfl,by simpa[A4] using hs.AG⟩
 rw[if_neg J] at d
 obtain ⟨no,rfl⟩:=Int.eq_ofNat_of_zero_le (show 0≤no by omega)
 have g2: ¬(1048576:Int)≤no:=by omega
 by_cases x:b.length≠256
 · rw[if_pos x] at d
   obtain ⟨rfl,rfl,rfl⟩:W=0∧U= []∧V=3:=by simpa[eq_comm] using d
   have ch:((b.length:Int) !=256)=true:=by simp;omega
   clear d J
   go_enter Tryz.func159,Tryz.ntmps159
   go_wp2
   go_ret3
   exact ⟨none,0,rfl,by simpa[A4] using hs.AG⟩
 have o:b.length=256:=by omega
 rw[if_neg x] at d
 rw[o] at hB bn⊢
 have HB:=As hB
 have H:=As o
 have r1:Reads B (.slice (AH G k 8 1) 4 (k-8)) ((b.drop 8).take 4):=fun F w h=>(hB F w h).cut 8 12 (by omega) (by omega)
 have r2:Reads B (.slice (AH G k 0 1) 8 k) (b.take 8):=Reads.to hB 8 (by omega)
 have r3:Reads B (.slice (AH G k 12 1) 244 (k-12)) (b.drop 12):=Reads.from hB 12 (by omega)
 have a9:=QK _ _ w (r1 F w hs) (by simp;omega) (by simp;omega)
 have bi: ∀w,(Instr.sliceAt 26 (.slice G 256 k) (some (.int .i64 8)) (some (.int .i64 12)) none).run Tryz.prog w= .ok (.slice (AH G k 8 1) 4 (k-8)) w:=fun w=>DL E 8 12 (by omega) (by omega) w
 have bj: ∀w,(Instr.sliceAt 26 (.slice G 256 k) none (some (.int .i64 8)) none).run Tryz.prog w= .ok (.slice (AH G k 0 1) 8 k) w:=fun w=>Ln E 8 (by omega) w
 have bk: ∀w,(Instr.sliceAt 26 (.slice G 256 k) (some (.int .i64 12)) none none).run Tryz.prog w= .ok (.slice (AH G k 12 1) 244 (k-12)) w:=fun w=>E6 E 12 (by omega) w
 have a6:=O3 (b.take 8++b.drop 12)
 have Y:Aside (∀(g e:Nat)(F:Ab)(w:World),Sat (block g e [.slice (AH G k 0 1) 8 k,.slice (AH G k 12 1) 244 (k-12)]*(B*F)) w→Calls Tryz.prog 183 #[.slice (some ⟨g,0,none⟩) 2 2] w fun e w'=>e= .returned (.int .u32 (Qy (b.take 8++b.drop 12):Nat))∧w=w'):=fun g e F w h=>by
  have:=Qz _ _ w (aS r2 r3 h)
  simpa using this
 obtain ⟨cr,O⟩:=Aq (Qy (b.take 8++b.drop 12))
 obtain ⟨su,T⟩:=Aq (BX ((b.drop 8).take 4))
 rw[O] at a6 Y d
 rw[T] at a9 d
 have HZ:=As d
 clear d r1 r2 r3 O T J x o hB
 haveI:=hs.i
 go_enter Tryz.func159,Tryz.ntmps159
 go_wp2_with fail
 refine a9.mono ?_
 rintro e w1 ⟨rfl,rfl⟩
 clear a9
 go_upto_region 6 with (fail)
 have hw1:IntKind.i64.wrap (cr:Int)=cr:=IntWalk.i64_in _ (by omega)
 obtain ⟨bz,am⟩: ∃q:Bool,((su:Int) !=(cr:Int))=q:=⟨_,rfl⟩
 have t:=As am
 clear am
 go_cut [38] (fun bo wx=>bo= .bool bz∧Sat (B*F) wx)
 case first=>
  go_region_law first
   |(go_simp;go_at_call 183;refine (Y.out w.heap.size _ _ _ (ES:Sat (block w.heap.size _ _*(B*F)) _)).mono ?_;rintro e w3 ⟨rfl,rfl⟩)
  all_goals
   go_wp2_with fail
   go_meet
   exact ⟨by rw[t.out],Ax (C:=block w.heap.size _ _) (F9 _ _)⟩
 obtain ⟨rfl,ac⟩:=hcut
 clear hs hw1 Y bi bj bk this
 have d:=HZ.out
 by_cases M:su≠cr
 · rw[if_pos M] at d
   obtain ⟨rfl,rfl,rfl⟩:W=0∧U= []∧V=5:=by simpa[eq_comm] using d
   obtain rfl:bz=true:=by rw[←t.out];simp;omega
   clear d HZ M a6 t
   go_wp2
   go_ret3
   exact ⟨none,0,rfl,by simpa[A4] using ac.AG⟩
 rw[if_neg M] at d
 obtain rfl:bz=false:=by rw[←t.out];simp;omega
 have a8:=H.out
 have ar:=Hq _ b B F _ HB.out ac (by omega)
 have ah:=As d
 clear d HZ M a8 a6 t
 go_wp2_with fail
 refine ar.mono ?_
 rintro e w2 ⟨R,p,r,rfl,au⟩
 clear ar ac
 have a8:=H.out
 have h3:=Ef R p r b 0 1 _ w2 au (by omega) (by omega) (by omega) (by omega)
 have h4:=fun w h=>P4 R p r b 1 1 (B*F) w h (by omega) (by omega)
 clear a8
 rw[List.drop_zero,Nat.zero_add] at h3
 go_wp2_with fail
 refine h3.mono ?_
 rintro e w3 ⟨rfl,K⟩
 clear h3 au
 have u:=H.out
 have an:=Sb (b.take 1)
 have bl:BX (b.take 1)<256:=by
  have:(b.take 1).length=1:=by simp;omega
  rw[this] at an;omega
 obtain ⟨m,a7⟩:=Aq (BX (b.take 1))
 rw[a7] at bl⊢
 have d:=ah.out
 rw[a7] at d
 obtain ⟨bq,a5⟩: ∃q:Bool,((b.drop 1).take 1).any (· !=0)=q:=⟨_,rfl⟩
 rw[a5] at h4
 have s:(b.drop 1).take 1≠ [0]↔bq=true:=by
  have bm:((b.drop 1).take 1).length=1:=by simp;omega
  obtain ⟨y,hy⟩: ∃y,(b.drop 1).take 1= [y]:=List.length_eq_one_iff.1 bm
  rw[←a5,hy]
  simp
 clear ah an a7 a5
 cases bq with
 | true =>
   rw[if_pos (.inl (s.2 rfl))] at d
   obtain ⟨rfl,rfl,rfl⟩:W=0∧U= []∧V=4:=by simpa[eq_comm] using d
   have h5:=fun w h=>Ef R p r b 1 2 (B*F) w h (by omega) (by omega) (by omega) (by omega)
   have h6:=fun w h=>Ef R p r b (1+2) 4 (B*F) w h (by omega) (by omega) (by omega) (by omega)
   obtain ⟨n5,ao⟩:=Aq (BX ((b.drop 1).take 2))
   obtain ⟨n6,ap⟩:=Aq (BX ((b.drop (1+2)).take 4))
   rw[ao] at h5
   rw[ap] at h6
   clear d s ao ap u
   have X:=h4 w3 K
   simp only[if_true] at X
   clear h4
   go_wp2_with fail
   refine X.mono ?_
   rintro e w4 ⟨rfl,z⟩
   have H5:=h5 w4 z
   clear X K h5
   go_wp2_with fail
   refine H5.mono ?_
   rintro e w5 ⟨rfl,L⟩
   have H6:=h6 w5 L
   clear H5 z h6
   go_wp2_with fail
   refine H6.mono ?_
   rintro e w6 ⟨rfl,D⟩
   go_wp2
   go_ret3
   exact ⟨none,0,rfl,by simpa[A4] using (Sat.right D).AG⟩
 | false =>
   have aq: ¬((b.drop 1).take 1≠ [0]):=fun h=>by have:=s.1 h;cases this
   have h5:=fun w h=>Ef R p r b 2 2 (B*F) w h (by omega) (by omega) (by omega) (by omega)
   have h6:=fun w h=>Ef R p r b (2+2) 4 (B*F) w h (by omega) (by omega) (by omega) (by omega)
   obtain ⟨f,aa⟩:=Aq (BX ((b.drop 2).take 2))
   obtain ⟨ow,ab⟩:=Aq (BX ((b.drop 4).take 4))
   rw[aa] at h5 d
   rw[show 2+2=4 from rfl,ab] at h6
   rw[ab] at d
   have X:=h4 w3 K
   simp only[Bool.false_eq_true,if_false] at X
   obtain ⟨bd,al⟩: ∃q:Bool,decide (m<1∨9<m∨244<f∨ow≠no)=q:=⟨_,rfl⟩
   have n:=As al
   have Z:Aside ((if m<1∨9<m∨244<f∨ow≠no then (0,[],4) else if (b.drop (12+f)).any (· !=0) then (0,[],4) else ((m:Int),(b.drop 12).take f,0))=(W,U,V)):=(by
    rw[←d]
    by_cases l:m<1∨9<m∨244<f∨ow≠no
    · rw[if_pos l,if_pos (.inr (by omega))]
    have bh: ¬((b.drop 1).take 1≠ [0]∨m<1∨9<m∨244<f∨(ow:Int)≠(no:Int)):=by
     rintro (h|h)
     · exact aq h
     omega
    rw[if_neg l,if_neg bh]:_=_)
   clear d s aa ab u h4 al aq
   go_wp2_with fail
   refine X.mono ?_
   rintro e w4 ⟨rfl,z⟩
   have H5:=h5 w4 z
   clear X K h5
   go_wp2_with fail
   refine H5.mono ?_
   rintro e w5 ⟨rfl,L⟩
   have H6:=h6 w5 L
   clear H5 z h6
   go_wp2_with fail
   refine H6.mono ?_
   rintro e w6 ⟨rfl,D⟩
   clear H6 L
   go_upto_region 13 with (fail)
   go_cut [76] (fun bp wx=>bp= .bool bd∧w6=wx)
   case first=>
    by_cases c1:m<1
    · have j:Aside (bd=true):=(by rw[←n.out];simp[c1]:_=_)
      have b6:decide ((m:Int)<1)=true:=by simp;omega
      clear c1
      go_wp2_with fail
      go_meet
      exact ⟨by rw[j.out],rfl⟩
    have b6:decide ((m:Int)<1)=false:=by simp;omega
    by_cases c2:9<m
    · have j:Aside (bd=true):=(by rw[←n.out];simp[c2]:_=_)
      have b9:decide ((9:Int)<m)=true:=by simp;omega
      clear c1 c2
      go_wp2_with fail
      go_meet
      exact ⟨by rw[j.out],rfl⟩
    have b9:decide ((9:Int)<m)=false:=by simp;omega
    by_cases c3:244<f
    · have j:Aside (bd=true):=(by rw[←n.out];simp[c3]:_=_)
      have ba:decide ((244:Int)<f)=true:=by simp;omega
      clear c1 c2 c3
      go_wp2_with fail
      go_meet
      exact ⟨by rw[j.out],rfl⟩
    have ba:decide ((244:Int)<f)=false:=by simp;omega
    by_cases c4:ow≠no
    · have j:Aside (bd=true):=(by rw[←n.out];simp[c4]:_=_)
      have bb:((ow:Int) !=(no:Int))=true:=by simp;omega
      clear c1 c2 c3 c4
      go_wp2_with fail
      go_meet
      exact ⟨by rw[j.out],rfl⟩
    have j:Aside (bd=false):=(by rw[←n.out];simp;omega:_=_)
    have bb:((ow:Int) !=(no:Int))=false:=by simp;omega
    clear c1 c2 c3 c4
    go_wp2_with fail
    go_meet
    exact ⟨by rw[j.out],rfl⟩
   obtain ⟨rfl,rfl⟩:=hcut
   have d:=Z.out
   cases bd with
   | true =>
     rw[if_pos (of_decide_eq_true n.out)] at d
     obtain ⟨rfl,rfl,rfl⟩:W=0∧U= []∧V=4:=by simpa[eq_comm] using d
     clear d Z
     go_wp2
     go_ret3
     exact ⟨none,0,rfl,by simpa[A4] using (Sat.right D).AG⟩
   | false =>
     have l:=of_decide_eq_false n.out
     rw[if_neg l] at d
     have u:=H.out
     have aa:f≤244:=by omega
     have h7:=Ro R p r b 8 4 (B*F) w6 D (by omega) (by omega)
     have h8:=fun F w h=>Ro R p r b 12 f F w h (by omega) (by omega)
     have h9:=fun F w h=>IK R p r b (12+f) F w h (by omega) (by omega)
     have I:=fun F w h=>P4 R p r b (12+f) (256-(12+f)) F w h (by omega) (by omega)
     rw[u] at h9
     have ai:(b.drop (12+f)).take (256-(12+f))=b.drop (12+f):=List.take_of_length_le (by simp;omega)
     rw[ai] at I
     have ag:Aside (((b.drop 12).take f).length=f):=(by simp;omega:_=_)
     obtain ⟨az,ak⟩: ∃q:Bool,(b.drop (12+f)).any (· !=0)=q:=⟨_,rfl⟩
     rw[ak] at I d
     have a0:=As d
     clear d Z l u ai ak
     go_wp2_with fail
     refine h7.mono ?_
     rintro e w7 ⟨b7,d7,rfl,av⟩
     clear h7 D
     have H8:=h8 (rw TB 1 (.slice b7 4 d7) (A4 ((b.drop 8).take 4))*(B*F)) w7 (av.eq (by ac_rfl))
     clear h8 av
     go_wp2_with fail
     refine H8.mono ?_
     rintro e w8 ⟨b8,d8,rfl,aw⟩
     clear H8
     have ax:Sat (Ex R p r b (12+f)*(rw TB 1 (.slice b8 f d8) (A4 ((b.drop 12).take f))*(rw TB 1 (.slice b7 4 d7) (A4 ((b.drop 8).take 4))*(B*F)))) w8:=aw.eq (by ac_rfl)
     clear aw
     have H9:=h9 _ w8 ax
     clear h9
     go_wp2_with fail
     refine H9.mono ?_
     rintro e w9 ⟨rfl,P⟩
     clear H9 ax
     have ae:=I _ w9 P
     clear I
     go_wp2_with fail
     refine ae.mono ?_
     rintro e cj ⟨rfl,Q⟩
     clear ae P
     have d:=a0.out
     cases az with
     | true =>
       obtain ⟨rfl,rfl,rfl⟩:W=0∧U= []∧V=4:=by simpa[eq_comm] using d
       clear d a0
       go_wp2
       go_ret3
       exact ⟨none,0,rfl,by simpa[A4] using (Sat.Dx (A:=B*F) (B:=Ex R p r b (12+f)*(rw TB 1 (.slice b8 f d8) (A4 ((b.drop 12).take f))*rw TB 1 (.slice b7 4 d7) (A4 ((b.drop 8).take 4)))) (Q.eq (by show Ex R p r b (12+f)*_=_;ac_rfl))).AG⟩
     | false =>
       obtain ⟨rfl,rfl,rfl⟩:W=m∧U=(b.drop 12).take f∧V=0:=by simpa[eq_comm] using d
       clear d a0
       go_wp2
       go_ret3
       refine ⟨b8,d8,by rw[ag.out];rfl,?_⟩
       rw[ag.out]
       exact Sat.Dx (B:=Ex R p r b (12+f+(256-(12+f)))*rw TB 1 (.slice b7 4 d7) (A4 ((b.drop 8).take 4))) (Q.eq (by show Ex R p r b (12+f+(256-(12+f)))*_=_;ac_rfl))
def Dq(x:Av):List Value:= [.int .i64 x.src,.int .i64 x.pos,.int .i64 x.len,.int .i64 x.lines]
def Qe(k:Kd):List Value:= [.int .i64 k.Au,.int .i64 k.bytes,.int .i64 k.lines,.int .i64 k.AA]
abbrev dY(x:Av):Value:= .agg #[.int .i64 x.src,.int .i64 x.pos,.int .i64 x.len,.int .i64 x.lines]
abbrev mI(k:Kd):Value:= .agg #[.int .i64 k.Au,.int .i64 k.bytes,.int .i64 k.lines,.int .i64 k.AA]
theorem Jq(a b:Int)(w:World):Calls Tryz.prog 190 #[.int .i64 a,.int .i64 b] w fun e i=>e= .returned (.bool (decide (-1≤a∧a≤b)))∧w=i:=by
 by_cases h1: -1≤a
 ·have f:decide (-1≤a)=true:=by simpa using h1
  by_cases d:a≤b
  ·have g:decide (a≤b)=true:=by simpa using d
   have c:Aside (decide (-1≤a∧a≤b)=true):=(by simp[h1,d]:_=_)
   go_enter Tryz.func190,Tryz.ntmps190
   go_wp2
   go_ret
   first|exact ⟨by rw[c.out];rfl,rfl⟩|exact ⟨rfl,rfl⟩
  have g:decide (a≤b)=false:=by simpa using d
  have c:Aside (decide (-1≤a∧a≤b)=false):=(by simp[h1,d]:_=_)
  go_enter Tryz.func190,Tryz.ntmps190
  go_wp2
  go_ret
  first|exact ⟨by rw[c.out];rfl,rfl⟩|exact ⟨rfl,rfl⟩
 have f:decide (-1≤a)=false:=by simpa using h1
 have c:Aside (decide (-1≤a∧a≤b)=false):=(by simp[h1]:_=_)
 go_enter Tryz.func190,Tryz.ntmps190
 go_wp2
 go_ret
 first|exact ⟨by rw[c.out];rfl,rfl⟩|exact ⟨rfl,rfl⟩
theorem Pa(s o l n:Int)(F:Ab)(w:World)(hs:Sat F w):
 Calls Tryz.prog 162 #[dY ⟨s,o,l,n⟩] w fun e c=>e= .returned (.bool (Ah ⟨s,o,l,n⟩))∧Sat F c:=by
 by_cases h0:s=0
 ·subst h0
  by_cases c0:0≤o
  ·have d : decide (0 ≤ o) = true := by simpa using c0
   by_cases c1:o≤16777216
   ·have f : decide (o ≤ 16777216) = true := by simpa using c1
    by_cases c2:1≤l
    ·have g : decide (1 ≤ l) = true := by simpa using c2
     by_cases c3:l≤16777216-o
     ·have j:decide (l≤16777216-o)=true:=by simpa using c3
      by_cases c4:l≤1048576
      ·have k:decide (l≤1048576)=true:=by simpa using c4
       have b:=fun w=>Jq n l w
       by_cases c5: -1≤n∧n≤l
       ·rw[decide_eq_true c5] at b
        have b:=fun w=>b w
        by_cases c6:n= -1
        ·subst c6
         have a:Aside (Ah ⟨0,o,l,-1⟩=true):=(by unfold Ah;simp;omega:_=_)
         haveI:=hs.i
         go_enter Tryz.func162,Tryz.ntmps162
         go_wp2_with (go_at_call 190;refine (b _).mono ?_;rintro e c ⟨rfl,rfl⟩)
         go_ret
         exact ⟨by rw[a.out];rfl,(hs.alloc #[.int .i64 0,.int .i64 o,.int .i64 l,.int .i64 (-1)] 77|>.alloc #[.int .i64 0,.int .i64 o,.int .i64 l] 75).right.right⟩
        have m:(n== -1)=false:=by simpa using c6
        have a:Aside (Ah ⟨0,o,l,n⟩=false):=(by unfold Ah;simp;omega:_=_)
        haveI:=hs.i
        go_enter Tryz.func162,Tryz.ntmps162
        go_wp2_with (go_at_call 190;refine (b _).mono ?_;rintro e c ⟨rfl,rfl⟩)
        go_ret
        exact ⟨by rw[a.out];rfl,(hs.alloc #[.int .i64 0,.int .i64 o,.int .i64 l,.int .i64 n] 77|>.alloc #[.int .i64 0,.int .i64 o,.int .i64 l] 75).right.right⟩
       rw[decide_eq_false c5] at b
       have a:Aside (Ah ⟨0,o,l,n⟩=false):=(by unfold Ah;simp;omega:_=_)
       haveI:=hs.i
       go_enter Tryz.func162,Tryz.ntmps162
       go_wp2_with (go_at_call 190;refine (b _).mono ?_;rintro e c ⟨rfl,rfl⟩)
       go_ret
       exact ⟨by rw[a.out];rfl,(hs.alloc #[.int .i64 0,.int .i64 o,.int .i64 l,.int .i64 n] 77|>.alloc #[.int .i64 0,.int .i64 o,.int .i64 l] 75).right.right⟩
      have k:decide (l≤1048576)=false:=by simpa using c4
      have a:Aside (Ah ⟨0,o,l,n⟩=false):=(by unfold Ah;simp;omega:_=_)
      haveI:=hs.i
      go_enter Tryz.func162,Tryz.ntmps162
      go_wp2
      go_ret
      exact ⟨by rw[a.out];rfl,(hs.alloc #[.int .i64 0,.int .i64 o,.int .i64 l,.int .i64 n] 77|>.alloc #[.int .i64 0,.int .i64 o,.int .i64 l] 75).right.right⟩
     have j:decide (l≤16777216-o)=false:=by simpa using c3
     have a:Aside (Ah ⟨0,o,l,n⟩=false):=(by unfold Ah;simp;omega:_=_)
     haveI:=hs.i
     go_enter Tryz.func162,Tryz.ntmps162
     go_wp2
     go_ret
     exact ⟨by rw[a.out];rfl,(hs.alloc #[.int .i64 0,.int .i64 o,.int .i64 l,.int .i64 n] 77|>.alloc #[.int .i64 0,.int .i64 o,.int .i64 l] 75).right.right⟩
    have g:decide (1≤l)=false:=by simpa using c2
    have a:Aside (Ah ⟨0,o,l,n⟩=false):=(by unfold Ah;simp;omega:_=_)
    haveI:=hs.i
    go_enter Tryz.func162,Tryz.ntmps162
    go_wp2
    go_ret
    exact ⟨by rw[a.out];rfl,(hs.alloc #[.int .i64 0,.int .i64 o,.int .i64 l,.int .i64 n] 77|>.alloc #[.int .i64 0,.int .i64 o,.int .i64 l] 75).right.right⟩
   have f:decide (o≤16777216)=false:=by simpa using c1
   have a:Aside (Ah ⟨0,o,l,n⟩=false):=(by unfold Ah;simp;omega:_=_)
   haveI:=hs.i
   go_enter Tryz.func162,Tryz.ntmps162
   go_wp2
   go_ret
   exact ⟨by rw[a.out];rfl,(hs.alloc #[.int .i64 0,.int .i64 o,.int .i64 l,.int .i64 n] 77|>.alloc #[.int .i64 0,.int .i64 o,.int .i64 l] 75).right.right⟩
  have d:decide (0≤o)=false:=by simpa using c0
  have a:Aside (Ah ⟨0,o,l,n⟩=false):=(by unfold Ah;simp;omega:_=_)
  haveI:=hs.i
  go_enter Tryz.func162,Tryz.ntmps162
  go_wp2
  go_ret
  exact ⟨by rw[a.out];rfl,(hs.alloc #[.int .i64 0,.int .i64 o,.int .i64 l,.int .i64 n] 77|>.alloc #[.int .i64 0,.int .i64 o,.int .i64 l] 75).right.right⟩
 have e0:(s==0)=false:=by simpa using h0
 by_cases h1:s=1
 ·subst h1
  by_cases c0:0≤o
  ·have d : decide (0 ≤ o) = true := by simpa using c0
   by_cases c1:o≤16777216
   ·have f : decide (o ≤ 16777216) = true := by simpa using c1
    by_cases c2:1≤l
    ·have g:decide (1≤l)=true:=by simpa using c2
     by_cases c3:l≤16777216-o
     ·have j:decide (l≤16777216-o)=true:=by simpa using c3
      by_cases c4:l≤1048576
      ·have k:decide (l≤1048576)=true:=by simpa using c4
       have b:=fun w=>Jq n l w
       by_cases c5: -1≤n∧n≤l
       ·rw[decide_eq_true c5] at b
        have b:=fun w=>b w
        have a:Aside (Ah ⟨1,o,l,n⟩=true):=(by unfold Ah;simp;omega:_=_)
        haveI:=hs.i
        go_enter Tryz.func162,Tryz.ntmps162
        go_wp2_with (go_at_call 190;refine (b _).mono ?_;rintro e c ⟨rfl,rfl⟩)
        go_ret
        exact ⟨by rw[a.out];rfl,(hs.alloc #[.int .i64 1,.int .i64 o,.int .i64 l,.int .i64 n] 77|>.alloc #[.int .i64 1,.int .i64 o,.int .i64 l] 75).right.right⟩
       rw[decide_eq_false c5] at b
       have a:Aside (Ah ⟨1,o,l,n⟩=false):=(by unfold Ah;simp;omega:_=_)
       haveI:=hs.i
       go_enter Tryz.func162,Tryz.ntmps162
       go_wp2_with (go_at_call 190;refine (b _).mono ?_;rintro e c ⟨rfl,rfl⟩)
       go_ret
       exact ⟨by rw[a.out];rfl,(hs.alloc #[.int .i64 1,.int .i64 o,.int .i64 l,.int .i64 n] 77|>.alloc #[.int .i64 1,.int .i64 o,.int .i64 l] 75).right.right⟩
      have k:decide (l≤1048576)=false:=by simpa using c4
      have a:Aside (Ah ⟨1,o,l,n⟩=false):=(by unfold Ah;simp;omega:_=_)
      haveI:=hs.i
      go_enter Tryz.func162,Tryz.ntmps162
      go_wp2
      go_ret
      exact ⟨by rw[a.out];rfl,(hs.alloc #[.int .i64 1,.int .i64 o,.int .i64 l,.int .i64 n] 77|>.alloc #[.int .i64 1,.int .i64 o,.int .i64 l] 75).right.right⟩
     have j:decide (l≤16777216-o)=false:=by simpa using c3
     have a:Aside (Ah ⟨1,o,l,n⟩=false):=(by unfold Ah;simp;omega:_=_)
     haveI:=hs.i
     go_enter Tryz.func162,Tryz.ntmps162
     go_wp2
     go_ret
     exact ⟨by rw[a.out];rfl,(hs.alloc #[.int .i64 1,.int .i64 o,.int .i64 l,.int .i64 n] 77|>.alloc #[.int .i64 1,.int .i64 o,.int .i64 l] 75).right.right⟩
    have g:decide (1≤l)=false:=by simpa using c2
    have a:Aside (Ah ⟨1,o,l,n⟩=false):=(by unfold Ah;simp;omega:_=_)
    haveI:=hs.i
    go_enter Tryz.func162,Tryz.ntmps162
    go_wp2
    go_ret
    exact ⟨by rw[a.out];rfl,(hs.alloc #[.int .i64 1,.int .i64 o,.int .i64 l,.int .i64 n] 77|>.alloc #[.int .i64 1,.int .i64 o,.int .i64 l] 75).right.right⟩
   have f:decide (o≤16777216)=false:=by simpa using c1
   have a:Aside (Ah ⟨1,o,l,n⟩=false):=(by unfold Ah;simp;omega:_=_)
   haveI:=hs.i
   go_enter Tryz.func162,Tryz.ntmps162
   go_wp2
   go_ret
   exact ⟨by rw[a.out];rfl,(hs.alloc #[.int .i64 1,.int .i64 o,.int .i64 l,.int .i64 n] 77|>.alloc #[.int .i64 1,.int .i64 o,.int .i64 l] 75).right.right⟩
  have d:decide (0≤o)=false:=by simpa using c0
  have a:Aside (Ah ⟨1,o,l,n⟩=false):=(by unfold Ah;simp;omega:_=_)
  haveI:=hs.i
  go_enter Tryz.func162,Tryz.ntmps162
  go_wp2
  go_ret
  exact ⟨by rw[a.out];rfl,(hs.alloc #[.int .i64 1,.int .i64 o,.int .i64 l,.int .i64 n] 77|>.alloc #[.int .i64 1,.int .i64 o,.int .i64 l] 75).right.right⟩
 have p:(s==1)=false:=by simpa using h1
 have a:Aside (Ah ⟨s,o,l,n⟩=false):=(by unfold Ah;simp;omega:_=_)
 haveI:=hs.i
 go_enter Tryz.func162,Tryz.ntmps162
 go_wp2
 go_ret
 exact ⟨by rw[a.out];rfl,(hs.alloc #[.int .i64 s,.int .i64 o,.int .i64 l,.int .i64 n] 77|>.alloc #[.int .i64 s,.int .i64 o,.int .i64 l] 75).right.right⟩
theorem Pb(p b l s:Int)(F:Ab)(w:World)(hs:Sat F w):
 Calls Tryz.prog 163 #[mI ⟨p,b,l,s⟩] w fun e d=>e= .returned (.bool (AE ⟨p,b,l,s⟩))∧Sat F d:=by
 have c:=fun w=>Jq l b w
 by_cases c0:1≤p
 ·have f : decide (1 ≤ p) = true := by simpa using c0
  by_cases c1:p<1048576
  ·have g : decide (p < 1048576) = true := by simpa using c1
   by_cases c2:1≤b
   ·have j : decide (1 ≤ b) = true := by simpa using c2
    by_cases c3:b≤1048576
    ·have k:decide (b≤1048576)=true:=by simpa using c3
     by_cases c5: -1≤l∧l≤b
     ·rw [decide_eq_true c5] at c
      by_cases c6:1≤s
      ·have m:decide (1≤s)=true:=by simpa using c6
       by_cases c7:s≤b
       ·have n:decide (s≤b)=true:=by simpa using c7
        have a:Aside (AE ⟨p,b,l,s⟩=true):=(by unfold AE;simp;omega:_=_)
        haveI:=hs.i
        go_enter Tryz.func163,Tryz.ntmps163
        go_wp2_with (go_at_call 190;refine (c _).mono ?_;rintro e d ⟨rfl,rfl⟩)
        go_ret
        exact ⟨by rw[a.out];rfl,(hs.alloc #[.int .i64 p,.int .i64 b,.int .i64 l,.int .i64 s] 141).right⟩
       have n:decide (s≤b)=false:=by simpa using c7
       have a:Aside (AE ⟨p,b,l,s⟩=false):=(by unfold AE;simp;omega:_=_)
       haveI:=hs.i
       go_enter Tryz.func163,Tryz.ntmps163
       go_wp2_with (go_at_call 190;refine (c _).mono ?_;rintro e d ⟨rfl,rfl⟩)
       go_ret
       exact ⟨by rw[a.out];rfl,(hs.alloc #[.int .i64 p,.int .i64 b,.int .i64 l,.int .i64 s] 141).right⟩
      have m:decide (1≤s)=false:=by simpa using c6
      have a:Aside (AE ⟨p,b,l,s⟩=false):=(by unfold AE;simp;omega:_=_)
      haveI:=hs.i
      go_enter Tryz.func163,Tryz.ntmps163
      go_wp2_with (go_at_call 190;refine (c _).mono ?_;rintro e d ⟨rfl,rfl⟩)
      go_ret
      exact ⟨by rw[a.out];rfl,(hs.alloc #[.int .i64 p,.int .i64 b,.int .i64 l,.int .i64 s] 141).right⟩
     rw[decide_eq_false c5] at c
     have a:Aside (AE ⟨p,b,l,s⟩=false):=(by unfold AE;simp;omega:_=_)
     haveI:=hs.i
     go_enter Tryz.func163,Tryz.ntmps163
     go_wp2_with (go_at_call 190;refine (c _).mono ?_;rintro e d ⟨rfl,rfl⟩)
     go_ret
     exact ⟨by rw[a.out];rfl,(hs.alloc #[.int .i64 p,.int .i64 b,.int .i64 l,.int .i64 s] 141).right⟩
    have k:decide (b≤1048576)=false:=by simpa using c3
    have a:Aside (AE ⟨p,b,l,s⟩=false):=(by unfold AE;simp;omega:_=_)
    haveI:=hs.i
    go_enter Tryz.func163,Tryz.ntmps163
    go_wp2
    go_ret
    exact ⟨by rw[a.out];rfl,(hs.alloc #[.int .i64 p,.int .i64 b,.int .i64 l,.int .i64 s] 141).right⟩
   have j:decide (1≤b)=false:=by simpa using c2
   have a:Aside (AE ⟨p,b,l,s⟩=false):=(by unfold AE;simp;omega:_=_)
   haveI:=hs.i
   go_enter Tryz.func163,Tryz.ntmps163
   go_wp2
   go_ret
   exact ⟨by rw[a.out];rfl,(hs.alloc #[.int .i64 p,.int .i64 b,.int .i64 l,.int .i64 s] 141).right⟩
  have g:decide (p<1048576)=false:=by simpa using c1
  have a:Aside (AE ⟨p,b,l,s⟩=false):=(by unfold AE;simp;omega:_=_)
  haveI:=hs.i
  go_enter Tryz.func163,Tryz.ntmps163
  go_wp2
  go_ret
  exact ⟨by rw[a.out];rfl,(hs.alloc #[.int .i64 p,.int .i64 b,.int .i64 l,.int .i64 s] 141).right⟩
 have f:decide (1≤p)=false:=by simpa using c0
 have a:Aside (AE ⟨p,b,l,s⟩=false):=(by unfold AE;simp;omega:_=_)
 haveI:=hs.i
 go_enter Tryz.func163,Tryz.ntmps163
 go_wp2
 go_ret
 exact ⟨by rw[a.out];rfl,(hs.alloc #[.int .i64 p,.int .i64 b,.int .i64 l,.int .i64 s] 141).right⟩
abbrev AK:TypeId:=77
abbrev Lh:TypeId:=141
abbrev Cy:TypeId:=32
def AQ(l:List Av):List Value:=l.flatMap Dq
def Hd(l:List Kd):List Value:=l.flatMap Qe
abbrev A1(B:Ab)(v:Value)(l:List Av):Prop:=Ai 4 B v l.length (AQ l)
abbrev BE(B:Ab)(v:Value)(l:List Kd):Prop:=Ai 4 B v l.length (Hd l)
def AN(B:Ab)(v:Value)(n:Nd):Prop:= ∃a vK,v= .agg #[.bool n.leaf,a,vK]∧A1 B a n.Ag∧BE B vK n.kids
theorem BH{B:Ab}{a:Option Addr}{c:Nat}{l:List Av}(h:A1 B (.slice a l.length c) l){i:Nat}{x:Av}(hi:l[i]?=some x):
 ∃b o,a=some ⟨b,o,none⟩∧Mn B b (o+i*4) (.int .i64 x.src)∧Mn B b (o+i*4+1) (.int .i64 x.pos)∧Mn B b (o+i*4+2) (.int .i64 x.len)∧Mn B b (o+i*4+3) (.int .i64 x.lines):=by
 obtain ⟨b,o,e,r⟩:=Ai.row (f:=Dq) (fun _=>rfl) (by omega) h hi
 exact ⟨b,o,e,r 0 _ rfl,r 1 _ rfl,r 2 _ rfl,r 3 _ rfl⟩
theorem Cp{B:Ab}{a:Option Addr}{c:Nat}{l:List Kd}(h:BE B (.slice a l.length c) l){i:Nat}{x:Kd}(hi:l[i]?=some x):
 ∃b o,a=some ⟨b,o,none⟩∧Mn B b (o+i*4) (.int .i64 x.Au)∧Mn B b (o+i*4+1) (.int .i64 x.bytes)∧Mn B b (o+i*4+2) (.int .i64 x.lines)∧Mn B b (o+i*4+3) (.int .i64 x.AA):=by
 obtain ⟨b,o,e,r⟩:=Ai.row (f:=Qe) (fun _=>rfl) (by omega) h hi
 exact ⟨b,o,e,r 0 _ rfl,r 1 _ rfl,r 2 _ rfl,r 3 _ rfl⟩
theorem BZ{l:List Av}{i:Nat}{x:Av}(h:l[i]?=some x):Aa (l.take (i+1))=Aa (l.take i)+x.len:=by
 rw[AB h];simp[Aa]
theorem GD{l:List Kd}{i:Nat}{x:Kd}(h:l[i]?=some x):Bc (l.take (i+1))=Bc (l.take i)+x.bytes:=by
 rw[AB h];simp[Bc]
theorem FK{l:List Kd}{i:Nat}{x:Kd}(h:l[i]?=some x):Bj (l.take (i+1))=Bj (l.take i)+x.AA:=by
 rw[AB h];simp[Bj]
theorem Ca{x:Av}(h:Ah x=true):1≤x.len∧x.len≤1048576:=by
 unfold Ah at h
 simp only[decide_eq_true_eq] at h
 exact ⟨h.2.2.2.1,h.2.2.2.2.2.1⟩
theorem Nt{x:Kd}(h:AE x=true):1≤x.bytes∧x.bytes≤1048576∧1≤x.AA∧x.AA≤x.bytes:=by
 unfold AE at h
 simp only[decide_eq_true_eq] at h
 exact ⟨h.2.2.1,h.2.2.2.1,h.2.2.2.2.2.1,h.2.2.2.2.2.2⟩
theorem Gi{n:Nd}{x:Av}(hx:x∈n.Ag)(h:n.leaf=false∨Ah x=false):may n=false:=by
 unfold may
 rw[if_pos (List.any_eq_true.2 ⟨x,hx,by rcases h with h|h<;>simp[h]⟩)]
theorem Hw{n:Nd}{x:Kd}(hx:x∈n.kids)(h:n.leaf=true∨AE x=false):may n=false:=by
 unfold may
 split
 ·rfl
 rw[if_pos (List.any_eq_true.2 ⟨x,hx,by rcases h with h|h<;>simp[h]⟩)]
theorem Hx{n:Nd}(h1: ∀x∈n.Ag,n.leaf=true∧Ah x=true)(a: ∀x∈n.kids,n.leaf=false∧AE x=true):
 may n=decide ((if n.leaf then 1 else 2)≤(if n.leaf then n.Ag.length else n.kids.length)∧(if n.leaf then n.Ag.length else n.kids.length)≤12∧Aa n.Ag+Bc n.kids≤1048576∧Bj n.kids≤1024):=by
 unfold may
 rw[if_neg (by simp only[List.any_eq_true];rintro ⟨x,hx,h⟩;have:=h1 x hx;simp[this.1,this.2] at h),if_neg (by simp only[List.any_eq_true];rintro ⟨x,hx,h⟩;have:=a x hx;simp[this.1,this.2] at h)]
theorem LB(n:Nd)(v:Value)(B F:Ab)(w:World)(hN:AN B v n)(hs:Sat (B*F) w)(ac:n.Ag.length≤4294967296)(ad:n.kids.length≤4294967296):
 Calls Tryz.prog 133 #[v] w fun e P=>e= .returned (.bool (may n))∧Sat (B*F) P:=by
 obtain ⟨vE,vK,rfl,W,X⟩:=hN
 obtain ⟨aE,cE,rfl,a7,a8⟩:=W.v
 obtain ⟨aK,cK,rfl,a9,aa⟩:=X.v
 have HE:=As W
 have HK:=As X
 obtain ⟨m,H⟩:=Aq (may n)
 have K:=As H
 rw[H]
 obtain ⟨lf,D⟩:=Aq n.leaf
 have J:=As D
 rw[D]
 clear W X H D
 haveI:=hs.i
 go_enter Tryz.func133,Tryz.ntmps133
 go_wp2
 go_loopg [3,14] n.Ag.length (fun g t3 Z wr=> ∃(i:Nat)(d:Int),Z= .int .i64 i∧t3= .int .i64 d∧i≤n.Ag.length∧0≤d∧d≤i*1048576∧Aside (g=n.Ag.length-i∧d=Aa (n.Ag.take i)∧(∀x∈n.Ag.take i,lf=true∧Ah x=true))∧
  Sat (Sl.block w.heap.size Cy [.bool lf,.slice aE n.Ag.length cE,.slice aK n.kids.length cK]*(B*F)) wr)
 case atStart=>exact ⟨0,0,rfl,rfl,by omega,by omega,by omega,⟨rfl,by simp[Aa],by simp⟩,ES⟩
 obtain ⟨i,d,rfl,rfl,hi,a6,ag,A,O⟩:=hrel
 haveI:=O.i
 by_cases G:i<n.Ag.length
 · have q:(i:Int)<n.Ag.length:=by omega
   obtain ⟨x,hx⟩: ∃x,n.Ag[i]?=some x:=⟨_,List.getElem?_eq_getElem G⟩
   obtain ⟨b,o,rfl,r1,r2,r3,r4⟩:=BH HE.out hx
   have r:=As hx
   obtain ⟨I,s,t,u⟩:=x
   clear hs hx
   cases lf with
   | false =>
    have c:Aside (m=false):=(by rw[←K.out];exact Gi (List.mem_of_getElem? r.out) (.inl J.out):_=_)
    go_wp2
    go_ret
    exact ⟨by rw[c.out];rfl,Ar B F⟩
   | true =>
    cases hm:Ah ⟨I,s,t,u⟩ with
    | false =>
     have c:Aside (m=false):=(by rw[←K.out];exact Gi (List.mem_of_getElem? r.out) (.inr hm):_=_)
     have p:=fun F w h=>Pa I s t u F w h
     rw[hm] at p
     clear hm
     go_wp2_with (go_at_call 162;refine (p _ _ ES).mono ?_;rintro e P ⟨rfl,l⟩;haveI:=l.i)
     go_ret
     exact ⟨by rw[c.out];rfl,Ar B F⟩
    | true =>
     have Q:=As hm
     have p:=fun F w h=>Pa I s t u F w h
     rw[hm] at p
     have hb:=Ca hm
     simp only at hb
     clear hm
     go_wp2_with (go_at_call 162;refine (p _ _ ES).mono ?_;rintro e P ⟨rfl,l⟩;haveI:=l.i)
     go_roundg (n.Ag.length-(i+1))
     case measure=>have:=A.out.1;omega
     refine ⟨i+1,d+t,by go_num,rfl,by omega,by omega,by omega,⟨rfl,?_,?_⟩,?_⟩
     ·rw[BZ r.out,A.out.2.1]
     ·rw[AB r.out]
      intro y hy
      rcases List.mem_append.1 hy with hy|hy
      ·exact A.out.2.2 y hy
      simp at hy;subst hy;exact ⟨trivial,Q.out⟩
     exact AD _ B F
 have q: ¬(i:Int)<n.Ag.length:=by omega
 have L:n.Ag.take i=n.Ag:=List.take_of_length_le (by omega)
 have z:Aside (d=Aa n.Ag∧ ∀x∈n.Ag,lf=true∧Ah x=true):=(by have:=A.out.2;rw[L] at this;exact this:_∧_)
 clear A L hs HE
 go_wp2
 go_loopg [3,4,35] n.kids.length (fun g t3 t4 a1 wq=> ∃(j:Nat)(f k:Int),a1= .int .i64 j∧t3= .int .i64 (d+f)∧t4= .int .i64 k∧j≤n.kids.length∧0≤f∧f≤j*1048576∧0≤k∧k≤j*1048576∧Aside (g=n.kids.length-j∧f=Bc (n.kids.take j)∧k=Bj (n.kids.take j)∧(∀x∈n.kids.take j,lf=false∧AE x=true))∧
  Sat (Sl.block w.heap.size Cy [.bool lf,.slice aE n.Ag.length cE,.slice aK n.kids.length cK]*(B*F)) wq)
 case atStart=>exact ⟨0,0,0,rfl,by simp,rfl,by omega,by omega,by omega,by omega,by omega,⟨rfl,by simp[Bc],by simp[Bj],by simp⟩,ES⟩
 obtain ⟨j,f,k,rfl,rfl,rfl,hj,mF,hk,ae,af,A,Y⟩:=hrel
 clear O
 haveI:=Y.i
 by_cases G:j<n.kids.length
 · have q:(j:Int)<n.kids.length:=by omega
   obtain ⟨x,hx⟩: ∃x,n.kids[j]?=some x:=⟨_,List.getElem?_eq_getElem G⟩
   obtain ⟨b,o,rfl,r1,r2,r3,r4⟩:=Cp HK.out hx
   have r:=As hx
   obtain ⟨I,s,t,u⟩:=x
   clear hx
   cases lf with
   | true =>
    have c:Aside (m=false):=(by rw[←K.out];exact Hw (List.mem_of_getElem? r.out) (.inl J.out):_=_)
    go_wp2
    go_ret
    exact ⟨by rw[c.out];rfl,Ar B F⟩
   | false =>
    cases hm:AE ⟨I,s,t,u⟩ with
    | false =>
     have c:Aside (m=false):=(by rw[←K.out];exact Hw (List.mem_of_getElem? r.out) (.inr hm):_=_)
     have p:=fun F w h=>Pb I s t u F w h
     rw[hm] at p
     clear hm
     go_wp2_with (go_at_call 163;refine (p _ _ ES).mono ?_;rintro e P ⟨rfl,l⟩;haveI:=l.i)
     go_ret
     exact ⟨by rw[c.out];rfl,Ar B F⟩
    | true =>
     have Q:=As hm
     have p:=fun F w h=>Pb I s t u F w h
     rw[hm] at p
     have hb:=Nt hm
     simp only at hb
     clear hm
     go_wp2_with (go_at_call 163;refine (p _ _ ES).mono ?_;rintro e P ⟨rfl,l⟩;haveI:=l.i)
     go_roundg (n.kids.length-(j+1))
     case measure=>have:=A.out.1;omega
     refine ⟨j+1,f+s,k+u,by go_num,by go_num,rfl,by omega,by omega,by omega,by omega,by omega,⟨rfl,?_,?_,?_⟩,?_⟩
     ·rw[GD r.out,A.out.2.1]
     ·rw[FK r.out,A.out.2.2.1]
     ·rw[AB r.out]
      intro y hy
      rcases List.mem_append.1 hy with hy|hy
      ·exact A.out.2.2.2 y hy
      simp at hy;subst hy;exact ⟨trivial,Q.out⟩
     exact AD _ B F
 have q: ¬(j:Int)<n.kids.length:=by omega
 have M:n.kids.take j=n.kids:=List.take_of_length_le (by omega)
 have c:Aside (m=decide ((if lf then 1 else 2)≤(if lf then n.Ag.length else n.kids.length)∧(if lf then n.Ag.length else n.kids.length)≤12∧d+f≤1048576∧k≤1024)):=(by
  have h1:=A.out.2
  rw[M] at h1
  rw[←K.out,z.out.1,h1.1,h1.2.1,←J.out]
  exact Hx (by rw[J.out];exact z.out.2) (by rw[J.out];exact h1.2.2):_=_)
 clear A M HK z
 cases lf with
 | true =>
   simp only[if_true,Bool.false_eq_true,if_false] at c
   by_cases c0:1≤n.Ag.length
   ·have R:decide ((1:Int)≤n.Ag.length)=true:=by simpa using (by omega:(1:Int)≤n.Ag.length)
    by_cases c1:n.Ag.length≤12
    ·have T:decide ((n.Ag.length:Int)≤12)=true:=by simpa using (by omega:(n.Ag.length:Int)≤12)
     by_cases c2:d+f≤1048576
     ·have U:decide (d+f≤1048576)=true:=by simpa using (by omega:d+f≤1048576)
      by_cases c3:k≤1024
      ·have V:decide (k≤1024)=true:=by simpa using (by omega:k≤1024)
       have a:Aside (m=true):=(by rw[c.out];exact decide_eq_true ⟨c0,c1,c2,c3⟩:_=_)
       clear c c0 c1 c2 c3
       go_wp2_with fail
       go_quiet (fail)
       go_wp2_with fail
       go_quiet (fail)
       go_wp2
       go_ret
       exact ⟨by rw[a.out];rfl,Ar B F⟩
      have V:decide (k≤1024)=false:=by simpa using (by omega: ¬k≤1024)
      have a:Aside (m=false):=(by rw[c.out];exact decide_eq_false (fun h=>c3 h.2.2.2):_=_)
      clear c c0 c1 c2 c3
      go_wp2_with fail
      go_quiet (fail)
      go_wp2_with fail
      go_quiet (fail)
      go_wp2
      go_ret
      exact ⟨by rw[a.out];rfl,Ar B F⟩
     have U:decide (d+f≤1048576)=false:=by simpa using (by omega: ¬d+f≤1048576)
     have a:Aside (m=false):=(by rw[c.out];exact decide_eq_false (fun h=>c2 h.2.2.1):_=_)
     clear c c0 c1 c2
     go_wp2_with fail
     go_quiet (fail)
     go_wp2_with fail
     go_quiet (fail)
     go_wp2
     go_ret
     exact ⟨by rw[a.out];rfl,Ar B F⟩
    have T:decide ((n.Ag.length:Int)≤12)=false:=by simpa using (by omega: ¬(n.Ag.length:Int)≤12)
    have a:Aside (m=false):=(by rw[c.out];exact decide_eq_false (fun h=>c1 h.2.1):_=_)
    clear c c0 c1
    go_wp2_with fail
    go_quiet (fail)
    go_wp2_with fail
    go_quiet (fail)
    go_wp2
    go_ret
    exact ⟨by rw[a.out];rfl,Ar B F⟩
   have R:decide ((1:Int)≤n.Ag.length)=false:=by simpa using (by omega: ¬(1:Int)≤n.Ag.length)
   have a:Aside (m=false):=(by rw[c.out];exact decide_eq_false (fun h=>c0 h.1):_=_)
   clear c c0
   go_wp2_with fail
   go_quiet (fail)
   go_wp2_with fail
   go_quiet (fail)
   go_wp2
   go_ret
   exact ⟨by rw[a.out];rfl,Ar B F⟩
 | false =>
   simp only[if_true,Bool.false_eq_true,if_false] at c
   by_cases c0:2≤n.kids.length
   ·have R:decide ((2:Int)≤n.kids.length)=true:=by simpa using (by omega:(2:Int)≤n.kids.length)
    by_cases c1:n.kids.length≤12
    ·have T:decide ((n.kids.length:Int)≤12)=true:=by simpa using (by omega:(n.kids.length:Int)≤12)
     by_cases c2:d+f≤1048576
     ·have U:decide (d+f≤1048576)=true:=by simpa using (by omega:d+f≤1048576)
      by_cases c3:k≤1024
      ·have V:decide (k≤1024)=true:=by simpa using (by omega:k≤1024)
       have a:Aside (m=true):=(by rw[c.out];exact decide_eq_true ⟨c0,c1,c2,c3⟩:_=_)
       clear c c0 c1 c2 c3
       go_wp2_with fail
       go_quiet (fail)
       go_wp2
       go_ret
       exact ⟨by rw[a.out];rfl,Ar B F⟩
      have V:decide (k≤1024)=false:=by simpa using (by omega: ¬k≤1024)
      have a:Aside (m=false):=(by rw[c.out];exact decide_eq_false (fun h=>c3 h.2.2.2):_=_)
      clear c c0 c1 c2 c3
      go_wp2_with fail
      go_quiet (fail)
      go_wp2
      go_ret
      exact ⟨by rw[a.out];rfl,Ar B F⟩
     have U:decide (d+f≤1048576)=false:=by simpa using (by omega: ¬d+f≤1048576)
     have a:Aside (m=false):=(by rw[c.out];exact decide_eq_false (fun h=>c2 h.2.2.1):_=_)
     clear c c0 c1 c2
     go_wp2_with fail
     go_quiet (fail)
     go_wp2
     go_ret
     exact ⟨by rw[a.out];rfl,Ar B F⟩
    have T:decide ((n.kids.length:Int)≤12)=false:=by simpa using (by omega: ¬(n.kids.length:Int)≤12)
    have a:Aside (m=false):=(by rw[c.out];exact decide_eq_false (fun h=>c1 h.2.1):_=_)
    clear c c0 c1
    go_wp2_with fail
    go_quiet (fail)
    go_wp2
    go_ret
    exact ⟨by rw[a.out];rfl,Ar B F⟩
   have R:decide ((2:Int)≤n.kids.length)=false:=by simpa using (by omega: ¬(2:Int)≤n.kids.length)
   have a:Aside (m=false):=(by rw[c.out];exact decide_eq_false (fun h=>c0 h.1):_=_)
   clear c c0
   go_wp2_with fail
   go_quiet (fail)
   go_wp2
   go_ret
   exact ⟨by rw[a.out];rfl,Ar B F⟩
