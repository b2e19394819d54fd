/- treeFails holds for every input. No condition. (part 19) -/
import Derived.Test.YtfhbmblbidcmmaaGreatYa18
import Derived.Test.YtfhbmblbidcmmaaGreatYa8
set_option linter.all false
set_option maxRecDepth 100000
set_option maxHeartbeats 3200000
namespace Go.Proofs.YtfhbmblbidcmmaaGreat
open Go.RowKit Go.Sl Go.Dk Go.Tr
theorem Xo{g e:Nat}{b d:Value}{l1 l2:List UInt8}{B F:Ac}{w:World}(f:Reads B b l1)(j:Reads B d l2)(hs:Sat (block g e [b,d]*(B*F)) w):TR w (.slice (some ⟨g,0,none⟩) 2 2) [l1,l2]:=by
 refine ⟨some ⟨g,0,none⟩,2,rfl,by simp,fun i l hl=>?_⟩
 have hb:=hs.take B
 have a:=hs
 simp only[block,Sl.cells,Bd] at a
 match i,hl with
 |0,hl=>cases hl;exact ⟨g,0,b,rfl,a.c g 0,f _ _ hb⟩
 |1,hl=>cases hl;exact ⟨g,0,d,rfl,a.c g 1,j _ _ hb⟩
 |i+2,hl=>cases hl
theorem Qb(no:Int)(v:Value)(b:List UInt8)(B F:Ac)(w:World)(hB:Reads B v b)(hs:Sat (B*F) w)(cm:b.length≤1099511627776):
 Calls Tryz.prog 159 #[.int .i64 no,v] w fun e w'=> ∃a c,e= .returned (.tuple #[.int .i64 (BM no b).1,.slice a (BM no b).2.1.length c,.int .i64 (BM no b).2.2])∧Sat (rw TB 1 (.slice a (BM no b).2.1.length c) (A4 (BM no b).2.1)*(B*F)) w':=by
 obtain ⟨i0,E⟩:=Ez
 obtain ⟨u,j,rfl,bt,co⟩:=(hB F w hs).len
 obtain ⟨⟨U,Q,T⟩,d⟩: ∃r,BM no b=r:=⟨_,rfl⟩
 rw[d]
 unfold BM at d
 by_cases L:no<0∨1048576≤no
 · rw[if_pos L] at d
   obtain ⟨rfl,rfl,rfl⟩:U=0∧Q= []∧T=1:=by simpa[eq_comm] using d
   clear d
   by_cases g1:no<0
   · have bj:decide (no<0)=true:=by simpa using g1
     go_enter Tryz.func159,Tryz.ntmps159
     go_wp2
     go_ret3
     exact ⟨none,0,rfl,by simpa[A4] using hs.Bj⟩
   have bj:decide (no<0)=false:=by simpa using g1
   have g2:1048576≤no:=by omega
   go_enter Tryz.func159,Tryz.ntmps159
   go_wp2
   go_ret3
   exact ⟨none,0,rfl,by simpa[A4] using hs.Bj⟩
 rw[if_neg L] at d
 obtain ⟨no,rfl⟩:=Int.eq_ofNat_of_zero_le (show 0≤no by omega)
 have g2: ¬(1048576:Int)≤no:=by omega
 by_cases G:b.length≠256
 · rw[if_pos G] at d
   obtain ⟨rfl,rfl,rfl⟩:U=0∧Q= []∧T=3:=by simpa[eq_comm] using d
   have cn:((b.length:Int) !=256)=true:=by simp;omega
   clear d L
   go_enter Tryz.func159,Tryz.ntmps159
   go_wp2
   go_ret3
   exact ⟨none,0,rfl,by simpa[A4] using hs.Bj⟩
 have o:b.length=256:=by omega
 rw[if_neg G] at d
 rw[o] at hB bt⊢
 have HB:Aside (Reads B (.slice u 256 j) b):=hB
 have J:Aside (b.length=256):=o
 have r1:Reads B (.slice (BP u j 8 1) 4 (j-8)) ((b.drop 8).take 4):=fun F w h=>(hB F w h).cut 8 12 (by omega) (by omega)
 have r2:Reads B (.slice (BP u j 0 1) 8 j) (b.take 8):=Reads.to hB 8 (by omega)
 have r3:Reads B (.slice (BP u j 12 1) 244 (j-12)) (b.drop 12):=Reads.from hB 12 (by omega)
 have ac:=OR _ _ w (r1 F w hs) (by simp;omega) (by simp;omega)
 have bn: ∀w,(Instr.sliceAt 26 (.slice u 256 j) (some (.int .i64 8)) (some (.int .i64 12)) none).run Tryz.prog w= .ok (.slice (BP u j 8 1) 4 (j-8)) w:=fun w=>MA E 8 12 (by omega) (by omega) w
 have bo: ∀w,(Instr.sliceAt 26 (.slice u 256 j) none (some (.int .i64 8)) none).run Tryz.prog w= .ok (.slice (BP u j 0 1) 8 j) w:=fun w=>LP E 8 (by omega) w
 have bp: ∀w,(Instr.sliceAt 26 (.slice u 256 j) (some (.int .i64 12)) none none).run Tryz.prog w= .ok (.slice (BP u j 12 1) 244 (j-12)) w:=fun w=>Gb E 12 (by omega) w
 have a9:=S7 (b.take 8++b.drop 12)
 have a2:Aside (∀(g e:Nat)(F:Ac)(w:World),Sat (block g e [.slice (BP u j 0 1) 8 j,.slice (BP u j 12 1) 244 (j-12)]*(B*F)) w→Calls Tryz.prog 183 #[.slice (some ⟨g,0,none⟩) 2 2] w fun e w'=>e= .returned (.int .u32 (Wp (b.take 8++b.drop 12):Nat))∧w=w'):=fun g e F w h=>by
  have:=O6 _ _ w (Xo r2 r3 h)
  simpa using this
 obtain ⟨cr,W⟩: ∃z,Wp (b.take 8++b.drop 12)=z:=⟨_,rfl⟩
 obtain ⟨su,Z⟩: ∃z,EI ((b.drop 8).take 4)=z:=⟨_,rfl⟩
 rw[W] at a9 a2 d
 rw[Z] at ac d
 have HZ:Aside _:=d
 clear d r1 r2 r3 W Z L G o hB
 haveI:=hs.i
 go_enter Tryz.func159,Tryz.ntmps159
 go_wp2_with fail
 refine ac.mono ?_
 rintro e w1 ⟨rfl,rfl⟩
 clear ac
 go_upto_region 6 with (fail)
 have bu:IntKind.i64.wrap (cr:Int)=cr:=IntWalk.i64_in _ (by omega)
 obtain ⟨bz,aq⟩: ∃q:Bool,((su:Int) !=(cr:Int))=q:=⟨_,rfl⟩
 have x:Aside (((su:Int) !=(cr:Int))=bz):=aq
 clear aq
 go_cut [38] (fun bw wx=>bw= .bool bz∧Sat (B*F) wx)
 case first=>
  go_region_law first
   |(go_simp;go_at_call 183;refine (a2.out w.heap.size _ _ _ (Es:Sat (block w.heap.size _ _*(B*F)) _)).mono ?_;rintro e w3 ⟨rfl,rfl⟩)
  all_goals
   go_wp2_with fail
   go_meet
   exact ⟨by rw[x.out],Br (C:=block w.heap.size _ _) (Fu _ _)⟩
 obtain ⟨rfl,af⟩:=hcut
 clear hs bu a2 bn bo bp this
 have d:=HZ.out
 by_cases P:su≠cr
 · rw[if_pos P] at d
   obtain ⟨rfl,rfl,rfl⟩:U=0∧Q= []∧T=5:=by simpa[eq_comm] using d
   obtain rfl:bz=true:=by rw[←x.out];simp;omega
   clear d HZ P a9 x
   go_wp2
   go_ret3
   exact ⟨none,0,rfl,by simpa[A4] using af.Bj⟩
 rw[if_neg P] at d
 obtain rfl:bz=false:=by rw[←x.out];simp;omega
 have ab:=J.out
 have ax:=GF _ b B F _ HB.out af (by omega)
 have ak:Aside _:=d
 clear d HZ P ab a9 x
 go_wp2_with fail
 refine ax.mono ?_
 rintro e w2 ⟨R,p,s,rfl,ay⟩
 clear ax af
 have ab:=J.out
 have h3:=DF R p s b 0 1 _ w2 ay (by omega) (by omega) (by omega) (by omega)
 have h4:=fun w h=>NF R p s b 1 1 (B*F) w h (by omega) (by omega)
 clear ab
 rw[List.drop_zero,Nat.zero_add] at h3
 go_wp2_with fail
 refine h3.mono ?_
 rintro e w3 ⟨rfl,M⟩
 clear h3 ay
 have D:=J.out
 have ar:=Z9 (b.take 1)
 have br:EI (b.take 1)<256:=by
  have:(b.take 1).length=1:=by simp;omega
  rw[this] at ar;omega
 obtain ⟨l,aa⟩: ∃q,EI (b.take 1)=q:=⟨_,rfl⟩
 rw[aa] at br⊢
 have d:=ak.out
 rw[aa] at d
 obtain ⟨bq,a8⟩: ∃q:Bool,((b.drop 1).take 1).any (· !=0)=q:=⟨_,rfl⟩
 rw[a8] at h4
 have t:(b.drop 1).take 1≠ [0]↔bq=true:=by
  have bs:((b.drop 1).take 1).length=1:=by simp;omega
  obtain ⟨y,hy⟩: ∃y,(b.drop 1).take 1= [y]:=List.length_eq_one_iff.1 bs
  rw[←a8,hy]
  simp
 clear ak ar aa a8
 cases bq with
 | true =>
   rw[if_pos (.inl (t.2 rfl))] at d
   obtain ⟨rfl,rfl,rfl⟩:U=0∧Q= []∧T=4:=by simpa[eq_comm] using d
   have h5:=fun w h=>DF R p s b 1 2 (B*F) w h (by omega) (by omega) (by omega) (by omega)
   have h6:=fun w h=>DF R p s b (1+2) 4 (B*F) w h (by omega) (by omega) (by omega) (by omega)
   obtain ⟨n5,au⟩: ∃q,EI ((b.drop 1).take 2)=q:=⟨_,rfl⟩
   obtain ⟨n6,av⟩: ∃q,EI ((b.drop (1+2)).take 4)=q:=⟨_,rfl⟩
   rw[au] at h5
   rw[av] at h6
   clear d t au av D
   have H4:=h4 w3 M
   simp only[if_true] at H4
   clear h4
   go_wp2_with fail
   refine H4.mono ?_
   rintro e w4 ⟨rfl,H⟩
   have H5:=h5 w4 H
   clear H4 M h5
   go_wp2_with fail
   refine H5.mono ?_
   rintro e w5 ⟨rfl,O⟩
   have H6:=h6 w5 O
   clear H5 H h6
   go_wp2_with fail
   refine H6.mono ?_
   rintro e w6 ⟨rfl,I⟩
   go_wp2
   go_ret3
   exact ⟨none,0,rfl,by simpa[A4] using (Sat.right I).Bj⟩
 | false =>
   have aw: ¬((b.drop 1).take 1≠ [0]):=fun h=>by have:=t.1 h;cases this
   have h5:=fun w h=>DF R p s b 2 2 (B*F) w h (by omega) (by omega) (by omega) (by omega)
   have h6:=fun w h=>DF R p s b (2+2) 4 (B*F) w h (by omega) (by omega) (by omega) (by omega)
   obtain ⟨f,ad⟩: ∃q,EI ((b.drop 2).take 2)=q:=⟨_,rfl⟩
   obtain ⟨ow,ae⟩: ∃q,EI ((b.drop 4).take 4)=q:=⟨_,rfl⟩
   rw[ad] at h5 d
   rw[show 2+2=4 from rfl,ae] at h6
   rw[ae] at d
   have H4:=h4 w3 M
   simp only[Bool.false_eq_true,if_false] at H4
   obtain ⟨V,ap⟩: ∃q:Bool,decide (l<1∨9<l∨244<f∨ow≠no)=q:=⟨_,rfl⟩
   have n:Aside (decide (l<1∨9<l∨244<f∨ow≠no)=V):=ap
   have a3:Aside ((if l<1∨9<l∨244<f∨ow≠no then (0,[],4) else if (b.drop (12+f)).any (· !=0) then (0,[],4) else ((l:Int),(b.drop 12).take f,0))=(U,Q,T)):=(by
    rw[←d]
    by_cases m:l<1∨9<l∨244<f∨ow≠no
    · rw[if_pos m,if_pos (.inr (by omega))]
    have bm: ¬((b.drop 1).take 1≠ [0]∨l<1∨9<l∨244<f∨(ow:Int)≠(no:Int)):=by
     rintro (h|h)
     · exact aw h
     omega
    rw[if_neg m,if_neg bm]:_=_)
   clear d t ad ae D h4 ap aw
   go_wp2_with fail
   refine H4.mono ?_
   rintro e w4 ⟨rfl,H⟩
   have H5:=h5 w4 H
   clear H4 M h5
   go_wp2_with fail
   refine H5.mono ?_
   rintro e w5 ⟨rfl,O⟩
   have H6:=h6 w5 O
   clear H5 H h6
   go_wp2_with fail
   refine H6.mono ?_
   rintro e w6 ⟨rfl,I⟩
   clear H6 O
   go_upto_region 13 with (fail)
   go_cut [76] (fun bx wx=>bx= .bool V∧w6=wx)
   case first=>
    by_cases c1:l<1
    · have k:Aside (V=true):=(by rw[←n.out];simp[c1]:_=_)
      have bc:decide ((l:Int)<1)=true:=by simp;omega
      clear c1
      go_wp2_with fail
      go_meet
      exact ⟨by rw[k.out],rfl⟩
    have bc:decide ((l:Int)<1)=false:=by simp;omega
    by_cases c2:9<l
    · have k:Aside (V=true):=(by rw[←n.out];simp[c2]:_=_)
      have be:decide ((9:Int)<l)=true:=by simp;omega
      clear c1 c2
      go_wp2_with fail
      go_meet
      exact ⟨by rw[k.out],rfl⟩
    have be:decide ((9:Int)<l)=false:=by simp;omega
    by_cases c3:244<f
    · have k:Aside (V=true):=(by rw[←n.out];simp[c3]:_=_)
      have bf:decide ((244:Int)<f)=true:=by simp;omega
      clear c1 c2 c3
      go_wp2_with fail
      go_meet
      exact ⟨by rw[k.out],rfl⟩
    have bf:decide ((244:Int)<f)=false:=by simp;omega
    by_cases c4:ow≠no
    · have k:Aside (V=true):=(by rw[←n.out];simp[c4]:_=_)
      have bh:((ow:Int) !=(no:Int))=true:=by simp;omega
      clear c1 c2 c3 c4
      go_wp2_with fail
      go_meet
      exact ⟨by rw[k.out],rfl⟩
    have k:Aside (V=false):=(by rw[←n.out];simp;omega:_=_)
    have bh:((ow:Int) !=(no:Int))=false:=by simp;omega
    clear c1 c2 c3 c4
    go_wp2_with fail
    go_meet
    exact ⟨by rw[k.out],rfl⟩
   obtain ⟨rfl,rfl⟩:=hcut
   have d:=a3.out
   cases V with
   | true =>
     rw[if_pos (of_decide_eq_true n.out)] at d
     obtain ⟨rfl,rfl,rfl⟩:U=0∧Q= []∧T=4:=by simpa[eq_comm] using d
     clear d a3
     go_wp2
     go_ret3
     exact ⟨none,0,rfl,by simpa[A4] using (Sat.right I).Bj⟩
   | false =>
     have m:=of_decide_eq_false n.out
     rw[if_neg m] at d
     have D:=J.out
     have ad:f≤244:=by omega
     have h7:=Pv R p s b 8 4 (B*F) w6 I (by omega) (by omega)
     have h8:=fun F w h=>Pv R p s b 12 f F w h (by omega) (by omega)
     have h9:=fun F w h=>Hy R p s b (12+f) F w h (by omega) (by omega)
     have K:=fun F w h=>NF R p s b (12+f) (256-(12+f)) F w h (by omega) (by omega)
     rw[D] at h9
     have am:(b.drop (12+f)).take (256-(12+f))=b.drop (12+f):=List.take_of_length_le (by simp;omega)
     rw[am] at K
     have aj:Aside (((b.drop 12).take f).length=f):=(by simp;omega:_=_)
     obtain ⟨az,ao⟩: ∃q:Bool,(b.drop (12+f)).any (· !=0)=q:=⟨_,rfl⟩
     rw[ao] at K d
     have a4:Aside ((if az then (0,[],4) else ((l:Int),(b.drop 12).take f,0))=(U,Q,T)):=d
     clear d a3 m D am ao
     go_wp2_with fail
     refine h7.mono ?_
     rintro e w7 ⟨b7,d7,rfl,b0⟩
     clear h7 I
     have H8:=h8 (rw TB 1 (.slice b7 4 d7) (A4 ((b.drop 8).take 4))*(B*F)) w7 (b0.eq (by ac_rfl))
     clear h8 b0
     go_wp2_with fail
     refine H8.mono ?_
     rintro e w8 ⟨b8,d8,rfl,b1⟩
     clear H8
     have b2:Sat (DI R p s b (12+f)*(rw TB 1 (.slice b8 f d8) (A4 ((b.drop 12).take f))*(rw TB 1 (.slice b7 4 d7) (A4 ((b.drop 8).take 4))*(B*F)))) w8:=b1.eq (by ac_rfl)
     clear b1
     have H9:=h9 _ w8 b2
     clear h9
     go_wp2_with fail
     refine H9.mono ?_
     rintro e w9 ⟨rfl,X⟩
     clear H9 b2
     have ah:=K _ w9 X
     clear K
     go_wp2_with fail
     refine ah.mono ?_
     rintro e cp ⟨rfl,Y⟩
     clear ah X
     have d:=a4.out
     cases az with
     | true =>
       obtain ⟨rfl,rfl,rfl⟩:U=0∧Q= []∧T=4:=by simpa[eq_comm] using d
       clear d a4
       go_wp2
       go_ret3
       exact ⟨none,0,rfl,by simpa[A4] using (Sat.CR (A:=B*F) (B:=DI R p s b (12+f)*(rw TB 1 (.slice b8 f d8) (A4 ((b.drop 12).take f))*rw TB 1 (.slice b7 4 d7) (A4 ((b.drop 8).take 4)))) (Y.eq (by show DI R p s b (12+f)*_=_;ac_rfl))).Bj⟩
     | false =>
       obtain ⟨rfl,rfl,rfl⟩:U=l∧Q=(b.drop 12).take f∧T=0:=by simpa[eq_comm] using d
       clear d a4
       go_wp2
       go_ret3
       refine ⟨b8,d8,by rw[aj.out];rfl,?_⟩
       rw[aj.out]
       exact Sat.CR (B:=DI R p s b (12+f+(256-(12+f)))*rw TB 1 (.slice b7 4 d7) (A4 ((b.drop 8).take 4))) (Y.eq (by show DI R p s b (12+f+(256-(12+f)))*_=_;ac_rfl))
def CZ(x:As):List Value:= [.int .i64 x.src,.int .i64 x.pos,.int .i64 x.len,.int .i64 x.lines]
def QM(k:Kd):List Value:= [.int .i64 k.Ay,.int .i64 k.bytes,.int .i64 k.lines,.int .i64 k.A7]
abbrev UK(x:As):Value:= .agg #[.int .i64 x.src,.int .i64 x.pos,.int .i64 x.len,.int .i64 x.lines]
abbrev n7(k:Kd):Value:= .agg #[.int .i64 k.Ay,.int .i64 k.bytes,.int .i64 k.lines,.int .i64 k.A7]
theorem Is(a b:Int)(w:World):Calls Tryz.prog 190 #[.int .i64 a,.int .i64 b] w fun e j=>e= .returned (.bool (decide (-1≤a∧a≤b)))∧w=j:=by
 by_cases d: -1≤a
 ·have g:decide (-1≤a)=true:=by simpa using d
  by_cases f:a≤b
  ·have i:decide (a≤b)=true:=by simpa using f
   have c:Aside (decide (-1≤a∧a≤b)=true):=(by simp[d,f]:_=_)
   go_enter Tryz.func190,Tryz.ntmps190
   go_wp2
   go_ret
   first|exact ⟨by rw[c.out];rfl,rfl⟩|exact ⟨rfl,rfl⟩
  have i:decide (a≤b)=false:=by simpa using f
  have c:Aside (decide (-1≤a∧a≤b)=false):=(by simp[d,f]:_=_)
  go_enter Tryz.func190,Tryz.ntmps190
  go_wp2
  go_ret
  first|exact ⟨by rw[c.out];rfl,rfl⟩|exact ⟨rfl,rfl⟩
 have g:decide (-1≤a)=false:=by simpa using d
 have c:Aside (decide (-1≤a∧a≤b)=false):=(by simp[d]:_=_)
 go_enter Tryz.func190,Tryz.ntmps190
 go_wp2
 go_ret
 first|exact ⟨by rw[c.out];rfl,rfl⟩|exact ⟨rfl,rfl⟩
theorem Nh(s o l n:Int)(F:Ac)(w:World)(hs:Sat F w):
 Calls Tryz.prog 162 #[UK ⟨s,o,l,n⟩] w fun e c=>e= .returned (.bool (Ai ⟨s,o,l,n⟩))∧Sat F c:=by
 by_cases v:s=0
 ·subst v
  by_cases d:0≤o
  ·have m : decide (0 ≤ o) = true := by simpa using d
   by_cases f:o≤16777216
   ·have p : decide (o ≤ 16777216) = true := by simpa using f
    by_cases c2:1≤l
    ·have q : decide (1 ≤ l) = true := by simpa using c2
     by_cases g:l≤16777216-o
     ·have r:decide (l≤16777216-o)=true:=by simpa using g
      by_cases j:l≤1048576
      ·have t:decide (l≤1048576)=true:=by simpa using j
       have b:=fun w=>Is n l w
       by_cases k: -1≤n∧n≤l
       ·rw[decide_eq_true k] at b
        have b:=fun w=>b w
        by_cases u:n= -1
        ·subst u
         have a:Aside (Ai ⟨0,o,l,-1⟩=true):=(by unfold Ai;simp;omega:_=_)
         haveI:=hs.i
         go_enter Tryz.func162,Tryz.ntmps162
         go_wp2_with (go_at_call 190;refine (b _).mono ?_;rintro e c ⟨rfl,rfl⟩)
         go_ret
         exact ⟨by rw[a.out];rfl,(hs.alloc #[.int .i64 0,.int .i64 o,.int .i64 l,.int .i64 (-1)] 77|>.alloc #[.int .i64 0,.int .i64 o,.int .i64 l] 75).right.right⟩
        have y:(n== -1)=false:=by simpa using u
        have a:Aside (Ai ⟨0,o,l,n⟩=false):=(by unfold Ai;simp;omega:_=_)
        haveI:=hs.i
        go_enter Tryz.func162,Tryz.ntmps162
        go_wp2_with (go_at_call 190;refine (b _).mono ?_;rintro e c ⟨rfl,rfl⟩)
        go_ret
        exact ⟨by rw[a.out];rfl,(hs.alloc #[.int .i64 0,.int .i64 o,.int .i64 l,.int .i64 n] 77|>.alloc #[.int .i64 0,.int .i64 o,.int .i64 l] 75).right.right⟩
       rw[decide_eq_false k] at b
       have a:Aside (Ai ⟨0,o,l,n⟩=false):=(by unfold Ai;simp;omega:_=_)
       haveI:=hs.i
       go_enter Tryz.func162,Tryz.ntmps162
       go_wp2_with (go_at_call 190;refine (b _).mono ?_;rintro e c ⟨rfl,rfl⟩)
       go_ret
       exact ⟨by rw[a.out];rfl,(hs.alloc #[.int .i64 0,.int .i64 o,.int .i64 l,.int .i64 n] 77|>.alloc #[.int .i64 0,.int .i64 o,.int .i64 l] 75).right.right⟩
      have t:decide (l≤1048576)=false:=by simpa using j
      have a:Aside (Ai ⟨0,o,l,n⟩=false):=(by unfold Ai;simp;omega:_=_)
      haveI:=hs.i
      go_enter Tryz.func162,Tryz.ntmps162
      go_wp2
      go_ret
      exact ⟨by rw[a.out];rfl,(hs.alloc #[.int .i64 0,.int .i64 o,.int .i64 l,.int .i64 n] 77|>.alloc #[.int .i64 0,.int .i64 o,.int .i64 l] 75).right.right⟩
     have r:decide (l≤16777216-o)=false:=by simpa using g
     have a:Aside (Ai ⟨0,o,l,n⟩=false):=(by unfold Ai;simp;omega:_=_)
     haveI:=hs.i
     go_enter Tryz.func162,Tryz.ntmps162
     go_wp2
     go_ret
     exact ⟨by rw[a.out];rfl,(hs.alloc #[.int .i64 0,.int .i64 o,.int .i64 l,.int .i64 n] 77|>.alloc #[.int .i64 0,.int .i64 o,.int .i64 l] 75).right.right⟩
    have q:decide (1≤l)=false:=by simpa using c2
    have a:Aside (Ai ⟨0,o,l,n⟩=false):=(by unfold Ai;simp;omega:_=_)
    haveI:=hs.i
    go_enter Tryz.func162,Tryz.ntmps162
    go_wp2
    go_ret
    exact ⟨by rw[a.out];rfl,(hs.alloc #[.int .i64 0,.int .i64 o,.int .i64 l,.int .i64 n] 77|>.alloc #[.int .i64 0,.int .i64 o,.int .i64 l] 75).right.right⟩
   have p:decide (o≤16777216)=false:=by simpa using f
   have a:Aside (Ai ⟨0,o,l,n⟩=false):=(by unfold Ai;simp;omega:_=_)
   haveI:=hs.i
   go_enter Tryz.func162,Tryz.ntmps162
   go_wp2
   go_ret
   exact ⟨by rw[a.out];rfl,(hs.alloc #[.int .i64 0,.int .i64 o,.int .i64 l,.int .i64 n] 77|>.alloc #[.int .i64 0,.int .i64 o,.int .i64 l] 75).right.right⟩
  have m:decide (0≤o)=false:=by simpa using d
  have a:Aside (Ai ⟨0,o,l,n⟩=false):=(by unfold Ai;simp;omega:_=_)
  haveI:=hs.i
  go_enter Tryz.func162,Tryz.ntmps162
  go_wp2
  go_ret
  exact ⟨by rw[a.out];rfl,(hs.alloc #[.int .i64 0,.int .i64 o,.int .i64 l,.int .i64 n] 77|>.alloc #[.int .i64 0,.int .i64 o,.int .i64 l] 75).right.right⟩
 have e0:(s==0)=false:=by simpa using v
 by_cases x:s=1
 ·subst x
  by_cases d:0≤o
  ·have m : decide (0 ≤ o) = true := by simpa using d
   by_cases f:o≤16777216
   ·have p : decide (o ≤ 16777216) = true := by simpa using f
    by_cases c2:1≤l
    ·have q:decide (1≤l)=true:=by simpa using c2
     by_cases g:l≤16777216-o
     ·have r:decide (l≤16777216-o)=true:=by simpa using g
      by_cases j:l≤1048576
      ·have t:decide (l≤1048576)=true:=by simpa using j
       have b:=fun w=>Is n l w
       by_cases k: -1≤n∧n≤l
       ·rw[decide_eq_true k] at b
        have b:=fun w=>b w
        have a:Aside (Ai ⟨1,o,l,n⟩=true):=(by unfold Ai;simp;omega:_=_)
        haveI:=hs.i
        go_enter Tryz.func162,Tryz.ntmps162
        go_wp2_with (go_at_call 190;refine (b _).mono ?_;rintro e c ⟨rfl,rfl⟩)
        go_ret
        exact ⟨by rw[a.out];rfl,(hs.alloc #[.int .i64 1,.int .i64 o,.int .i64 l,.int .i64 n] 77|>.alloc #[.int .i64 1,.int .i64 o,.int .i64 l] 75).right.right⟩
       rw[decide_eq_false k] at b
       have a:Aside (Ai ⟨1,o,l,n⟩=false):=(by unfold Ai;simp;omega:_=_)
       haveI:=hs.i
       go_enter Tryz.func162,Tryz.ntmps162
       go_wp2_with (go_at_call 190;refine (b _).mono ?_;rintro e c ⟨rfl,rfl⟩)
       go_ret
       exact ⟨by rw[a.out];rfl,(hs.alloc #[.int .i64 1,.int .i64 o,.int .i64 l,.int .i64 n] 77|>.alloc #[.int .i64 1,.int .i64 o,.int .i64 l] 75).right.right⟩
      have t:decide (l≤1048576)=false:=by simpa using j
      have a:Aside (Ai ⟨1,o,l,n⟩=false):=(by unfold Ai;simp;omega:_=_)
      haveI:=hs.i
      go_enter Tryz.func162,Tryz.ntmps162
      go_wp2
      go_ret
      exact ⟨by rw[a.out];rfl,(hs.alloc #[.int .i64 1,.int .i64 o,.int .i64 l,.int .i64 n] 77|>.alloc #[.int .i64 1,.int .i64 o,.int .i64 l] 75).right.right⟩
     have r:decide (l≤16777216-o)=false:=by simpa using g
     have a:Aside (Ai ⟨1,o,l,n⟩=false):=(by unfold Ai;simp;omega:_=_)
     haveI:=hs.i
     go_enter Tryz.func162,Tryz.ntmps162
     go_wp2
     go_ret
     exact ⟨by rw[a.out];rfl,(hs.alloc #[.int .i64 1,.int .i64 o,.int .i64 l,.int .i64 n] 77|>.alloc #[.int .i64 1,.int .i64 o,.int .i64 l] 75).right.right⟩
    have q:decide (1≤l)=false:=by simpa using c2
    have a:Aside (Ai ⟨1,o,l,n⟩=false):=(by unfold Ai;simp;omega:_=_)
    haveI:=hs.i
    go_enter Tryz.func162,Tryz.ntmps162
    go_wp2
    go_ret
    exact ⟨by rw[a.out];rfl,(hs.alloc #[.int .i64 1,.int .i64 o,.int .i64 l,.int .i64 n] 77|>.alloc #[.int .i64 1,.int .i64 o,.int .i64 l] 75).right.right⟩
   have p:decide (o≤16777216)=false:=by simpa using f
   have a:Aside (Ai ⟨1,o,l,n⟩=false):=(by unfold Ai;simp;omega:_=_)
   haveI:=hs.i
   go_enter Tryz.func162,Tryz.ntmps162
   go_wp2
   go_ret
   exact ⟨by rw[a.out];rfl,(hs.alloc #[.int .i64 1,.int .i64 o,.int .i64 l,.int .i64 n] 77|>.alloc #[.int .i64 1,.int .i64 o,.int .i64 l] 75).right.right⟩
  have m:decide (0≤o)=false:=by simpa using d
  have a:Aside (Ai ⟨1,o,l,n⟩=false):=(by unfold Ai;simp;omega:_=_)
  haveI:=hs.i
  go_enter Tryz.func162,Tryz.ntmps162
  go_wp2
  go_ret
  exact ⟨by rw[a.out];rfl,(hs.alloc #[.int .i64 1,.int .i64 o,.int .i64 l,.int .i64 n] 77|>.alloc #[.int .i64 1,.int .i64 o,.int .i64 l] 75).right.right⟩
 have z:(s==1)=false:=by simpa using x
 have a:Aside (Ai ⟨s,o,l,n⟩=false):=(by unfold Ai;simp;omega:_=_)
 haveI:=hs.i
 go_enter Tryz.func162,Tryz.ntmps162
 go_wp2
 go_ret
 exact ⟨by rw[a.out];rfl,(hs.alloc #[.int .i64 s,.int .i64 o,.int .i64 l,.int .i64 n] 77|>.alloc #[.int .i64 s,.int .i64 o,.int .i64 l] 75).right.right⟩
theorem Ni(p b l s:Int)(F:Ac)(w:World)(hs:Sat F w):
 Calls Tryz.prog 163 #[n7 ⟨p,b,l,s⟩] w fun e d=>e= .returned (.bool (AE ⟨p,b,l,s⟩))∧Sat F d:=by
 have c:=fun w=>Is l b w
 by_cases f:1≤p
 ·have o : decide (1 ≤ p) = true := by simpa using f
  by_cases g:p<1048576
  ·have q : decide (p < 1048576) = true := by simpa using g
   by_cases c2:1≤b
   ·have r : decide (1 ≤ b) = true := by simpa using c2
    by_cases j:b≤1048576
    ·have t:decide (b≤1048576)=true:=by simpa using j
     by_cases k: -1≤l∧l≤b
     ·rw [decide_eq_true k] at c
      by_cases m:1≤s
      ·have u:decide (1≤s)=true:=by simpa using m
       by_cases n:s≤b
       ·have v:decide (s≤b)=true:=by simpa using n
        have a:Aside (AE ⟨p,b,l,s⟩=true):=(by unfold AE;simp;omega:_=_)
        haveI:=hs.i
        go_enter Tryz.func163,Tryz.ntmps163
        go_wp2_with (go_at_call 190;refine (c _).mono ?_;rintro e d ⟨rfl,rfl⟩)
        go_ret
        exact ⟨by rw[a.out];rfl,(hs.alloc #[.int .i64 p,.int .i64 b,.int .i64 l,.int .i64 s] 141).right⟩
       have v:decide (s≤b)=false:=by simpa using n
       have a:Aside (AE ⟨p,b,l,s⟩=false):=(by unfold AE;simp;omega:_=_)
       haveI:=hs.i
       go_enter Tryz.func163,Tryz.ntmps163
       go_wp2_with (go_at_call 190;refine (c _).mono ?_;rintro e d ⟨rfl,rfl⟩)
       go_ret
       exact ⟨by rw[a.out];rfl,(hs.alloc #[.int .i64 p,.int .i64 b,.int .i64 l,.int .i64 s] 141).right⟩
      have u:decide (1≤s)=false:=by simpa using m
      have a:Aside (AE ⟨p,b,l,s⟩=false):=(by unfold AE;simp;omega:_=_)
      haveI:=hs.i
      go_enter Tryz.func163,Tryz.ntmps163
      go_wp2_with (go_at_call 190;refine (c _).mono ?_;rintro e d ⟨rfl,rfl⟩)
      go_ret
      exact ⟨by rw[a.out];rfl,(hs.alloc #[.int .i64 p,.int .i64 b,.int .i64 l,.int .i64 s] 141).right⟩
     rw[decide_eq_false k] at c
     have a:Aside (AE ⟨p,b,l,s⟩=false):=(by unfold AE;simp;omega:_=_)
     haveI:=hs.i
     go_enter Tryz.func163,Tryz.ntmps163
     go_wp2_with (go_at_call 190;refine (c _).mono ?_;rintro e d ⟨rfl,rfl⟩)
     go_ret
     exact ⟨by rw[a.out];rfl,(hs.alloc #[.int .i64 p,.int .i64 b,.int .i64 l,.int .i64 s] 141).right⟩
    have t:decide (b≤1048576)=false:=by simpa using j
    have a:Aside (AE ⟨p,b,l,s⟩=false):=(by unfold AE;simp;omega:_=_)
    haveI:=hs.i
    go_enter Tryz.func163,Tryz.ntmps163
    go_wp2
    go_ret
    exact ⟨by rw[a.out];rfl,(hs.alloc #[.int .i64 p,.int .i64 b,.int .i64 l,.int .i64 s] 141).right⟩
   have r:decide (1≤b)=false:=by simpa using c2
   have a:Aside (AE ⟨p,b,l,s⟩=false):=(by unfold AE;simp;omega:_=_)
   haveI:=hs.i
   go_enter Tryz.func163,Tryz.ntmps163
   go_wp2
   go_ret
   exact ⟨by rw[a.out];rfl,(hs.alloc #[.int .i64 p,.int .i64 b,.int .i64 l,.int .i64 s] 141).right⟩
  have q:decide (p<1048576)=false:=by simpa using g
  have a:Aside (AE ⟨p,b,l,s⟩=false):=(by unfold AE;simp;omega:_=_)
  haveI:=hs.i
  go_enter Tryz.func163,Tryz.ntmps163
  go_wp2
  go_ret
  exact ⟨by rw[a.out];rfl,(hs.alloc #[.int .i64 p,.int .i64 b,.int .i64 l,.int .i64 s] 141).right⟩
 have o:decide (1≤p)=false:=by simpa using f
 have a:Aside (AE ⟨p,b,l,s⟩=false):=(by unfold AE;simp;omega:_=_)
 haveI:=hs.i
 go_enter Tryz.func163,Tryz.ntmps163
 go_wp2
 go_ret
 exact ⟨by rw[a.out];rfl,(hs.alloc #[.int .i64 p,.int .i64 b,.int .i64 l,.int .i64 s] 141).right⟩
abbrev A9:TypeId:=77
abbrev Oa:TypeId:=141
abbrev Ev:TypeId:=32
def AQ(l:List As):List Value:=l.flatMap CZ
def Ip(l:List Kd):List Value:=l.flatMap QM
abbrev Aq(B:Ac)(v:Value)(l:List As):Prop:=Al 4 B v l.length (AQ l)
abbrev B1(B:Ac)(v:Value)(l:List Kd):Prop:=Al 4 B v l.length (Ip l)
def AN(B:Ac)(v:Value)(n:Nd):Prop:= ∃a b,v= .agg #[.bool n.leaf,a,b]∧Aq B a n.Ao∧B1 B b n.kids
theorem BW{B:Ac}{a:Option Addr}{c:Nat}{l:List As}(h:Aq B (.slice a l.length c) l){i:Nat}{x:As}(hi:l[i]?=some x):
 ∃b o,a=some ⟨b,o,none⟩∧Oy B b (o+i*4) (.int .i64 x.src)∧Oy B b (o+i*4+1) (.int .i64 x.pos)∧Oy B b (o+i*4+2) (.int .i64 x.len)∧Oy B b (o+i*4+3) (.int .i64 x.lines):=by
 obtain ⟨b,o,e,r⟩:=Al.row (f:=CZ) (fun _=>rfl) (by omega) h hi
 exact ⟨b,o,e,r 0 _ rfl,r 1 _ rfl,r 2 _ rfl,r 3 _ rfl⟩
theorem Dc{B:Ac}{a:Option Addr}{c:Nat}{l:List Kd}(h:B1 B (.slice a l.length c) l){i:Nat}{x:Kd}(hi:l[i]?=some x):
 ∃b o,a=some ⟨b,o,none⟩∧Oy B b (o+i*4) (.int .i64 x.Ay)∧Oy B b (o+i*4+1) (.int .i64 x.bytes)∧Oy B b (o+i*4+2) (.int .i64 x.lines)∧Oy B b (o+i*4+3) (.int .i64 x.A7):=by
 obtain ⟨b,o,e,r⟩:=Al.row (f:=QM) (fun _=>rfl) (by omega) h hi
 exact ⟨b,o,e,r 0 _ rfl,r 1 _ rfl,r 2 _ rfl,r 3 _ rfl⟩
theorem BX{l:List As}{i:Nat}{x:As}(h:l[i]?=some x):Ab (l.take (i+1))=Ab (l.take i)+x.len:=by
 rw[AA h];simp[Ab]
theorem LV{l:List Kd}{i:Nat}{x:Kd}(h:l[i]?=some x):BZ (l.take (i+1))=BZ (l.take i)+x.bytes:=by
 rw[AA h];simp[BZ]
theorem K4{l:List Kd}{i:Nat}{x:Kd}(h:l[i]?=some x):BB (l.take (i+1))=BB (l.take i)+x.A7:=by
 rw[AA h];simp[BB]
theorem C0{x:As}(h:Ai x=true):1≤x.len∧x.len≤1048576:=by
 unfold Ai at h
 simp only[decide_eq_true_eq] at h
 exact ⟨h.2.2.2.1,h.2.2.2.2.2.1⟩
theorem LX{x:Kd}(h:AE x=true):1≤x.bytes∧x.bytes≤1048576∧1≤x.A7∧x.A7≤x.bytes:=by
 unfold AE at h
 simp only[decide_eq_true_eq] at h
 exact ⟨h.2.2.1,h.2.2.2.1,h.2.2.2.2.2.1,h.2.2.2.2.2.2⟩
theorem FT{n:Nd}{x:As}(hx:x∈n.Ao)(h:n.leaf=false∨Ai x=false):may n=false:=by
 unfold may
 rw[if_pos (List.any_eq_true.2 ⟨x,hx,by rcases h with h|h<;>simp[h]⟩)]
theorem KF{n:Nd}{x:Kd}(hx:x∈n.kids)(h:n.leaf=true∨AE x=false):may n=false:=by
 unfold may
 split
 ·rfl
 rw[if_pos (List.any_eq_true.2 ⟨x,hx,by rcases h with h|h<;>simp[h]⟩)]
theorem KG{n:Nd}(a: ∀x∈n.Ao,n.leaf=true∧Ai x=true)(b: ∀x∈n.kids,n.leaf=false∧AE x=true):
 may n=decide ((if n.leaf then 1 else 2)≤(if n.leaf then n.Ao.length else n.kids.length)∧(if n.leaf then n.Ao.length else n.kids.length)≤12∧Ab n.Ao+BZ n.kids≤1048576∧BB n.kids≤1024):=by
 unfold may
 rw[if_neg (by simp only[List.any_eq_true];rintro ⟨x,hx,h⟩;have:=a x hx;simp[this.1,this.2] at h),if_neg (by simp only[List.any_eq_true];rintro ⟨x,hx,h⟩;have:=b x hx;simp[this.1,this.2] at h)]
theorem KE(n:Nd)(v:Value)(B F:Ac)(w:World)(hN:AN B v n)(hs:Sat (B*F) w)(ak:n.Ao.length≤4294967296)(al:n.kids.length≤4294967296):
 Calls Tryz.prog 133 #[v] w fun e V=>e= .returned (.bool (may n))∧Sat (B*F) V:=by
 obtain ⟨vE,vK,rfl,hE,hK⟩:=hN
 obtain ⟨Y,cE,rfl,af,ag⟩:=hE.v
 obtain ⟨Z,cK,rfl,ah,ai⟩:=hK.v
 have HE:Aside (Aq B (.slice Y n.Ao.length cE) n.Ao):=hE
 have HK:Aside (B1 B (.slice Z n.kids.length cK) n.kids):=hK
 obtain ⟨l,O⟩: ∃r,may n=r:=⟨_,rfl⟩
 have Q:Aside (may n=l):=O
 rw[O]
 obtain ⟨s,L⟩: ∃r,n.leaf=r:=⟨_,rfl⟩
 have P:Aside (n.leaf=s):=L
 rw[L]
 clear hE hK O L
 haveI:=hs.i
 go_enter Tryz.func133,Tryz.ntmps133
 go_wp2
 go_loopg [3,14] n.Ao.length (fun g t3 a9 wr=> ∃(i:Nat)(d:Int),a9= .int .i64 i∧t3= .int .i64 d∧i≤n.Ao.length∧0≤d∧d≤i*1048576∧Aside (g=n.Ao.length-i∧d=Ab (n.Ao.take i)∧(∀x∈n.Ao.take i,s=true∧Ai x=true))∧
  Sat (Sl.block w.heap.size Ev [.bool s,.slice Y n.Ao.length cE,.slice Z n.kids.length cK]*(B*F)) wr)
 case atStart=>exact ⟨0,0,rfl,rfl,by omega,by omega,by omega,⟨rfl,by simp[Ab],by simp⟩,Es⟩
 obtain ⟨i,d,rfl,rfl,hi,ae,ao,A,U⟩:=hrel
 haveI:=U.i
 by_cases M:i<n.Ao.length
 · have u:(i:Int)<n.Ao.length:=by omega
   obtain ⟨x,hx⟩: ∃x,n.Ao[i]?=some x:=⟨_,List.getElem?_eq_getElem M⟩
   obtain ⟨b,o,rfl,r1,r2,r3,r4⟩:=BW HE.out hx
   have z:Aside (n.Ao[i]?=some x):=hx
   obtain ⟨J,D,G,H⟩:=x
   clear hs hx
   cases s with
   | false =>
    have c:Aside (l=false):=(by rw[←Q.out];exact FT (List.mem_of_getElem? z.out) (.inl P.out):_=_)
    go_wp2
    go_ret
    exact ⟨by rw[c.out];rfl,Av B F⟩
   | true =>
    cases hm:Ai ⟨J,D,G,H⟩ with
    | false =>
     have c:Aside (l=false):=(by rw[←Q.out];exact FT (List.mem_of_getElem? z.out) (.inr hm):_=_)
     have t:=fun F w h=>Nh J D G H F w h
     rw[hm] at t
     clear hm
     go_wp2_with (go_at_call 162;refine (t _ _ Es).mono ?_;rintro e V ⟨rfl,p⟩;haveI:=p.i)
     go_ret
     exact ⟨by rw[c.out];rfl,Av B F⟩
    | true =>
     have X:Aside (Ai ⟨J,D,G,H⟩=true):=hm
     have t:=fun F w h=>Nh J D G H F w h
     rw[hm] at t
     have hb:=C0 hm
     simp only at hb
     clear hm
     go_wp2_with (go_at_call 162;refine (t _ _ Es).mono ?_;rintro e V ⟨rfl,p⟩;haveI:=p.i)
     go_roundg (n.Ao.length-(i+1))
     case measure=>have:=A.out.1;omega
     refine ⟨i+1,d+G,by go_num,rfl,by omega,by omega,by omega,⟨rfl,?_,?_⟩,?_⟩
     ·rw[BX z.out,A.out.2.1]
     ·rw[AA z.out]
      intro y hy
      rcases List.mem_append.1 hy with hy|hy
      ·exact A.out.2.2 y hy
      simp at hy;subst hy;exact ⟨trivial,X.out⟩
     exact AR _ B F
 have u: ¬(i:Int)<n.Ao.length:=by omega
 have R:n.Ao.take i=n.Ao:=List.take_of_length_le (by omega)
 have K:Aside (d=Ab n.Ao∧ ∀x∈n.Ao,s=true∧Ai x=true):=(by have:=A.out.2;rw[R] at this;exact this:_∧_)
 clear A R hs HE
 go_wp2
 go_loopg [3,4,35] n.kids.length (fun g t3 t4 ab wq=> ∃(j:Nat)(f k:Int),ab= .int .i64 j∧t3= .int .i64 (d+f)∧t4= .int .i64 k∧j≤n.kids.length∧0≤f∧f≤j*1048576∧0≤k∧k≤j*1048576∧Aside (g=n.kids.length-j∧f=BZ (n.kids.take j)∧k=BB (n.kids.take j)∧(∀x∈n.kids.take j,s=false∧AE x=true))∧
  Sat (Sl.block w.heap.size Ev [.bool s,.slice Y n.Ao.length cE,.slice Z n.kids.length cK]*(B*F)) wq)
 case atStart=>exact ⟨0,0,0,rfl,by simp,rfl,by omega,by omega,by omega,by omega,by omega,⟨rfl,by simp[BZ],by simp[BB],by simp⟩,Es⟩
 obtain ⟨j,f,k,rfl,rfl,rfl,hj,P',hk,am,an,A,a8⟩:=hrel
 clear U
 haveI:=a8.i
 by_cases M:j<n.kids.length
 · have u:(j:Int)<n.kids.length:=by omega
   obtain ⟨x,hx⟩: ∃x,n.kids[j]?=some x:=⟨_,List.getElem?_eq_getElem M⟩
   obtain ⟨b,o,rfl,r1,r2,r3,r4⟩:=Dc HK.out hx
   have z:Aside (n.kids[j]?=some x):=hx
   obtain ⟨J,D,G,H⟩:=x
   clear hx
   cases s with
   | true =>
    have c:Aside (l=false):=(by rw[←Q.out];exact KF (List.mem_of_getElem? z.out) (.inl P.out):_=_)
    go_wp2
    go_ret
    exact ⟨by rw[c.out];rfl,Av B F⟩
   | false =>
    cases hm:AE ⟨J,D,G,H⟩ with
    | false =>
     have c:Aside (l=false):=(by rw[←Q.out];exact KF (List.mem_of_getElem? z.out) (.inr hm):_=_)
     have t:=fun F w h=>Ni J D G H F w h
     rw[hm] at t
     clear hm
     go_wp2_with (go_at_call 163;refine (t _ _ Es).mono ?_;rintro e V ⟨rfl,p⟩;haveI:=p.i)
     go_ret
     exact ⟨by rw[c.out];rfl,Av B F⟩
    | true =>
     have X:Aside (AE ⟨J,D,G,H⟩=true):=hm
     have t:=fun F w h=>Ni J D G H F w h
     rw[hm] at t
     have hb:=LX hm
     simp only at hb
     clear hm
     go_wp2_with (go_at_call 163;refine (t _ _ Es).mono ?_;rintro e V ⟨rfl,p⟩;haveI:=p.i)
     go_roundg (n.kids.length-(j+1))
     case measure=>have:=A.out.1;omega
     refine ⟨j+1,f+D,k+H,by go_num,by go_num,rfl,by omega,by omega,by omega,by omega,by omega,⟨rfl,?_,?_,?_⟩,?_⟩
     ·rw[LV z.out,A.out.2.1]
     ·rw[K4 z.out,A.out.2.2.1]
     ·rw[AA z.out]
      intro y hy
      rcases List.mem_append.1 hy with hy|hy
      ·exact A.out.2.2.2 y hy
      simp at hy;subst hy;exact ⟨trivial,X.out⟩
     exact AR _ B F
 have u: ¬(j:Int)<n.kids.length:=by omega
 have T:n.kids.take j=n.kids:=List.take_of_length_le (by omega)
 have c:Aside (l=decide ((if s then 1 else 2)≤(if s then n.Ao.length else n.kids.length)∧(if s then n.Ao.length else n.kids.length)≤12∧d+f≤1048576∧k≤1024)):=(by
  have W:=A.out.2
  rw[T] at W
  rw[←Q.out,K.out.1,W.1,W.2.1,←P.out]
  exact KG (by rw[P.out];exact K.out.2) (by rw[P.out];exact W.2.2):_=_)
 clear A T HK K
 cases s with
 | true =>
   simp only[if_true,Bool.false_eq_true,if_false] at c
   by_cases m:1≤n.Ao.length
   ·have d0:decide ((1:Int)≤n.Ao.length)=true:=by simpa using (by omega:(1:Int)≤n.Ao.length)
    by_cases q:n.Ao.length≤12
    ·have d1:decide ((n.Ao.length:Int)≤12)=true:=by simpa using (by omega:(n.Ao.length:Int)≤12)
     by_cases c2:d+f≤1048576
     ·have d2:decide (d+f≤1048576)=true:=by simpa using (by omega:d+f≤1048576)
      by_cases I:k≤1024
      ·have d3:decide (k≤1024)=true:=by simpa using (by omega:k≤1024)
       have a:Aside (l=true):=(by rw[c.out];exact decide_eq_true ⟨m,q,c2,I⟩:_=_)
       clear c m q c2 I
       go_wp2_with fail
       go_quiet (fail)
       go_wp2_with fail
       go_quiet (fail)
       go_wp2
       go_ret
       exact ⟨by rw[a.out];rfl,Av B F⟩
      have d3:decide (k≤1024)=false:=by simpa using (by omega: ¬k≤1024)
      have a:Aside (l=false):=(by rw[c.out];exact decide_eq_false (fun h=>I h.2.2.2):_=_)
      clear c m q c2 I
      go_wp2_with fail
      go_quiet (fail)
      go_wp2_with fail
      go_quiet (fail)
      go_wp2
      go_ret
      exact ⟨by rw[a.out];rfl,Av B F⟩
     have d2:decide (d+f≤1048576)=false:=by simpa using (by omega: ¬d+f≤1048576)
     have a:Aside (l=false):=(by rw[c.out];exact decide_eq_false (fun h=>c2 h.2.2.1):_=_)
     clear c m q c2
     go_wp2_with fail
     go_quiet (fail)
     go_wp2_with fail
     go_quiet (fail)
     go_wp2
     go_ret
     exact ⟨by rw[a.out];rfl,Av B F⟩
    have d1:decide ((n.Ao.length:Int)≤12)=false:=by simpa using (by omega: ¬(n.Ao.length:Int)≤12)
    have a:Aside (l=false):=(by rw[c.out];exact decide_eq_false (fun h=>q h.2.1):_=_)
    clear c m q
    go_wp2_with fail
    go_quiet (fail)
    go_wp2_with fail
    go_quiet (fail)
    go_wp2
    go_ret
    exact ⟨by rw[a.out];rfl,Av B F⟩
   have d0:decide ((1:Int)≤n.Ao.length)=false:=by simpa using (by omega: ¬(1:Int)≤n.Ao.length)
   have a:Aside (l=false):=(by rw[c.out];exact decide_eq_false (fun h=>m h.1):_=_)
   clear c m
   go_wp2_with fail
   go_quiet (fail)
   go_wp2_with fail
   go_quiet (fail)
   go_wp2
   go_ret
   exact ⟨by rw[a.out];rfl,Av B F⟩
 | false =>
   simp only[if_true,Bool.false_eq_true,if_false] at c
   by_cases m:2≤n.kids.length
   ·have d0:decide ((2:Int)≤n.kids.length)=true:=by simpa using (by omega:(2:Int)≤n.kids.length)
    by_cases q:n.kids.length≤12
    ·have d1:decide ((n.kids.length:Int)≤12)=true:=by simpa using (by omega:(n.kids.length:Int)≤12)
     by_cases c2:d+f≤1048576
     ·have d2:decide (d+f≤1048576)=true:=by simpa using (by omega:d+f≤1048576)
      by_cases I:k≤1024
      ·have d3:decide (k≤1024)=true:=by simpa using (by omega:k≤1024)
       have a:Aside (l=true):=(by rw[c.out];exact decide_eq_true ⟨m,q,c2,I⟩:_=_)
       clear c m q c2 I
       go_wp2_with fail
       go_quiet (fail)
       go_wp2
       go_ret
       exact ⟨by rw[a.out];rfl,Av B F⟩
      have d3:decide (k≤1024)=false:=by simpa using (by omega: ¬k≤1024)
      have a:Aside (l=false):=(by rw[c.out];exact decide_eq_false (fun h=>I h.2.2.2):_=_)
      clear c m q c2 I
      go_wp2_with fail
      go_quiet (fail)
      go_wp2
      go_ret
      exact ⟨by rw[a.out];rfl,Av B F⟩
     have d2:decide (d+f≤1048576)=false:=by simpa using (by omega: ¬d+f≤1048576)
     have a:Aside (l=false):=(by rw[c.out];exact decide_eq_false (fun h=>c2 h.2.2.1):_=_)
     clear c m q c2
     go_wp2_with fail
     go_quiet (fail)
     go_wp2
     go_ret
     exact ⟨by rw[a.out];rfl,Av B F⟩
    have d1:decide ((n.kids.length:Int)≤12)=false:=by simpa using (by omega: ¬(n.kids.length:Int)≤12)
    have a:Aside (l=false):=(by rw[c.out];exact decide_eq_false (fun h=>q h.2.1):_=_)
    clear c m q
    go_wp2_with fail
    go_quiet (fail)
    go_wp2
    go_ret
    exact ⟨by rw[a.out];rfl,Av B F⟩
   have d0:decide ((2:Int)≤n.kids.length)=false:=by simpa using (by omega: ¬(2:Int)≤n.kids.length)
   have a:Aside (l=false):=(by rw[c.out];exact decide_eq_false (fun h=>m h.1):_=_)
   clear c m
   go_wp2_with fail
   go_quiet (fail)
   go_wp2
   go_ret
   exact ⟨by rw[a.out];rfl,Av B F⟩
