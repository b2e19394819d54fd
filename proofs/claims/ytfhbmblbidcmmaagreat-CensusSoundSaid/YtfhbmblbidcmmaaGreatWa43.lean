/- censusSound holds for every input. No condition. (part 43) -/
import Derived.Test.YtfhbmblbidcmmaaGreatWa42
import Derived.Test.YtfhbmblbidcmmaaGreatWa22
set_option linter.all false
set_option maxRecDepth 100000
set_option maxHeartbeats 6400000
namespace Go.Proofs.YtfhbmblbidcmmaaGreat
open Go.RowKit Go.Sl Go.Tr Go.Dk
theorem jL(v1 v2:Value)(a b:List UInt8)(w:World)(h1:NV w v1 a)(d:NV w v2 b):
 Calls Tryz.prog 178 #[v1,v2] w fun e M=>e= .returned (.bool (decide (a=b)))∧ ∃n,M=w.drewN n:=by
 obtain ⟨O,c1,rfl,G,s⟩:=h1.len
 obtain ⟨P,c2,rfl,H,t⟩:=d.len
 have K:a.length≤9223372036854775807:=by
  have:c1≤9223372036854775807:=by simpa[maxLen] using s
  omega
 have L:b.length≤9223372036854775807:=by
  have:c2≤9223372036854775807:=by simpa[maxLen] using t
  omega
 by_cases hl:a.length=b.length
 ·have c:((a.length:Int) !=(b.length:Int))=false:=by simp;omega
  have v:=As hl
  clear hl
  go_enter Tryz.func178,Tryz.ntmps178
  go_wp2
  go_loopg [5] a.length (fun k i wr=> ∃j:Nat,i= .int .i64 j∧j≤a.length∧Aside (k=a.length-j∧a.take j=b.take j)∧ ∃n,w.drewN n=wr)
  case atStart=>exact ⟨0,rfl,by omega,⟨rfl,rfl⟩,0,rfl⟩
  obtain ⟨j,rfl,R,A,u,rfl⟩:=hrel
  by_cases f:j<a.length
  · have g:j<b.length:=by have:=v.out;omega
    obtain ⟨m,hy1⟩: ∃y,a[j]?=some y:=⟨a[j],by simp[f]⟩
    obtain ⟨o,hy2⟩: ∃y,b[j]?=some y:=⟨b[j],by simp[g]⟩
    obtain ⟨Q,T,rfl,V⟩:=h1.at hy1
    obtain ⟨b2,U,rfl,W⟩:=d.at hy2
    have p:Aside (a[j]?=some m∧b[j]?=some o):=⟨hy1,hy2⟩
    clear h1 d c hy1 hy2
    have z:(j:Int)<a.length:=by omega
    have B:(j:Int)<b.length:=by omega
    by_cases q:m=o
    ·subst q
     go_wp2
     go_quiet (fail)
     go_wp2
     go_roundg (a.length-(j+1))
     case measure=>have:=A.out.1;omega
     refine ⟨j+1,by go_num,by omega,⟨rfl,?_⟩,u+nq,rfl⟩
     rw[AB p.out.1,AB p.out.2,A.out.2]
    have r:m.toNat≠o.toNat:=fun e=>q (UInt8.toNat_inj.1 e)
    have I:((m.toNat:Int) !=(o.toNat:Int))=true:=by rw[bne_iff_ne];omega
    have J:(m.toNat !=o.toNat)=true:=by simpa using r
    have D:=As q
    clear q
    go_wp2
    go_quiet (fail)
    go_wp2
    go_ret
    have:a≠b:=fun e=>D.out (by have x:=p.out.1;rw[e,p.out.2] at x;exact (Option.some.inj x).symm)
    exact ⟨by simp[this],u+nq,by rw[World.drewN_drewN]⟩
  have:j=a.length:=by omega
  subst this
  clear f c h1 d
  go_wp2
  go_ret
  have e:a=b:=by
   have:=A.out.2
   rw[List.take_of_length_le (Nat.le_refl _),List.take_of_length_le (by have:=v.out;omega)] at this
   exact this
  exact ⟨by simp[e],u,rfl⟩
 have l:a≠b:=fun e=>hl (by rw[e])
 have c:((a.length:Int) !=(b.length:Int))=true:=by simp;omega
 have e:decide (a=b)=false:=by simpa using l
 rw[e]
 clear e l h1 d hl
 go_enter Tryz.func178,Tryz.ntmps178
 go_wp2
 go_ret
 exact ⟨rfl,0,rfl⟩
theorem kV(v1 v2:Value)(a b:List UInt8)(f F:Ab)(w:World)(h1:NV w v1 a)(d:NV w v2 b)(hs:Sat F w):
 Calls Tryz.prog 178 #[v1,v2] w fun e c=>e= .returned (.bool (decide (a=b)))∧Sat F c:=by
 refine (jL v1 v2 a b w h1 d).mono ?_
 rintro e c ⟨h,n,rfl⟩
 exact ⟨h,hs.drewN n⟩
def ZV(B F:Ab)(r:Int×List UInt8×Int)(e:Ending)(b:World):Prop:= ∃a c,e= .returned (.tuple #[.int .i64 r.1,.slice a r.2.1.length c,.int .i64 r.2.2])∧Sat (rw TB 1 (.slice a r.2.1.length c) (A4 r.2.1)*(B*F)) b
theorem UU(no:Int)(v:Value)(b:List UInt8)(B F:Ab)(w:World)(L:Reads B v b)(hs:Sat (B*F) w):
 Calls Tryz.prog 155 #[.int .i64 no,v] w (ZV B F (AO no b)):=by
 unfold ZV
 rw[←WL]
 obtain ⟨i0,E⟩:=Dp
 obtain ⟨g,f,rfl,b6,bt⟩:=(L F w hs).len
 obtain ⟨⟨zk,zb,ze⟩,d⟩:=Aq (F3 no b)
 rw[d]
 unfold F3 at d
 by_cases D:no<0∨1048576≤no
 · rw[if_pos D] at d
   obtain ⟨rfl,rfl,rfl⟩:zk=0∧zb= []∧ze=1:=by simpa[eq_comm] using d
   clear d
   by_cases g1:no<0
   · go_enter Tryz.func155,Tryz.ntmps155
     go_wp2
     go_ret3
     exact ⟨none,0,rfl,by simpa[A4] using hs.AG⟩
   have g2:1048576≤no:=by omega
   go_enter Tryz.func155,Tryz.ntmps155
   go_wp2
   go_ret3
   exact ⟨none,0,rfl,by simpa[A4] using hs.AG⟩
 rw[if_neg D] at d
 have g1: ¬no<0:=by omega
 have g2: ¬(1048576:Int)≤no:=by omega
 by_cases r:b.length≠256
 · rw[if_pos r] at d
   obtain ⟨rfl,rfl,rfl⟩:zk=0∧zb= []∧ze=3:=by simpa[eq_comm] using d
   have br:((b.length:Int) !=256)=true:=by simp;omega
   clear d D
   go_enter Tryz.func155,Tryz.ntmps155
   go_wp2
   go_ret3
   exact ⟨none,0,rfl,by simpa[A4] using hs.AG⟩
 have j:b.length=256:=by omega
 rw[if_neg r] at d
 rw[j] at L b6⊢
 have HB:Aside (Reads B (.slice g 256 f) b∧b.length=256):=⟨L,j⟩
 have r1:Reads B (.slice (AH g f 8 1) 4 (f-8)) ((b.drop 8).take 4):=fun F w h=>(L F w h).cut 8 12 (by omega) (by omega)
 have r2:Reads B (.slice (AH g f 0 1) 8 f) (b.take 8):=Reads.to L 8 (by omega)
 have r3:Reads B (.slice (AH g f 12 1) 244 (f-12)) (b.drop 12):=Reads.from L 12 (by omega)
 have r4:Reads B (.slice (AH g f 2 1) 2 (f-2)) ((b.drop 2).take 2):=fun F w h=>(L F w h).cut 2 4 (by omega) (by omega)
 have a0:=P8 _ _ B F w r1 hs (by simp;omega) (by simp;omega)
 have Z:=fun F w q=>P8 _ _ B F w r4 q (by simp;omega) (by simp;omega)
 have X:=fun F w q=>X4 _ _ B F w r2 q (by simp;omega)
 rw[show (b.take 8).length=8 by rw[List.length_take];omega] at X
 have aw: ∀w,(Instr.sliceAt 26 (.slice g 256 f) (some (.int .i64 8)) (some (.int .i64 12)) none).run Tryz.prog w= .ok (.slice (AH g f 8 1) 4 (f-8)) w:=fun w=>DL E 8 12 (by omega) (by omega) w
 have ax: ∀w,(Instr.sliceAt 26 (.slice g 256 f) none (some (.int .i64 8)) none).run Tryz.prog w= .ok (.slice (AH g f 0 1) 8 f) w:=fun w=>Ln E 8 (by omega) w
 have ay: ∀w,(Instr.sliceAt 26 (.slice g 256 f) (some (.int .i64 12)) none none).run Tryz.prog w= .ok (.slice (AH g f 12 1) 244 (f-12)) w:=fun w=>E6 E 12 (by omega) w
 have az: ∀w,(Instr.sliceAt 26 (.slice g 256 f) (some (.int .i64 2)) (some (.int .i64 4)) none).run Tryz.prog w= .ok (.slice (AH g f 2 1) 2 (f-2)) w:=fun w=>DL E 2 4 (by omega) (by omega) w
 have b1:=O3 (b.take 8++b.drop 12)
 have a7:=fun a c F w q=>Yf (.slice a 252 c) (b.take 8++b.drop 12) (rw TB 1 (.slice a 252 c) (A4 (b.take 8++b.drop 12))) F w Reads.rw q
 have b5:=Sb ((b.drop 8).take 4)
 obtain ⟨cr,M⟩:=Aq (Qy (b.take 8++b.drop 12))
 obtain ⟨su,O⟩:=Aq (BX ((b.drop 8).take 4))
 obtain ⟨n,al⟩:=Aq (BX ((b.drop 2).take 2))
 rw[M] at b1 a7 d
 rw[O] at a0 d
 rw[al] at Z d
 have HR:Aside (Reads B (.slice (AH g f 12 1) 244 (f-12)) (b.drop 12)∧(b.drop 12).length=244∧(b.take 8).length=8):=⟨r3,by rw[List.length_drop];omega,by rw[List.length_take];omega⟩
 have HZ:=As d
 have bf:(cr:Int)<4294967296:=by omega
 clear d r1 r2 r3 r4 M O D r j L al b5
 haveI:=hs.i
 go_enter Tryz.func155,Tryz.ntmps155
 go_wp2_with fail
 refine a0.mono ?_
 rintro e w1 ⟨rfl,rfl⟩
 clear a0
 go_wp2_with fail
 go_region_law first
  |(go_simp;go_at_call 34;refine (X _ _ (Ae B)).mono ?_;rintro e bw ⟨a1,e1,rfl,an⟩;haveI:=an.i)
  |(refine A6 E rfl (.tmp 32) (.tmp 34) rfl rfl rfl (Ae (rw TB 1 (.slice a1 8 e1) (A4 (b.take 8)))) (Reads.NT HR.out.1 HR.out.2.1) (by unfold maxLen;omega) (by omega) ?_;intro a2 e2 ao a9 b9;clear b9;rw[←BL] at a9;haveI:=a9.i)
 all_goals
  clear X aw ax ay an
  have aa:Sat (rw TB 1 (.slice a2 252 e2) (A4 (b.take 8++b.drop 12))*(B*F)) ao:=AD _ _ _
  haveI:=aa.i
  go_wp2_with fail
  refine (a7 _ _ _ _ aa).mono ?_
  rintro e bx ⟨rfl,rfl⟩
  have p:Sat (B*F) ao:=Ar _ _
  haveI:=p.i
  clear a7 a9 aa
  have d:=HZ.out
  by_cases H:su≠cr
  · rw[if_pos H] at d
    obtain ⟨rfl,rfl,rfl⟩:zk=0∧zb= []∧ze=5:=by simpa[eq_comm] using d
    have W:((su:Int) !=(cr:Int))=true:=by simp;omega
    clear d HZ H
    go_wp2
    go_ret3
    exact ⟨none,0,rfl,by simpa[A4] using p.AG⟩
  rw[if_neg H] at d
  have W:((su:Int) !=(cr:Int))=false:=by simp;omega
  have b4:su=cr:=by omega
  subst b4
  have Q:=As d
  clear d HZ H W
  have be:((su:Int) !=(su:Int))=false:=by simp
  go_wp2_with fail
  refine (Z _ _ p).mono ?_
  rintro e bz ⟨rfl,rfl⟩
  clear Z az
  have d:=Q.out
  by_cases a5:244<n
  · rw[if_pos a5] at d
    obtain ⟨rfl,rfl,rfl⟩:zk=0∧zb= []∧ze=4:=by simpa[eq_comm] using d
    have a6:(244:Int)<n:=by omega
    clear d Q
    go_wp2
    go_ret3
    exact ⟨none,0,rfl,by simpa[A4] using p.AG⟩
  rw[if_neg a5] at d
  obtain ⟨m,hm⟩:=Aq (12+n)
  have a6: ¬(244:Int)<n:=by omega
  have hw1:IntKind.i64.wrap (12+(n:Int))=(m:Int):=(IntWalk.i64_in _ (by omega)).trans (by omega)
  have b0: ∀w,(Instr.sliceAt 26 (.slice g 256 f) (some (.int .i64 12)) (some (.int .i64 m)) none).run Tryz.prog w= .ok (.slice (AH g f 12 1) n (f-12)) w:=fun w=>by
   have T:=DL (P:=Tryz.prog) E (a:=g) (n:=256) (c:=f) 12 m (by omega) (by omega) w
   rw[show m-12=n by omega] at T
   exact T
  have r5:Reads B (.slice (AH g f 12 1) n (f-12)) ((b.drop 12).take n):=fun F w h=>by
   have T:=(HB.out.1 F w h).cut 12 m (by omega) (by omega)
   rw[show m-12=n by omega] at T
   exact T
  obtain ⟨R,U⟩:=Aq ((b.drop 12).take n)
  have V:R.length=n:=by rw[←U,List.length_take,HR.out.2.1];omega
  rw[U] at r5 d
  obtain ⟨x0,s⟩: ∃x0,b[0]?=some x0:=⟨b[0]'(by have:=HB.out.2;omega),by simp⟩
  have ak:BX (b.take 1)=x0.toNat:=by
   have T:b.take 1= [x0]:=by
    cases b with
    |nil=>simp at s
    |cons y l=>simp at s;subst s;rfl
   rw[T,iY]
  rw[ak] at d
  have Y:=fun F w q=>X4 _ _ B F w r5 q (by omega)
  rw[V] at Y
  have a8:=fun a c F w q=>UW no (x0.toNat:Int) (.slice a n c) R (rw TB 1 (.slice a n c) (A4 R)) F w Reads.rw q
  obtain ⟨⟨pl,pe⟩,am⟩:=Aq (Bw no (x0.toNat:Int) R)
  rw[am] at a8 d
  have x:=As d
  have u:Aside (b[0]?=some x0∧R.length=n):=⟨s,V⟩
  have bu:=x0.toNat_lt
  have bs:decide ((244:Int)<(n:Int))=false:=decide_eq_false a6
  clear d Q am U s ak r5 hm a5 V
  go_wp2_with fail
  refine (Y _ _ p).mono ?_
  rintro e c0 ⟨a3,e3,rfl,I⟩
  haveI:=I.i
  clear Y b0 hw1 a6
  obtain ⟨b2,o2,rfl,z⟩:=(HB.out.1 _ _ (I.take B)).at u.out.1
  rw[Nat.add_zero] at z
  go_wp2_with fail
  refine (a8 _ _ _ _ I).mono ?_
  rintro e ac ⟨a4,e4,rfl,ab⟩
  try dsimp only at ab
  have t:Sat (rw TB 1 (.slice a4 pl.length e4) (A4 pl)*(rw TB 1 (.slice a3 n e3) (A4 R)*(B*F))) ac:=by
   haveI:=ab.i
   exact Cz _ _ _ _
  haveI:=t.i
  clear a8 z ab I p
  have d:=x.out
  try dsimp only at d
  have J:Sat (B*F) ac:=Ar _ _
  by_cases G:pe=0
  · subst G
    have o:=kV (.slice a4 pl.length e4) (.slice (some ⟨b2,o2,none⟩) 256 f) pl b 1 _ ac ((Reads.rw (e:=TB) (v:= .slice a4 pl.length e4) (l:=pl)) _ _ t) (HB.out.1 _ _ J) t
    by_cases k:pl=b
    · rw[if_neg (by simp[k])] at d
      obtain ⟨rfl,rfl,rfl⟩:zk=(x0.toNat:Int)∧zb=R∧ze=0:=by simpa[eq_comm] using d
      have hd:decide (pl=b)=true:=decide_eq_true k
      rw[hd] at o
      clear d x k hd
      go_wp2_with fail
      refine o.mono ?_
      rintro e ap ⟨rfl,K⟩
      haveI:=K.i
      obtain ⟨b3,o3,e5,z⟩:=(HB.out.1 _ _ (K.take B)).at u.out.1
      rw[Nat.add_zero] at z
      cases e5
      clear o t J
      go_wp2
      go_ret3
      have e7:=u.out.2
      refine ⟨a3,e3,by first|(simp[e7];done)|(subst e7;rfl),?_⟩
      rw[u.out.2]
      exact AD _ _ _
    rw[if_pos (.inr k)] at d
    obtain ⟨rfl,rfl,rfl⟩:zk=0∧zb= []∧ze=4:=by simpa[eq_comm] using d
    have hd:decide (pl=b)=false:=decide_eq_false k
    rw[hd] at o
    clear d x k hd
    go_wp2_with fail
    refine o.mono ?_
    rintro e ap ⟨rfl,K⟩
    haveI:=K.i
    have b7:Sat (B*F) ap:=Ar _ _
    clear o t J
    go_wp2
    go_ret3
    exact ⟨none,0,rfl,by simpa[A4] using b7.AG⟩
  rw[if_pos (.inl G)] at d
  obtain ⟨rfl,rfl,rfl⟩:zk=0∧zb= []∧ze=4:=by simpa[eq_comm] using d
  have W:(pe !=0)=true:=by simpa using G
  clear d x G
  go_wp2
  go_ret3
  exact ⟨none,0,rfl,by simpa[A4] using J.AG⟩
theorem Eg(v:Value)(l:List UInt8)(B F:Ab)(w:World)(f:Reads B v l)(hs:Sat (B*F) w)(h:l.length=4):
 Calls Tryz.prog 179 #[v] w fun e i=>e= .returned (.int .i64 (i4 (BX l)))∧w=i:=by
 have hi:=P8 v l B F w f hs (by omega) (by omega)
 have a:=Sb l
 rw[h] at a
 have b:BX l<4294967296:=a
 obtain ⟨n,g⟩:=Aq (BX l)
 rw[g] at hi b⊢
 clear g a f hs h
 by_cases d:n=4294967295
 ·subst d
  have c:i4 4294967295= -1:=rfl
  rw[c]
  clear c
  go_enter Tryz.func179,Tryz.ntmps179
  go_wp2_with fail
  refine hi.mono ?_
  rintro e j ⟨rfl,rfl⟩
  go_wp2
  go_ret
  exact ⟨rfl,rfl⟩
 have c:i4 n=(n:Int):=by unfold i4;rw[if_neg d]
 rw[c]
 have k:((n:Int)==4294967295)=false:=by simp;omega
 have m:(n==4294967295)=false:=by simpa using d
 clear c
 go_enter Tryz.func179,Tryz.ntmps179
 go_wp2_with fail
 refine hi.mono ?_
 rintro e j ⟨rfl,rfl⟩
 go_wp2
 go_ret
 exact ⟨rfl,rfl⟩
