/- treeFails holds for every input. No condition. (part 17) -/
import Derived.Test.YtfhbmblbidcmmaaGreatYa7
import Derived.Test.YtfhbmblbidcmmaaGreatYa15
set_option linter.all false
set_option maxHeartbeats 800000
namespace Go.Proofs.YtfhbmblbidcmmaaGreat
open Go.RowKit Go.Sl Go.Tr
theorem Zz(a:Nat)(h:a<4294967296):(BitVec.ofInt 32 (a:Int)).toNat=a:=by
 rw[BitVec.toNat_ofInt]
 omega
theorem XW(a b:Nat)(ha:a<4294967296)(hb:b<4294967296):bits .xor .u32 (a:Int) (b:Int)=((a^^^b:Nat):Int):=by
 show IntKind.u32.wrap (((BitVec.ofInt 32 (a:Int)^^^BitVec.ofInt 32 (b:Int)).toNat:Nat):Int)=_
 rw[BitVec.toNat_xor,Zz a ha,Zz b hb]
 have h:=Nat.xor_lt_two_pow (n:=32) (x:=a) (y:=b) (by omega) (by omega)
 simp[IntKind.wrap,IntKind.bits,IntKind.signed]
 omega
theorem N'(a:Nat)(ha:a<4294967296):bits .and .u32 (a:Int) 1=((a%2:Nat):Int):=by
 show IntKind.u32.wrap (((BitVec.ofInt 32 (a:Int)&&&BitVec.ofInt 32 (1:Int)).toNat:Nat):Int)=_
 rw[BitVec.toNat_and,Zz a ha,show (BitVec.ofInt 32 (1:Int)).toNat=1 from rfl,Nat.and_one_is_mod]
 simp[IntKind.wrap,IntKind.bits,IntKind.signed]
 omega
theorem Q3(s:Nat)(hs:s<4294967296)(w:World):
 Calls Tryz.prog 231 #[.int .u32 s] w fun e b=>e= .returned (.int .u32 (Ec s:Nat))∧w=b:=by
 have ha:=N' s hs
 have hx:=XW (s/2) 3988292384 (by omega) (by omega)
 by_cases h:s%2=1
 ·have e:Ec s=(s/2)^^^3988292384:=by unfold Ec;rw[if_pos h]
  rw[e]
  rw[h] at ha
  have a:bits .xor .u32 ((s:Int)/2) 3988292384=((s/2^^^3988292384:Nat):Int):=hx
  clear e h hx
  go_enter Tryz.func231,Tryz.ntmps231
  go_wp2
  go_ret
  exact ⟨rfl,rfl⟩
 have e:Ec s=s/2:=by unfold Ec;rw[if_neg h]
 rw[e]
 rw[show s%2=0 by omega] at ha
 clear e h hx
 go_enter Tryz.func231,Tryz.ntmps231
 go_wp2
 go_ret
 exact ⟨rfl,rfl⟩
def TR(w:World)(v:Value)(ls:List (List UInt8)):Prop:=
 ∃a c,v= .slice a ls.length c∧ls.length≤9223372036854775807∧ ∀i l,ls[i]?=some l→ ∃b o u,a=some ⟨b,o,none⟩∧w.cell? ⟨b,o+i,none⟩=some u∧Oc w u l
theorem UP{ls:List (List UInt8)}{i:Nat}{l:List UInt8}(h:ls[i]?=some l):(ls.take (i+1)).flatten=(ls.take i).flatten++l:=by
 rw[AA h];simp
theorem Q2(s:Nat)(a:List UInt8)(x:UInt8):Ey s (a++ [x])=Mt (Ey s a) x:=by rw[J4];rfl
theorem Og(k s:Nat):Fk (k+1) s=Ec (Fk k s):=by
 induction k generalizing s with
 |zero=>rfl
 |succ k a=>show Fk (k+1) (Ec s)=_;rw[a];rfl
theorem O6(v:Value)(ls:List (List UInt8))(w:World)(hp:TR w v ls):
 Calls Tryz.prog 183 #[v] w fun e Y=>e= .returned (.int .u32 (Wp ls.flatten:Nat))∧w=Y:=by
 obtain ⟨a,c,rfl,a4,d⟩:=hp
 have HC:Aside (∀i l,ls[i]?=some l→ ∃b o u,a=some ⟨b,o,none⟩∧w.cell? ⟨b,o+i,none⟩=some u∧Oc w u l):=d
 clear d
 go_enter Tryz.func183,Tryz.ntmps183
 go_wp2
 go_loopg [3,10] ls.length (fun g M T wr=> ∃i s:Nat,M= .int .u32 s∧T= .int .i64 i∧i≤ls.length∧s<4294967296∧Aside (g=ls.length-i∧s=Ey 4294967295 (ls.take i).flatten)∧w=wr)
 case atStart=>exact ⟨0,4294967295,rfl,rfl,by omega,by omega,⟨rfl,rfl⟩,rfl⟩
 obtain ⟨i,s,rfl,rfl,hi,hs,A,rfl⟩:=hrel
 by_cases R:i<ls.length
 · have H:(i:Int)<ls.length:=by omega
   obtain ⟨l,hl⟩: ∃l,ls[i]?=some l:=⟨ls[i],by simp[R]⟩
   obtain ⟨b,o,u,rfl,hc,hb⟩:=HC.out i l hl
   obtain ⟨pa,pc,rfl,a5,I⟩:=hb.len
   have HF:Aside ((ls.take (i+1)).flatten=(ls.take i).flatten++l):=UP hl
   have X:l.length≤9223372036854775807:=by
     have:pc≤9223372036854775807:=by simpa[maxLen] using I
     omega
   have Z:Aside (Oc w (.slice pa l.length pc) l):=hb
   clear hl hb I
   go_wp2
   go_loopg [3,16] l.length (fun g M U W=> ∃j s2:Nat,M= .int .u32 s2∧U= .int .i64 j∧j≤l.length∧s2<4294967296∧Aside (g=l.length-j∧s2=Ey s (l.take j))∧w=W)
   case atStart=>exact ⟨0,s,rfl,rfl,by omega,hs,⟨rfl,by simp[Ey]⟩,rfl⟩
   obtain ⟨j,s2,rfl,rfl,hj,J,O,rfl⟩:=hrel
   by_cases Q:j<l.length
   · have D:(j:Int)<l.length:=by omega
     obtain ⟨x,hx⟩: ∃x,l[j]?=some x:=⟨l[j],by simp[Q]⟩
     obtain ⟨b2,o2,rfl,a2⟩:=Z.out.at hx
     have a6:=x.toNat_lt
     have t:=XW s2 x.toNat J (by omega)
     have m:s2^^^x.toNat<4294967296:=Nat.xor_lt_two_pow (n:=32) (by omega) (by omega)
     obtain ⟨s3,q⟩: ∃z,s2^^^x.toNat=z:=⟨_,rfl⟩
     rw[q] at t m
     have y:Aside (s2^^^x.toNat=s3∧l.take (j+1)=l.take j++ [x]):=⟨q,AA hx⟩
     clear hx q
     go_wp2
     go_loopg [3,24] 8 (fun g M V W=> ∃k s4:Nat,M= .int .u32 s4∧V= .int .i64 k∧k≤8∧s4<4294967296∧Aside (g=8-k∧s4=Fk k s3)∧w=W)
     case atStart=>exact ⟨0,s3,rfl,rfl,by omega,m,⟨rfl,rfl⟩,rfl⟩
     obtain ⟨k,s4,rfl,rfl,hk,r,P,rfl⟩:=hrel
     by_cases a3:k<8
     ·have G:(k:Int)<8:=by omega
      have L:=Q3 s4 r w
      have K:=MF r
      have f:Aside (Fk (k+1) s3=Ec s4):=(by rw[Og,←P.out.2]:_=_)
      obtain ⟨s5,p⟩: ∃z,Ec s4=z:=⟨_,rfl⟩
      rw[p] at L K f
      clear p
      go_wp2_with fail
      refine L.mono ?_
      rintro e Y ⟨rfl,rfl⟩
      go_wp2
      go_roundg (8-(k+1))
      case measure=>have:=P.out.1;omega
      case rel=>exact ⟨k+1,s5,rfl,by go_num,by omega,K,⟨rfl,f.out.symm⟩,rfl⟩
     have G: ¬(k:Int)<8:=by omega
     obtain rfl:k=8:=by omega
     have f:Aside (Ey s (l.take (j+1))=s4):=(by rw[y.out.2,Q2,←O.out.2,P.out.2];unfold Mt;rw[y.out.1]:_=_)
     clear P
     go_wp2
     go_roundg (l.length-(j+1))
     case measure=>have:=O.out.1;omega
     case rel=>exact ⟨j+1,s4,rfl,by go_num,by omega,r,⟨rfl,f.out.symm⟩,rfl⟩
   have D: ¬(j:Int)<l.length:=by omega
   have f:Aside (Ey 4294967295 (ls.take (i+1)).flatten=s2):=(by
    have B:=O.out.2
    rw[List.take_of_length_le (by omega)] at B
    rw[HF.out,J4,←A.out.2,B]:_=_)
   clear O
   go_wp2
   go_roundg (ls.length-(i+1))
   case measure=>have:=A.out.1;omega
   case rel=>exact ⟨i+1,s2,rfl,by go_num,by omega,J,⟨rfl,f.out.symm⟩,rfl⟩
 have H: ¬(i:Int)<ls.length:=by omega
 have f:Aside (Ey 4294967295 ls.flatten=s):=(by
  have B:=A.out.2
  rw[List.take_of_length_le (by omega)] at B
  exact B.symm:_=_)
 have t:=XW 4294967295 s (by omega) hs
 clear A
 go_wp2
 go_ret
 refine ⟨?_,rfl⟩
 unfold Wp
 rw[f.out,←t]
 rfl
