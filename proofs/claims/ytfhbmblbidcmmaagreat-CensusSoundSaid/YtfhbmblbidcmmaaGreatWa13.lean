/- censusSound holds for every input. No condition. (part 13) -/
import Derived.Test.YtfhbmblbidcmmaaGreatWa5
import Derived.Test.YtfhbmblbidcmmaaGreatWa11
set_option linter.all false
set_option maxHeartbeats 800000
namespace Go.Proofs.YtfhbmblbidcmmaaGreat
open Go.RowKit Go.Sl Go.Tr
theorem iJ(a:Nat)(h:a<4294967296):(BitVec.ofInt 32 (a:Int)).toNat=a:=by
 rw[BitVec.toNat_ofInt]
 omega
theorem RA(a b:Nat)(ha:a<4294967296)(hb:b<4294967296):bits .xor .u32 (a:Int) (b:Int)=((a^^^b:Nat):Int):=by
 show IntKind.u32.wrap (((BitVec.ofInt 32 (a:Int)^^^BitVec.ofInt 32 (b:Int)).toNat:Nat):Int)=_
 rw[BitVec.toNat_xor,iJ a ha,iJ b hb]
 have h:=Nat.xor_lt_two_pow (n:=32) (x:=a) (y:=b) (by omega) (by omega)
 simp[IntKind.wrap,IntKind.bits,IntKind.signed]
 omega
theorem kK(a:Nat)(ha:a<4294967296):bits .and .u32 (a:Int) 1=((a%2:Nat):Int):=by
 show IntKind.u32.wrap (((BitVec.ofInt 32 (a:Int)&&&BitVec.ofInt 32 (1:Int)).toNat:Nat):Int)=_
 rw[BitVec.toNat_and,iJ a ha,show (BitVec.ofInt 32 (1:Int)).toNat=1 from rfl,Nat.and_one_is_mod]
 simp[IntKind.wrap,IntKind.bits,IntKind.signed]
 omega
theorem Tu(s:Nat)(hs:s<4294967296)(w:World):
 Calls Tryz.prog 231 #[.int .u32 s] w fun e b=>e= .returned (.int .u32 (Db s:Nat))∧w=b:=by
 have ha:=kK s hs
 have hx:=RA (s/2) 3988292384 (by omega) (by omega)
 by_cases h:s%2=1
 ·have e:Db s=(s/2)^^^3988292384:=by unfold Db;rw[if_pos h]
  rw[e]
  rw[h] at ha
  have a:bits .xor .u32 ((s:Int)/2) 3988292384=((s/2^^^3988292384:Nat):Int):=hx
  clear e h hx
  go_enter Tryz.func231,Tryz.ntmps231
  go_wp2
  go_ret
  exact ⟨rfl,rfl⟩
 have e:Db s=s/2:=by unfold Db;rw[if_neg h]
 rw[e]
 rw[show s%2=0 by omega] at ha
 clear e h hx
 go_enter Tryz.func231,Tryz.ntmps231
 go_wp2
 go_ret
 exact ⟨rfl,rfl⟩
def Xx(w:World)(v:Value)(ls:List (List UInt8)):Prop:=
 ∃a c,v= .slice a ls.length c∧ls.length≤9223372036854775807∧ ∀i l,ls[i]?=some l→ ∃b o u,a=some ⟨b,o,none⟩∧w.cell? ⟨b,o+i,none⟩=some u∧NV w u l
theorem YA{ls:List (List UInt8)}{i:Nat}{l:List UInt8}(h:ls[i]?=some l):(ls.take (i+1)).flatten=(ls.take i).flatten++l:=by
 rw[AB h];simp
theorem Na(s:Nat)(a:List UInt8)(x:UInt8):DX s (a++ [x])=Lo (DX s a) x:=by rw[Kx];rfl
theorem Ky(k s:Nat):Dm (k+1) s=Db (Dm k s):=by
 induction k generalizing s with
 |zero=>rfl
 |succ k a=>show Dm (k+1) (Db s)=_;rw[a];rfl
theorem Qz(v:Value)(ls:List (List UInt8))(w:World)(hp:Xx w v ls):
 Calls Tryz.prog 183 #[v] w fun e X=>e= .returned (.int .u32 (Qy ls.flatten:Nat))∧w=X:=by
 obtain ⟨a,c,rfl,a3,d⟩:=hp
 have Z:=As d
 clear d
 go_enter Tryz.func183,Tryz.ntmps183
 go_wp2
 go_loopg [3,10] ls.length (fun g L R wr=> ∃i s:Nat,L= .int .u32 s∧R= .int .i64 i∧i≤ls.length∧s<4294967296∧Aside (g=ls.length-i∧s=DX 4294967295 (ls.take i).flatten)∧w=wr)
 case atStart=>exact ⟨0,4294967295,rfl,rfl,by omega,by omega,⟨rfl,rfl⟩,rfl⟩
 obtain ⟨i,s,rfl,rfl,hi,hs,A,rfl⟩:=hrel
 by_cases Q:i<ls.length
 · have G:(i:Int)<ls.length:=by omega
   obtain ⟨l,hl⟩: ∃l,ls[i]?=some l:=⟨ls[i],by simp[Q]⟩
   obtain ⟨b,o,u,rfl,hc,hb⟩:=Z.out i l hl
   obtain ⟨pa,pc,rfl,a4,H⟩:=hb.len
   have HF:Aside ((ls.take (i+1)).flatten=(ls.take i).flatten++l):=YA hl
   have W:l.length≤9223372036854775807:=by
     have:pc≤9223372036854775807:=by simpa[maxLen] using H
     omega
   have Y:=As hb
   clear hl hb H
   go_wp2
   go_loopg [3,16] l.length (fun g L T V=> ∃j s2:Nat,L= .int .u32 s2∧T= .int .i64 j∧j≤l.length∧s2<4294967296∧Aside (g=l.length-j∧s2=DX s (l.take j))∧w=V)
   case atStart=>exact ⟨0,s,rfl,rfl,by omega,hs,⟨rfl,by simp[DX]⟩,rfl⟩
   obtain ⟨j,s2,rfl,rfl,hj,I,M,rfl⟩:=hrel
   by_cases P:j<l.length
   · have B:(j:Int)<l.length:=by omega
     obtain ⟨x,hx⟩: ∃x,l[j]?=some x:=⟨l[j],by simp[P]⟩
     obtain ⟨b2,o2,rfl,a1⟩:=Y.out.at hx
     have a5:=x.toNat_lt
     have t:=RA s2 x.toNat I (by omega)
     have m:s2^^^x.toNat<4294967296:=Nat.xor_lt_two_pow (n:=32) (by omega) (by omega)
     obtain ⟨s3,q⟩:=Aq (s2^^^x.toNat)
     rw[q] at t m
     have y:Aside (s2^^^x.toNat=s3∧l.take (j+1)=l.take j++ [x]):=⟨q,AB hx⟩
     clear hx q
     go_wp2
     go_loopg [3,24] 8 (fun g L U V=> ∃k s4:Nat,L= .int .u32 s4∧U= .int .i64 k∧k≤8∧s4<4294967296∧Aside (g=8-k∧s4=Dm k s3)∧w=V)
     case atStart=>exact ⟨0,s3,rfl,rfl,by omega,m,⟨rfl,rfl⟩,rfl⟩
     obtain ⟨k,s4,rfl,rfl,hk,r,O,rfl⟩:=hrel
     by_cases a2:k<8
     ·have D:(k:Int)<8:=by omega
      have K:=Tu s4 r w
      have J:=KA r
      have f:Aside (Dm (k+1) s3=Db s4):=(by rw[Ky,←O.out.2]:_=_)
      obtain ⟨s5,p⟩:=Aq (Db s4)
      rw[p] at K J f
      clear p
      go_wp2_with fail
      refine K.mono ?_
      rintro e X ⟨rfl,rfl⟩
      go_wp2
      go_roundg (8-(k+1))
      case measure=>have:=O.out.1;omega
      case rel=>exact ⟨k+1,s5,rfl,by go_num,by omega,J,⟨rfl,f.out.symm⟩,rfl⟩
     have D: ¬(k:Int)<8:=by omega
     obtain rfl:k=8:=by omega
     have f:Aside (DX s (l.take (j+1))=s4):=(by rw[y.out.2,Na,←M.out.2,O.out.2];unfold Lo;rw[y.out.1]:_=_)
     clear O
     go_wp2
     go_roundg (l.length-(j+1))
     case measure=>have:=M.out.1;omega
     case rel=>exact ⟨j+1,s4,rfl,by go_num,by omega,r,⟨rfl,f.out.symm⟩,rfl⟩
   have B: ¬(j:Int)<l.length:=by omega
   have f:Aside (DX 4294967295 (ls.take (i+1)).flatten=s2):=(by
    have z:=M.out.2
    rw[List.take_of_length_le (by omega)] at z
    rw[HF.out,Kx,←A.out.2,z]:_=_)
   clear M
   go_wp2
   go_roundg (ls.length-(i+1))
   case measure=>have:=A.out.1;omega
   case rel=>exact ⟨i+1,s2,rfl,by go_num,by omega,I,⟨rfl,f.out.symm⟩,rfl⟩
 have G: ¬(i:Int)<ls.length:=by omega
 have f:Aside (DX 4294967295 ls.flatten=s):=(by
  have z:=A.out.2
  rw[List.take_of_length_le (by omega)] at z
  exact z.symm:_=_)
 have t:=RA 4294967295 s (by omega) hs
 clear A
 go_wp2
 go_ret
 refine ⟨?_,rfl⟩
 unfold Qy
 rw[f.out,←t]
 rfl
