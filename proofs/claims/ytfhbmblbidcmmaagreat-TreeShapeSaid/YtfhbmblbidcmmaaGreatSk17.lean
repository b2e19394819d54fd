/- treeShape holds for every input. No condition. (part 17) -/
import Derived.Test.YtfhbmblbidcmmaaGreatSk5
import Derived.Test.YtfhbmblbidcmmaaGreatSk6
set_option linter.all false
set_option maxHeartbeats 800000
namespace Go.Proofs.YtfhbmblbidcmmaaGreat
open Go.RowKit Go.Sl Go.Tr
theorem cX(a:Nat)(h:a<4294967296):(BitVec.ofInt 32 (a:Int)).toNat=a:=by
 rw[BitVec.toNat_ofInt]
 omega
theorem QJ(a b:Nat)(ha:a<4294967296)(hb:b<4294967296):bits .xor .u32 (a:Int) (b:Int)=((a^^^b:Nat):Int):=by
 show IntKind.u32.wrap (((BitVec.ofInt 32 (a:Int)^^^BitVec.ofInt 32 (b:Int)).toNat:Nat):Int)=_
 rw[BitVec.toNat_xor,cX a ha,cX b hb]
 have h:=Nat.xor_lt_two_pow (n:=32) (x:=a) (y:=b) (by omega) (by omega)
 simp[IntKind.wrap,IntKind.bits,IntKind.signed]
 omega
theorem eR(a:Nat)(ha:a<4294967296):bits .and .u32 (a:Int) 1=((a%2:Nat):Int):=by
 show IntKind.u32.wrap (((BitVec.ofInt 32 (a:Int)&&&BitVec.ofInt 32 (1:Int)).toNat:Nat):Int)=_
 rw[BitVec.toNat_and,cX a ha,show (BitVec.ofInt 32 (1:Int)).toNat=1 from rfl,Nat.and_one_is_mod]
 simp[IntKind.wrap,IntKind.bits,IntKind.signed]
 omega
theorem Ss(s:Nat)(hs:s<4294967296)(w:World):
 Calls Tryz.prog 231 #[.int .u32 s] w fun e b=>e= .returned (.int .u32 (CW s:Nat))∧w=b:=by
 have ha:=eR s hs
 have hx:=QJ (s/2) 3988292384 (by omega) (by omega)
 by_cases h:s%2=1
 ·have e:CW s=(s/2)^^^3988292384:=by unfold CW;rw[if_pos h]
  rw[e]
  rw[h] at ha
  have a:bits .xor .u32 ((s:Int)/2) 3988292384=((s/2^^^3988292384:Nat):Int):=hx
  clear e h hx
  go_enter Tryz.func231,Tryz.ntmps231
  go_wp2
  go_ret
  exact ⟨rfl,rfl⟩
 have e:CW s=s/2:=by unfold CW;rw[if_neg h]
 rw[e]
 rw[show s%2=0 by omega] at ha
 clear e h hx
 go_enter Tryz.func231,Tryz.ntmps231
 go_wp2
 go_ret
 exact ⟨rfl,rfl⟩
def Wd(w:World)(v:Value)(ls:List (List UInt8)):Prop:=
 ∃a c,v= .slice a ls.length c∧ls.length≤9223372036854775807∧ ∀i l,ls[i]?=some l→ ∃b o u,a=some ⟨b,o,none⟩∧w.cell? ⟨b,o+i,none⟩=some u∧Mr w u l
theorem Xp{ls:List (List UInt8)}{i:Nat}{l:List UInt8}(h:ls[i]?=some l):(ls.take (i+1)).flatten=(ls.take i).flatten++l:=by
 rw[A9 h];simp
theorem My(s:Nat)(a:List UInt8)(x:UInt8):DH s (a++ [x])=KJ (DH s a) x:=by rw[Ka];rfl
theorem Kb(k s:Nat):Di (k+1) s=CW (Di k s):=by
 induction k generalizing s with
 |zero=>rfl
 |succ k a=>show Di (k+1) (CW s)=_;rw[a];rfl
theorem PC(v:Value)(ls:List (List UInt8))(w:World)(hp:Wd w v ls):
 Calls Tryz.prog 183 #[v] w fun e X=>e= .returned (.int .u32 (Pq ls.flatten:Nat))∧w=X:=by
 obtain ⟨a,c,rfl,a3,d⟩:=hp
 have Z:Aside (∀i l,ls[i]?=some l→ ∃b o u,a=some ⟨b,o,none⟩∧w.cell? ⟨b,o+i,none⟩=some u∧Mr w u l):=d
 clear d
 go_enter Tryz.func183,Tryz.ntmps183
 go_wp2
 go_loopg [3,10] ls.length (fun g L R wr=> ∃i s:Nat,L= .int .u32 s∧R= .int .i64 i∧i≤ls.length∧s<4294967296∧Aside (g=ls.length-i∧s=DH 4294967295 (ls.take i).flatten)∧w=wr)
 case atStart=>exact ⟨0,4294967295,rfl,rfl,by omega,by omega,⟨rfl,rfl⟩,rfl⟩
 obtain ⟨i,s,rfl,rfl,hi,hs,A,rfl⟩:=hrel
 by_cases Q:i<ls.length
 · have G:(i:Int)<ls.length:=by omega
   obtain ⟨l,hl⟩: ∃l,ls[i]?=some l:=⟨ls[i],by simp[Q]⟩
   obtain ⟨b,o,u,rfl,hc,hb⟩:=Z.out i l hl
   obtain ⟨pa,pc,rfl,a4,H⟩:=hb.len
   have HF:Aside ((ls.take (i+1)).flatten=(ls.take i).flatten++l):=Xp hl
   have W:l.length≤9223372036854775807:=by
     have:pc≤9223372036854775807:=by simpa[maxLen] using H
     omega
   have Y:Aside (Mr w (.slice pa l.length pc) l):=hb
   clear hl hb H
   go_wp2
   go_loopg [3,16] l.length (fun g L T V=> ∃j s2:Nat,L= .int .u32 s2∧T= .int .i64 j∧j≤l.length∧s2<4294967296∧Aside (g=l.length-j∧s2=DH s (l.take j))∧w=V)
   case atStart=>exact ⟨0,s,rfl,rfl,by omega,hs,⟨rfl,by simp[DH]⟩,rfl⟩
   obtain ⟨j,s2,rfl,rfl,hj,I,M,rfl⟩:=hrel
   by_cases P:j<l.length
   · have B:(j:Int)<l.length:=by omega
     obtain ⟨x,hx⟩: ∃x,l[j]?=some x:=⟨l[j],by simp[P]⟩
     obtain ⟨b2,o2,rfl,a1⟩:=Y.out.at hx
     have a5:=x.toNat_lt
     have t:=QJ s2 x.toNat I (by omega)
     have m:s2^^^x.toNat<4294967296:=Nat.xor_lt_two_pow (n:=32) (by omega) (by omega)
     obtain ⟨s3,q⟩:=Aq (s2^^^x.toNat)
     rw[q] at t m
     have y:Aside (s2^^^x.toNat=s3∧l.take (j+1)=l.take j++ [x]):=⟨q,A9 hx⟩
     clear hx q
     go_wp2
     go_loopg [3,24] 8 (fun g L U V=> ∃k s4:Nat,L= .int .u32 s4∧U= .int .i64 k∧k≤8∧s4<4294967296∧Aside (g=8-k∧s4=Di k s3)∧w=V)
     case atStart=>exact ⟨0,s3,rfl,rfl,by omega,m,⟨rfl,rfl⟩,rfl⟩
     obtain ⟨k,s4,rfl,rfl,hk,r,O,rfl⟩:=hrel
     by_cases a2:k<8
     ·have D:(k:Int)<8:=by omega
      have K:=Ss s4 r w
      have J:=Ki r
      have f:Aside (Di (k+1) s3=CW s4):=(by rw[Kb,←O.out.2]:_=_)
      obtain ⟨s5,p⟩:=Aq (CW s4)
      rw[p] at K J f
      clear p
      go_wp2_with fail
      refine K.mono ?_
      rintro e X ⟨rfl,rfl⟩
      go_wp2
      go_roundg (8-(k+1))
      case measure=>have:=O.out.1;omega
      case rel=>exact ⟨k+1,s5,rfl,by go_num,by omega,J,⟨rfl,f.out.symm⟩,rfl⟩
     have D: ¬(k:Int)<8:=by omega
     obtain rfl:k=8:=by omega
     have f:Aside (DH s (l.take (j+1))=s4):=(by rw[y.out.2,My,←M.out.2,O.out.2];unfold KJ;rw[y.out.1]:_=_)
     clear O
     go_wp2
     go_roundg (l.length-(j+1))
     case measure=>have:=M.out.1;omega
     case rel=>exact ⟨j+1,s4,rfl,by go_num,by omega,r,⟨rfl,f.out.symm⟩,rfl⟩
   have B: ¬(j:Int)<l.length:=by omega
   have f:Aside (DH 4294967295 (ls.take (i+1)).flatten=s2):=(by
    have z:=M.out.2
    rw[List.take_of_length_le (by omega)] at z
    rw[HF.out,Ka,←A.out.2,z]:_=_)
   clear M
   go_wp2
   go_roundg (ls.length-(i+1))
   case measure=>have:=A.out.1;omega
   case rel=>exact ⟨i+1,s2,rfl,by go_num,by omega,I,⟨rfl,f.out.symm⟩,rfl⟩
 have G: ¬(i:Int)<ls.length:=by omega
 have f:Aside (DH 4294967295 ls.flatten=s):=(by
  have z:=A.out.2
  rw[List.take_of_length_le (by omega)] at z
  exact z.symm:_=_)
 have t:=QJ 4294967295 s (by omega) hs
 clear A
 go_wp2
 go_ret
 refine ⟨?_,rfl⟩
 unfold Pq
 rw[f.out,←t]
 rfl
