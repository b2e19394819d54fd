/- treeFails holds for every input. No condition. (part 16) -/
import Derived.Test.YtfhbmblbidcmmaaGreatYa14
import Derived.Test.YtfhbmblbidcmmaaGreatYa15
import Derived.Test.YtfhbmblbidcmmaaGreatYa3
import Derived.Test.YtfhbmblbidcmmaaGreatYa2
import Derived.Deep.DeepCutAuto
set_option linter.all false
set_option maxRecDepth 100000
set_option maxHeartbeats 1600000
namespace Go.Proofs.YtfhbmblbidcmmaaGreat
open Go.RowKit Go.Sl Go.Dk Go.Tr
open Go.UB (AZ)
attribute [go_sem] Go.Sl.Aa Go.Sl.JL
abbrev p8:TypeId:=208
abbrev VS:TypeId:=206
abbrev ED:TypeId:=3
theorem W0: ∃i,CF Tryz.prog 45 ED 1 8 i (.int .i64 0):=JG Tryz.underlying45 (by kernel_rfl) rfl (by omega)
def I1(l:List Int):List (Int×Value):=l.map fun k=>(k,.bool true)
theorem KK(k:Int): ∀l:List Int,(Dx k (I1 l)).getD (.bool false)= .bool (l.contains k)
 | []=>rfl
 | x :: l => by
  show ((if k=x then some (Value.bool true) else Dx k (I1 l)).getD (.bool false))=_
  by_cases h:k=x
  ·rw[if_pos h];simp[h]
  rw[if_neg h,KK k l]
  simp[h]
theorem Rh(k:Int): ∀l:List Int,l.contains k=false→Er k (.bool true) (I1 l)=I1 (l++ [k])
 | [],_=>rfl
 | x :: l, h => by
  simp only[List.contains_cons,Bool.or_eq_false_iff,beq_eq_false_iff_ne,ne_eq] at h
  show (if k=x then _ else _::Er k (.bool true) (I1 l))=_
  rw[if_neg h.1,Rh k l h.2]
  rfl
theorem Ra(k:Int): ∀l:List Int,EU k (I1 l)=I1 (l.erase k)
 | []=>rfl
 | x :: l => by
  show (if k=x then I1 l else (x,Value.bool true)::EU k (I1 l))=_
  by_cases h:k=x
  ·rw[if_pos h,h];simp
  rw[if_neg h,Ra k l,List.erase_cons_tail (by simpa using fun e=>h e.symm)]
  rfl
def coreS(S U Wt:Nat)(v:Value)(r:Int):Ac:=
 Dl S p8 4*(Sl.cell S 0 (.int .i64 r)*(Sl.cell S 1 (.map (some U))*(Sl.cell S 2 (.map (some Wt))*Sl.cell S 3 v)))
section
variable (S U Wt:Nat) (v:Value) (r:Int)
instance:DA (coreS S U Wt v r) S 0 (.int .i64 r):=by unfold coreS;infer_instance
instance:DA (coreS S U Wt v r) S 1 (.map (some U)):=by unfold coreS;infer_instance
instance:DA (coreS S U Wt v r) S 2 (.map (some Wt)):=by unfold coreS;infer_instance
instance:DA (coreS S U Wt v r) S 3 v:=by unfold coreS;infer_instance
instance(a:Option Addr)(n c:Nat):UC (coreS S U Wt v r) S 3 (.slice a n c) (coreS S U Wt (.slice a n c) r):=by unfold coreS;infer_instance
end
instance QW:PB Tryz.prog VS Int AZ (.bool false):=⟨ED,4,I3,Tryz.underlying206,fun w=>by kernel_rfl⟩
theorem PS(w:World)(M:Nat)(k:Int){A:Ac}{ms:List (Int×Value)}[h:BG A w][h2:FG A M AZ ms]:(Instr.lookup VS (.map (some M)) (.int .i64 k) false).run Tryz.prog w= .ok ((Dx k ms).getD (.bool false)) w:=Nb QW w M k
theorem ZD(w:World)(M:Nat)(k:Int)(v:Value){A:Ac}{ms:List (Int×Value)}[h:BG A w][h2:FG A M AZ ms]:(Instr.mapUpdate VS (.map (some M)) (.int .i64 k) v).run Tryz.prog w= .ok () (NC Tryz.prog VS M (AZ k) v w):=Ux QW w M k v
theorem Z2(w:World)(M:Nat)(k:Int)(a b:TypeId){A:Ac}{ms:List (Int×Value)}[h:BG A w][h2:FG A M AZ ms]:(Builtin.delete_ #[VS,a] b #[.map (some M),.int .i64 k]).run Tryz.prog w= .ok (.tuple #[]) (Oh Tryz.prog VS M (AZ k) w):=Ua QW w M k a b
instance{w:World}{M:Nat}{k:Int}{v:Value}{A A':Ac}{ms:List (Int×Value)}[h:BG A w][h2:FG A M AZ ms][h3:Mm A M AZ (Er k v ms) A']:BG A' (NC Tryz.prog VS M (AZ k) v w):=Qh QW
instance{w:World}{M:Nat}{k:Int}{A A':Ac}{ms:List (Int×Value)}[h:BG A w][h2:FG A M AZ ms][h3:Mm A M AZ (EU k ms) A']:BG A' (Oh Tryz.prog VS M (AZ k) w):=Ub QW
def ints(l:List Int):List Value:=l.map (Value.int .i64)
def E9(S U Wt:Nat)(v:Value)(s:Sp):Ac:=coreS S U Wt v s.A5*(mp AZ U (I1 s.used)*(mp AZ Wt (I1 s.waiting)*rw ED 1 v (ints s.taken)))
def BA(S:Nat)(s:Sp):Ac:=ex fun x:Nat×Nat×Value=>E9 S x.1 x.2.1 x.2.2 s
theorem Sat.H3{S:Nat}{s:Sp}{F:Ac}{w:World}(hs:Sat (BA S s*F) w): ∃U Wt v,Sat (E9 S U Wt v s*F) w:=by
 obtain ⟨⟨U,Wt,v⟩,h⟩:=hs.Mu
 exact ⟨U,Wt,v,h⟩
theorem Sat.FX{S U Wt:Nat}{v:Value}{s:Sp}{F:Ac}{w:World}(hs:Sat (E9 S U Wt v s*F) w):Sat (BA S s*F) w:=Sat.Mv (U,Wt,v) hs
theorem T2(S:Nat)(s:Sp)(F:Ac)(w:World)(hs:Sat (BA S s*F) w):
 Calls Tryz.prog 82 #[.pointer (some ⟨S,0,none⟩)] w fun e l=>e= .returned (.int .i64 s.mark)∧Sat (BA S s*F) l:=by
 obtain ⟨U,Wt,v,b⟩:=Sat.H3 hs
 have d:Sat (rw ED 1 v (ints s.taken)*(coreS S U Wt v s.A5*(mp AZ U (I1 s.used)*(mp AZ Wt (I1 s.waiting)*F)))) w:=b.eq (by unfold E9;ac_rfl)
 obtain ⟨a,n,c,rfl,f,_⟩:=Oo d
 have g:s.taken.length=n:=by simpa[ints] using f
 have k:Aside (Sat (BA S s*F) w):=hs
 have j:Aside (s.mark=(n:Int)):=(by unfold Sp.mark;rw[g]:_=_)
 haveI:=d.i
 clear hs b f g
 go_enter Tryz.func82,Tryz.ntmps82
 go_wp2
 go_ret
 exact ⟨by rw[j.out];rfl,k.out⟩
theorem VD(r:Int)(F:Ac)(w:World)(q:0≤r)(t:r≤1048576)(hs:Sat F w):
 Calls Tryz.prog 63 #[.int .i64 r] w fun e m=> ∃S,e= .returned (.tuple #[.pointer (some ⟨S,0,none⟩),.int .i64 0])∧Sat (BA S (Sp.new r)*F) m:=by
 have n:decide (r<0)=false:=by simp;omega
 have p:decide (1048576<r)=false:=by simp;omega
 have l:= @run_makeMap Tryz.prog
 have c:=hs.CH (.map #[] 0)
 have d:=c.CH (.map #[] 0)
 have i:(w.alloc (.map #[] 0)).heap.size=w.heap.size+1:=by simp
 have j:((w.alloc (.map #[] 0)).alloc (.map #[] 0)).heap.size=w.heap.size+2:=by simp
 have a:=d.alloc #[.int .i64 r,.map (some w.heap.size),.map (some (w.heap.size+1)),.slice none 0 0] p8
 rw[i,j] at a
 have f:=Sat.Dn (kf:=AZ) (ms:= []) (b:=w.heap.size) (o:= .map #[] 0) ⟨#[],0,rfl,rfl,by simp,by simp⟩ (a.take (raw w.heap.size _))
 have g:=Sat.Dn (kf:=AZ) (ms:= []) (b:=w.heap.size+1) (o:= .map #[] 0) ⟨#[],0,rfl,rfl,by simp,by simp⟩ (f.take (raw (w.heap.size+1) _))
 have k:=Sat.Bj (e:=ED) (s:=1) g
 clear c d a f g i j hs
 go_enter Tryz.func63,Tryz.ntmps63
 go_wp2
 go_ret2
 refine ⟨w.heap.size+2,rfl,Sat.FX (U:=w.heap.size) (Wt:=w.heap.size+1) (v:= .slice none 0 0) (k.eq ?_)⟩
 unfold E9 coreS
 simp only[block,Sl.cells,Bd,Sp.new,I1,ints,List.map_nil,List.length_cons,List.length_nil,Nat.zero_add,Nat.reduceAdd]
 ac_rfl
theorem Ke(S : Nat)(s : Sp)(F : Ac)(w : World)(hs : Sat (BA S s * F) w)(hr : 0 ≤ s.A5)(q : s.A5 ≤ 1048576)(V : s.taken.length ≤ 1099511627776) :
 Calls Tryz.prog 193 #[.pointer (some ⟨S,0,none⟩)] w fun e X=>e= .returned (.tuple #[.int .i64 s.take.1.1,.int .i64 s.take.1.2])∧Sat (BA S s.take.2*F) X:=by
 obtain ⟨i0,M⟩:=W0
 obtain ⟨U,Wt,v,H⟩:=Sat.H3 hs
 have y:Sat (rw ED 1 v (ints s.taken)*(coreS S U Wt v s.A5*(mp AZ U (I1 s.used)*(mp AZ Wt (I1 s.waiting)*F)))) w:=H.eq (by unfold E9;ac_rfl)
 obtain ⟨a,n,c,rfl,I,_⟩:=Oo y
 have J:s.taken.length=n:=by simpa[ints] using I
 obtain ⟨D,o⟩: ∃r,s.take=r:=⟨_,rfl⟩
 have G:Aside (s.take=D):=o
 have Y:Aside (s.taken.length=n):=J
 have R:n≤1099511627776:=by omega
 obtain ⟨r0,m⟩: ∃r,s.A5=r:=⟨_,rfl⟩
 have l:Aside (s.A5=r0):=m
 rw[m] at hr q y
 rw[o]
 haveI:=y.i
 clear hs H I J V o m
 go_enter Tryz.func193,Tryz.ntmps193
 go_wp2
 go_loopg [4] (1048576-r0).toNat (fun g W wr=> ∃no:Int,W= .int .i64 no∧r0≤no∧no≤1048576∧Aside (g=(1048576-no).toNat∧s.free=s.least (1048576-no).toNat no)∧w=wr)
 case atStart=>exact ⟨r0,rfl,by omega,q,⟨rfl,by unfold Sp.free;rw[l.out]⟩,rfl⟩
 obtain ⟨no,rfl,T,K,A,rfl⟩:=hrel
 by_cases Q:no<1048576
 · have d : s.free = if s.busy no then s.least (1048576 - (no + 1)).toNat (no + 1) else some no := by
    rw[A.out.2]
    obtain ⟨k,P⟩: ∃k,(1048576-no).toNat=k+1:=⟨(1048576-no).toNat-1,by omega⟩
    rw[P,show (1048576-(no+1)).toNat=k by omega]
    rfl
   have l1:=fun w=> @PS w U no
   have l2:=fun w=> @PS w Wt no
   have B:=KK no s.used
   have L:=KK no s.waiting
   cases f:s.used.contains no with
   | true =>
     have j:Aside (s.free=s.least (1048576-(no+1)).toNat (no+1)):=(by rw[d,if_pos (by unfold Sp.busy;rw[f];rfl)]:_=_)
     rw[f] at B
     clear d f
     go_wp2_with fail
     go_roundg (1048576-(no+1)).toNat
     case measure=>have:=A.out.1;omega
     case rel=>exact ⟨no+1,rfl,by omega,by omega,⟨rfl,j.out⟩,rfl⟩
   | false =>
     cases hw:s.waiting.contains no with
     | true =>
      have j:Aside (s.free=s.least (1048576-(no+1)).toNat (no+1)):=(by rw[d,if_pos (by unfold Sp.busy;rw[hw,Bool.or_true])]:_=_)
      rw[f] at B
      rw[hw] at L
      clear d f hw
      go_wp2_with fail
      go_roundg (1048576-(no+1)).toNat
      case measure=>have:=A.out.1;omega
      case rel=>exact ⟨no+1,rfl,by omega,by omega,⟨rfl,j.out⟩,rfl⟩
     | false =>
      have j:Aside (D=((no,0), { s with used:=s.used++ [no],taken:=s.taken++ [no] })):=(by
       rw[←G.out]
       unfold Sp.take
       rw[d,if_neg (by unfold Sp.busy;rw[f,hw];simp)]:_=_)
      have Z:=fun w=> @ZD w U no (.bool true)
      have t:=Rh no s.used f
      have O:Aside (Er no (Value.bool true) (I1 s.used)=I1 (s.used++ [no])):=t
      rw[f] at B
      rw[hw] at L
      clear d f hw t
      go_wp2_with (at_builtin;go_loud (refine Aj M rfl (.tmp 38) (.tmp 40) rfl rfl rfl (Ae (rw ED 1 (.slice a n c) (ints s.taken))) (Src.new (b:=(NC Tryz.prog VS U (AZ no) (.bool true) w).heap.size) (e:=ED) (s:=1) (vs:= [.int .i64 no]) (Ae _) rfl (by intro u f;simp at f;subst f;rfl)) (by unfold maxLen;omega) (by omega) ?_;intro a' x w3 z p;haveI:=z.i;clear p))
      go_ret2
      rw[j.out]
      refine ⟨rfl,Sat.FX (U:=U) (Wt:=Wt) (v:= .slice a' (n+1) x) ?_⟩
      unfold E9
      rw[←O.out]
      show Sat (coreS S U Wt (.slice a' (n+1) x) s.A5*(mp AZ U _*(mp AZ Wt (I1 s.waiting)*rw ED 1 (.slice a' (n+1) x) (ints (s.taken++ [no]))))*F) _
      rw[l.out,show ints (s.taken++ [no])=ints s.taken++ [.int .i64 no] by simp[ints]]
      exact Br (C:=Sl.block (NC Tryz.prog VS U (AZ no) (.bool true) w).heap.size ED [.int .i64 no]) (by ac_rfl)
 have d:s.free=none:=by
  rw[A.out.2,show (1048576-no).toNat=0 by omega]
  rfl
 have j:Aside (D=((0,9),s)):=(by
  rw[←G.out]
  unfold Sp.take
  rw[d]:_=_)
 clear d
 go_wp2
 go_ret2
 rw[j.out]
 refine ⟨rfl,Sat.FX (U:=U) (Wt:=Wt) (v:= .slice a n c) ?_⟩
 unfold E9
 rw[l.out]
 exact A8 (by ac_rfl)
def BR:List Int→List Int→List Int→List Int×List Int
 | [],u,o=>(u,o)
 |k::l,u,o=>if u.contains k then BR l (u.erase k) (o++ [k]) else BR l u o
def D3(s:Sp)(m:Nat):List Int×Sp:=(E8 (BR (s.taken.drop m) s.used []).2, { s with used:=(BR (s.taken.drop m) s.used []).1,taken:=s.taken.take m })
theorem Gc: ∀(l:List Int)(k:Int)(u o:List Int),BR (l++ [k]) u o=if (BR l u o).1.contains k then ((BR l u o).1.erase k,(BR l u o).2++ [k]) else BR l u o
 | [],k,u,o=>rfl
 | x :: l, k, u, o => by
  show (if u.contains x then BR (l++ [k]) (u.erase x) (o++ [x]) else BR (l++ [k]) u o)=if (if u.contains x then BR l (u.erase x) (o++ [x]) else BR l u o).1.contains k then _ else _
  by_cases h:u.contains x=true
  ·rw[if_pos h,if_pos h,Gc l k]
   show _=if _ then ((if u.contains x then BR l (u.erase x) (o++ [x]) else BR l u o).1.erase k,(if u.contains x then BR l (u.erase x) (o++ [x]) else BR l u o).2++ [k]) else (if u.contains x then BR l (u.erase x) (o++ [x]) else BR l u o)
   rw[if_pos h]
  rw[if_neg h,if_neg h,Gc l k]
  show _=if _ then ((if u.contains x then BR l (u.erase x) (o++ [x]) else BR l u o).1.erase k,(if u.contains x then BR l (u.erase x) (o++ [x]) else BR l u o).2++ [k]) else (if u.contains x then BR l (u.erase x) (o++ [x]) else BR l u o)
  rw[if_neg h]
theorem Hg: ∀(l u o:List Int),(BR l u o).2.length≤o.length+l.length
 | [],u,o=>Nat.le_refl _
 | x :: l, u, o => by
  show (if u.contains x then BR l (u.erase x) (o++ [x]) else BR l u o).2.length≤_
  split
  ·have:=Hg l (u.erase x) (o++ [x])
   simp only[List.length_append,List.length_cons,List.length_nil] at this⊢
   omega
  have:=Hg l u o
  simp only[List.length_cons]
  omega
theorem T0(S:Nat)(s:Sp)(m:Nat)(F:Ac)(w:World)(hs:Sat (BA S s*F) w)(hm:m≤s.taken.length)(ht:s.taken.length≤1099511627776):
 Calls Tryz.prog 134 #[.pointer (some ⟨S,0,none⟩),.int .i64 m] w fun e w'=> ∃a c,e= .returned (.tuple #[.slice a (D3 s m).1.length c,.int .i64 0])∧Sat (rw ED 1 (.slice a (D3 s m).1.length c) (ints (D3 s m).1)*(BA S (D3 s m).2*F)) w':=by
 obtain ⟨i0,J⟩:=W0
 obtain ⟨U,Wt,v,h1⟩:=Sat.H3 hs
 have B:Sat (rw ED 1 v (ints s.taken)*(coreS S U Wt v s.A5*(mp AZ U (I1 s.used)*(mp AZ Wt (I1 s.waiting)*F)))) w:=h1.eq (by unfold E9;ac_rfl)
 obtain ⟨a,n,c,rfl,h3,ak,ag⟩:=Oo B
 have R:s.taken.length=n:=by simpa[ints] using h3
 obtain ⟨rr,y⟩: ∃r,D3 s m=r:=⟨_,rfl⟩
 have HR:Aside (D3 s m=rr):=y
 have HN:Aside (s.taken.length=n):=R
 have t:m≤n:=by omega
 have aj:n≤1099511627776:=by omega
 obtain ⟨l,hl⟩: ∃l,s.taken.drop m=l:=⟨_,rfl⟩
 have HL:Aside (s.taken.drop m=l):=hl
 have ah:l.length=n-m:=by rw[←hl,List.length_drop,R]
 have x:Al 1 (rw ED 1 (.slice a n c) (ints s.taken)) (.slice (BP a c m 1) (n-m) (c-m)) (n-m) (ints l):=by
  have:=(Al.rw B ⟨a,c,rfl⟩).cut m n t (Nat.le_refl _)
  rw[Nat.mul_one,Nat.mul_one] at this
  have e:(List.drop m (ints s.taken)).take (n-m)=ints l:=by
   rw[←hl]
   unfold ints
   rw[List.map_drop,List.take_of_length_le (by simp;omega)]
  rw[e] at this
  exact this
 obtain ⟨Y,p⟩: ∃z,BP a c m 1=z:=⟨_,rfl⟩
 have ae: ∀w,(Instr.sliceAt 45 (.slice a n c) (some (.int .i64 m)) none none).run Tryz.prog w= .ok (.slice Y (n-m) (c-m)) w:=fun w=>by rw[←p];exact Gb J m t w
 have af: ∀w,(Instr.sliceAt 45 (.slice a n c) none (some (.int .i64 m)) none).run Tryz.prog w= .ok (.slice (BP a c 0 1) m c) w:=fun w=>LP J m (by omega) w
 rw[p] at x
 have L:Aside (Al 1 (rw ED 1 (.slice a n c) (ints s.taken)) (.slice Y (n-m) (c-m)) (n-m) (ints l)):=x
 rw[y]
 have O:=B.Bj (e:=ED) (s:=1)
 have d1:decide ((m:Int)<0)=false:=by simp
 have d2:decide ((n:Int)<m)=false:=by simp;omega
 have d3:decide (n<m)=false:=by simp;omega
 haveI:=B.i
 clear hs h1 h3 R ht y hl x p hm
 go_enter Tryz.func134,Tryz.ntmps134
 go_wp2
 go_loopg [6,31] (n-m) (fun g t6 W wr=> ∃(j:Nat)(u o:List Int)(d:Option Addr)(c2:Nat),W= .int .i64 j∧t6= .slice d o.length c2∧j≤n-m∧o.length≤1099511627776∧Aside (g=n-m-j∧BR (l.take j) s.used []=(u,o))∧
  Sat (rw ED 1 (.slice d o.length c2) (ints o)*(rw ED 1 (.slice a n c) (ints s.taken)*(coreS S U Wt (.slice a n c) s.A5*(mp AZ U (I1 u)*(mp AZ Wt (I1 s.waiting)*F))))) wr)
 case atStart=>exact ⟨0,s.used,[],none,0,rfl,rfl,by omega,by simp,⟨rfl,rfl⟩,O⟩
 obtain ⟨j,u,o,d,c2,rfl,rfl,hj,T,A,I⟩:=hrel
 haveI:=I.i
 by_cases ai:j<n-m
 · have G:(j:Int)<((n-m:Nat):Int):=by omega
   obtain ⟨k,Q⟩: ∃k,l[j]?=some k:=⟨_,List.getElem?_eq_getElem (by omega)⟩
   obtain ⟨b,q,rfl,r1⟩:=(Al.at L.out) j (.int .i64 k) (by unfold ints;rw[List.getElem?_map,Q];rfl)
   have X:Aside (l.take (j+1)=l.take j++ [k]):=AA Q
   have HO:Aside (o.length≤j):=(by
    have:=Hg (l.take j) s.used []
    rw[A.out.2] at this
    simp at this
    omega:_≤_)
   have l1:=fun w=> @PS w U k
   have m1:=KK k u
   clear B O Q
   cases f:u.contains k with
   | true =>
     have p1:=fun w=> @Z2 w U k
     have md:=Ra k u
     have M:Aside (u.contains k=true):=f
     have a5:=HO.out
     rw[f] at m1
     clear f
     go_wp2_with (at_builtin;go_loud (refine Aj J rfl (.tmp 46) (.tmp 48) rfl rfl rfl (Ae (rw ED 1 (.slice d o.length c2) (ints o))) (Src.new (b:=(Oh Tryz.prog VS U (AZ k) wr).heap.size) (e:=ED) (s:=1) (vs:= [.int .i64 k]) (Ae _) rfl (by intro u f;simp at f;subst f;rfl)) (by unfold maxLen;omega) (by omega) ?_;intro a' Z w3 V H;haveI:=V.i;clear H))
     go_roundg (n-m-(j+1))
     case measure=>have:=A.out.1;omega
     refine ⟨j+1,u.erase k,o++ [k],a',Z,by go_num,by simp,by omega,by simp;omega,⟨rfl,?_⟩,?_⟩
     ·rw[X.out,Gc,A.out.2]
      show (if u.contains k=true then _ else _)=_
      rw[if_pos M.out]
     rw[←md,show ints (o++ [k])=ints o++ [.int .i64 k] by simp[ints],List.length_append]
     exact Br (C:=Sl.block (Oh Tryz.prog VS U (AZ k) wr).heap.size ED [.int .i64 k]) (by show rw ED 1 (.slice a' (o.length+1) Z) _*_=_;ac_rfl)
   | false =>
     have M:Aside (u.contains k=false):=f
     rw[f] at m1
     clear f
     go_wp2_with fail
     go_roundg (n-m-(j+1))
     case measure=>have:=A.out.1;omega
     refine ⟨j+1,u,o,d,c2,by go_num,rfl,by omega,T,⟨rfl,?_⟩,Es⟩
     rw[X.out,Gc,A.out.2]
     show (if u.contains k=true then _ else _)=_
     rw[if_neg (by rw[M.out];simp)]
 have G: ¬(j:Int)<((n-m:Nat):Int):=by omega
 have D:l.take j=l:=List.take_of_length_le (by omega)
 have HB:Aside (rr=(E8 o, { s with used:=u,taken:=s.taken.take m })):=(by
  rw[←HR.out]
  unfold D3
  have:=A.out.2
  rw[D] at this
  rw[HL.out,this]:_=_)
 clear A D B O
 go_upto_region 12 with (fail)
 have h5:Sat (rw ED 1 (.slice a n c) (ints s.taken)*(rw ED 1 (.slice d o.length c2) (ints o)*(coreS S U Wt (.slice (BP a c 0 1) m c) s.A5*(mp AZ U (I1 u)*(mp AZ Wt (I1 s.waiting)*F))))) (wr.setCell ⟨S,3,none⟩ (.slice (BP a c 0 1) m c)):=A8 (by ac_rfl)
 have P:=h5.XA m t
 generalize wr.setCell ⟨S,3,none⟩ (.slice (BP a c 0 1) m c)=w5 at P⊢
 have h7:=Md d o.length c2 o _ w5 (P.take (rw ED 1 (.slice d o.length c2) (ints o))) (by omega)
 clear h5 P I
 go_wp2_with fail
 refine h7.mono ?_
 rintro e w6 ⟨rfl,h8⟩
 clear h7
 go_wp2
 go_ret2
 rw[HB.out]
 have K:(E8 o).length=o.length:=(List.mergeSort_perm o _).length_eq
 simp only[K]
 refine ⟨d,c2,rfl,?_⟩
 have h9:Sat (E9 S U Wt (.slice (BP a c 0 1) m c) { s with used:=u,taken:=s.taken.take m } *(rw ED 1 (.slice d o.length c2) (ints (E8 o))*F)) w6:=h8.eq (by
  unfold E9 ints
  rw[Nat.mul_one,List.map_take]
  dsimp only[ED]
  ac_rfl)
 exact (Sat.FX h9).eq (by ac_rfl)
