/- censusPages holds for every input. No condition. (part 15) -/
import Derived.Test.YtfhbmblbidcmmaaGreatVa13
import Derived.Test.YtfhbmblbidcmmaaGreatVa14
import Derived.Test.YtfhbmblbidcmmaaGreatVa3
import Derived.Test.YtfhbmblbidcmmaaGreatVa2
import Derived.Deep.DeepCutAuto
set_option linter.all false
set_option maxRecDepth 100000
set_option maxHeartbeats 1600000
namespace Go.Proofs.YtfhbmblbidcmmaaGreat
open Go.RowKit Go.Sl Go.Dk Go.Tr
open Go.PW (A8)
attribute [go_sem] Go.Sl.Ac Go.Sl.Iw
abbrev nP:TypeId:=208
abbrev Qd:TypeId:=206
abbrev Cb:TypeId:=3
theorem KC: ∃i,C8 Tryz.prog 45 Cb 1 8 i (.int .i64 0):=Iq Tryz.underlying45 (by kernel_rfl) rfl (by omega)
def GB(l:List Int):List (Int×Value):=l.map fun k=>(k,.bool true)
theorem Hw(k:Int): ∀l:List Int,(Cp k (GB l)).getD (.bool false)= .bool (l.contains k)
 | []=>rfl
 | x :: l => by
  show ((if k=x then some (Value.bool true) else Cp k (GB l)).getD (.bool false))=_
  by_cases h:k=x
  ·simp_all
  rw[if_neg h,Hw k l]
  grind
theorem Pm(k:Int): ∀l:List Int,l.contains k=false→CW k (.bool true) (GB l)=GB (l++ [k])
 | [],_=>rfl
 | x :: l, h => by
  simp only[List.contains_cons,Bool.or_eq_false_iff,beq_eq_false_iff_ne,ne_eq] at h
  show (if k=x then _ else _::CW k (.bool true) (GB l))=_
  rw[if_neg h.1,Pm k l h.2]
  rfl
theorem Uv(k:Int): ∀l:List Int,FP k (GB l)=GB (l.erase k)
 | []=>rfl
 | x :: l => by
  show (if k=x then GB l else (x,Value.bool true)::FP k (GB l))=_
  by_cases h:k=x
  ·simp_all
  rw[if_neg h,Uv k l,List.erase_cons_tail (by simpa using fun e=>h e.symm)]
  rfl
def coreS(S U Wt:Nat)(v:Value)(r:Int):Ab:=
 Ew S nP 4*(Sl.cell S 0 (.int .i64 r)*(Sl.cell S 1 (.map (some U))*(Sl.cell S 2 (.map (some Wt))*Sl.cell S 3 v)))
section
variable (S U Wt:Nat) (v:Value) (r:Int)
instance:Em (coreS S U Wt v r) S 0 (.int .i64 r):=by unfold coreS;infer_instance
instance:Em (coreS S U Wt v r) S 1 (.map (some U)):=by unfold coreS;infer_instance
instance:Em (coreS S U Wt v r) S 2 (.map (some Wt)):=by unfold coreS;infer_instance
instance:Em (coreS S U Wt v r) S 3 v:=by unfold coreS;infer_instance
instance(a:Option Addr)(n c:Nat):VN (coreS S U Wt v r) S 3 (.slice a n c) (coreS S U Wt (.slice a n c) r):=by unfold coreS;infer_instance
end
instance Ur:PZ Tryz.prog Qd Int A8 (.bool false):=⟨Cb,4,Jt,Tryz.underlying206,fun w=>by kernel_rfl⟩
theorem L2(w:World)(M:Nat)(k:Int){A:Ab}{ms:List (Int×Value)}[h:AV A w][h2:DM A M A8 ms]:(Instr.lookup Qd (.map (some M)) (.int .i64 k) false).run Tryz.prog w= .ok ((Cp k ms).getD (.bool false)) w:=OY Ur w M k
theorem WI(w:World)(M:Nat)(k:Int)(v:Value){A:Ab}{ms:List (Int×Value)}[h:AV A w][h2:DM A M A8 ms]:(Instr.mapUpdate Qd (.map (some M)) (.int .i64 k) v).run Tryz.prog w= .ok () (Gt Tryz.prog Qd M (A8 k) v w):=SA Ur w M k v
theorem jC(w:World)(M:Nat)(k:Int)(a b:TypeId){A:Ab}{ms:List (Int×Value)}[h:AV A w][h2:DM A M A8 ms]:(Builtin.delete_ #[Qd,a] b #[.map (some M),.int .i64 k]).run Tryz.prog w= .ok (.tuple #[]) (Qi Tryz.prog Qd M (A8 k) w):=XG Ur w M k a b
instance{w:World}{M:Nat}{k:Int}{v:Value}{A A':Ab}{ms:List (Int×Value)}[h:AV A w][h2:DM A M A8 ms][h3:K7 A M A8 (CW k v ms) A']:AV A' (Gt Tryz.prog Qd M (A8 k) v w):=SB Ur
instance{w:World}{M:Nat}{k:Int}{A A':Ab}{ms:List (Int×Value)}[h:AV A w][h2:DM A M A8 ms][h3:K7 A M A8 (FP k ms) A']:AV A' (Qi Tryz.prog Qd M (A8 k) w):=XH Ur
def ints(l:List Int):List Value:=l.map (Value.int .i64)
def Gv(S U Wt:Nat)(v:Value)(s:Sp):Ab:=coreS S U Wt v s.Ba*(mp A8 U (GB s.used)*(mp A8 Wt (GB s.waiting)*rw Cb 1 v (ints s.taken)))
def Cd(S:Nat)(s:Sp):Ab:=ex fun x:Nat×Nat×Value=>Gv S x.1 x.2.1 x.2.2 s
theorem Sat.Lb{S:Nat}{s:Sp}{F:Ab}{w:World}(hs:Sat (Cd S s*F) w): ∃U Wt v,Sat (Gv S U Wt v s*F) w:=by
 obtain ⟨⟨U,Wt,v⟩,h⟩:=hs.NZ
 grind
theorem Sat.IP{S U Wt:Nat}{v:Value}{s:Sp}{F:Ab}{w:World}(hs:Sat (Gv S U Wt v s*F) w):Sat (Cd S s*F) w:=Sat.Oa (U,Wt,v) hs
theorem Xm(S:Nat)(s:Sp)(F:Ab)(w:World)(hs:Sat (Cd S s*F) w):
 Calls Tryz.prog 82 #[.pointer (some ⟨S,0,none⟩)] w fun e k=>e= .returned (.int .i64 s.mark)∧Sat (Cd S s*F) k:=by
 obtain ⟨U,Wt,v,h1⟩:=Sat.Lb hs
 have b:Sat (rw Cb 1 v (ints s.taken)*(coreS S U Wt v s.Ba*(mp A8 U (GB s.used)*(mp A8 Wt (GB s.waiting)*F)))) w:=h1.eq (by unfold Gv;ac_rfl)
 obtain ⟨a,n,c,rfl,d,_⟩:=MP b
 have f:s.taken.length=n:=by simpa[ints] using d
 have j:=Ek hs
 have g:Aside (s.mark=(n:Int)):=(by unfold Sp.mark;rw[f]:_=_)
 haveI:=b.i
 clear hs h1 d f
 go_enter Tryz.func82,Tryz.ntmps82
 go_wp2
 go_ret
 exact ⟨by rw[g.out];rfl,j.out⟩
theorem ZQ(r:Int)(F:Ab)(w:World)(h0:0≤r)(h1:r≤1048576)(hs:Sat F w):
 Calls Tryz.prog 63 #[.int .i64 r] w fun e m=> ∃S,e= .returned (.tuple #[.pointer (some ⟨S,0,none⟩),.int .i64 0])∧Sat (Cd S (Sp.new r)*F) m:=by
 have n:decide (r<0)=false:=by simp;omega
 have p:decide (1048576<r)=false:=by simp;omega
 have l:= @run_makeMap Tryz.prog
 have c:=hs.CX (.map #[] 0)
 have d:=c.CX (.map #[] 0)
 have i:(w.alloc (.map #[] 0)).heap.size=w.heap.size+1:=by simp
 have j:((w.alloc (.map #[] 0)).alloc (.map #[] 0)).heap.size=w.heap.size+2:=by simp
 have a:=d.alloc #[.int .i64 r,.map (some w.heap.size),.map (some (w.heap.size+1)),.slice none 0 0] nP
 rw[i,j] at a
 have f:=Sat.Ep (kf:=A8) (ms:= []) (b:=w.heap.size) (o:= .map #[] 0) ⟨#[],0,rfl,rfl,by simp,by simp⟩ (a.take (raw w.heap.size _))
 have g:=Sat.Ep (kf:=A8) (ms:= []) (b:=w.heap.size+1) (o:= .map #[] 0) ⟨#[],0,rfl,rfl,by simp,by simp⟩ (f.take (raw (w.heap.size+1) _))
 have k:=Sat.AE (e:=Cb) (s:=1) g
 clear c d a f g i j hs
 go_enter Tryz.func63,Tryz.ntmps63
 go_wp2
 go_ret2
 refine ⟨w.heap.size+2,rfl,Sat.IP (U:=w.heap.size) (Wt:=w.heap.size+1) (v:= .slice none 0 0) (k.eq ?_)⟩
 unfold Gv coreS
 simp only[block,Sl.cells,Bm,Sp.new,GB,ints,List.map_nil,List.length_cons,List.length_nil,Nat.zero_add,Nat.reduceAdd]
 ac_rfl
theorem La(S : Nat)(s : Sp)(F : Ab)(w : World)(hs : Sat (Cd S s * F) w)(hr : 0 ≤ s.Ba)(q : s.Ba ≤ 1048576)(R : s.taken.length ≤ 1099511627776) :
 Calls Tryz.prog 193 #[.pointer (some ⟨S,0,none⟩)] w fun e V=>e= .returned (.tuple #[.int .i64 s.take.1.1,.int .i64 s.take.1.2])∧Sat (Cd S s.take.2*F) V:=by
 obtain ⟨i0,K⟩:=KC
 obtain ⟨U,Wt,v,h1⟩:=Sat.Lb hs
 have y:Sat (rw Cb 1 v (ints s.taken)*(coreS S U Wt v s.Ba*(mp A8 U (GB s.used)*(mp A8 Wt (GB s.waiting)*F)))) w:=h1.eq (by unfold Gv;ac_rfl)
 obtain ⟨a,n,c,rfl,D,_⟩:=MP y
 have G:s.taken.length=n:=by simpa[ints] using D
 obtain ⟨J,o⟩:=Aq s.take
 have B:=Ek o
 have W:=Ek G
 have P:n≤1099511627776:=by omega
 obtain ⟨r0,m⟩:=Aq s.Ba
 have l:=Ek m
 rw[m] at hr q y
 rw[o]
 haveI:=y.i
 clear hs h1 D G R o m
 go_enter Tryz.func193,Tryz.ntmps193
 go_wp2
 go_loopg [4] (1048576-r0).toNat (fun g T wr=> ∃no:Int,T= .int .i64 no∧r0≤no∧no≤1048576∧Aside (g=(1048576-no).toNat∧s.free=s.least (1048576-no).toNat no)∧w=wr)
 case atStart=>exact ⟨r0,rfl,by omega,q,⟨rfl,by unfold Sp.free;rw[l.out]⟩,rfl⟩
 obtain ⟨no,rfl,Q,H,A,rfl⟩:=hrel
 by_cases O:no<1048576
 · have d : s.free = if s.busy no then s.least (1048576 - (no + 1)).toNat (no + 1) else some no := by
    rw[A.out.2]
    obtain ⟨k,M⟩: ∃k,(1048576-no).toNat=k+1:=⟨(1048576-no).toNat-1,by omega⟩
    rw[M,show (1048576-(no+1)).toNat=k by omega]
    rfl
   have l1:=fun w=> @L2 w U no
   have l2:=fun w=> @L2 w Wt no
   have m1:=Hw no s.used
   have I:=Hw no s.waiting
   cases f:s.used.contains no with
   | true =>
     have j:Aside (s.free=s.least (1048576-(no+1)).toNat (no+1)):=(by rw[d,if_pos (by unfold Sp.busy;rw[f];rfl)]:_=_)
     rw[f] at m1
     clear d f
     go_wp2_with fail
     go_roundg (1048576-(no+1)).toNat
     case measure=>have:=A.out.1;omega
     case rel=>exact ⟨no+1,rfl,by omega,by omega,⟨rfl,j.out⟩,rfl⟩
   | false =>
     cases hw:s.waiting.contains no with
     | true =>
      have j:Aside (s.free=s.least (1048576-(no+1)).toNat (no+1)):=(by rw[d,if_pos (by unfold Sp.busy;rw[hw,Bool.or_true])]:_=_)
      rw[f] at m1
      rw[hw] at I
      clear d f hw
      go_wp2_with fail
      go_roundg (1048576-(no+1)).toNat
      case measure=>have:=A.out.1;omega
      case rel=>exact ⟨no+1,rfl,by omega,by omega,⟨rfl,j.out⟩,rfl⟩
     | false =>
      have j:Aside (J=((no,0), { s with used:=s.used++ [no],taken:=s.taken++ [no] })):=(by
       rw[←B.out]
       unfold Sp.take
       rw[d,if_neg (by unfold Sp.busy;rw[f,hw];simp)]:_=_)
      have X:=fun w=> @WI w U no (.bool true)
      have t:=Pm no s.used f
      have L:=Ek t
      rw[f] at m1
      rw[hw] at I
      clear d f hw t
      go_wp2_with (at_builtin;go_loud (refine Af K rfl (.tmp 38) (.tmp 40) rfl rfl rfl (Ae (rw Cb 1 (.slice a n c) (ints s.taken))) (Src.new (b:=(Gt Tryz.prog Qd U (A8 no) (.bool true) w).heap.size) (e:=Cb) (s:=1) (vs:= [.int .i64 no]) (Ae _) rfl (by intro u f;simp at f;subst f;rfl)) (by unfold maxLen;omega) (by omega) ?_;intro a' x Y z p;haveI:=z.i;clear p))
      go_ret2
      rw[j.out]
      refine ⟨rfl,Sat.IP (U:=U) (Wt:=Wt) (v:= .slice a' (n+1) x) ?_⟩
      unfold Gv
      rw[←L.out]
      show Sat (coreS S U Wt (.slice a' (n+1) x) s.Ba*(mp A8 U _*(mp A8 Wt (GB s.waiting)*rw Cb 1 (.slice a' (n+1) x) (ints (s.taken++ [no]))))*F) _
      rw[l.out,show ints (s.taken++ [no])=ints s.taken++ [.int .i64 no] by simp[ints]]
      exact A4 (C:=Sl.block (Gt Tryz.prog Qd U (A8 no) (.bool true) w).heap.size Cb [.int .i64 no]) (by ac_rfl)
 have d:s.free=none:=by
  rw[A.out.2,show (1048576-no).toNat=0 by omega]
  rfl
 have j:Aside (J=((0,9),s)):=(by
  rw[←B.out]
  unfold Sp.take
  rw[d]:_=_)
 clear d
 go_wp2
 go_ret2
 rw[j.out]
 refine ⟨rfl,Sat.IP (U:=U) (Wt:=Wt) (v:= .slice a n c) ?_⟩
 unfold Gv
 rw[l.out]
 exact Av (by ac_rfl)
def Cc:List Int→List Int→List Int→List Int×List Int
 | [],u,o=>(u,o)
 |k::l,u,o=>if u.contains k then Cc l (u.erase k) (o++ [k]) else Cc l u o
def Eh(s:Sp)(m:Nat):List Int×Sp:=(Di (Cc (s.taken.drop m) s.used []).2, { s with used:=(Cc (s.taken.drop m) s.used []).1,taken:=s.taken.take m })
theorem GA: ∀(l:List Int)(k:Int)(u o:List Int),Cc (l++ [k]) u o=if (Cc l u o).1.contains k then ((Cc l u o).1.erase k,(Cc l u o).2++ [k]) else Cc l u o
 | [],k,u,o=>rfl
 | x :: l, k, u, o => by
  show (if u.contains x then Cc (l++ [k]) (u.erase x) (o++ [x]) else Cc (l++ [k]) u o)=if (if u.contains x then Cc l (u.erase x) (o++ [x]) else Cc l u o).1.contains k then _ else _
  by_cases h:u.contains x=true
  ·rw[if_pos h,if_pos h,GA l k]
   show _=if _ then ((if u.contains x then Cc l (u.erase x) (o++ [x]) else Cc l u o).1.erase k,(if u.contains x then Cc l (u.erase x) (o++ [x]) else Cc l u o).2++ [k]) else (if u.contains x then Cc l (u.erase x) (o++ [x]) else Cc l u o)
   simp_all
  rw[if_neg h,if_neg h,GA l k]
  show _=if _ then ((if u.contains x then Cc l (u.erase x) (o++ [x]) else Cc l u o).1.erase k,(if u.contains x then Cc l (u.erase x) (o++ [x]) else Cc l u o).2++ [k]) else (if u.contains x then Cc l (u.erase x) (o++ [x]) else Cc l u o)
  simp_all
theorem Il: ∀(l u o:List Int),(Cc l u o).2.length≤o.length+l.length
 | [],u,o=>Nat.le_refl _
 | x :: l, u, o => by
  show (if u.contains x then Cc l (u.erase x) (o++ [x]) else Cc l u o).2.length≤_
  split
  ·have:=Il l (u.erase x) (o++ [x])
   grind
  have:=Il l u o
  grind
theorem Xk(S:Nat)(s:Sp)(m:Nat)(F:Ab)(w:World)(hs:Sat (Cd S s*F) w)(hm:m≤s.taken.length)(ht:s.taken.length≤1099511627776):
 Calls Tryz.prog 134 #[.pointer (some ⟨S,0,none⟩),.int .i64 m] w fun e w'=> ∃a c,e= .returned (.tuple #[.slice a (Eh s m).1.length c,.int .i64 0])∧Sat (rw Cb 1 (.slice a (Eh s m).1.length c) (ints (Eh s m).1)*(Cd S (Eh s m).2*F)) w':=by
 obtain ⟨i0,I⟩:=KC
 obtain ⟨U,Wt,v,h1⟩:=Sat.Lb hs
 have z:Sat (rw Cb 1 v (ints s.taken)*(coreS S U Wt v s.Ba*(mp A8 U (GB s.used)*(mp A8 Wt (GB s.waiting)*F)))) w:=h1.eq (by unfold Gv;ac_rfl)
 obtain ⟨a,n,c,rfl,Y,ag,ac⟩:=MP z
 have Q:s.taken.length=n:=by simpa[ints] using Y
 obtain ⟨rr,y⟩:=Aq (Eh s m)
 have HR:=Ek y
 have HN:=Ek Q
 have t:m≤n:=by omega
 have af:n≤1099511627776:=by omega
 obtain ⟨l,hl⟩:=Aq (s.taken.drop m)
 have HL:=Ek hl
 have ad:l.length=n-m:=by rw[←hl,List.length_drop,Q]
 have x:Aj 1 (rw Cb 1 (.slice a n c) (ints s.taken)) (.slice (AK a c m 1) (n-m) (c-m)) (n-m) (ints l):=by
  have:=(Aj.rw z ⟨a,c,rfl⟩).cut m n t (Nat.le_refl _)
  rw[Nat.mul_one,Nat.mul_one] at this
  have e:(List.drop m (ints s.taken)).take (n-m)=ints l:=by
   rw[←hl]
   unfold ints
   rw[List.map_drop,List.take_of_length_le (by simp;omega)]
  rw[e] at this
  exact this
 obtain ⟨av,p⟩:=Aq (AK a c m 1)
 have aa: ∀w,(Instr.sliceAt 45 (.slice a n c) (some (.int .i64 m)) none none).run Tryz.prog w= .ok (.slice av (n-m) (c-m)) w:=fun w=>by rw[←p];exact E7 I m t w
 have ab: ∀w,(Instr.sliceAt 45 (.slice a n c) none (some (.int .i64 m)) none).run Tryz.prog w= .ok (.slice (AK a c 0 1) m c) w:=fun w=>Ov I m (by omega) w
 rw[p] at x
 have K:=Ek x
 rw[y]
 have M:=z.AE (e:=Cb) (s:=1)
 have d1:decide ((m:Int)<0)=false:=by simp
 have d2:decide ((n:Int)<m)=false:=by simp;omega
 have d3:decide (n<m)=false:=by simp;omega
 haveI:=z.i
 clear hs h1 Y Q ht y hl x p hm
 go_enter Tryz.func134,Tryz.ntmps134
 go_wp2
 go_loopg [6,31] (n-m) (fun g t6 V wr=> ∃(j:Nat)(u o:List Int)(d:Option Addr)(c2:Nat),V= .int .i64 j∧t6= .slice d o.length c2∧j≤n-m∧o.length≤1099511627776∧Aside (g=n-m-j∧Cc (l.take j) s.used []=(u,o))∧
  Sat (rw Cb 1 (.slice d o.length c2) (ints o)*(rw Cb 1 (.slice a n c) (ints s.taken)*(coreS S U Wt (.slice a n c) s.Ba*(mp A8 U (GB u)*(mp A8 Wt (GB s.waiting)*F))))) wr)
 case atStart=>exact ⟨0,s.used,[],none,0,rfl,rfl,by omega,by simp,⟨rfl,rfl⟩,M⟩
 obtain ⟨j,u,o,d,c2,rfl,rfl,hj,R,A,H⟩:=hrel
 haveI:=H.i
 by_cases ae:j<n-m
 · have D:(j:Int)<((n-m:Nat):Int):=by omega
   obtain ⟨k,P⟩: ∃k,l[j]?=some k:=⟨_,List.getElem?_eq_getElem (by omega)⟩
   obtain ⟨b,q,rfl,r1⟩:=(Aj.at K.out) j (.int .i64 k) (by unfold ints;rw[List.getElem?_map,P];rfl)
   have W:=Ek (AA P)
   have HO:Aside (o.length≤j):=(by
    have:=Il (l.take j) s.used []
    rw[A.out.2] at this
    simp at this
    omega:_≤_)
   have l1:=fun w=> @L2 w U k
   have m1:=Hw k u
   clear z M P
   cases f:u.contains k with
   | true =>
     have p1:=fun w=> @jC w U k
     have md:=Uv k u
     have L:=Ek f
     have a1:=HO.out
     rw[f] at m1
     clear f
     go_wp2_with (at_builtin;go_loud (refine Af I rfl (.tmp 46) (.tmp 48) rfl rfl rfl (Ae (rw Cb 1 (.slice d o.length c2) (ints o))) (Src.new (b:=(Qi Tryz.prog Qd U (A8 k) wr).heap.size) (e:=Cb) (s:=1) (vs:= [.int .i64 k]) (Ae _) rfl (by intro u f;simp at f;subst f;rfl)) (by unfold maxLen;omega) (by omega) ?_;intro a' X w3 T G;haveI:=T.i;clear G))
     go_roundg (n-m-(j+1))
     case measure=>have:=A.out.1;omega
     refine ⟨j+1,u.erase k,o++ [k],a',X,by go_num,by simp,by omega,by simp;omega,⟨rfl,?_⟩,?_⟩
     ·rw[W.out,GA,A.out.2]
      show (if u.contains k=true then _ else _)=_
      rw[if_pos L.out]
     rw[←md,show ints (o++ [k])=ints o++ [.int .i64 k] by simp[ints],List.length_append]
     exact A4 (C:=Sl.block (Qi Tryz.prog Qd U (A8 k) wr).heap.size Cb [.int .i64 k]) (by show rw Cb 1 (.slice a' (o.length+1) X) _*_=_;ac_rfl)
   | false =>
     have L:=Ek f
     rw[f] at m1
     clear f
     go_wp2_with fail
     go_roundg (n-m-(j+1))
     case measure=>have:=A.out.1;omega
     refine ⟨j+1,u,o,d,c2,by go_num,rfl,by omega,R,⟨rfl,?_⟩,ES⟩
     rw[W.out,GA,A.out.2]
     show (if u.contains k=true then _ else _)=_
     rw[if_neg (by rw[L.out];simp)]
 have D: ¬(j:Int)<((n-m:Nat):Int):=by omega
 have B:l.take j=l:=List.take_of_length_le (by omega)
 have HB:Aside (rr=(Di o, { s with used:=u,taken:=s.taken.take m })):=(by
  rw[←HR.out]
  unfold Eh
  have:=A.out.2
  rw[B] at this
  rw[HL.out,this]:_=_)
 clear A B z M
 go_upto_region 12 with (fail)
 have Z:Sat (rw Cb 1 (.slice a n c) (ints s.taken)*(rw Cb 1 (.slice d o.length c2) (ints o)*(coreS S U Wt (.slice (AK a c 0 1) m c) s.Ba*(mp A8 U (GB u)*(mp A8 Wt (GB s.waiting)*F))))) (wr.setCell ⟨S,3,none⟩ (.slice (AK a c 0 1) m c)):=Av (by ac_rfl)
 have O:=Z.jX m t
 generalize wr.setCell ⟨S,3,none⟩ (.slice (AK a c 0 1) m c)=w5 at O⊢
 have h7:=JI d o.length c2 o _ w5 (O.take (rw Cb 1 (.slice d o.length c2) (ints o))) (by omega)
 clear Z O H
 go_wp2_with fail
 refine h7.mono ?_
 rintro e w6 ⟨rfl,h8⟩
 clear h7
 go_wp2
 go_ret2
 rw[HB.out]
 have J:(Di o).length=o.length:=(List.mergeSort_perm o _).length_eq
 simp only[J]
 refine ⟨d,c2,rfl,?_⟩
 have h9:Sat (Gv S U Wt (.slice (AK a c 0 1) m c) { s with used:=u,taken:=s.taken.take m } *(rw Cb 1 (.slice d o.length c2) (ints (Di o))*F)) w6:=h8.eq (by
  unfold Gv ints
  rw[Nat.mul_one,List.map_take]
  dsimp only[Cb]
  ac_rfl)
 exact (Sat.IP h9).eq (by ac_rfl)
