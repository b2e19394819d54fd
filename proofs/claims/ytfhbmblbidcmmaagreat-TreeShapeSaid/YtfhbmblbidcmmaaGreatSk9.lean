/- treeShape holds for every input. No condition. (part 9) -/
import Derived.Test.YtfhbmblbidcmmaaGreatSk5
import Derived.Test.YtfhbmblbidcmmaaGreatSk6
import Derived.Test.YtfhbmblbidcmmaaGreatSk2
import Derived.Test.YtfhbmblbidcmmaaGreatSk8
import Derived.Deep.DeepCutAuto
set_option linter.all false
set_option maxRecDepth 100000
set_option maxHeartbeats 2000000
namespace Go.Proofs.YtfhbmblbidcmmaaGreat
open Go.RowKit Go.Sl Go.Dk Go.Tr
open Go.QK (A8)
attribute [go_sem] Go.Sl.Ab Go.Sl.Ib
abbrev gK:TypeId:=208
abbrev Pm:TypeId:=206
abbrev B3:TypeId:=3
theorem IP: ∃i,CJ Tryz.prog 45 B3 1 8 i (.int .i64 0):=IQ Tryz.underlying45 (by kernel_rfl) rfl (by omega)
def GX(l:List Int):List (Int×Value):=l.map fun k=>(k,.bool true)
theorem Hh(k:Int): ∀l:List Int,(CK k (GX l)).getD (.bool false)= .bool (l.contains k)
 | []=>rfl
 | x :: l => by
  show ((if k=x then some (Value.bool true) else CK k (GX l)).getD (.bool false))=_
  by_cases h:k=x
  ·simp_all
  rw[if_neg h,Hh k l]
  grind
theorem Ov(k:Int): ∀l:List Int,l.contains k=false→EO k (.bool true) (GX l)=GX (l++ [k])
 | [],_=>rfl
 | x :: l, h => by
  simp only[List.contains_cons,Bool.or_eq_false_iff,beq_eq_false_iff_ne,ne_eq] at h
  show (if k=x then _ else _::EO k (.bool true) (GX l))=_
  rw[if_neg h.1,Ov k l h.2]
  rfl
theorem Tg(k:Int): ∀l:List Int,FG k (GX l)=GX (l.erase k)
 | []=>rfl
 | x :: l => by
  show (if k=x then GX l else (x,Value.bool true)::FG k (GX l))=_
  by_cases h:k=x
  ·simp_all
  rw[if_neg h,Tg k l,List.erase_cons_tail (by simpa using fun e=>h e.symm)]
  rfl
def coreS(S U Wt:Nat)(v:Value)(r:Int):Ac:=
 Ef S gK 4*(Sl.cell S 0 (.int .i64 r)*(Sl.cell S 1 (.map (some U))*(Sl.cell S 2 (.map (some Wt))*Sl.cell S 3 v)))
section
variable (S U Wt:Nat) (v:Value) (r:Int)
instance:EM (coreS S U Wt v r) S 0 (.int .i64 r):=by unfold coreS;infer_instance
instance:EM (coreS S U Wt v r) S 1 (.map (some U)):=by unfold coreS;infer_instance
instance:EM (coreS S U Wt v r) S 2 (.map (some Wt)):=by unfold coreS;infer_instance
instance:EM (coreS S U Wt v r) S 3 v:=by unfold coreS;infer_instance
instance(a:Option Addr)(n c:Nat):Xa (coreS S U Wt v r) S 3 (.slice a n c) (coreS S U Wt (.slice a n c) r):=by unfold coreS;infer_instance
end
instance Tc:Ph Tryz.prog Pm Int A8 (.bool false):=⟨B3,4,Jb,Tryz.underlying206,fun w=>by kernel_rfl⟩
theorem La(w:World)(M:Nat)(k:Int){A:Ac}{ms:List (Int×Value)}[h:Bg A w][h2:Fq A M A8 ms]:(Instr.lookup Pm (.map (some M)) (.int .i64 k) false).run Tryz.prog w= .ok ((CK k ms).getD (.bool false)) w:=Oi Tc w M k
theorem ZO(w:World)(M:Nat)(k:Int)(v:Value){A:Ac}{ms:List (Int×Value)}[h:Bg A w][h2:Fq A M A8 ms]:(Instr.mapUpdate Pm (.map (some M)) (.int .i64 k) v).run Tryz.prog w= .ok () (Kz Tryz.prog Pm M (A8 k) v w):=R7 Tc w M k v
theorem cZ(w:World)(M:Nat)(k:Int)(a b:TypeId){A:Ac}{ms:List (Int×Value)}[h:Bg A w][h2:Fq A M A8 ms]:(Builtin.delete_ #[Pm,a] b #[.map (some M),.int .i64 k]).run Tryz.prog w= .ok (.tuple #[]) (Pr Tryz.prog Pm M (A8 k) w):=Wo Tc w M k a b
instance{w:World}{M:Nat}{k:Int}{v:Value}{A A':Ac}{ms:List (Int×Value)}[h:Bg A w][h2:Fq A M A8 ms][h3:MO A M A8 (EO k v ms) A']:Bg A' (Kz Tryz.prog Pm M (A8 k) v w):=R8 Tc
instance{w:World}{M:Nat}{k:Int}{A A':Ac}{ms:List (Int×Value)}[h:Bg A w][h2:Fq A M A8 ms][h3:MO A M A8 (FG k ms) A']:Bg A' (Pr Tryz.prog Pm M (A8 k) w):=Wp Tc
def ints(l:List Int):List Value:=l.map (Value.int .i64)
def EG(S U Wt:Nat)(v:Value)(s:Sp):Ac:=coreS S U Wt v s.AO*(mp A8 U (GX s.used)*(mp A8 Wt (GX s.waiting)*rw B3 1 v (ints s.taken)))
def BQ(S:Nat)(s:Sp):Ac:=ex fun x:Nat×Nat×Value=>EG S x.1 x.2.1 x.2.2 s
theorem Sat.I2{S:Nat}{s:Sp}{F:Ac}{w:World}(hs:Sat (BQ S s*F) w): ∃U Wt v,Sat (EG S U Wt v s*F) w:=by
 obtain ⟨⟨U,Wt,v⟩,h⟩:=hs.MW
 grind
theorem Sat.Gg{S U Wt:Nat}{v:Value}{s:Sp}{F:Ac}{w:World}(hs:Sat (EG S U Wt v s*F) w):Sat (BQ S s*F) w:=Sat.MX (U,Wt,v) hs
theorem VM(S:Nat)(s:Sp)(F:Ac)(w:World)(hs:Sat (BQ S s*F) w):
 Calls Tryz.prog 82 #[.pointer (some ⟨S,0,none⟩)] w fun e k=>e= .returned (.int .i64 s.mark)∧Sat (BQ S s*F) k:=by
 obtain ⟨U,Wt,v,h1⟩:=Sat.I2 hs
 have b:Sat (rw B3 1 v (ints s.taken)*(coreS S U Wt v s.AO*(mp A8 U (GX s.used)*(mp A8 Wt (GX s.waiting)*F)))) w:=h1.eq (by unfold EG;ac_rfl)
 obtain ⟨a,n,c,rfl,d,_⟩:=MS b
 have f:s.taken.length=n:=by simpa[ints] using d
 have j:=FK hs
 have g:Aside (s.mark=(n:Int)):=(by unfold Sp.mark;rw[f]:_=_)
 haveI:=b.i
 clear hs h1 d f
 go_enter Tryz.func82,Tryz.ntmps82
 go_wp2
 go_ret
 exact ⟨by rw[g.out];rfl,j.out⟩
theorem Ym(r:Int)(F:Ac)(w:World)(h0:0≤r)(h1:r≤1048576)(hs:Sat F w):
 Calls Tryz.prog 63 #[.int .i64 r] w fun e m=> ∃S,e= .returned (.tuple #[.pointer (some ⟨S,0,none⟩),.int .i64 0])∧Sat (BQ S (Sp.new r)*F) m:=by
 have n:decide (r<0)=false:=by simp;omega
 have p:decide (1048576<r)=false:=by simp;omega
 have l:= @run_makeMap Tryz.prog
 have c:=hs.Dh (.map #[] 0)
 have d:=c.Dh (.map #[] 0)
 have i:(w.alloc (.map #[] 0)).heap.size=w.heap.size+1:=by simp
 have j:((w.alloc (.map #[] 0)).alloc (.map #[] 0)).heap.size=w.heap.size+2:=by simp
 have a:=d.alloc #[.int .i64 r,.map (some w.heap.size),.map (some (w.heap.size+1)),.slice none 0 0] gK
 rw[i,j] at a
 have f:=Sat.Es (kf:=A8) (ms:= []) (b:=w.heap.size) (o:= .map #[] 0) ⟨#[],0,rfl,rfl,by simp,by simp⟩ (a.take (raw w.heap.size _))
 have g:=Sat.Es (kf:=A8) (ms:= []) (b:=w.heap.size+1) (o:= .map #[] 0) ⟨#[],0,rfl,rfl,by simp,by simp⟩ (f.take (raw (w.heap.size+1) _))
 have k:=Sat.AH (e:=B3) (s:=1) g
 clear c d a f g i j hs
 go_enter Tryz.func63,Tryz.ntmps63
 go_wp2
 go_ret2
 refine ⟨w.heap.size+2,rfl,Sat.Gg (U:=w.heap.size) (Wt:=w.heap.size+1) (v:= .slice none 0 0) (k.eq ?_)⟩
 unfold EG coreS
 simp only[block,Sl.cells,Br,Sp.new,GX,ints,List.map_nil,List.length_cons,List.length_nil,Nat.zero_add,Nat.reduceAdd]
 ac_rfl
theorem K9(S : Nat)(s : Sp)(F : Ac)(w : World)(hs : Sat (BQ S s * F) w)(hr : 0 ≤ s.AO)(q : s.AO ≤ 1048576)(R : s.taken.length ≤ 1099511627776) :
 Calls Tryz.prog 193 #[.pointer (some ⟨S,0,none⟩)] w fun e V=>e= .returned (.tuple #[.int .i64 s.take.1.1,.int .i64 s.take.1.2])∧Sat (BQ S s.take.2*F) V:=by
 obtain ⟨i0,K⟩:=IP
 obtain ⟨U,Wt,v,h1⟩:=Sat.I2 hs
 have y:Sat (rw B3 1 v (ints s.taken)*(coreS S U Wt v s.AO*(mp A8 U (GX s.used)*(mp A8 Wt (GX s.waiting)*F)))) w:=h1.eq (by unfold EG;ac_rfl)
 obtain ⟨a,n,c,rfl,D,_⟩:=MS y
 have G:s.taken.length=n:=by simpa[ints] using D
 obtain ⟨J,o⟩:=Aq s.take
 have B:=FK o
 have W:=FK G
 have P:n≤1099511627776:=by omega
 obtain ⟨r0,m⟩:=Aq s.AO
 have l:=FK m
 rw[m] at hr q y
 rw[o]
 haveI:=y.i
 clear hs h1 D G R o m
 go_enter Tryz.func193,Tryz.ntmps193
 go_wp2
 go_loopg [4] (1048576-r0).toNat (fun g T wr=> ∃no:Int,T= .int .i64 no∧r0≤no∧no≤1048576∧Aside (g=(1048576-no).toNat∧s.free=s.least (1048576-no).toNat no)∧w=wr)
 case atStart=>exact ⟨r0,rfl,by omega,q,⟨rfl,by unfold Sp.free;rw[l.out]⟩,rfl⟩
 obtain ⟨no,rfl,Q,H,A,rfl⟩:=hrel
 by_cases O:no<1048576
 · have d : s.free = if s.busy no then s.least (1048576 - (no + 1)).toNat (no + 1) else some no := by
    rw[A.out.2]
    obtain ⟨k,M⟩: ∃k,(1048576-no).toNat=k+1:=⟨(1048576-no).toNat-1,by omega⟩
    rw[M,show (1048576-(no+1)).toNat=k by omega]
    rfl
   have l1:=fun w=> @La w U no
   have l2:=fun w=> @La w Wt no
   have m1:=Hh no s.used
   have I:=Hh no s.waiting
   cases f:s.used.contains no with
   | true =>
     have j:Aside (s.free=s.least (1048576-(no+1)).toNat (no+1)):=(by rw[d,if_pos (by unfold Sp.busy;rw[f];rfl)]:_=_)
     rw[f] at m1
     clear d f
     go_wp2_with fail
     go_roundg (1048576-(no+1)).toNat
     case measure=>have:=A.out.1;omega
     case rel=>exact ⟨no+1,rfl,by omega,by omega,⟨rfl,j.out⟩,rfl⟩
   | false =>
     cases hw:s.waiting.contains no with
     | true =>
      have j:Aside (s.free=s.least (1048576-(no+1)).toNat (no+1)):=(by rw[d,if_pos (by unfold Sp.busy;rw[hw,Bool.or_true])]:_=_)
      rw[f] at m1
      rw[hw] at I
      clear d f hw
      go_wp2_with fail
      go_roundg (1048576-(no+1)).toNat
      case measure=>have:=A.out.1;omega
      case rel=>exact ⟨no+1,rfl,by omega,by omega,⟨rfl,j.out⟩,rfl⟩
     | false =>
      have j:Aside (J=((no,0), { s with used:=s.used++ [no],taken:=s.taken++ [no] })):=(by
       rw[←B.out]
       unfold Sp.take
       rw[d,if_neg (by unfold Sp.busy;rw[f,hw];simp)]:_=_)
      have X:=fun w=> @ZO w U no (.bool true)
      have t:=Ov no s.used f
      have L:=FK t
      rw[f] at m1
      rw[hw] at I
      clear d f hw t
      go_wp2_with (at_builtin;go_loud (refine Ad K rfl (.tmp 38) (.tmp 40) rfl rfl rfl (Af (rw B3 1 (.slice a n c) (ints s.taken))) (Src.new (b:=(Kz Tryz.prog Pm U (A8 no) (.bool true) w).heap.size) (e:=B3) (s:=1) (vs:= [.int .i64 no]) (Af _) rfl (by intro u f;simp at f;subst f;rfl)) (by unfold maxLen;omega) (by omega) ?_;intro a' x Y z p;haveI:=z.i;clear p))
      go_ret2
      rw[j.out]
      refine ⟨rfl,Sat.Gg (U:=U) (Wt:=Wt) (v:= .slice a' (n+1) x) ?_⟩
      unfold EG
      rw[←L.out]
      show Sat (coreS S U Wt (.slice a' (n+1) x) s.AO*(mp A8 U _*(mp A8 Wt (GX s.waiting)*rw B3 1 (.slice a' (n+1) x) (ints (s.taken++ [no]))))*F) _
      rw[l.out,show ints (s.taken++ [no])=ints s.taken++ [.int .i64 no] by simp[ints]]
      exact A6 (C:=Sl.block (Kz Tryz.prog Pm U (A8 no) (.bool true) w).heap.size B3 [.int .i64 no]) (by ac_rfl)
 have d:s.free=none:=by
  rw[A.out.2,show (1048576-no).toNat=0 by omega]
  rfl
 have j:Aside (J=((0,9),s)):=(by
  rw[←B.out]
  unfold Sp.take
  rw[d]:_=_)
 clear d
 go_wp2
 go_ret2
 rw[j.out]
 refine ⟨rfl,Sat.Gg (U:=U) (Wt:=Wt) (v:= .slice a n c) ?_⟩
 unfold EG
 rw[l.out]
 exact Av (by ac_rfl)
def Cb:List Int→List Int→List Int→List Int×List Int
 | [],u,o=>(u,o)
 |k::l,u,o=>if u.contains k then Cb l (u.erase k) (o++ [k]) else Cb l u o
def DP(s:Sp)(m:Nat):List Int×Sp:=(Em (Cb (s.taken.drop m) s.used []).2, { s with used:=(Cb (s.taken.drop m) s.used []).1,taken:=s.taken.take m })
theorem Gp: ∀(l:List Int)(k:Int)(u o:List Int),Cb (l++ [k]) u o=if (Cb l u o).1.contains k then ((Cb l u o).1.erase k,(Cb l u o).2++ [k]) else Cb l u o
 | [],k,u,o=>rfl
 | x :: l, k, u, o => by
  show (if u.contains x then Cb (l++ [k]) (u.erase x) (o++ [x]) else Cb (l++ [k]) u o)=if (if u.contains x then Cb l (u.erase x) (o++ [x]) else Cb l u o).1.contains k then _ else _
  by_cases h:u.contains x=true
  ·rw[if_pos h,if_pos h,Gp l k]
   show _=if _ then ((if u.contains x then Cb l (u.erase x) (o++ [x]) else Cb l u o).1.erase k,(if u.contains x then Cb l (u.erase x) (o++ [x]) else Cb l u o).2++ [k]) else (if u.contains x then Cb l (u.erase x) (o++ [x]) else Cb l u o)
   simp_all
  rw[if_neg h,if_neg h,Gp l k]
  show _=if _ then ((if u.contains x then Cb l (u.erase x) (o++ [x]) else Cb l u o).1.erase k,(if u.contains x then Cb l (u.erase x) (o++ [x]) else Cb l u o).2++ [k]) else (if u.contains x then Cb l (u.erase x) (o++ [x]) else Cb l u o)
  simp_all
theorem Hy: ∀(l u o:List Int),(Cb l u o).2.length≤o.length+l.length
 | [],u,o=>Nat.le_refl _
 | x :: l, u, o => by
  show (if u.contains x then Cb l (u.erase x) (o++ [x]) else Cb l u o).2.length≤_
  split
  ·have:=Hy l (u.erase x) (o++ [x])
   grind
  have:=Hy l u o
  grind
theorem VK(S:Nat)(s:Sp)(m:Nat)(F:Ac)(w:World)(hs:Sat (BQ S s*F) w)(hm:m≤s.taken.length)(ht:s.taken.length≤1099511627776):
 Calls Tryz.prog 134 #[.pointer (some ⟨S,0,none⟩),.int .i64 m] w fun e w'=> ∃a c,e= .returned (.tuple #[.slice a (DP s m).1.length c,.int .i64 0])∧Sat (rw B3 1 (.slice a (DP s m).1.length c) (ints (DP s m).1)*(BQ S (DP s m).2*F)) w':=by
 obtain ⟨i0,I⟩:=IP
 obtain ⟨U,Wt,v,h1⟩:=Sat.I2 hs
 have z:Sat (rw B3 1 v (ints s.taken)*(coreS S U Wt v s.AO*(mp A8 U (GX s.used)*(mp A8 Wt (GX s.waiting)*F)))) w:=h1.eq (by unfold EG;ac_rfl)
 obtain ⟨a,n,c,rfl,Y,ag,ac⟩:=MS z
 have Q:s.taken.length=n:=by simpa[ints] using Y
 obtain ⟨rr,y⟩:=Aq (DP s m)
 have HR:=FK y
 have HN:=FK Q
 have t:m≤n:=by omega
 have af:n≤1099511627776:=by omega
 obtain ⟨l,hl⟩:=Aq (s.taken.drop m)
 have HL:=FK hl
 have ad:l.length=n-m:=by rw[←hl,List.length_drop,Q]
 have x:Al 1 (rw B3 1 (.slice a n c) (ints s.taken)) (.slice (AJ a c m 1) (n-m) (c-m)) (n-m) (ints l):=by
  have:=(Al.rw z ⟨a,c,rfl⟩).cut m n t (Nat.le_refl _)
  rw[Nat.mul_one,Nat.mul_one] at this
  have e:(List.drop m (ints s.taken)).take (n-m)=ints l:=by
   rw[←hl]
   unfold ints
   rw[List.map_drop,List.take_of_length_le (by simp;omega)]
  rw[e] at this
  exact this
 obtain ⟨av,p⟩:=Aq (AJ a c m 1)
 have aa: ∀w,(Instr.sliceAt 45 (.slice a n c) (some (.int .i64 m)) none none).run Tryz.prog w= .ok (.slice av (n-m) (c-m)) w:=fun w=>by rw[←p];exact Er I m t w
 have ab: ∀w,(Instr.sliceAt 45 (.slice a n c) none (some (.int .i64 m)) none).run Tryz.prog w= .ok (.slice (AJ a c 0 1) m c) w:=fun w=>Nv I m (by omega) w
 rw[p] at x
 have K:=FK x
 rw[y]
 have M:=z.AH (e:=B3) (s:=1)
 have d1:decide ((m:Int)<0)=false:=by simp
 have d2:decide ((n:Int)<m)=false:=by simp;omega
 have d3:decide (n<m)=false:=by simp;omega
 haveI:=z.i
 clear hs h1 Y Q ht y hl x p hm
 go_enter Tryz.func134,Tryz.ntmps134
 go_wp2
 go_loopg [6,31] (n-m) (fun g t6 V wr=> ∃(j:Nat)(u o:List Int)(d:Option Addr)(c2:Nat),V= .int .i64 j∧t6= .slice d o.length c2∧j≤n-m∧o.length≤1099511627776∧Aside (g=n-m-j∧Cb (l.take j) s.used []=(u,o))∧
  Sat (rw B3 1 (.slice d o.length c2) (ints o)*(rw B3 1 (.slice a n c) (ints s.taken)*(coreS S U Wt (.slice a n c) s.AO*(mp A8 U (GX u)*(mp A8 Wt (GX s.waiting)*F))))) wr)
 case atStart=>exact ⟨0,s.used,[],none,0,rfl,rfl,by omega,by simp,⟨rfl,rfl⟩,M⟩
 obtain ⟨j,u,o,d,c2,rfl,rfl,hj,R,A,H⟩:=hrel
 haveI:=H.i
 by_cases ae:j<n-m
 · have D:(j:Int)<((n-m:Nat):Int):=by omega
   obtain ⟨k,P⟩: ∃k,l[j]?=some k:=⟨_,List.getElem?_eq_getElem (by omega)⟩
   obtain ⟨b,q,rfl,r1⟩:=(Al.at K.out) j (.int .i64 k) (by unfold ints;rw[List.getElem?_map,P];rfl)
   have W:=FK (A9 P)
   have HO:Aside (o.length≤j):=(by
    have:=Hy (l.take j) s.used []
    rw[A.out.2] at this
    simp at this
    omega:_≤_)
   have l1:=fun w=> @La w U k
   have m1:=Hh k u
   clear z M P
   cases f:u.contains k with
   | true =>
     have p1:=fun w=> @cZ w U k
     have md:=Tg k u
     have L:=FK f
     have a1:=HO.out
     rw[f] at m1
     clear f
     go_wp2_with (at_builtin;go_loud (refine Ad I rfl (.tmp 46) (.tmp 48) rfl rfl rfl (Af (rw B3 1 (.slice d o.length c2) (ints o))) (Src.new (b:=(Pr Tryz.prog Pm U (A8 k) wr).heap.size) (e:=B3) (s:=1) (vs:= [.int .i64 k]) (Af _) rfl (by intro u f;simp at f;subst f;rfl)) (by unfold maxLen;omega) (by omega) ?_;intro a' X w3 T G;haveI:=T.i;clear G))
     go_roundg (n-m-(j+1))
     case measure=>have:=A.out.1;omega
     refine ⟨j+1,u.erase k,o++ [k],a',X,by go_num,by simp,by omega,by simp;omega,⟨rfl,?_⟩,?_⟩
     ·rw[W.out,Gp,A.out.2]
      show (if u.contains k=true then _ else _)=_
      rw[if_pos L.out]
     rw[←md,show ints (o++ [k])=ints o++ [.int .i64 k] by simp[ints],List.length_append]
     exact A6 (C:=Sl.block (Pr Tryz.prog Pm U (A8 k) wr).heap.size B3 [.int .i64 k]) (by show rw B3 1 (.slice a' (o.length+1) X) _*_=_;ac_rfl)
   | false =>
     have L:=FK f
     rw[f] at m1
     clear f
     go_wp2_with fail
     go_roundg (n-m-(j+1))
     case measure=>have:=A.out.1;omega
     refine ⟨j+1,u,o,d,c2,by go_num,rfl,by omega,R,⟨rfl,?_⟩,E3⟩
     rw[W.out,Gp,A.out.2]
     show (if u.contains k=true then _ else _)=_
     rw[if_neg (by rw[L.out];simp)]
 have D: ¬(j:Int)<((n-m:Nat):Int):=by omega
 have B:l.take j=l:=List.take_of_length_le (by omega)
 have HB:Aside (rr=(Em o, { s with used:=u,taken:=s.taken.take m })):=(by
  rw[←HR.out]
  unfold DP
  have:=A.out.2
  rw[B] at this
  rw[HL.out,this]:_=_)
 clear A B z M
 go_upto_region 12 with (fail)
 have Z:Sat (rw B3 1 (.slice a n c) (ints s.taken)*(rw B3 1 (.slice d o.length c2) (ints o)*(coreS S U Wt (.slice (AJ a c 0 1) m c) s.AO*(mp A8 U (GX u)*(mp A8 Wt (GX s.waiting)*F))))) (wr.setCell ⟨S,3,none⟩ (.slice (AJ a c 0 1) m c)):=Av (by ac_rfl)
 have O:=Z.dS m t
 generalize wr.setCell ⟨S,3,none⟩ (.slice (AJ a c 0 1) m c)=w5 at O⊢
 have h7:=MK d o.length c2 o _ w5 (O.take (rw B3 1 (.slice d o.length c2) (ints o))) (by omega)
 clear Z O H
 go_wp2_with fail
 refine h7.mono ?_
 rintro e w6 ⟨rfl,h8⟩
 clear h7
 go_wp2
 go_ret2
 rw[HB.out]
 have J:(Em o).length=o.length:=(List.mergeSort_perm o _).length_eq
 simp only[J]
 refine ⟨d,c2,rfl,?_⟩
 have h9:Sat (EG S U Wt (.slice (AJ a c 0 1) m c) { s with used:=u,taken:=s.taken.take m } *(rw B3 1 (.slice d o.length c2) (ints (Em o))*F)) w6:=h8.eq (by
  unfold EG ints
  rw[Nat.mul_one,List.map_take]
  dsimp only[B3]
  ac_rfl)
 exact (Sat.Gg h9).eq (by ac_rfl)
end Go.Proofs.YtfhbmblbidcmmaaGreat
namespace Go.Proofs.YtfhbmblbidcmmaaGreat
open Go.RowKit Go.Sl Go.Sort
abbrev Cc:TypeId:=212
abbrev Wg:TypeId:=87
def Pb(p:Int×Int):List Value:= [.int .i64 p.1,.int .i64 p.2]
def Cf(l:List (Int×Int)):List Value:=l.flatMap Pb
def cG(a b:Int×Int):Bool:=decide (a.1<b.1)
theorem Eu(l:List (Int×Int)):(Cf l).length=l.length*2:=PK (f:=Pb) (fun _=>rfl) l
theorem Mh{l:List (Int×Int)}{i:Nat}{p:Int×Int}(h:l[i]?=some p)(k:Nat)(a:k<2):(Cf l)[i*2+k]?=(Pb p)[k]?:=KQ (f:=Pb) (s:=2) (fun _=>rfl) l i k p h a
theorem ZU(d:Array (Int×Int)):(flatK Pb 2 d).toList=Cf d.toList:=by
 apply List.ext_getElem?
 intro t
 by_cases h:t<d.size*2
 ·have h1:t<(flatK Pb 2 d).size:=by simpa using h
  have a:t/2<d.size:=by omega
  have b:=get_flatK Pb 2 d t h
  rw[getElem!_pos (flatK Pb 2 d) t h1,getElem!_pos d (t/2) a] at b
  have c:=Mh (l:=d.toList) (i:=t/2) (p:=d[t/2]) (by simp[a]) (t%2) (by omega)
  rw[show t/2*2+t%2=t by omega] at c
  rw[c,Array.getElem?_toList,Array.getElem?_eq_getElem h1,b,getElem!_pos _ _ (by show t%2<2;omega),List.getElem?_eq_getElem (by show t%2<2;omega)]
 rw[Array.getElem?_toList,Array.getElem?_eq_none (by simp;omega),List.getElem?_eq_none (by rw[Eu];simp;omega)]
theorem SQ(EA a c b size:Nat)(W:World)(G:Nat→Int)(hs:W.cell? ⟨b,0,none⟩=some (.slice (some ⟨EA,a,none⟩) size c))
 (f: ∀t,t<size→W.cell? ⟨EA,a+t*2,none⟩=some (.int .i64 (G t))) (i j:Nat) (hi:i<size) (g:j<size) (d:size<4611686018427387904):
 Calls Tryz.prog 152 #[.int .i64 i,.int .i64 j,.pointer (some ⟨b,0,none⟩)] W fun e k=>e= .returned (.bool (decide (G i<G j)))∧ ∃q,k=W.drewN q:=by
 have l:=f i hi
 have m:=f j g
 go_enter Tryz.func152,Tryz.ntmps152
 go_wp2
 go_quiet (fail)
 go_wp2
 go_ret
 exact ⟨rfl,nq,rfl⟩
noncomputable def gD:TypeInfo:=(Tryz.prog.info? 87).get (by kernel_rfl)
noncomputable def cL:TypeInfo:=(Tryz.prog.info? 212).get (by kernel_rfl)
theorem gU(n:Nat)(e:2≤n):Lib.swapperK n cL 25=9:=by
 have a:cL.hasPointers=false:=by kernel_rfl
 have b:cL.bytes=16:=by kernel_rfl
 have c:(n==0)=false:=by simp;omega
 have d:(n==1)=false:=by simp;omega
 simp[Lib.swapperK,a,b,c,d]
theorem gB:Lib.swapperK 0 cL 25=1:=by simp[Lib.swapperK]
theorem gC:Lib.swapperK 1 cL 25=2:=by simp[Lib.swapperK]
theorem gF:SWO cG where
 irrefl:=fun a=>by simp[cG]
 trans:=fun a b c h1 d=>by simp only[cG,decide_eq_true_eq] at*;omega
 ntrans:=fun a b c h1 d=>by simp only[cG,decide_eq_false_iff_not] at*;omega
theorem Xw{w:World}(os:Array Obj){k:Key}{r:EX}(h:Has w k r):Has (Sort.grow w os) k r:=by
 have Kc: ∀{b:Nat}{o:Obj},w.heap[b]?=some o→(Sort.grow w os).heap[b]?=some o:=fun {b o} e=>by
  rw[heap_grow_old w os (Array.getElem?_eq_some_iff.1 e).1];exact e
 cases k<;>cases r<;>first|exact h.elim|skip
 · exact Kc h
 · obtain ⟨c,t,h1,a⟩:=h;exact ⟨c,t,Kc h1,a⟩
 · obtain ⟨c,h1,a⟩:=h;exact ⟨c,Kc h1,a⟩
 exact h
theorem Sat.bX{A:Ac}{w:World}(hs:Sat A w)(os:Array Obj):Sat A (Sort.grow w os):=by
 obtain ⟨h,ha,H⟩:=hs
 exact ⟨h,ha,fun k r e=>Xw os (H k r e)⟩
instance:Inhabited (Int×Int):=⟨(0,0)⟩
theorem WJ(d:Array (Int×Int)):flatK Pb 2 d=(Cf d.toList).toArray:=by rw[←ZU d]
def bR(l:List (Int×Int)):Prop:=l.Pairwise fun x y=>x.1≤y.1
theorem ON(p:Option Addr)(n c:Nat)(h:n≤1)(lf:Fn)(a b:Array Value)(w:World):
 Calls Tryz.prog 151 #[.iface 87 (.slice p n c),.func lf a b] w fun e d=>e= .returned (.tuple #[])∧ ∃os,d=grow w os:=by
 match n,h with
 |0,_=>exact Any.sort_Slice_tiny Tryz.Rb 87 212 gD cL (by kernel_rfl) (by kernel_rfl) (by kernel_rfl) (by kernel_rfl) 25 (fun _=>by kernel_rfl) p 0 c (by omega) 199 (by rw[gB];kernel_rfl) lf a b w
 |1,_=>exact Any.sort_Slice_tiny Tryz.Rb 87 212 gD cL (by kernel_rfl) (by kernel_rfl) (by kernel_rfl) (by kernel_rfl) 25 (fun _=>by kernel_rfl) p 1 c (by omega) 200 (by rw[gC];kernel_rfl) lf a b w
theorem VH(EA c b2 c2:Nat)(d:Array (Int×Int))(w:World)(o:2≤d.size)(f:d.size<4611686018427387904)(p:HoldsK Pb 2 w EA 0 d)(a:EA<w.heap.size)(l:b2≠EA)(k:b2<w.heap.size)(hs:w.cell? ⟨b2,0,none⟩=some (.slice (some ⟨EA,0,none⟩) d.size c2)):
 Calls Tryz.prog 151 #[.iface 87 (.slice (some ⟨EA,0,none⟩) d.size c),.func (.func 152) #[] #[.pointer (some ⟨b2,0,none⟩)]] w fun e u=>
  e= .returned (.tuple #[])∧ ∃d' n os,PermIn 0 d.size d d'∧SortedIn cG 0 d.size d'∧u=grow (putRowK Pb 2 (Sort.ahead w n) EA 0 d') os:=by
 have b:LessReadsK Tryz.prog 152 #[.pointer (some ⟨b2,0,none⟩)] Pb 2 cG EA 0 d.size w:=by
  intro m os dk f i j hi s
  have e:sortWorldK Pb 2 w EA 0 m dk os=putRowK Pb 2 (grow (Sort.ahead w m) os) EA 0 dk:=by
   unfold sortWorldK;rw[putRowK_grow _ _ (Sort.ahead w m) _ EA 0 _ a]
  have g:HoldsK Pb 2 (grow (Sort.ahead w m) os) EA 0 d:=holdsK_grow _ _ _ _ EA 0 d a (holdsK_ahead _ _ _ _ _ _ _ p)
  refine SQ EA 0 c2 b2 d.size _ (fun t=>dk[t]!.1) ?_ (fun t y=>?_) i j hi s (by omega)
  · rw[e,cell?_putRowK_other _ _ _ EA 0 dk _ l,cell?_grow _ _ _ k]
    exact hs
  rw[e];exact ((holdsK_putRowK _ _ _ EA 0 d dk g f).cell (i:=t) (c:=0) (by omega) (by omega)).1
 exact Any.sort_Slice_cells_sorted Tryz.Rb 87 212 gD cL (by kernel_rfl) (by kernel_rfl) (by kernel_rfl) (by kernel_rfl) 25 (fun _=>by kernel_rfl) Pb 2 (fun _=>rfl) (by kernel_rfl) (fun _=>by kernel_rfl)
  (fun x v q=>by simp[Pb] at q;rcases q with rfl|rfl<;>rfl) cG gF 152 _
  (enters_of Tryz.func152 (by kernel_rfl) rfl) EA 0 c d o f 207 (by rw[gU _ o];kernel_rfl) false
  (fun args W=>run_callFunc_extern Tryz.func207 (by kernel_rfl) (by kernel_rfl) (by kernel_rfl) (e:=Extern.ReflectliteSwapper.swap false) (by kernel_rfl) args W) w b p a
theorem Yi{EA c T b2 c2:Nat}{l:List (Int×Int)}{sp:List Value}{F:Ac}{w:World}(hs:Sat (block EA T (Cf l++sp)*F) w)(z:w.cell? ⟨b2,0,none⟩=some (.slice (some ⟨EA,0,none⟩) l.length c2))(m:b2≠EA)(d:b2<w.heap.size)(hm:l.length<4611686018427387904):
 Calls Tryz.prog 151 #[.iface 87 (.slice (some ⟨EA,0,none⟩) l.length c),.func (.func 152) #[] #[.pointer (some ⟨b2,0,none⟩)]] w fun e o=>
  e= .returned (.tuple #[])∧ ∃l',l'.Perm l∧bR l'∧Sat (block EA T (Cf l'++sp)*F) o:=by
 by_cases p:l.length≤1
 · refine (ON _ _ c p _ _ _ w).mono fun x o ⟨h,os,b⟩=>⟨h,l,List.Perm.refl _,?_,?_⟩
   ·match l,p with
    | [],_=>exact List.Pairwise.nil
    | [x],_=>exact List.pairwise_singleton _ _
   subst b;exact Sat.bX hs os
 have hw:=hs.Ew
 have y:HoldsK Pb 2 w EA 0 l.toArray:=by
  show Holds id w EA 0 (flatK Pb 2 l.toArray)
  rw[WJ]
  intro j a
  simp only[List.size_toArray] at a
  have t:Sat (cells EA 0 (Cf l)*(Ef EA T (Cf l++sp).length*(cells EA (Cf l).length sp*F))) w:=hs.eq (by rw[Ds];ac_rfl)
  refine ⟨?_,by simp[World.frozen?,hw]⟩
  rw[t.DG j ((Cf l)[j]) (by simp[a])]
  simp[a]
 refine (VH EA c b2 c2 l.toArray w (by simp;omega) (by simpa using hm) y (Ik hw) m d (by simpa using z)).mono fun x o ⟨h,d',n,os,hp,B,b⟩=>⟨h,d'.toList,?_,?_,?_⟩
 · have h1:=hp.2.2
   have q:=hp.1
   simp only[List.size_toArray] at h1 q
   rw[Array.extract_eq_self_of_le (by omega),Array.extract_eq_self_of_le (by simp)] at h1
   simpa using h1
 · have q:d'.size=l.length:=by simpa using hp.1
   refine List.pairwise_iff_getElem.2 fun i j hi a g=>?_
   have s:=B i j (Nat.zero_le _) g (by simp at a⊢;omega)
   have f:i<d'.size:=by simpa using hi
   have k:j<d'.size:=by simpa using a
   rw[getElem!_pos d' i f,getElem!_pos d' j k] at s
   simp only[cG,decide_eq_false_iff_not] at s
   show d'.toList[i].1≤d'.toList[j].1
   simp only[Array.getElem_toList]
   omega
 subst b
 show Sat _ (grow (putRow id (Sort.ahead w n) EA 0 (flatK Pb 2 d')) os)
 rw[WJ]
 have u:=Ul id (xs:=Cf l) (ys:=Cf d'.toList) (n:=n) (os:=os) (sp:=sp) (F:=F) (by simpa using hs) (by rw[Eu,Eu];have:=hp.1;simp at this;simp[this])
 simpa using u
theorem Gf(a b:List (Int×Int)):Cf (a++b)=Cf a++Cf b:=List.flatMap_append
theorem JM(l:List (Int×Int))(t:Nat):(Cf l)[t]?=(l[t/2]?).map fun p=>(Pb p)[t%2]!:=by
 by_cases h:t/2<l.length
 ·have a:=Mh (l:=l) (i:=t/2) (p:=l[t/2]) (by simp[h]) (t%2) (by omega)
  rw[show t/2*2+t%2=t by omega] at a
  rw[a,List.getElem?_eq_getElem h,Option.map_some,getElem!_pos _ _ (by show t%2<2;omega),List.getElem?_eq_getElem (by show t%2<2;omega)]
 rw[List.getElem?_eq_none (by rw[Eu];omega),List.getElem?_eq_none (by omega)];rfl
noncomputable def Cq:List (Int×Int)→List (Int×Int)
 | []=> []
 | p :: l => match decide (max p.1 0 < p.2) with
  |true=>(max p.1 0,p.2)::Cq l
  |false=>Cq l
noncomputable def F5(r:Int×Int):List (Int×Int)→List (Int×Int)
 | []=> [r]
 | [p]=>match decide (r.1≤p.2) with
  |true=> [(p.1,max p.2 r.2)]
  |false=> [p,r]
 |p::q::l=>p::F5 r (q::l)
noncomputable def C7:List (Int×Int)→List (Int×Int)→List (Int×Int)
 |out,[]=>out
 |out,r::l=>C7 (F5 r out) l
theorem Ig: ∀a b:List (Int×Int),Cq (a++b)=Cq a++Cq b
 | [],b=>rfl
 | p :: a, b => by
  show (match decide (max p.1 0<p.2) with|true=>(max p.1 0,p.2)::Cq (a++b)|false=>Cq (a++b))=(match decide (max p.1 0<p.2) with|true=>(max p.1 0,p.2)::Cq a|false=>Cq a)++Cq b
  rw[Ig a b]
  cases decide (max p.1 0<p.2)<;>rfl
theorem Db: ∀(l out:List (Int×Int))(r:Int×Int),C7 out (l++ [r])=F5 r (C7 out l)
 | [],out,r=>rfl
 |p::l,out,r=>Db l (F5 p out) r
theorem T5(r:Int×Int):F5 r []= [r]:=rfl
theorem Hq(r:Int×Int): ∀(o:List (Int×Int))(p:Int×Int),F5 r (o++ [p])=(match decide (r.1≤p.2) with|true=>o++ [(p.1,max p.2 r.2)]|false=>o++ [p,r])
 | [],p=>rfl
 | [q],p=>by
  show q::F5 r [p]=_
  rw[show [p]= []++ [p] from rfl,Hq r [] p]
  cases decide (r.1≤p.2)<;>rfl
 | q :: a :: o, p => by
   show q::F5 r ((a::o)++ [p])=_
   rw[Hq r (a::o) p]
   cases decide (r.1≤p.2)<;>rfl
theorem aV(o:List (Int×Int))(a b z:Int):(Cf (o++ [(a,b)])).set (o.length*2+1) (.int .i64 z)=Cf (o++ [(a,z)]):=by
 rw[Gf,Gf,List.set_append_right _ _ (by rw[Eu];omega),Eu]
 rw[show o.length*2+1-o.length*2=1 by omega]
 rfl
theorem ZN(r:Int×Int)(o:List (Int×Int)):(F5 r o).length≤o.length+1:=by
 rcases List.eq_nil_or_concat o with rfl|⟨o',p,rfl⟩
 ·simp[F5]
 rw[List.concat_eq_append,Hq]
 cases decide (r.1≤p.2)<;>simp
theorem R5(r:Int×Int): ∀o:List (Int×Int),F5 r o≠ []
 | []=>by simp[F5]
 | [p]=>by
  show (match decide (r.1≤p.2) with|true=> [(p.1,max p.2 r.2)]|false=> [p,r])≠ []
  cases decide (r.1≤p.2)<;>simp
 |p::q::l=>by simp[F5]
theorem PW: ∀(l out:List (Int×Int)),(C7 out l).length≤out.length+l.length
 | [],out=>Nat.le_refl _
 | p :: l, out => by
  have h1:=PW l (F5 p out)
  have a:=ZN p out
  show (C7 (F5 p out) l).length≤_
  simp only[List.length_cons]
  omega
theorem LQ: ∀l:List (Int×Int),(Cq l).length≤l.length
 | []=>Nat.le_refl _
 | p :: l => by
  have:=LQ l
  unfold Cq
  split<;>simp<;>omega
theorem X4{x y:Int}(h:max x 0<y):Cq [(x,y)]= [(max x 0,y)]:=by simp[Cq,h]
theorem UX{x y:Int}(h: ¬max x 0<y):Cq [(x,y)]= []:=by simp[Cq,h]
theorem Yk(a:Option Addr)(c B:Nat)(l:List (Int×Int))(F:Ac)(w:World)(hl:l.length<4611686018427387904)
 (hs:Sat (rw Cc 2 (.slice a l.length c) (Cf l)*(Sl.block B Wg [.slice a l.length c]*F)) w):
 Calls Tryz.prog 151 #[.iface 87 (.slice a l.length c),.func (.func 152) #[] #[.pointer (some ⟨B,0,none⟩)]] w fun e m=>
  e= .returned (.tuple #[])∧ ∃l',l'.Perm l∧bR l'∧Sat (rw Cc 2 (.slice a l.length c) (Cf l')*(Sl.block B Wg [.slice a l.length c]*F)) m:=by
 rcases hs.Cz with ⟨o,p,_⟩|⟨g,n,cap,sp,o,p,b,q,s,d⟩
 · have b:=Eu l
   rw[p] at b
   simp only[List.length_nil] at b
   have h0:l= []:=List.eq_nil_of_length_eq_zero (by omega)
   subst h0
   refine (ON _ _ c (by simp) _ _ _ w).mono ?_
   rintro e m ⟨rfl,os,rfl⟩
   exact ⟨rfl,[],List.Perm.refl _,List.Pairwise.nil,Sat.bX hs os⟩
 cases o
 have j:Sat (Sl.cell B 0 (.slice (some ⟨g,0,none⟩) l.length c)*(Sl.block g Cc (Cf l++sp)*(Sl.Ef B Wg 1*F))) w:=d.eq (by
  rw[show Sl.block B Wg [.slice (some ⟨g,0,none⟩) l.length c]=Sl.Ef B Wg 1*(Sl.cell B 0 (.slice (some ⟨g,0,none⟩) l.length c)*1) from rfl,Br]
  ac_rfl)
 have k:B≠g:=fun e=>by
  subst e
  have f:=(j.take (Sl.block B Cc (Cf l++sp))).Ew
  have i:=(d.eq (show _=Sl.block B Wg [.slice (some ⟨B,0,none⟩) l.length c]*(Sl.block B Cc (Cf l++sp)*F) by ac_rfl)).Ew
  rw[f] at i
  simp at i
  exact absurd i.2 (by decide)
 refine (Yi (b2:=B) (c2:=c) d (by simpa using j.cell) k j.lt hl).mono ?_
 rintro e m ⟨rfl,l',hp,t,f⟩
 refine ⟨rfl,l',hp,t,Sat.DX (sp:=sp) (by rw[Eu,hp.length_eq]) (by rw[List.length_append,Eu,hp.length_eq,←Eu,←List.length_append];exact b) q s f⟩
theorem UM: ∃i,CJ Tryz.prog 87 Cc 2 16 i (.agg #[.int .i64 0,.int .i64 0]):=by
 exact IQ Tryz.underlying87 (by kernel_rfl) rfl (by decide)
theorem Qo(q:Option Addr)(c0:Nat)(d:List (Int×Int))(B:Ac)(w:World)(hl:d.length≤1073741824)(a9:Sat (rw Cc 2 (.slice q d.length c0) (Cf d)*B) w):
 Calls Tryz.prog 120 #[.slice q d.length c0] w fun e w'=> ∃l':List (Int×Int),l'.Perm (Cq d)∧bR l'∧ ∃(a':Option Addr)(G:Nat),e= .returned (.slice a' (C7 [] l').length G)∧
  Sat (rw Cc 2 (.slice a' (C7 [] l').length G) (Cf (C7 [] l'))*(rw Cc 2 (.slice q d.length c0) (Cf d)*B)) w':=by
 have a5:Sat (rw Cc 2 (.slice q d.length c0) (Cf d)*B) w:=a9
 clear a9
 go_enter Tryz.func120,Tryz.ntmps120
 obtain ⟨i0,EP⟩:=UM
 have a6:=a5.alloc #[.slice none 0 0] 87
 have a7:=a6.AH (e:=Cc) (s:=2)
 go_wp2
 go_loopg [12] d.length (fun g ai wr=> ∃(i:Nat)(a:Option Addr)(c:Nat),ai= .int .i64 i∧i≤d.length∧Aside (g=d.length-i)∧
  Sat (rw Cc 2 (.slice a (Cq (d.take i)).length c) (Cf (Cq (d.take i)))*(Sl.block w.heap.size 87 [.slice a (Cq (d.take i)).length c]*(rw Cc 2 (.slice q d.length c0) (Cf d)*B))) wr)
 case atStart=>exact ⟨0,none,0,rfl,by omega,rfl,by simpa[Cq,Cf] using a7⟩
 obtain ⟨i,a,c,rfl,hi,A,k⟩:=hrel
 haveI:=k.i
 clear a5 a6 a7
 by_cases L:i<d.length
 · have I:(i:Int)<d.length:=by omega
   obtain ⟨⟨x,y⟩,hp⟩:=Aq (d[i])
   have hx:(Cf d)[i*2]?=some (.int .i64 x):=by rw[JM,show i*2/2=i by omega,show i*2%2=0 by omega,List.getElem?_eq_getElem L,hp];rfl
   have hy:(Cf d)[i*2+1]?=some (.int .i64 y):=by rw[JM,show (i*2+1)/2=i by omega,show (i*2+1)%2=1 by omega,List.getElem?_eq_getElem L,hp];rfl
   haveI:At (Cf d) (i*2) (.int .i64 x):=⟨hx⟩
   obtain ⟨g0,rfl⟩:=BN (k.take (rw Cc 2 (.slice q d.length c0) (Cf d))) (by omega)
   haveI:=k.i
   haveI:At (Cf d) (i*2+1) (.int .i64 y):=⟨hy⟩
   have D:Aside (d.take (i+1)=d.take i++ [(x,y)]):=(by rw[List.take_add_one,List.getElem?_eq_getElem L,hp];rfl:_=_)
   by_cases hk:max x 0<y
   · have Z:(Cq (d.take i)).length≤1073741824:=by
      have:=LQ (d.take i)
      rw[List.length_take] at this
      omega
     go_wp2_with (at_builtin;go_loud (refine Ad EP rfl (.tmp 25) (.tmp 27) rfl rfl rfl (Af (rw Cc 2 (.slice a (Cq (d.take i)).length c) (Cf (Cq (d.take i))))) (Src.new (b:=wr.heap.size+1) (e:=Cc) (s:=2) (vs:= [.int .i64 (max x 0),.int .i64 y]) (by rw[←show (wr.alloc (.cells #[.int .i64 (max x 0),.int .i64 y] Cc)).heap.size=wr.heap.size+1 by simp];exact Af _) rfl (by intro u P;simp at P;rcases P with rfl|rfl<;>rfl)) (by unfold maxLen;omega) (by omega) ?_;intro a' G w2 J o;haveI:=J.i;clear o))
     go_roundg (d.length-(i+1))
     case measure=>have:=A.out;omega
     refine ⟨i+1,a',G,by go_num,by omega,rfl,?_⟩
     rw[D.out,Ig,X4 (by omega),List.length_append,Gf]
     exact A6 (C:=Sl.block (wr.alloc (.cells #[.int .i64 (max x 0),.int .i64 y] Cc)).heap.size Cc [.int .i64 (max x 0),.int .i64 y]*Sl.block wr.heap.size Cc [.int .i64 (max x 0),.int .i64 y]) (by
      show rw Cc 2 (.slice a' ((Cq (d.take i)).length+1) G) _*_=_
      ac_rfl)
   go_wp2
   go_roundg (d.length-(i+1))
   case measure=>have:=A.out;omega
   refine ⟨i+1,a,c,by go_num,by omega,rfl,?_⟩
   rw[D.out,Ig,UX (by omega),List.append_nil]
   exact A6 (C:=Sl.block wr.heap.size Cc [.int .i64 (max x 0),.int .i64 y]) (by ac_rfl)
 have I: ¬(i:Int)<d.length:=by omega
 obtain rfl:i=d.length:=by omega
 rw[List.take_length] at k
 haveI:=k.i
 have Z:=LQ d
 have W:=Yk a c w.heap.size (Cq d) (rw Cc 2 (.slice q d.length c0) (Cf d)*B) wr (by omega) k
 obtain ⟨l,M⟩:=Aq ((Cq d).length)
 rw[M] at W Z
 have af:Aside (Sat (rw Cc 2 (.slice a l c) (Cf (Cq d))*(Sl.block w.heap.size 87 [.slice a l c]*(rw Cc 2 (.slice q d.length c0) (Cf d)*B))) wr):=(by rw[←M];exact k:Sat _ _)
 have ad:Aside ((Cq d).length=l):=M
 haveI:=af.out.i
 clear k M
 go_wp2_with fail
 refine W.mono ?_
 rintro e w2 ⟨rfl,f,T,aa,V⟩
 clear W
 have HI:Aside (f.Perm (Cq d)∧bR f):=⟨T,aa⟩
 have an:f.length=l:=by rw[T.length_eq];exact ad.out
 clear T aa
 haveI:=V.i
 have a8:=Sat.AH (e:=Cc) (s:=2) (V.eq (show _=rw Cc 2 (.slice a l c) (Cf f)*(rw Cc 2 (.slice q d.length c0) (Cf d)*B)*Sl.block w.heap.size 87 [.slice a l c] by ac_rfl)).Dq
 go_wp2
 go_loopg [6,36] l (fun g t6 aj wr=> ∃(j:Nat)(K:Option Addr)(c2:Nat),aj= .int .i64 j∧j≤l∧Aside (g=l-j∧(C7 [] (f.take j)= []→K=none∧c2=0))∧t6= .slice K (C7 [] (f.take j)).length c2∧
  Sat (rw Cc 2 (.slice K (C7 [] (f.take j)).length c2) (Cf (C7 [] (f.take j)))*(rw Cc 2 (.slice a l c) (Cf f)*(rw Cc 2 (.slice q d.length c0) (Cf d)*B))) wr)
 case atStart=>exact ⟨0,none,0,rfl,by omega,⟨rfl,fun _=>⟨rfl,rfl⟩⟩,rfl,by simpa[C7,Cf] using a8⟩
 obtain ⟨j,K,c2,rfl,hj,A2,rfl,k⟩:=hrel
 clear V a8
 have ae:Aside (Sat (rw Cc 2 (.slice K (C7 [] (f.take j)).length c2) (Cf (C7 [] (f.take j)))*(rw Cc 2 (.slice a l c) (Cf f)*(rw Cc 2 (.slice q d.length c0) (Cf d)*B))) wr):=k
 by_cases L:j<l
 · have I:(j:Int)<l:=by omega
   have R:j<f.length:=by omega
   obtain ⟨g,rfl⟩:=BN (k.take (rw Cc 2 (.slice a l c) (Cf f))) (by omega)
   obtain ⟨⟨x,y⟩,hp⟩:=Aq (f[j])
   haveI:At (Cf f) (j*2) (.int .i64 x):=⟨by rw[JM,show j*2/2=j by omega,show j*2%2=0 by omega,List.getElem?_eq_getElem R,hp];rfl⟩
   haveI:At (Cf f) (j*2+1) (.int .i64 y):=⟨by rw[JM,show (j*2+1)/2=j by omega,show (j*2+1)%2=1 by omega,List.getElem?_eq_getElem R,hp];rfl⟩
   have D:Aside (f.take (j+1)=f.take j++ [(x,y)]):=(by rw[List.take_add_one,List.getElem?_eq_getElem R,hp];rfl:_=_)
   have O:(C7 [] (f.take j)).length≤1073741824:=by
    have:=PW (f.take j) []
    rw[List.length_take] at this
    simp at this
    omega
   obtain ⟨out,t⟩:=Aq (C7 [] (f.take j))
   rw[t] at k O
   have Q:Aside (C7 [] (f.take j)=out):=t
   simp only[t]
   clear t hp
   haveI:=k.i
   rcases List.eq_nil_or_concat out with rfl|⟨o',⟨p,n⟩,rfl⟩
   · have z:Sat (rw Cc 2 (.slice K 0 c2) []*(rw Cc 2 (.slice (some ⟨g,0,none⟩) l c) (Cf f)*(rw Cc 2 (.slice q d.length c0) (Cf d)*B))) wr:=k
     simp only[List.length_nil]
     haveI:=z.i
     go_wp2_with fail
     go_quiet (fail)
     go_wp2_with (at_builtin;go_loud (refine Ad EP rfl (.tmp 67) (.tmp 69) rfl rfl rfl (Af (rw Cc 2 (.slice K 0 c2) [])) (Src.new (b:=wr.heap.size+1) (e:=Cc) (s:=2) (vs:= [.int .i64 x,.int .i64 y]) (by rw[←show ((wr.alloc (.cells #[.int .i64 x,.int .i64 y] Cc)).drewN nq).heap.size=wr.heap.size+1 by simp];exact Af _) rfl (by intro u P;simp at P;rcases P with rfl|rfl<;>rfl)) (by unfold maxLen;omega) (by omega) ?_;intro a' G w3 J o;haveI:=J.i;clear o))
     go_roundg (l-(j+1))
     case measure=>have:=A2.out.1;omega
     refine ⟨j+1,a',G,by go_num,by omega,⟨rfl,fun h0=>?_⟩,?_,?_⟩
     · rw[D.out,Db] at h0;exact absurd h0 (R5 _ _)
     · rw[D.out,Db,Q.out];rfl
     rw[D.out,Db,Q.out]
     refine A6 (C:=Sl.block ((wr.alloc (.cells #[.int .i64 x,.int .i64 y] Cc)).drewN nq).heap.size Cc [.int .i64 x,.int .i64 y]*Sl.block wr.heap.size Cc [.int .i64 x,.int .i64 y]) ?_
     show rw Cc 2 (.slice a' (0+1) G) _*_=_
     ac_rfl
   rw[List.concat_eq_append] at k O Q
   have a3:(o'.concat (p,n)).length=o'.length+1:=by simp
   rw[List.length_append,List.length_singleton] at O
   obtain ⟨m,hm⟩:=Aq o'.length
   have z:Sat (rw Cc 2 (.slice K (m+1) c2) (Cf (o'++ [(p,n)]))*(rw Cc 2 (.slice (some ⟨g,0,none⟩) l c) (Cf f)*(rw Cc 2 (.slice q d.length c0) (Cf d)*B))) wr:=by
    have:(o'++ [(p,n)]).length=m+1:=by simp[hm]
    rw[←this];exact k
   obtain ⟨g2,rfl⟩:=BN z (by omega)
   have a4:(o'++ [(p,n)])[m]?=some (p,n):=by rw[List.getElem?_append_right (by omega)];simp[hm]
   haveI:At (Cf (o'++ [(p,n)])) (m*2) (.int .i64 p):=⟨by rw[JM,show m*2/2=m by omega,show m*2%2=0 by omega,a4];rfl⟩
   haveI:At (Cf (o'++ [(p,n)])) (m*2+1) (.int .i64 n):=⟨by rw[JM,show (m*2+1)/2=m by omega,show (m*2+1)%2=1 by omega,a4];rfl⟩
   rw[hm] at O a3
   simp only[a3]
   haveI:=z.i
   by_cases a1:x≤n
   · have hd:decide (x≤n)=true:=by simpa using a1
     go_wp2_with fail
     go_quiet (fail)
     go_wp2_with fail
     go_region
     go_wp2
     go_roundg (l-(j+1))
     case measure=>have:=A2.out.1;omega
     have X:Aside (F5 (x,y) (o'++ [(p,n)])=o'++ [(p,max n y)]):=(by
      rw[Hq]
      show (match decide (x≤n) with|true=>_|false=>_)=_
      rw[hd]:_=_)
     refine ⟨j+1,some ⟨g2,0,none⟩,c2,by go_num,by omega,⟨rfl,fun h0=>?_⟩,?_,?_⟩
     · rw[D.out,Db] at h0;exact absurd h0 (R5 _ _)
     · rw[D.out,Db,Q.out,X.out];simp[hm]
     rw[D.out,Db,Q.out,X.out]
     rw[show (o'++ [(p,max n y)]).length=m+1 by simp[hm]]
     have Y:=aV o' p n (max n y)
     rw[hm] at Y
     rw[←Y]
     exact A6 (C:=Sl.block wr.heap.size Cc [.int .i64 x,.int .i64 y]) (by ac_rfl)
   have hd:decide (x≤n)=false:=by simpa using a1
   go_wp2_with fail
   go_quiet (fail)
   go_wp2_with (at_builtin;go_loud (refine Ad EP rfl (.tmp 67) (.tmp 69) rfl rfl rfl (Af (rw Cc 2 (.slice (some ⟨g2,0,none⟩) (m+1) c2) (Cf (o'++ [(p,n)])))) (Src.new (b:=wr.heap.size+1) (e:=Cc) (s:=2) (vs:= [.int .i64 x,.int .i64 y]) (by rw[←show ((wr.alloc (.cells #[.int .i64 x,.int .i64 y] Cc)).drewN nq).heap.size=wr.heap.size+1 by simp];exact Af _) rfl (by intro u P;simp at P;rcases P with rfl|rfl<;>rfl)) (by unfold maxLen;omega) (by omega) ?_;intro a' G w3 J o;haveI:=J.i;clear o))
   go_roundg (l-(j+1))
   case measure=>have:=A2.out.1;omega
   have X:Aside (F5 (x,y) (o'++ [(p,n)])=o'++ [(p,n)]++ [(x,y)]):=(by
    rw[Hq]
    show (match decide (x≤n) with|true=>_|false=>_)=_
    rw[hd]
    simp:_=_)
   refine ⟨j+1,a',G,by go_num,by omega,⟨rfl,fun h0=>?_⟩,?_,?_⟩
   · rw[D.out,Db] at h0;exact absurd h0 (R5 _ _)
   · rw[D.out,Db,Q.out,X.out];simp[hm]
   rw[D.out,Db,Q.out,X.out,Gf _ [(x,y)]]
   rw[show (o'++ [(p,n)]++ [(x,y)]).length=m+1+1 by simp[hm]]
   refine A6 (C:=Sl.block ((wr.alloc (.cells #[.int .i64 x,.int .i64 y] Cc)).drewN nq).heap.size Cc [.int .i64 x,.int .i64 y]*Sl.block wr.heap.size Cc [.int .i64 x,.int .i64 y]) ?_
   show rw Cc 2 (.slice a' (m+1+1) G) (_++ [Value.int .i64 x,Value.int .i64 y])*_=_
   ac_rfl
 have I: ¬(j:Int)<l:=by omega
 have ah:j=l:=by omega
 have H:f.take j=f:=List.take_of_length_le (by omega)
 have HF:Aside (f.take j=f):=H
 clear H ah
 go_wp2
 go_ret
 have hq:=ae.out
 rw[HF.out] at hq
 rw[HF.out]
 exact ⟨f,HI.out.1,HI.out.2,K,c2,rfl,(hq.eq (show _=rw Cc 2 (.slice K (C7 [] f).length c2) (Cf (C7 [] f))*(rw Cc 2 (.slice q d.length c0) (Cf d)*B)*rw Cc 2 (.slice a l c) (Cf f) by ac_rfl)).Dq⟩
end Go.Proofs.YtfhbmblbidcmmaaGreat
namespace Go.Proofs.YtfhbmblbidcmmaaGreat
def Gm(l:List (Int×Int))(x:Int):Prop:= ∃p∈l,p.1≤x∧x<p.2
def F7(l:List (Int×Int)):Prop:=(∀p∈l,p.1<p.2)∧l.Pairwise fun a b=>a.2<b.1
theorem Gm.nil(x:Int): ¬Gm [] x:=fun ⟨_,h,_⟩=>by cases h
theorem Ft(p:Int×Int)(l:List (Int×Int))(x:Int):Gm (p::l) x↔(p.1≤x∧x<p.2)∨Gm l x:=by simp[Gm]
theorem Gm.perm{l l':List (Int×Int)}(h:l'.Perm l)(x:Int):Gm l' x↔Gm l x:=by
 constructor
 ·rintro ⟨p,hp,h1⟩;exact ⟨p,h.mem_iff.1 hp,h1⟩
 rintro ⟨p,hp,h1⟩;exact ⟨p,h.mem_iff.2 hp,h1⟩
theorem Ky(r:Int×Int): ∀(o:List (Int×Int))(b:Int×Int),b∈F5 r o→b.1=r.1∨ ∃a∈o,b.1=a.1
 | [],b,h=>by simp_all[T5]
 | [p],b,h=>by grind [F5]
 | p :: q :: l, b, h => by
  rcases List.mem_cons.1 h with rfl|h
  ·simp
  rcases Ky r (q::l) b h with h|⟨a,ha,e⟩
  ·omega
  grind
theorem Qx(r:Int×Int)(hr:r.1<r.2): ∀(o:List (Int×Int)),F7 o→(∀p∈o,p.1≤r.1)→F7 (F5 r o)∧ ∀x,Gm (F5 r o) x↔Gm o x∨(r.1≤x∧x<r.2)
 | [],_,_=>by
  rw[T5]
  refine ⟨⟨fun p hp=>by rw[List.mem_singleton.1 hp];exact hr,List.pairwise_singleton _ _⟩,fun x=>?_⟩
  grind [Ft]
 | [p], c, hp => by
  have h1:=c.1 p (List.mem_singleton.2 rfl)
  have f:=hp p (List.mem_singleton.2 rfl)
  rw[F5]
  split
  · rename_i e
    have e':r.1≤p.2:=by simpa using e
    refine ⟨⟨fun q hq=>by rw[List.mem_singleton.1 hq];show p.1<max p.2 r.2;omega,List.pairwise_singleton _ _⟩,fun x=>?_⟩
    simp only[Ft,Gm.nil,or_false]
    omega
  rename_i e
  refine ⟨⟨fun q hq=>?_,?_⟩,fun x=>?_⟩
  · grind
  · simp_all
  simp[Ft,Gm.nil,or_false]
 | p :: q :: l, c, hp => by
   have d:F7 (q::l):=⟨fun a ha=>c.1 a (List.mem_cons_of_mem _ ha),(List.pairwise_cons.1 c.2).2⟩
   obtain ⟨h1,f⟩:=Qx r hr (q::l) d fun a ha=>hp a (List.mem_cons_of_mem _ ha)
   have hq:=(List.pairwise_cons.1 c.2).1
   rw[F5]
   refine ⟨⟨fun a ha=>?_,?_⟩,fun x=>?_⟩
   · rcases List.mem_cons.1 ha with rfl|ha
     ·exact c.1 _ List.mem_cons_self
     exact h1.1 a ha
   · refine List.Pairwise.cons (fun b hb=>?_) h1.2
     rcases Ky r (q::l) b hb with e|⟨a,ha,e⟩
     ·grind
     grind
   simp_all[Ft,or_assoc]
theorem NW: ∀(l out:List (Int×Int)),F7 out→(∀p∈l,p.1<p.2)→bR l→(∀p∈out,∀q∈l,p.1≤q.1)→F7 (C7 out l)∧ ∀x,Gm (C7 out l) x↔Gm out x∨Gm l x
 | [],out,b,_,_,_=>⟨b,fun x=>by
  show Gm out x↔_
  constructor
  · simp_all
  rintro (h|h)
  · omega
  exact absurd h (Gm.nil x)⟩
 | r :: l, out, b, hl, j, i => by
   obtain ⟨h1,d⟩:=Qx r (hl r List.mem_cons_self) out b fun p hp=>i p hp r List.mem_cons_self
   have c:=List.pairwise_cons.1 j
   obtain ⟨f,g⟩:=NW l (F5 r out) h1 (fun p hp=>hl p (List.mem_cons_of_mem _ hp)) c.2 fun p hp q hq=>by
    rcases Ky r out p hp with e|⟨a,ha,e⟩
    ·grind
    grind
   exact ⟨f,fun x=>by
    show Gm (C7 (F5 r out) l) x↔_
    rw[g x,d x,Ft,or_assoc]⟩
theorem LR: ∀l:List (Int×Int),∀p∈Cq l,p.1<p.2
 | [],p,h=>by cases h
 | q :: l, p, h => by
  rw[Cq] at h
  split at h
  ·rename_i e
   rcases List.mem_cons.1 h with rfl|h
   ·simp_all
   exact LR l p h
  exact LR l p h
theorem PY: ∀(l:List (Int×Int))(x:Int),Gm (Cq l) x↔0≤x∧Gm l x
 | [],x=>by simp[Cq,Gm]
 | q :: l, x => by
  have a:=PY l x
  rw[Cq]
  split
  ·rename_i e
   rw[Ft,Ft,a]
   grind
  rename_i e
  rw[Ft,a]
  grind
theorem O0{a l':List (Int×Int)}(hp:l'.Perm (Cq a))(c:bR l'):F7 (C7 [] l')∧ ∀x,Gm (C7 [] l') x↔0≤x∧Gm a x:=by
 obtain ⟨h1,b⟩:=NW l' [] ⟨fun p h=>(by cases h),List.Pairwise.nil⟩ (fun p h=>LR a p (hp.mem_iff.1 h)) c (fun p h=>by cases h)
 refine ⟨h1,fun x=>?_⟩
 rw[b x,Gm.perm hp x,PY]
 constructor
 ·rintro (h|h)
  ·exact absurd h (Gm.nil x)
  exact h
 exact Or.inr
open Go.RowKit Go.Sl Go.Sort
open Go.QK (A8)
def CA(ks:List Int):List (Int×Int):=ks.map fun k=>(k,k+1)
theorem Sr(ks:List Int)(x:Int):Gm (CA ks) x↔x∈ks:=by
 constructor
 ·rintro ⟨p,hp,h1,a⟩
  obtain ⟨k,b,rfl⟩:=List.mem_map.1 hp
  have:x=k:=by simp only at h1 a;omega
  exact this▸b
 intro h
 exact ⟨(x,x+1),List.mem_map.2 ⟨x,h,rfl⟩,by show x≤x;omega,by show x<x+1;omega⟩
theorem X9(M:Nat)(l:List Int)(D:Ac)(w:World)(a8:Sat (mp A8 M (GX l)*D) w)(bY: ∀k∈l,0≤k∧k<1099511627776)(hl:l.length≤1048576):
 Calls Tryz.prog 104 #[.map (some M)] w fun e w'=> ∃q:List (Int×Int),F7 q∧(∀x,Gm q x↔x∈l)∧ ∃(a':Option Addr)(y:Nat),e= .returned (.slice a' q.length y)∧
  Sat (rw Cc 2 (.slice a' q.length y) (Cf q)*(mp A8 M (GX l)*D)) w':=by
 obtain ⟨o,ho,R⟩:=a8.Dg
 clear a8
 have hM:w.heap[M]?=some o:=R.obj
 obtain ⟨ms,j⟩:=Aq (GX l)
 have HM:Aside (GX l=ms∧FT A8 o ms):=⟨j,j▸ho⟩
 have hl:ms.length≤1048576:=by rw[←j];simpa[GX] using hl
 have hk: ∀p∈ms,0≤p.1∧p.1<1099511627776:=fun p hp=>by
  rw[←j] at hp
  obtain ⟨k,h1,rfl⟩:=List.mem_map.1 hp
  exact bY k h1
 rw[j] at ho
 have HF:Aside (∀ks:List Int,ks.Perm (ms.map (·.1))→ ∀x,x∈ks↔x∈l):=(by
  intro ks h x
  rw[h.mem_iff,←j]
  simp[GX]:_)
 clear j bY
 obtain ⟨oi,hI,I⟩:=Iz (P:=Tryz.prog) Tryz.underlying206 hM ho
 have z:Sat (raw w.heap.size oi*(raw M o*D)) (w.alloc oi):=R.Dh oi
 obtain ⟨i0,EP⟩:=UM
 go_enter Tryz.func104,Tryz.ntmps104
 go_wp2
 go_loopg [3] ms.length (fun g out wr=> ∃(a:Option Addr)(ks:List Int)(c:Nat)(m:Obj)(d:List (Int×Value)),out= .slice a ks.length c∧Aside (g=d.length∧Iter A8 M o m ms d∧(d.map (·.1)++ks).Perm (ms.map (·.1)))∧
  Sat (rw Cc 2 (.slice a ks.length c) (Cf (CA ks))*(raw w.heap.size m*(raw M o*D))) wr)
 case atStart=>exact ⟨none,[],0,oi,ms,rfl,⟨rfl,hI,by simp⟩,by simpa[CA,Cf] using z.AH (e:=Cc) (s:=2)⟩
 obtain ⟨a,ks,c,m,d,rfl,A,J⟩:=hrel
 obtain ⟨Z,L,W⟩:=A.out
 have T:=J.eq (B:=raw M o*(raw w.heap.size m*(D*rw Cc 2 (.slice a ks.length c) (Cf (CA ks))))) (by ac_rfl)
 clear hI z I R
 rcases Jw (P:=Tryz.prog) T L with ⟨a6,O⟩|⟨i,k,v,V,w2,hi,O,X,a7,aa⟩
 · subst a6
   have G:ks.Perm (ms.map (·.1)):=by simpa using W
   have a1:ks.length=ms.length:=by simpa using G.length_eq
   have H:(CA ks).length=ks.length:=by simp[CA]
   have f:=Qo a c (CA ks) (raw w.heap.size m*(raw M o*D)) wr (by rw[H];omega) (by rw[H];exact J)
   rw[H] at f
   have HP:Aside (ks.Perm (ms.map (·.1))∧ ∀k∈ks,0≤k):=⟨G,fun k ae=>by obtain ⟨p,hp,rfl⟩:=List.mem_map.1 (G.mem_iff.1 ae);exact (hk p hp).1⟩
   obtain ⟨n,hn⟩:=Aq ks.length
   rw[hn] at f
   simp only[hn]
   have HN:Aside (Calls Tryz.prog 120 #[.slice a n c] wr fun e w'=> ∃l':List (Int×Int),l'.Perm (Cq (CA ks))∧bR l'∧ ∃(a':Option Addr)(y:Nat),e= .returned (.slice a' (C7 [] l').length y)∧
    Sat (rw Cc 2 (.slice a' (C7 [] l').length y) (Cf (C7 [] l'))*(rw Cc 2 (.slice a n c) (Cf (CA ks))*(raw w.heap.size m*(raw M o*D)))) w'):=f
   clear T L A G a1 J f W H hn
   go_wp2_with fail
   refine HN.out.mono ?_
   rintro e w3 ⟨l',a5,a9,a',y,rfl,z⟩
   have t:=O0 a5 a9
   obtain ⟨q,Q⟩:=Aq (C7 [] l')
   rw[Q] at t z
   simp only[Q]
   have HR:Aside (F7 q∧(∀x,Gm q x↔x∈l)∧Sat (rw Cc 2 (.slice a' q.length y) (Cf q)*(mp A8 M (GX l)*D)) w3):=⟨t.1,fun x=>by
    rw[t.2 x,Sr,HF.out ks HP.out.1 x]
    exact ⟨fun h=>h.2,fun h=>⟨HP.out.2 x ((HF.out ks HP.out.1 x).2 h),h⟩⟩,by
    rw[HM.out.1]
    have h9:=(z.eq (show _=rw Cc 2 (.slice a' q.length y) (Cf q)*(raw M o*D)*(rw Cc 2 (.slice a n c) (Cf (CA ks))*raw w.heap.size m) by ac_rfl)).Dq
    exact (Sat.Es HM.out.2 (h9.eq (show _=raw M o*(rw Cc 2 (.slice a' q.length y) (Cf q)*D) by ac_rfl))).eq (by ac_rfl)⟩
   clear z t Q a5 a9
   go_wp2
   go_ret
   exact ⟨q,HR.out.1,HR.out.2.1,a',y,rfl,HR.out.2.2⟩
 have K:(k,v)∈d:=List.mem_of_getElem? hi
 have a0:k∈ms.map (·.1):=W.mem_iff.1 (by simp only[List.mem_append,List.mem_map];exact .inl ⟨_,K,rfl⟩)
 obtain ⟨bY,Wx⟩:0≤k∧k<1099511627776:=by obtain ⟨p,hp,rfl⟩:=List.mem_map.1 a0;exact hk p hp
 have a3:(d.eraseIdx i).length<d.length:=by
  have:=(List.getElem?_eq_some_iff.1 hi).1
  rw[List.length_eraseIdx];split<;>omega
 have a2:d.length+ks.length=ms.length:=by simpa using W.length_eq
 have Y:((d.eraseIdx i).map (·.1)++(ks++ [k])).Perm (ms.map (·.1)):=by
  refine List.Perm.trans ?_ W
  have h1:=(Fo d i _ hi).map (·.1)
  simp only[List.map_cons] at h1
  have h2:((d.eraseIdx i).map (·.1)++(ks++ [k])).Perm (k::((d.eraseIdx i).map (·.1)++ks)):=by
   rw[←List.append_assoc]
   exact List.perm_append_singleton _ _
  exact h2.trans ((h1.append_right ks).symm)
 have HL:Aside ((d.eraseIdx i).length<d.length∧gk=d.length):=⟨a3,Z⟩
 have HI:Aside (Iter A8 M o V ms (d.eraseIdx i)∧((d.eraseIdx i).map (·.1)++(ks++ [k])).Perm (ms.map (·.1))):=⟨X,Y⟩
 have ah:Sat (rw Cc 2 (.slice a ks.length c) (Cf (CA ks))*(raw w.heap.size V*(raw M o*D))) w2:=a7.eq (by ac_rfl)
 have a1:ks.length≤1048576:=by omega
 clear T L A J a3 Z X hi W Y K a0 a2 a7
 haveI:=ah.i
 go_wp2_with (at_builtin;go_loud (refine Ad EP rfl (.tmp 11) (.tmp 16) rfl rfl rfl (Af (rw Cc 2 (.slice a ks.length c) (Cf (CA ks)))) (Src.new (b:=w2.heap.size) (e:=Cc) (s:=2) (vs:= [.int .i64 k,.int .i64 (k+1)]) (Af _) rfl (by intro u hu;simp at hu;rcases hu with rfl|rfl<;>rfl)) (by unfold maxLen;omega) (by omega) ?_;intro a' y w3 ai a4;haveI:=ai.i;clear a4))
 go_roundg (d.eraseIdx i).length
 case measure=>have:=HL.out;omega
 refine ⟨a',ks++ [k],y,V,_,by simp,⟨rfl,HI.out.1,HI.out.2⟩,?_⟩
 rw[show CA (ks++ [k])=CA ks++ [(k,k+1)] by simp[CA],Gf,List.length_append]
 exact A6 (C:=Sl.block w2.heap.size Cc [.int .i64 k,.int .i64 (k+1)]) (by
  show rw Cc 2 (.slice a' (ks.length+1) y) _*_=_
  ac_rfl)
end Go.Proofs.YtfhbmblbidcmmaaGreat
namespace Go.Proofs.YtfhbmblbidcmmaaGreat
open Go.RowKit Go.Sl Go.Dk Go.Tr
open Go.QK (A8)
theorem VN(S:Nat)(s:Sp)(F:Ac)(w:World)(hs:Sat (BQ S s*F) w)(l: ∀k∈s.used,0≤k∧k<1099511627776)(hl:s.used.length≤1048576):
 Calls Tryz.prog 38 #[.pointer (some ⟨S,0,none⟩)] w fun e p=> ∃a:List (Int×Int),F7 a∧(∀x,Gm a x↔x∈s.used)∧ ∃(a':Option Addr)(b:Nat),e= .returned (.slice a' a.length b)∧
  Sat (rw Cc 2 (.slice a' a.length b) (Cf a)*(BQ S s*F)) p:=by
 obtain ⟨U,Wt,v,h1⟩:=Sat.I2 hs
 have g:Sat (coreS S U Wt v s.AO*(mp A8 U (GX s.used)*(mp A8 Wt (GX s.waiting)*(rw B3 1 v (ints s.taken)*F)))) w:=h1.eq (by unfold EG;ac_rfl)
 have c:=X9 U s.used (coreS S U Wt v s.AO*(mp A8 Wt (GX s.waiting)*(rw B3 1 v (ints s.taken)*F))) w (g.eq (by ac_rfl)) l hl
 haveI:=g.i
 clear hs h1 l hl
 go_enter Tryz.func38,Tryz.ntmps38
 go_wp2_with fail
 refine c.mono ?_
 rintro e n ⟨a,m,j,a',b,rfl,d⟩
 have f:Aside (F7 a∧(∀x,Gm a x↔x∈s.used)∧Sat (rw Cc 2 (.slice a' a.length b) (Cf a)*(BQ S s*F)) n):=⟨m,j,by
  have o:Sat (EG S U Wt v s*(rw Cc 2 (.slice a' a.length b) (Cf a)*F)) n:=d.eq (by unfold EG;ac_rfl)
  exact (Sat.Gg o).eq (by ac_rfl)⟩
 clear c m j d
 go_wp2
 go_ret
 exact ⟨a,f.out.1,f.out.2.1,a',b,rfl,f.out.2.2⟩
end Go.Proofs.YtfhbmblbidcmmaaGreat
namespace Go.Proofs.YtfhbmblbidcmmaaGreat
open Go.RowKit Go.Sl Go.Dk Go.Tr
theorem Lm{c:List (Int×Int)}{n:Int}{i:Nat}{x y:Int}(hp:c[i]?=some (x,y))(h: ¬Gm (c.take i) n)(e: ¬(x≤n∧n<y)): ¬Gm (c.take (i+1)) n:=by
 rw[List.take_add_one,hp]
 rintro ⟨p,b,d⟩
 rcases List.mem_append.1 b with a|a
 ·exact h ⟨p,a,d⟩
 simp only[Option.toList,List.mem_singleton] at a
 subst a
 exact e d
def Xv(l:List (Int×Int))(n:Int):Bool:=l.any fun p=>decide (p.1≤n∧n<p.2)
theorem S9(l:List (Int×Int))(n:Int):Xv l n=true↔Gm l n:=by simp[Xv,Gm]
theorem SA{l:List (Int×Int)}{n:Int}(h:Gm l n):Xv l n=true:=(S9 l n).2 h
theorem p'{l:List (Int×Int)}{n:Int}(h: ¬Gm l n):Xv l n=false:=by
 cases e:Xv l n
 ·rfl
 exact absurd ((S9 l n).1 e) h
theorem ZV(a:Option Addr)(c:Nat)(b:List (Int×Int))(n:Int)(F:Ac)(w:World)(hl:b.length≤1048576)(u:0≤n)(j:Sat (rw Cc 2 (.slice a b.length c) (Cf b)*F) w):
 Calls Tryz.prog 52 #[.slice a b.length c,.int .i64 n] w fun e B=>e= .returned (.bool (Xv b n))∧Sat (rw Cc 2 (.slice a b.length c) (Cf b)*F) B:=by
 have D:decide (0≤n)=true:=by simpa using u
 haveI:=j.i
 go_enter Tryz.func52,Tryz.ntmps52
 go_wp2
 go_loopg [5] b.length (fun g z wr=> ∃(i:Nat),z= .int .i64 i∧i≤b.length∧Aside (g=b.length-i∧ ¬Gm (b.take i) n)∧Sat (rw Cc 2 (.slice a b.length c) (Cf b)*F) wr)
 case atStart=>exact ⟨0,rfl,by omega,⟨rfl,by simpa using Gm.nil n⟩,j⟩
 obtain ⟨i,rfl,hi,A,d⟩:=hrel
 clear j
 by_cases p:i<b.length
 ·have k:(i:Int)<b.length:=by omega
  obtain ⟨⟨x,y⟩,hp⟩:=Aq (b[i])
  have f:b[i]?=some (x,y):=by rw[List.getElem?_eq_getElem p,hp]
  obtain ⟨g0,rfl⟩:=BN d (by omega)
  haveI:=d.i
  haveI:At (Cf b) (i*2) (.int .i64 x):=⟨Mh f 0 (by omega)⟩
  haveI:At (Cf b) (i*2+1) (.int .i64 y):=⟨Mh f 1 (by omega)⟩
  have l:Aside (b[i]?=some (x,y)):=f
  have m:Aside (Sat (rw Cc 2 (.slice (some ⟨g0,0,none⟩) b.length c) (Cf b)*F) wr):=d
  clear f hp d
  by_cases h1:x≤n
  ·have s:decide (x≤n)=true:=by simpa using h1
   by_cases o:n<y
   ·have t:decide (n<y)=true:=by simpa using o
    go_wp2
    go_ret
    exact ⟨by rw[SA ⟨(x,y),List.mem_of_getElem? l.out,h1,o⟩];rfl,m.out⟩
   have t:decide (n<y)=false:=by simpa using o
   go_wp2
   go_roundg (b.length-(i+1))
   case measure=>have:=A.out.1;omega
   case rel=>exact ⟨i+1,by go_num,by omega,⟨rfl,Lm l.out A.out.2 fun h=>by have:=h.2;omega⟩,m.out⟩
  have s:decide (x≤n)=false:=by simpa using h1
  go_wp2
  go_roundg (b.length-(i+1))
  case measure=>have:=A.out.1;omega
  case rel=>exact ⟨i+1,by go_num,by omega,⟨rfl,Lm l.out A.out.2 fun h=>by have:=h.1;omega⟩,m.out⟩
 have k: ¬(i:Int)<b.length:=by omega
 obtain rfl:i=b.length:=by omega
 have q:Aside (¬Gm b n∧Sat (rw Cc 2 (.slice a b.length c) (Cf b)*F) wr):=⟨by have:=A.out.2;rwa [List.take_length] at this,d⟩
 clear A d
 go_wp2
 go_ret
 exact ⟨by rw[p' q.out.1];rfl,q.out.2⟩
