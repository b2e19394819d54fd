/- censusSound holds for every input. No condition. (part 12) -/
import Derived.Test.YtfhbmblbidcmmaaGreatWa10
import Derived.Test.YtfhbmblbidcmmaaGreatWa11
import Derived.Test.YtfhbmblbidcmmaaGreatWa3
import Derived.Deep.DeepCutAuto
set_option linter.all false
set_option maxRecDepth 100000
set_option maxHeartbeats 1600000
namespace Go.Proofs.YtfhbmblbidcmmaaGreat
open Go.RowKit Go.Sl Go.Dk Go.Tr
open Go.PS (A9)
attribute [go_sem] Go.Sl.Ac Go.Sl.I0
abbrev mX:TypeId:=208
abbrev PX:TypeId:=206
abbrev CN:TypeId:=3
theorem Mt: ∃i,C8 Tryz.prog 45 CN 1 8 i (.int .i64 0):=Iu Tryz.underlying45 (by kernel_rfl) rfl (by omega)
def GA(l:List Int):List (Int×Value):=l.map fun k=>(k,.bool true)
theorem H0(k:Int): ∀l:List Int,(Cq k (GA l)).getD (.bool false)= .bool (l.contains k)
 | []=>rfl
 | x :: l => by
  show ((if k=x then some (Value.bool true) else Cq k (GA l)).getD (.bool false))=_
  by_cases h:k=x
  ·simp_all
  rw[if_neg h,H0 k l]
  grind
theorem Pj(k:Int): ∀l:List Int,l.contains k=false→CT k (.bool true) (GA l)=GA (l++ [k])
 | [],_=>rfl
 | x :: l, h => by
  simp only[List.contains_cons,Bool.or_eq_false_iff,beq_eq_false_iff_ne,ne_eq] at h
  show (if k=x then _ else _::CT k (.bool true) (GA l))=_
  rw[if_neg h.1,Pj k l h.2]
  rfl
theorem Um(k:Int): ∀l:List Int,FL k (GA l)=GA (l.erase k)
 | []=>rfl
 | x :: l => by
  show (if k=x then GA l else (x,Value.bool true)::FL k (GA l))=_
  by_cases h:k=x
  ·simp_all
  rw[if_neg h,Um k l,List.erase_cons_tail (by simpa using fun e=>h e.symm)]
  rfl
def coreS(S U Wt:Nat)(v:Value)(r:Int):Ab:=
 Ev S mX 4*(Sl.cell S 0 (.int .i64 r)*(Sl.cell S 1 (.map (some U))*(Sl.cell S 2 (.map (some Wt))*Sl.cell S 3 v)))
section
variable (S U Wt:Nat) (v:Value) (r:Int)
instance:El (coreS S U Wt v r) S 0 (.int .i64 r):=by unfold coreS;infer_instance
instance:El (coreS S U Wt v r) S 1 (.map (some U)):=by unfold coreS;infer_instance
instance:El (coreS S U Wt v r) S 2 (.map (some Wt)):=by unfold coreS;infer_instance
instance:El (coreS S U Wt v r) S 3 v:=by unfold coreS;infer_instance
instance(a:Option Addr)(n c:Nat):VD (coreS S U Wt v r) S 3 (.slice a n c) (coreS S U Wt (.slice a n c) r):=by unfold coreS;infer_instance
end
instance Ui:PU Tryz.prog PX Int A9 (.bool false):=⟨CN,4,Jz,Tryz.underlying206,fun w=>by kernel_rfl⟩
theorem L6(w:World)(M:Nat)(k:Int){A:Ab}{ms:List (Int×Value)}[h:AR A w][h2:DK A M A9 ms]:(Instr.lookup PX (.map (some M)) (.int .i64 k) false).run Tryz.prog w= .ok ((Cq k ms).getD (.bool false)) w:=OW Ui w M k
theorem W8(w:World)(M:Nat)(k:Int)(v:Value){A:Ab}{ms:List (Int×Value)}[h:AR A w][h2:DK A M A9 ms]:(Instr.mapUpdate PX (.map (some M)) (.int .i64 k) v).run Tryz.prog w= .ok () (Gn Tryz.prog PX M (A9 k) v w):=S2 Ui w M k v
theorem iM(w:World)(M:Nat)(k:Int)(a b:TypeId){A:Ab}{ms:List (Int×Value)}[h:AR A w][h2:DK A M A9 ms]:(Builtin.delete_ #[PX,a] b #[.map (some M),.int .i64 k]).run Tryz.prog w= .ok (.tuple #[]) (Qb Tryz.prog PX M (A9 k) w):=X7 Ui w M k a b
instance{w:World}{M:Nat}{k:Int}{v:Value}{A A':Ab}{ms:List (Int×Value)}[h:AR A w][h2:DK A M A9 ms][h3:K8 A M A9 (CT k v ms) A']:AR A' (Gn Tryz.prog PX M (A9 k) v w):=S3 Ui
instance{w:World}{M:Nat}{k:Int}{A A':Ab}{ms:List (Int×Value)}[h:AR A w][h2:DK A M A9 ms][h3:K8 A M A9 (FL k ms) A']:AR A' (Qb Tryz.prog PX M (A9 k) w):=X8 Ui
def ints(l:List Int):List Value:=l.map (Value.int .i64)
def Gp(S U Wt:Nat)(v:Value)(s:Sp):Ab:=coreS S U Wt v s.AX*(mp A9 U (GA s.used)*(mp A9 Wt (GA s.waiting)*rw CN 1 v (ints s.taken)))
def Cf(S:Nat)(s:Sp):Ab:=ex fun x:Nat×Nat×Value=>Gp S x.1 x.2.1 x.2.2 s
theorem Sat.Lb{S:Nat}{s:Sp}{F:Ab}{w:World}(hs:Sat (Cf S s*F) w): ∃U Wt v,Sat (Gp S U Wt v s*F) w:=by
 obtain ⟨⟨U,Wt,v⟩,h⟩:=hs.Oa
 grind
theorem Sat.IY{S U Wt:Nat}{v:Value}{s:Sp}{F:Ab}{w:World}(hs:Sat (Gp S U Wt v s*F) w):Sat (Cf S s*F) w:=Sat.Ob (U,Wt,v) hs
theorem Xd(S:Nat)(s:Sp)(F:Ab)(w:World)(hs:Sat (Cf S s*F) w):
 Calls Tryz.prog 82 #[.pointer (some ⟨S,0,none⟩)] w fun e k=>e= .returned (.int .i64 s.mark)∧Sat (Cf S s*F) k:=by
 obtain ⟨U,Wt,v,h1⟩:=Sat.Lb hs
 have b:Sat (rw CN 1 v (ints s.taken)*(coreS S U Wt v s.AX*(mp A9 U (GA s.used)*(mp A9 Wt (GA s.waiting)*F)))) w:=h1.eq (by unfold Gp;ac_rfl)
 obtain ⟨a,n,c,rfl,d,_⟩:=MP b
 have f:s.taken.length=n:=by simpa[ints] using d
 have j:=As hs
 have g:Aside (s.mark=(n:Int)):=(by unfold Sp.mark;rw[f]:_=_)
 haveI:=b.i
 clear hs h1 d f
 go_enter Tryz.func82,Tryz.ntmps82
 go_wp2
 go_ret
 exact ⟨by rw[g.out];rfl,j.out⟩
theorem ZA(r:Int)(F:Ab)(w:World)(h0:0≤r)(h1:r≤1048576)(hs:Sat F w):
 Calls Tryz.prog 63 #[.int .i64 r] w fun e m=> ∃S,e= .returned (.tuple #[.pointer (some ⟨S,0,none⟩),.int .i64 0])∧Sat (Cf S (Sp.new r)*F) m:=by
 have n:decide (r<0)=false:=by simp;omega
 have p:decide (1048576<r)=false:=by simp;omega
 have l:= @run_makeMap Tryz.prog
 have c:=hs.CW (.map #[] 0)
 have d:=c.CW (.map #[] 0)
 have i:(w.alloc (.map #[] 0)).heap.size=w.heap.size+1:=by simp
 have j:((w.alloc (.map #[] 0)).alloc (.map #[] 0)).heap.size=w.heap.size+2:=by simp
 have a:=d.alloc #[.int .i64 r,.map (some w.heap.size),.map (some (w.heap.size+1)),.slice none 0 0] mX
 rw[i,j] at a
 have f:=Sat.Eo (kf:=A9) (ms:= []) (b:=w.heap.size) (o:= .map #[] 0) ⟨#[],0,rfl,rfl,by simp,by simp⟩ (a.take (raw w.heap.size _))
 have g:=Sat.Eo (kf:=A9) (ms:= []) (b:=w.heap.size+1) (o:= .map #[] 0) ⟨#[],0,rfl,rfl,by simp,by simp⟩ (f.take (raw (w.heap.size+1) _))
 have k:=Sat.AG (e:=CN) (s:=1) g
 clear c d a f g i j hs
 go_enter Tryz.func63,Tryz.ntmps63
 go_wp2
 go_ret2
 refine ⟨w.heap.size+2,rfl,Sat.IY (U:=w.heap.size) (Wt:=w.heap.size+1) (v:= .slice none 0 0) (k.eq ?_)⟩
 unfold Gp coreS
 simp only[block,Sl.cells,Bg,Sp.new,GA,ints,List.map_nil,List.length_cons,List.length_nil,Nat.zero_add,Nat.reduceAdd]
 ac_rfl
theorem La(S : Nat)(s : Sp)(F : Ab)(w : World)(hs : Sat (Cf S s * F) w)(hr : 0 ≤ s.AX)(q : s.AX ≤ 1048576)(R : s.taken.length ≤ 1099511627776) :
 Calls Tryz.prog 193 #[.pointer (some ⟨S,0,none⟩)] w fun e V=>e= .returned (.tuple #[.int .i64 s.take.1.1,.int .i64 s.take.1.2])∧Sat (Cf S s.take.2*F) V:=by
 obtain ⟨i0,K⟩:=Mt
 obtain ⟨U,Wt,v,h1⟩:=Sat.Lb hs
 have y:Sat (rw CN 1 v (ints s.taken)*(coreS S U Wt v s.AX*(mp A9 U (GA s.used)*(mp A9 Wt (GA s.waiting)*F)))) w:=h1.eq (by unfold Gp;ac_rfl)
 obtain ⟨a,n,c,rfl,D,_⟩:=MP y
 have G:s.taken.length=n:=by simpa[ints] using D
 obtain ⟨J,o⟩:=Aq s.take
 have B:=As o
 have W:=As G
 have P:n≤1099511627776:=by omega
 obtain ⟨r0,m⟩:=Aq s.AX
 have l:=As m
 rw[m] at hr q y
 rw[o]
 haveI:=y.i
 clear hs h1 D G R o m
 go_enter Tryz.func193,Tryz.ntmps193
 go_wp2
 go_loopg [4] (1048576-r0).toNat (fun g T wr=> ∃no:Int,T= .int .i64 no∧r0≤no∧no≤1048576∧Aside (g=(1048576-no).toNat∧s.free=s.least (1048576-no).toNat no)∧w=wr)
 case atStart=>exact ⟨r0,rfl,by omega,q,⟨rfl,by unfold Sp.free;rw[l.out]⟩,rfl⟩
 obtain ⟨no,rfl,Q,H,A,rfl⟩:=hrel
 by_cases O:no<1048576
 · have d : s.free = if s.busy no then s.least (1048576 - (no + 1)).toNat (no + 1) else some no := by
    rw[A.out.2]
    obtain ⟨k,M⟩: ∃k,(1048576-no).toNat=k+1:=⟨(1048576-no).toNat-1,by omega⟩
    rw[M,show (1048576-(no+1)).toNat=k by omega]
    rfl
   have l1:=fun w=> @L6 w U no
   have l2:=fun w=> @L6 w Wt no
   have m1:=H0 no s.used
   have I:=H0 no s.waiting
   cases f:s.used.contains no with
   | true =>
     have j:Aside (s.free=s.least (1048576-(no+1)).toNat (no+1)):=(by rw[d,if_pos (by unfold Sp.busy;rw[f];rfl)]:_=_)
     rw[f] at m1
     clear d f
     go_wp2_with fail
     go_roundg (1048576-(no+1)).toNat
     case measure=>have:=A.out.1;omega
     case rel=>exact ⟨no+1,rfl,by omega,by omega,⟨rfl,j.out⟩,rfl⟩
   | false =>
     cases hw:s.waiting.contains no with
     | true =>
      have j:Aside (s.free=s.least (1048576-(no+1)).toNat (no+1)):=(by rw[d,if_pos (by unfold Sp.busy;rw[hw,Bool.or_true])]:_=_)
      rw[f] at m1
      rw[hw] at I
      clear d f hw
      go_wp2_with fail
      go_roundg (1048576-(no+1)).toNat
      case measure=>have:=A.out.1;omega
      case rel=>exact ⟨no+1,rfl,by omega,by omega,⟨rfl,j.out⟩,rfl⟩
     | false =>
      have j:Aside (J=((no,0), { s with used:=s.used++ [no],taken:=s.taken++ [no] })):=(by
       rw[←B.out]
       unfold Sp.take
       rw[d,if_neg (by unfold Sp.busy;rw[f,hw];simp)]:_=_)
      have X:=fun w=> @W8 w U no (.bool true)
      have t:=Pj no s.used f
      have L:=As t
      rw[f] at m1
      rw[hw] at I
      clear d f hw t
      go_wp2_with (at_builtin;go_loud (refine Af K rfl (.tmp 38) (.tmp 40) rfl rfl rfl (Ae (rw CN 1 (.slice a n c) (ints s.taken))) (Src.new (b:=(Gn Tryz.prog PX U (A9 no) (.bool true) w).heap.size) (e:=CN) (s:=1) (vs:= [.int .i64 no]) (Ae _) rfl (by intro u f;simp at f;subst f;rfl)) (by unfold maxLen;omega) (by omega) ?_;intro a' x Y z p;haveI:=z.i;clear p))
      go_ret2
      rw[j.out]
      refine ⟨rfl,Sat.IY (U:=U) (Wt:=Wt) (v:= .slice a' (n+1) x) ?_⟩
      unfold Gp
      rw[←L.out]
      show Sat (coreS S U Wt (.slice a' (n+1) x) s.AX*(mp A9 U _*(mp A9 Wt (GA s.waiting)*rw CN 1 (.slice a' (n+1) x) (ints (s.taken++ [no]))))*F) _
      rw[l.out,show ints (s.taken++ [no])=ints s.taken++ [.int .i64 no] by simp[ints]]
      exact Ax (C:=Sl.block (Gn Tryz.prog PX U (A9 no) (.bool true) w).heap.size CN [.int .i64 no]) (by ac_rfl)
 have d:s.free=none:=by
  rw[A.out.2,show (1048576-no).toNat=0 by omega]
  rfl
 have j:Aside (J=((0,9),s)):=(by
  rw[←B.out]
  unfold Sp.take
  rw[d]:_=_)
 clear d
 go_wp2
 go_ret2
 rw[j.out]
 refine ⟨rfl,Sat.IY (U:=U) (Wt:=Wt) (v:= .slice a n c) ?_⟩
 unfold Gp
 rw[l.out]
 exact Ap (by ac_rfl)
def Cd:List Int→List Int→List Int→List Int×List Int
 | [],u,o=>(u,o)
 |k::l,u,o=>if u.contains k then Cd l (u.erase k) (o++ [k]) else Cd l u o
def Eh(s:Sp)(m:Nat):List Int×Sp:=(Df (Cd (s.taken.drop m) s.used []).2, { s with used:=(Cd (s.taken.drop m) s.used []).1,taken:=s.taken.take m })
theorem G1: ∀(l:List Int)(k:Int)(u o:List Int),Cd (l++ [k]) u o=if (Cd l u o).1.contains k then ((Cd l u o).1.erase k,(Cd l u o).2++ [k]) else Cd l u o
 | [],k,u,o=>rfl
 | x :: l, k, u, o => by
  show (if u.contains x then Cd (l++ [k]) (u.erase x) (o++ [x]) else Cd (l++ [k]) u o)=if (if u.contains x then Cd l (u.erase x) (o++ [x]) else Cd l u o).1.contains k then _ else _
  by_cases h:u.contains x=true
  ·rw[if_pos h,if_pos h,G1 l k]
   show _=if _ then ((if u.contains x then Cd l (u.erase x) (o++ [x]) else Cd l u o).1.erase k,(if u.contains x then Cd l (u.erase x) (o++ [x]) else Cd l u o).2++ [k]) else (if u.contains x then Cd l (u.erase x) (o++ [x]) else Cd l u o)
   simp_all
  rw[if_neg h,if_neg h,G1 l k]
  show _=if _ then ((if u.contains x then Cd l (u.erase x) (o++ [x]) else Cd l u o).1.erase k,(if u.contains x then Cd l (u.erase x) (o++ [x]) else Cd l u o).2++ [k]) else (if u.contains x then Cd l (u.erase x) (o++ [x]) else Cd l u o)
  simp_all
theorem Ip: ∀(l u o:List Int),(Cd l u o).2.length≤o.length+l.length
 | [],u,o=>Nat.le_refl _
 | x :: l, u, o => by
  show (if u.contains x then Cd l (u.erase x) (o++ [x]) else Cd l u o).2.length≤_
  split
  ·have:=Ip l (u.erase x) (o++ [x])
   grind
  have:=Ip l u o
  grind
theorem Xb(S:Nat)(s:Sp)(m:Nat)(F:Ab)(w:World)(hs:Sat (Cf S s*F) w)(hm:m≤s.taken.length)(ht:s.taken.length≤1099511627776):
 Calls Tryz.prog 134 #[.pointer (some ⟨S,0,none⟩),.int .i64 m] w fun e w'=> ∃a c,e= .returned (.tuple #[.slice a (Eh s m).1.length c,.int .i64 0])∧Sat (rw CN 1 (.slice a (Eh s m).1.length c) (ints (Eh s m).1)*(Cf S (Eh s m).2*F)) w':=by
 obtain ⟨i0,I⟩:=Mt
 obtain ⟨U,Wt,v,h1⟩:=Sat.Lb hs
 have z:Sat (rw CN 1 v (ints s.taken)*(coreS S U Wt v s.AX*(mp A9 U (GA s.used)*(mp A9 Wt (GA s.waiting)*F)))) w:=h1.eq (by unfold Gp;ac_rfl)
 obtain ⟨a,n,c,rfl,Y,ag,ac⟩:=MP z
 have Q:s.taken.length=n:=by simpa[ints] using Y
 obtain ⟨rr,y⟩:=Aq (Eh s m)
 have HR:=As y
 have HN:=As Q
 have t:m≤n:=by omega
 have af:n≤1099511627776:=by omega
 obtain ⟨l,hl⟩:=Aq (s.taken.drop m)
 have HL:=As hl
 have ad:l.length=n-m:=by rw[←hl,List.length_drop,Q]
 have x:Ai 1 (rw CN 1 (.slice a n c) (ints s.taken)) (.slice (AH a c m 1) (n-m) (c-m)) (n-m) (ints l):=by
  have:=(Ai.rw z ⟨a,c,rfl⟩).cut m n t (Nat.le_refl _)
  rw[Nat.mul_one,Nat.mul_one] at this
  have e:(List.drop m (ints s.taken)).take (n-m)=ints l:=by
   rw[←hl]
   unfold ints
   rw[List.map_drop,List.take_of_length_le (by simp;omega)]
  rw[e] at this
  exact this
 obtain ⟨av,p⟩:=Aq (AH a c m 1)
 have aa: ∀w,(Instr.sliceAt 45 (.slice a n c) (some (.int .i64 m)) none none).run Tryz.prog w= .ok (.slice av (n-m) (c-m)) w:=fun w=>by rw[←p];exact E6 I m t w
 have ab: ∀w,(Instr.sliceAt 45 (.slice a n c) none (some (.int .i64 m)) none).run Tryz.prog w= .ok (.slice (AH a c 0 1) m c) w:=fun w=>Ln I m (by omega) w
 rw[p] at x
 have K:=As x
 rw[y]
 have M:=z.AG (e:=CN) (s:=1)
 have d1:decide ((m:Int)<0)=false:=by simp
 have d2:decide ((n:Int)<m)=false:=by simp;omega
 have d3:decide (n<m)=false:=by simp;omega
 haveI:=z.i
 clear hs h1 Y Q ht y hl x p hm
 go_enter Tryz.func134,Tryz.ntmps134
 go_wp2
 go_loopg [6,31] (n-m) (fun g t6 V wr=> ∃(j:Nat)(u o:List Int)(d:Option Addr)(c2:Nat),V= .int .i64 j∧t6= .slice d o.length c2∧j≤n-m∧o.length≤1099511627776∧Aside (g=n-m-j∧Cd (l.take j) s.used []=(u,o))∧
  Sat (rw CN 1 (.slice d o.length c2) (ints o)*(rw CN 1 (.slice a n c) (ints s.taken)*(coreS S U Wt (.slice a n c) s.AX*(mp A9 U (GA u)*(mp A9 Wt (GA s.waiting)*F))))) wr)
 case atStart=>exact ⟨0,s.used,[],none,0,rfl,rfl,by omega,by simp,⟨rfl,rfl⟩,M⟩
 obtain ⟨j,u,o,d,c2,rfl,rfl,hj,R,A,H⟩:=hrel
 haveI:=H.i
 by_cases ae:j<n-m
 · have D:(j:Int)<((n-m:Nat):Int):=by omega
   obtain ⟨k,P⟩: ∃k,l[j]?=some k:=⟨_,List.getElem?_eq_getElem (by omega)⟩
   obtain ⟨b,q,rfl,r1⟩:=(Ai.at K.out) j (.int .i64 k) (by unfold ints;rw[List.getElem?_map,P];rfl)
   have W:=As (AB P)
   have HO:Aside (o.length≤j):=(by
    have:=Ip (l.take j) s.used []
    rw[A.out.2] at this
    simp at this
    omega:_≤_)
   have l1:=fun w=> @L6 w U k
   have m1:=H0 k u
   clear z M P
   cases f:u.contains k with
   | true =>
     have p1:=fun w=> @iM w U k
     have md:=Um k u
     have L:=As f
     have a1:=HO.out
     rw[f] at m1
     clear f
     go_wp2_with (at_builtin;go_loud (refine Af I rfl (.tmp 46) (.tmp 48) rfl rfl rfl (Ae (rw CN 1 (.slice d o.length c2) (ints o))) (Src.new (b:=(Qb Tryz.prog PX U (A9 k) wr).heap.size) (e:=CN) (s:=1) (vs:= [.int .i64 k]) (Ae _) rfl (by intro u f;simp at f;subst f;rfl)) (by unfold maxLen;omega) (by omega) ?_;intro a' X w3 T G;haveI:=T.i;clear G))
     go_roundg (n-m-(j+1))
     case measure=>have:=A.out.1;omega
     refine ⟨j+1,u.erase k,o++ [k],a',X,by go_num,by simp,by omega,by simp;omega,⟨rfl,?_⟩,?_⟩
     ·rw[W.out,G1,A.out.2]
      show (if u.contains k=true then _ else _)=_
      rw[if_pos L.out]
     rw[←md,show ints (o++ [k])=ints o++ [.int .i64 k] by simp[ints],List.length_append]
     exact Ax (C:=Sl.block (Qb Tryz.prog PX U (A9 k) wr).heap.size CN [.int .i64 k]) (by show rw CN 1 (.slice a' (o.length+1) X) _*_=_;ac_rfl)
   | false =>
     have L:=As f
     rw[f] at m1
     clear f
     go_wp2_with fail
     go_roundg (n-m-(j+1))
     case measure=>have:=A.out.1;omega
     refine ⟨j+1,u,o,d,c2,by go_num,rfl,by omega,R,⟨rfl,?_⟩,ES⟩
     rw[W.out,G1,A.out.2]
     show (if u.contains k=true then _ else _)=_
     rw[if_neg (by rw[L.out];simp)]
 have D: ¬(j:Int)<((n-m:Nat):Int):=by omega
 have B:l.take j=l:=List.take_of_length_le (by omega)
 have HB:Aside (rr=(Df o, { s with used:=u,taken:=s.taken.take m })):=(by
  rw[←HR.out]
  unfold Eh
  have:=A.out.2
  rw[B] at this
  rw[HL.out,this]:_=_)
 clear A B z M
 go_upto_region 12 with (fail)
 have Z:Sat (rw CN 1 (.slice a n c) (ints s.taken)*(rw CN 1 (.slice d o.length c2) (ints o)*(coreS S U Wt (.slice (AH a c 0 1) m c) s.AX*(mp A9 U (GA u)*(mp A9 Wt (GA s.waiting)*F))))) (wr.setCell ⟨S,3,none⟩ (.slice (AH a c 0 1) m c)):=Ap (by ac_rfl)
 have O:=Z.jJ m t
 generalize wr.setCell ⟨S,3,none⟩ (.slice (AH a c 0 1) m c)=w5 at O⊢
 have h7:=JM d o.length c2 o _ w5 (O.take (rw CN 1 (.slice d o.length c2) (ints o))) (by omega)
 clear Z O H
 go_wp2_with fail
 refine h7.mono ?_
 rintro e w6 ⟨rfl,h8⟩
 clear h7
 go_wp2
 go_ret2
 rw[HB.out]
 have J:(Df o).length=o.length:=(List.mergeSort_perm o _).length_eq
 simp only[J]
 refine ⟨d,c2,rfl,?_⟩
 have h9:Sat (Gp S U Wt (.slice (AH a c 0 1) m c) { s with used:=u,taken:=s.taken.take m } *(rw CN 1 (.slice d o.length c2) (ints (Df o))*F)) w6:=h8.eq (by
  unfold Gp ints
  rw[Nat.mul_one,List.map_take]
  dsimp only[CN]
  ac_rfl)
 exact (Sat.IY h9).eq (by ac_rfl)
