/- censusSound holds for every input. No condition. (part 9) -/
import Derived.Test.YtfhbmblbidcmmaaGreatWa7
import Derived.Test.YtfhbmblbidcmmaaGreatWa8
set_option linter.all false
set_option maxRecDepth 100000
set_option maxHeartbeats 1000000
namespace Go.Proofs.YtfhbmblbidcmmaaGreat
open Go.RowKit Go.Sl Go.Dk
open Go.PS (A9)
attribute [go_sem] Go.Sl.Ac Go.Sl.I0
abbrev TC:TypeId:=203
abbrev C':TypeId:=201
structure Pg where
 key:Int
 v:Value
 b:List UInt8
def JZ(p:Pg):Int×Value:=(p.key,p.v)
def AU:List Pg→Ab
 | []=>1
 |p::l=>rw TB 1 p.v (A4 p.b)*AU l
def Ce(ps:List Pg):SY:=ps.map fun p=>(p.key,p.b)
def coreC(C L D PM:Nat)(s:Ck):Ab:=
 Ev C TC 6*(Sl.cell C 0 (.pointer (some ⟨L,0,none⟩))*(Sl.cell C 1 (.pointer (some ⟨D,0,none⟩))*(Sl.cell C 2 (.string s.nm)*(Sl.cell C 3 (.int .i64 s.cap)*(Sl.cell C 4 (.map (some PM))*Sl.cell C 5 (.int .i64 s.reads))))))
section
variable (C L D PM:Nat) (s:Ck)
instance:El (coreC C L D PM s) C 0 (.pointer (some ⟨L,0,none⟩)):=by unfold coreC;infer_instance
instance:El (coreC C L D PM s) C 1 (.pointer (some ⟨D,0,none⟩)):=by unfold coreC;infer_instance
instance:El (coreC C L D PM s) C 2 (.string s.nm):=by unfold coreC;infer_instance
instance:El (coreC C L D PM s) C 3 (.int .i64 s.cap):=by unfold coreC;infer_instance
instance:El (coreC C L D PM s) C 4 (.map (some PM)):=by unfold coreC;infer_instance
instance:El (coreC C L D PM s) C 5 (.int .i64 s.reads):=by unfold coreC;infer_instance
instance(n:Int):VD (coreC C L D PM s) C 5 (.int .i64 n) (coreC C L D PM { s with reads:=n }):=by unfold coreC;infer_instance
end
def BF(C L D PM:Nat)(ps:List Pg)(s:Ck):Ab:=coreC C L D PM s*(C2 L s.cap s.its*(Bv D s.d*(mp A9 PM (ps.map JZ)*AU ps)))
def Be(C D:Nat)(s:Ck):Ab:=ex fun x:Nat×Nat×List Pg=>cZ (Ce x.2.2=s.CV)*BF C x.1 D x.2.1 x.2.2 s
theorem Sat.Cj{C D:Nat}{s:Ck}{F:Ab}{w:World}(hs:Sat (Be C D s*F) w): ∃L PM ps,Ce ps=s.CV∧Sat (BF C L D PM ps s*F) w:=by
 obtain ⟨⟨L,PM,ps⟩,h⟩:=hs.Oa
 rw[Az] at h
 obtain ⟨h1,a⟩:=h.Ib
 exact ⟨L,PM,ps,h1,a⟩
theorem Sat.AS{C D L PM:Nat}{ps:List Pg}{s:Ck}{F:Ab}{w:World}(h1:Ce ps=s.CV)(hs:Sat (BF C L D PM ps s*F) w):Sat (Be C D s*F) w:=by
 refine Sat.Ob (L,PM,ps) ?_
 rw[Az]
 exact Sat.LU h1 hs
theorem CG(l1 l2:List Pg):AU (l1++l2)=AU l1*AU l2:=by
 induction l1 with
 |nil=>simp[AU,Ay]
 |cons n l a=>simp[AU,a,Az]
theorem H3(ps:List Pg)(k:Int):(∃l1 p l2,ps=l1++p::l2∧p.key=k∧ ∀m∈l1,m.key≠k)∨ ∀p∈ps,p.key≠k:=by
 induction ps with
 |nil=>exact .inr (by simp)
 | cons m l c =>
  by_cases a:m.key=k
  ·exact .inl ⟨[],m,l,rfl,a,by simp⟩
  rcases c with ⟨l1,n,l2,rfl,h1,b⟩|h
  ·exact .inl ⟨m::l1,n,l2,rfl,h1,fun x hx=>by rcases List.mem_cons.1 hx with rfl|hx;exact a;exact b x hx⟩
  exact .inr fun x hx=>by rcases List.mem_cons.1 hx with rfl|hx;exact a;exact h x hx
theorem Kg{ps:List Pg}{k:Int}(h: ∀p∈ps,p.key≠k):BI k (Ce ps)=none∧Cq k (ps.map JZ)=none∧(∀b,Ee k b (Ce ps)=Ce ps++ [(k,b)])∧(∀v,CT k v (ps.map JZ)=ps.map JZ++ [(k,v)]):=by
 induction ps with
 |nil=>exact ⟨rfl,rfl,fun _=>rfl,fun _=>rfl⟩
 | cons n l g =>
  have a: ¬k=n.key:=fun e=>h n (by simp) e.symm
  obtain ⟨h1,c,d,f⟩:=g fun m hm=>h m (by simp[hm])
  refine ⟨?_,?_,fun b=>?_,fun v=>?_⟩
  ·show (if k=n.key then _ else _)=_;rw[if_neg a];exact h1
  ·show (if k=n.key then _ else _)=_;rw[if_neg a];exact c
  ·show (if k=n.key then _ else _)=_;rw[if_neg a];show _::Ee k b (Ce l)=_;rw[d];rfl
  show (if k=n.key then _ else _)=_;rw[if_neg a];show _::CT k v (l.map JZ)=_;rw[f];rfl
theorem H7{l1:List Pg}{p:Pg}{l2:List Pg}(h: ∀m∈l1,m.key≠p.key):BI p.key (Ce (l1++p::l2))=some p.b∧Cq p.key ((l1++p::l2).map JZ)=some p.v∧
 (∀b,Ee p.key b (Ce (l1++p::l2))=Ce (l1++ { p with b:=b } ::l2))∧Gl p.key (Ce (l1++p::l2))=Ce (l1++l2)∧FL p.key ((l1++p::l2).map JZ)=(l1++l2).map JZ:=by
 induction l1 with
 |nil=>simp[Ce,BI,Cq,JZ,Ee,Gl,FL]
 | cons n l i =>
  have a: ¬p.key=n.key:=fun e=>h n (by simp) e.symm
  obtain ⟨h1,c,d,f,g⟩:=i fun m hm=>h m (by simp[hm])
  refine ⟨?_,?_,fun b=>?_,?_,?_⟩
  ·show (if p.key=n.key then _ else _)=_;rw[if_neg a];exact h1
  ·show (if p.key=n.key then _ else _)=_;rw[if_neg a];exact c
  ·show (if p.key=n.key then _ else _)=_;rw[if_neg a];show _::Ee p.key b (Ce (l++p::l2))=_;rw[d];rfl
  ·show (if p.key=n.key then _ else _)=_;rw[if_neg a];show _::Gl p.key (Ce (l++p::l2))=_;rw[f];rfl
  show (if p.key=n.key then _ else _)=_;rw[if_neg a];show _::FL p.key ((l++p::l2).map JZ)=_;rw[g];rfl
instance QQ:PU Tryz.prog C' Int A9 (.slice none 0 0):=⟨3,26,Jz,Tryz.underlying201,fun w=>by kernel_rfl⟩
theorem L7(w:World)(M:Nat)(k:Int){A:Ab}{ms:List (Int×Value)}[h:AR A w][h2:DK A M A9 ms]:(Instr.lookup C' (.map (some M)) (.int .i64 k) false).run Tryz.prog w= .ok ((Cq k ms).getD (.slice none 0 0)) w:=OW QQ w M k
theorem Wi(w:World)(M:Nat)(a:TypeId){A:Ab}{ms:List (Int×Value)}[h:AR A w][h2:DK A M A9 ms]:(Builtin.len_ #[C'] a #[.map (some M)]).run Tryz.prog w= .ok (.int .i64 ms.length) w:=eP QQ w M a
theorem W9(w:World)(M:Nat)(k:Int)(v:Value){A:Ab}{ms:List (Int×Value)}[h:AR A w][h2:DK A M A9 ms]:(Instr.mapUpdate C' (.map (some M)) (.int .i64 k) v).run Tryz.prog w= .ok () (Gn Tryz.prog C' M (A9 k) v w):=S2 QQ w M k v
theorem VR(w:World)(M:Nat)(k:Int)(a b:TypeId){A:Ab}{ms:List (Int×Value)}[h:AR A w][h2:DK A M A9 ms]:(Builtin.delete_ #[C',a] b #[.map (some M),.int .i64 k]).run Tryz.prog w= .ok (.tuple #[]) (Qb Tryz.prog C' M (A9 k) w):=X7 QQ w M k a b
instance{w:World}{M:Nat}{k:Int}{v:Value}{A A':Ab}{ms:List (Int×Value)}[h:AR A w][h2:DK A M A9 ms][h3:K8 A M A9 (CT k v ms) A']:AR A' (Gn Tryz.prog C' M (A9 k) v w):=S3 QQ
instance{w:World}{M:Nat}{k:Int}{A A':Ab}{ms:List (Int×Value)}[h:AR A w][h2:DK A M A9 ms][h3:K8 A M A9 (FL k ms) A']:AR A' (Qb Tryz.prog C' M (A9 k) w):=X8 QQ
def iS(l:List Int)(k:Int):Bool:=l.contains k
theorem V'(C L D PM:Nat)(s:Ck)(no:Int)(F:Ab)(w:World)(hs:Sat (coreC C L D PM s*(C2 L s.cap s.its*F)) w)(ok:Ey s.its):
 Calls Tryz.prog 146 #[.pointer (some ⟨C,0,none⟩),.int .i64 no] w fun e Q=>e= .returned (.bool (s.CD no))∧Sat (coreC C L D PM s*(C2 L s.cap s.its*F)) Q:=by
 have f:=XT L s.cap s.its _ w (hs.take (C2 L s.cap s.its)) ok
 obtain ⟨r,v⟩: ∃r,Aside (s.CD no=r):=⟨_,rfl⟩
 rw[v.out]
 have t:Aside (r=iS (BJ s.its) no):=v.out.symm
 clear v
 obtain ⟨zs,m⟩:=Aq (BJ s.its)
 rw[m] at f t
 clear m
 haveI:=hs.i
 go_enter Tryz.func146,Tryz.ntmps146
 go_wp2_with fail
 refine f.mono ?_
 rintro e J ⟨a,n,c,rfl,d⟩
 have O:n=zs.length:=by have:=d.bT;simpa using this
 subst O
 have I:=Ints.gR d
 have l:Sat (coreC C L D PM s*(C2 L s.cap s.its*F)) J:=d.right.eq (by ac_rfl)
 have x:=MP d
 have P:zs.length≤9223372036854775807:=by
  obtain ⟨_,_,_,h1,p,T,U⟩:=x
  cases h1;omega
 clear f hs x d
 go_wp2_with fail
 go_loopg [13] zs.length (fun k i wr=> ∃(j:Nat),i= .int .i64 j∧j≤zs.length∧Aside (k=zs.length-j∧ ∀i z,i<j→zs[i]?=some z→z≠no)∧J=wr)
 case atStart=>exact ⟨0,rfl,by omega,⟨rfl,by omega⟩,rfl⟩
 obtain ⟨j,rfl,V,A,rfl⟩:=hrel
 by_cases B:j<zs.length
 · have g:(j:Int)<zs.length:=by omega
   obtain ⟨z,G⟩: ∃z,zs[j]?=some z:=⟨zs[j],by simp[B]⟩
   obtain ⟨b,o,rfl,x⟩:=I.at G
   have H:Aside (zs[j]?=some z):=G
   clear I G
   by_cases q:z=no
   ·subst q
    have u:Aside (r=true):=by
     show r=true
     rw[t.out];unfold iS
     simp only[List.contains_iff_mem]
     exact List.mem_of_getElem? H.out
    go_wp2
    go_ret
    exact ⟨by rw[u.out];rfl,l⟩
   have M:(z==no)=false:=by simpa using q
   have K:Aside (z≠no):=q
   clear q
   go_wp2
   go_roundg (zs.length-(j+1))
   case measure=>have:=A.out.1;omega
   refine ⟨j+1,by go_num,by omega,⟨rfl,fun i R h1 p=>?_⟩,rfl⟩
   by_cases y:i=j
   ·subst y;rw[H.out] at p;cases p;exact K.out
   exact A.out.2 i R (by omega) p
 have g: ¬(j:Int)<zs.length:=by omega
 have u:Aside (r=false):=by
  show r=false
  rw[t.out];unfold iS
  rw[Bool.eq_false_iff]
  intro h
  have h:=List.contains_iff_mem.1 h
  obtain ⟨i,hi⟩:=List.mem_iff_getElem?.1 h
  exact A.out.2 i no (by have:=(List.getElem?_eq_some_iff.1 hi).1;omega) hi rfl
 clear A
 go_wp2
 go_ret
 exact ⟨by rw[u.out];rfl,l⟩
attribute [local go_sem] L7 Wi W9 VR
theorem Wm(n:Nat):madeCells (Value.int .u8 0).cells n=(A4 (List.replicate n 0)).toArray:=by
 apply Array.ext
 ·simp[madeCells,A4]
 intro i h1 a
 have e:(Value.int .u8 0).cells= #[Value.int .u8 0]:=rfl
 simp[madeCells,A4,bv,e,Nat.mod_one]
theorem z'(n:Nat)(a:n≤1099511627776)(w:World):(Instr.makeSlice 26 (.int .i64 n) (.int .i64 n)).run Tryz.prog w= .ok (.slice (some ⟨w.heap.size,0,none⟩) n n) (w.alloc (.cells (A4 (List.replicate n 0)).toArray TB)):=by
 obtain ⟨i,E⟩:=Dp
 have h:=run_make (P:=Tryz.prog) w 26 TB i (.int .u8 0) E.NU E.info E.zero .i64 .i64 n n (by omega) (by omega) (by rw[E.bytes];omega) (by omega)
 rw[E.size,Nat.mul_one,Int.toNat_natCast,Wm] at h
 exact h
theorem MR(l:List Int)(x:Int):x∈Df l↔x∈l:=(List.mergeSort_perm l _).mem_iff
theorem I8{s:ByteArray}(h:Dk.named s=true):s.size≤9223372036854775807:=by
 rcases Nat.lt_or_ge 16 s.size with h1|h1
 ·rw[Nu (.inr h1)] at h;cases h
 omega
theorem Q2{s:Ck}{no:Int}(h:s.CD no=true):Bx s.its no=true:=by
 unfold Ck.CD at h
 have h1:=List.contains_iff_mem.1 h
 unfold BJ at h1
 have a:=(MR _ _).1 h1
 obtain ⟨n,b,rfl⟩:=List.mem_map.1 a
 unfold Bx
 rw[List.any_eq_true]
 exact ⟨n,(List.mem_filter.1 b).1,by simp⟩
theorem bW{m:Nat}{d:Dk}(ok:Ok m d)(nm:ByteArray): ∃sz:Nat,max 0 (d.size nm)=sz∧sz≤1099511627776∧d.size nm≤sz∧ -1≤d.size nm:=by
 unfold Dk.size
 split
 ·exact ⟨0,by omega,by omega,by omega,by omega⟩
 refine ⟨((d.get nm).getD Dk.Jv).now.length,by omega,?_,by omega,by omega⟩
 cases h:d.get nm with
 |none=>simp[Dk.Jv]
 | some f =>
  have:(nm,f)∈d.files:=by
   unfold Dk.get at h
   generalize d.files=l at h
   induction l with
   |nil=>simp[D7] at h
   | cons p l a =>
    unfold D7 at h
    split at h
    ·cases h;subst nm;simp
    exact List.mem_cons_of_mem _ (a h)
  exact (ok.sz _ this).1
theorem V1(C L D PM : Nat)(ps : List Pg)(s : Ck)(m : Nat)(no : Int)(F : Ab)(w : World)(hs : Sat (BF C L D PM ps s * F) w)(hp : Ce ps = s.CV)(ok : Bm m s)(hm : m ≤ 549755813888)(h0 : 0 ≤ no)(h1 : no < 1048576) :
 Calls Tryz.prog 101 #[.pointer (some ⟨C,0,none⟩),.int .i64 no] w fun e f=>e= .returned (.int .i64 (s.write no).1)∧Sat (BF C L D PM ps (s.write no).2*F) f:=by
 unfold BF at hs
 have n:=V' C L D PM s no _ w (hs.NK (coreC C L D PM s) (C2 L s.cap s.its)) ok.Mi
 cases O:s.CD no with
 | false =>
  have e:s.write no=(0,s):=by unfold Ck.write;rw[if_pos O]
  rw[e]
  rw[O] at n
  clear e
  go_enter Tryz.func101,Tryz.ntmps101
  go_wp2_with fail
  refine n.mono ?_
  rintro e u ⟨rfl,I⟩
  go_wp2
  go_ret
  exact ⟨rfl,I.eq (by unfold BF;ac_rfl)⟩
 | true =>
  rw[O] at n
  have X:=Q2 O
  rw[ok.same,←hp] at X
  rcases H3 ps no with ⟨l1,p,l2,rfl,rfl,G⟩|a3
  ·obtain ⟨sz,y,ac,ad,W⟩:=bW ok.dk s.nm
   obtain ⟨q1,q2,_⟩:=H7 (l2:=l2) G
   rw[hp] at q1
   have hb:s.Au p.key=p.b:=by unfold Ck.Au;rw[q1];rfl
   have o:s.nm.size≤9223372036854775807:=I8 ok.nm
   have HW:Aside (s.write p.key=if (sz:Int)<p.key*256 then (if (s.pad p.key).1=0 then Ck.B4 { s with d:=(s.pad p.key).2 } p.key else ((s.pad p.key).1, { s with d:=(s.pad p.key).2 })) else s.B4 p.key):=by
    show _=_
    unfold Ck.write
    rw[if_neg (by simp[O]),y]
   go_enter Tryz.func101,Tryz.ntmps101
   go_wp2_with fail
   refine n.mono ?_
   rintro e u ⟨rfl,I⟩
   clear n hs
   have Y:Aside (G=G∧(Cq p.key ((l1++p::l2).map JZ)=some p.v)∧s.Au p.key=p.b):=⟨rfl,q2,hb⟩
   have Z:Aside (Ce (l1++p::l2)=s.CV):=hp
   clear q1 q2 hb X hp O W
   haveI:=I.i
   go_upto_region 3 with (fail)
   go_region_held3 (fun f=>f.cell? ⟨C,1,none⟩=some (.pointer (some ⟨D,0,none⟩))∧f.cell? ⟨C,2,none⟩=some (.string s.nm)) (first|exact ⟨Ac _ _ _,Ac _ _ _⟩) (first
    |(go_at_call 50;refine (Vg D s.d s.nm _ _ (Ae (Bv D s.d)) o).mono ?_;rintro e w2 ⟨rfl,rfl⟩))
   go_upto_if 25 with (fail)
   go_cut [6] (fun t6 wx=> ∃(c:Dk)(P:Nat),P≤824633720832∧Aside (s.write p.key=Ck.B4 { s with d:=c } p.key∧Ok P c)∧Sat (coreC C L D PM s*(C2 L s.cap s.its*(Bv D c*(mp A9 PM ((l1++p::l2).map JZ)*(AU (l1++p::l2)*F))))) wx)
   case first =>
    by_cases H:(sz:Int)<p.key*256
    · obtain ⟨a,a2,ab⟩: ∃a:Nat,p.key*256-sz=(a:Int)∧a≤268435456:=⟨(p.key*256-sz).toNat,by omega,by omega⟩
      have ah:=z' a (by omega)
      have g:s.pad p.key=s.d.write s.nm sz (List.replicate a 0):=by
       unfold Ck.pad
       rw[y,a2,Int.toNat_natCast]
      have k:=Pq ok.dk s.nm sz (List.replicate a 0)
      rw[←g,List.length_replicate] at k
      have HK:Aside (Ok (m+1+a) (s.pad p.key).2):=k
      have T:Aside (s.write p.key=if (s.pad p.key).1=0 then Ck.B4 { s with d:=(s.pad p.key).2 } p.key else ((s.pad p.key).1, { s with d:=(s.pad p.key).2 })):=by
       show _=_
       rw[HW.out,if_pos H]
      have z:Aside (s.pad p.key=s.d.write s.nm sz (List.replicate a 0)):=g
      by_cases j:(s.pad p.key).1=0
      · have K:((s.d.write s.nm sz (List.replicate a 0)).1 !=0)=false:=by rw[←g];simpa using j
        have M:Aside ((s.pad p.key).1=0):=j
        clear g k j
        go_upto_region 5 with (fail)
        have hw1:=Bb (p.key*256) (by omega)
        have hw2:IntKind.i64.wrap (a:Int)=a:=IntWalk.i64_in _ (by omega)
        go_region_held3 (fun f=>f.cell? ⟨C,1,none⟩=some (.pointer (some ⟨D,0,none⟩))∧f.cell? ⟨C,2,none⟩=some (.string s.nm)) (first|exact ⟨Ac _ _ _,Ac _ _ _⟩) (first
         |(go_at_call 147;refine (Ko D s.d m s.nm sz _ (List.replicate a 0) (block u.heap.size TB (A4 (List.replicate a 0))) _ _ (by have j:=Reads.RJ (b:=u.heap.size) (e:=TB) (l:=List.replicate a 0) (by rw[List.length_replicate];unfold maxLen;omega);rw[List.length_replicate] at j;exact j) (Sat.NK ES (Bv D s.d) (block u.heap.size TB (A4 (List.replicate a 0)))) o (by rw[List.length_replicate];omega) ok.dk (by unfold Mo;omega)).mono ?_;rintro e w3 ⟨rfl,J⟩;haveI:=J.i))
        all_goals
         go_wp2_with fail
         go_meet
         refine ⟨(s.pad p.key).2,m+1+a,by omega,⟨by rw[T.out,if_pos M.out],HK.out⟩,?_⟩
         rw[z.out]
         exact Ax (C:=block u.heap.size TB (A4 (List.replicate a 0))) (by ac_rfl)
      have K:((s.d.write s.nm sz (List.replicate a 0)).1 !=0)=true:=by rw[←g];simpa using j
      have M:Aside ((s.pad p.key).1≠0):=j
      clear g k j
      go_upto_region 5 with (fail)
      have hw1:=Bb (p.key*256) (by omega)
      have hw2:IntKind.i64.wrap (a:Int)=a:=IntWalk.i64_in _ (by omega)
      go_region_held3 (fun f=>f.cell? ⟨C,1,none⟩=some (.pointer (some ⟨D,0,none⟩))∧f.cell? ⟨C,2,none⟩=some (.string s.nm)) (first|exact ⟨Ac _ _ _,Ac _ _ _⟩) (first
       |(go_at_call 147;refine (Ko D s.d m s.nm sz _ (List.replicate a 0) (block u.heap.size TB (A4 (List.replicate a 0))) _ _ (by have j:=Reads.RJ (b:=u.heap.size) (e:=TB) (l:=List.replicate a 0) (by rw[List.length_replicate];unfold maxLen;omega);rw[List.length_replicate] at j;exact j) (Sat.NK ES (Bv D s.d) (block u.heap.size TB (A4 (List.replicate a 0)))) o (by rw[List.length_replicate];omega) ok.dk (by unfold Mo;omega)).mono ?_;rintro e w3 ⟨rfl,J⟩;haveI:=J.i))
      all_goals
       go_wp2_with fail
       go_ret
       refine ⟨?_,?_⟩
       · rw[T.out,if_neg M.out,z.out];rfl
       rw[T.out,if_neg M.out,z.out]
       exact Ax (C:=block u.heap.size TB (A4 (List.replicate a 0))) (by unfold BF;ac_rfl)
    have aa: ¬(sz:Int)<p.key*256:=H
    have T:Aside (s.write p.key=s.B4 p.key):=by
     show _=_
     rw[HW.out,if_neg H]
    go_wp2_with fail
    go_meet
    exact ⟨s.d,m,by omega,⟨T.out,ok.dk⟩,Ap (by ac_rfl)⟩
   obtain ⟨c,P,ag,A,r⟩:=hcut
   obtain ⟨hw,x⟩:=A.out
   obtain ⟨R,B,a1⟩: ∃R,AU (l1++p::l2)=rw TB 1 p.v (A4 p.b)*R∧True:=⟨AU l1*AU l2,by rw[CG];show AU l1*(_*AU l2)=_;ac_rfl,trivial⟩
   rw[B] at r
   have V:=Y.out.2.2
   have q:=Y.out.2.1
   obtain ⟨va,vc,a4,aj,ak⟩:=GN (r.take (rw TB 1 p.v (A4 p.b)))
   have ai:p.b.length=256:=by
    have:=(ok.Au (p.key,p.b) (by rw[←Z.out];simp[Ce])).1
    exact this
   have HR:Aside (AU (l1++p::l2)=rw TB 1 p.v (A4 p.b)*R):=B
   have U:Aside (s.write p.key=Ck.B4 { s with d:=c } p.key):=hw
   have HO:Aside (Ok P c):=x
   have HB:Aside (Ck.Au { s with d:=c } p.key=p.b):=V
   clear A hw B a1 HW x V Y a4
   by_cases j:(c.write s.nm (p.key*256) p.b).1=0
   · have K:((c.write s.nm (p.key*256) p.b).1==0)=true:=by simpa using j
     have Q:Aside (s.write p.key=(0, { s with d:=(c.write s.nm (p.key*256) p.b).2,its:=Bu s.its p.key false })):=by
      show _=_
      rw[U.out];unfold Ck.B4;rw[HB.out];rw[if_pos j]
     have M:Aside ((c.write s.nm (p.key*256) p.b).1=0):=j
     clear j
     haveI:=r.i
     go_upto_region 8 with (fail)
     have hw1:=Bb (p.key*256) (by omega)
     go_region_held3 (fun f=>f.cell? ⟨C,1,none⟩=some (.pointer (some ⟨D,0,none⟩))∧f.cell? ⟨C,2,none⟩=some (.string s.nm)∧f.cell? ⟨C,4,none⟩=some (.map (some PM))∧(Instr.lookup C' (.map (some PM)) (.int .i64 p.key) false).run Tryz.prog f= .ok p.v f) (first|exact ⟨Ac _ _ _,Ac _ _ _,Ac _ _ _,by rw[L7,q];rfl⟩) (first
      |(go_at_call 147;refine (Ko D c P s.nm (p.key*256) p.v p.b (rw TB 1 p.v (A4 p.b)) _ _ Reads.rw (Sat.NK ES (Bv D c) (rw TB 1 p.v (A4 p.b))) o (by omega) HO.out (by unfold Mo;omega)).mono ?_;rintro e w4 ⟨rfl,t⟩;haveI:=t.i))
     all_goals
      clear q
      go_wp2_with fail
      refine (p' L s.cap s.its p.key false _ _ (Ae (C2 L s.cap s.its)) ok.Mi).mono ?_
      rintro e w5 ⟨rfl,a5⟩
      go_wp2
      go_ret
      refine ⟨?_,?_⟩
      · rw[Q.out]
        show Ending.returned (.int .i64 (c.write s.nm (p.key*256) p.b).1)=_
        rw[M.out]
      rw[Q.out]
      refine a5.eq ?_
      unfold BF
      rw[HR.out]
      show C2 L s.cap (Bu s.its p.key false)*_=coreC C L D PM s*(C2 L s.cap (Bu s.its p.key false)*(Bv D (c.write s.nm (p.key*256) p.b).2*_))*_
      ac_rfl
   have K:((c.write s.nm (p.key*256) p.b).1==0)=false:=by simpa using j
   have Q:Aside (s.write p.key=((c.write s.nm (p.key*256) p.b).1, { s with d:=(c.write s.nm (p.key*256) p.b).2 })):=by
    show _=_
    rw[U.out];unfold Ck.B4;rw[HB.out];rw[if_neg j]
   clear j
   haveI:=r.i
   go_upto_region 8 with (fail)
   have hw1:=Bb (p.key*256) (by omega)
   go_region_held3 (fun f=>f.cell? ⟨C,1,none⟩=some (.pointer (some ⟨D,0,none⟩))∧f.cell? ⟨C,2,none⟩=some (.string s.nm)∧f.cell? ⟨C,4,none⟩=some (.map (some PM))∧(Instr.lookup C' (.map (some PM)) (.int .i64 p.key) false).run Tryz.prog f= .ok p.v f) (first|exact ⟨Ac _ _ _,Ac _ _ _,Ac _ _ _,by rw[L7,q];rfl⟩) (first
    |(go_at_call 147;refine (Ko D c P s.nm (p.key*256) p.v p.b (rw TB 1 p.v (A4 p.b)) _ _ Reads.rw (Sat.NK ES (Bv D c) (rw TB 1 p.v (A4 p.b))) o (by omega) HO.out (by unfold Mo;omega)).mono ?_;rintro e w4 ⟨rfl,t⟩;haveI:=t.i))
   all_goals
    clear q
    go_wp2
    go_ret
    refine ⟨?_,?_⟩
    · rw[Q.out];rfl
    rw[Q.out]
    refine t.eq ?_
    unfold BF
    rw[HR.out]
    show Bv D (c.write s.nm (p.key*256) p.b).2*_=coreC C L D PM s*(C2 L s.cap s.its*(Bv D (c.write s.nm (p.key*256) p.b).2*_))*_
    ac_rfl
  rw[(Kg a3).1] at X
  cases X
end Go.Proofs.YtfhbmblbidcmmaaGreat
namespace Go.Proofs.YtfhbmblbidcmmaaGreat
open Go.Dk
theorem Rh{k:Int}{l:SY} :(BI k l).isSome=true↔k∈l.map (·.1):=by induction l with
 |nil=>simp[BI]
 | cons p l a =>
  unfold BI
  grind
theorem J6{k:Int}{b:List UInt8}{l:SY}(h:BI k l=some b):(k,b)∈l:=by induction l with
 |nil=>simp[BI] at h
 |cons p l a=>grind [BI]
theorem CZ(k j:Int)(b:List UInt8)(l:SY):BI j (Ee k b l)=if j=k then some b else BI j l:=by induction l with
 |nil=>simp[Ee,BI]
 | cons p l a =>
  unfold Ee
  by_cases h:k=p.1
  ·rw[if_pos h]
   unfold BI
   simp_all
  rw[if_neg h]
  show (if j=p.1 then some p.2 else BI j (Ee k b l))=if j=k then some b else if j=p.1 then some p.2 else BI j l
  grind
theorem MF(k:Int)(b:List UInt8)(l:SY):(Ee k b l).map (·.1)=if (BI k l).isSome then l.map (·.1) else l.map (·.1)++ [k]:=by induction l with
 |nil=>simp[Ee,BI]
 | cons p l a =>
  unfold Ee BI
  grind
theorem LQ(k:Int)(l:SY):(Gl k l).Sublist l:=by induction l with
 |nil=>exact List.Sublist.slnil
 |cons p l a=>grind [Gl]
theorem FW{k:Int}{l:SY}(c:(l.map (·.1)).Nodup)(j:Int):BI j (Gl k l)=if j=k then none else BI j l:=by induction l with
 |nil=>simp[Gl,BI]
 | cons p l e =>
  rw[List.map_cons,List.nodup_cons] at c
  unfold Gl
  by_cases h:k=p.1
  ·rw[if_pos h]
   by_cases a:j=k
   ·rw[if_pos a]
    cases d:BI j l with
    |none=>rfl
    |some b=>exact absurd (Rh.1 (by rw[d];rfl)) (by rw[a,h];exact c.1)
   rw[if_neg a]
   show _=if j=p.1 then some p.2 else BI j l
   simp_all
  rw[if_neg h]
  show (if j=p.1 then some p.2 else BI j (Gl k l))=if j=k then none else if j=p.1 then some p.2 else BI j l
  grind
theorem U4{k:Int}{l:SY}(h:(BI k l).isSome=true):(Gl k l).length+1=l.length:=by induction l with
 |nil=>simp[BI] at h
 |cons p l a=>grind [BI,Gl,List.length_cons]
theorem U7{k:Int}{b:List UInt8}{l:SY} :(Ee k b l).length=if (BI k l).isSome then l.length else l.length+1:=by
 have:=congrArg List.length (MF k b l)
 grind
theorem QR(its:List It)(k:Int)(a:Bool):D5 (Bu its k a)=D5 its:=by
 unfold D5 Bu Ti
 rw[List.map_map]
 apply List.map_congr_left
 grind
theorem Br{its:List It}{k:Int} :Bx its k=true↔k∈D5 its:=by simp[Bx,D5,List.any_eq_true,List.mem_map]
theorem QD{a b:List It}(h: ∀k,k∈D5 a↔k∈D5 b)(k:Int):Bx a k=Bx b k:=by rw[Bool.eq_iff_iff,Br,Br];exact h k
theorem OD(its:List It)(k j:Int)(a:Bool):Bx (Bu its k a) j=Bx its j:=QD (fun _=>by rw[QR]) j
theorem L9(its:List It)(k:Int)(a:Bool):(Bu its k a).length=its.length:=by simp[Bu,Ti]
theorem Zc{its:List It}{k:Int}{b:Bool}(h: ∀n∈its,0≤n.pins): ∀n∈Bu its k b,0≤n.pins:=by
 intro n a
 unfold Bu Ti at a
 grind
theorem Ir(its:List It)(k j:Int)(a:Bool):DB (Bu its k a) j=DB its j:=by
 unfold DB Bu Ti
 rw[List.any_map]
 grind
theorem eW{its:List It}(h:Ey its)(k:Int)(a:Bool):Ey (Bu its k a):=
 ⟨by rw[QR];exact h.nd,Zc h.pins,by rw[L9];exact h.len⟩
theorem Pr(its:List It)(k:Int):D5 (Gk its k)=(D5 its).filter (fun j=>j !=k):=by
 unfold D5 Gk
 rw[List.filter_map];rfl
theorem LL{its:List It}{k j:Int} :j∈D5 (Gk its k)↔j∈D5 its∧j≠k:=by rw[Pr,List.mem_filter];simp
theorem aI{its:List It}(h:Ey its)(k:Int):Ey (Gk its k):=
 ⟨by rw[Pr];exact h.nd.sublist List.filter_sublist,fun n a=>h.pins n (List.mem_filter.1 a).1,Nat.le_trans (List.length_filter_le _ _) h.len⟩
theorem filter_one{l:List Int}(b:l.Nodup){k:Int}(c:k∈l):(l.filter (fun j=>j !=k)).length+1=l.length:=by induction l with
 |nil=>simp at c
 | cons a l d =>
  rw[List.nodup_cons] at b
  by_cases h:a=k
  ·subst h
   have:l.filter (fun j=>j !=a)=l:=List.filter_eq_self.2 fun x hx=>by simp;intro e;subst e;exact b.1 hx
   simp_all
  grind
theorem Ya{its:List It}(h:Ey its){k:Int}(c:Bx its k=true):(Gk its k).length+1=its.length:=by
 have a:(Gk its k).length=(D5 (Gk its k)).length:=by simp[D5]
 have b:its.length=(D5 its).length:=by simp[D5]
 rw[a,Pr,b]
 exact filter_one h.nd (Br.1 c)
theorem Yp{its:List It}{k j:Int} :j∈D5 (Fe its k)↔j∈D5 its:=by
 unfold D5 Fe Gk
 simp only[List.map_append,List.mem_append,List.mem_map,List.mem_filter]
 grind
theorem BO(its:List It)(k:Int):(Fe its k).Perm its:=by
 unfold Fe Gk
 have h:=List.filter_append_perm (fun n:It=>n.key !=k) its
 grind
theorem aL{its:List It}(h:Ey its)(k:Int):Ey (Fe its k):=
 ⟨((BO its k).map _).nodup_iff.2 h.nd,fun n a=>h.pins n ((BO its k).mem_iff.1 a),by rw[(BO its k).length_eq];exact h.len⟩
theorem XY{its:List It}{n:It}(h:NQ its=some n):n∈its∧n.pins=0:=⟨List.mem_of_find?_eq_some h,by have:=List.find?_some h;simpa using this⟩
theorem LJ{its:List It}{n:It}(h:NQ its=some n):DB its n.key=true:=by
 obtain ⟨h1,a⟩:=XY h
 unfold DB
 grind
theorem E0{its:List It}{k:Int}(h:DB its k=true):Bx its k=true:=by
 unfold DB at h
 rw[List.any_eq_true] at h
 obtain ⟨n,h1,a⟩:=h
 rw[Br]
 exact List.mem_map.2 ⟨n,h1,by simp at a;exact a.1⟩
def U:Nat:=268436480
theorem Bm.key{m:Nat}{s:Ck}(ok:Bm m s){k:Int}(h:Bx s.its k=true): ∃b,BI k s.CV=some b∧b.length=256∧0≤k∧k<1048576:=by
 rw[ok.same] at h
 obtain ⟨b,hb⟩:=Option.isSome_iff_exists.1 h
 have:=ok.Au _ (J6 hb)
 simp_all
theorem Bm.more{m m':Nat}{s:Ck}(ok:Bm m s)(h:m≤m'):Bm m' s:=⟨ok.Mi,ok.nd,ok.same,ok.len,ok.Au,ok.cap,ok.most,E8 ok.dk h,ok.nm,by have:=ok.reads;omega⟩
theorem Bm.dT{m m':Nat}{s:Ck}(ok:Bm m s){d:Dk}(h:m≤m')(a:Ok m' d):Bm m' { s with d:=d } :=⟨ok.Mi,ok.nd,ok.same,ok.len,ok.Au,ok.cap,ok.most,a,ok.nm,by have:=ok.reads;show 0≤s.reads∧s.reads≤m';omega⟩
theorem Bm.mark{m:Nat}{s:Ck}(ok:Bm m s)(k:Int)(a:Bool):Bm m { s with its:=Bu s.its k a } :=
 ⟨eW ok.Mi k a,ok.nd,fun j=>by show Bx (Bu s.its k a) j=_;rw[OD];exact ok.same j,by show _=(Bu s.its k a).length;rw[L9];exact ok.len,ok.Au,ok.cap,by show ((Bu s.its k a).length:Int)≤_;rw[L9];exact ok.most,ok.dk,ok.nm,ok.reads⟩
theorem R8{m:Nat}{s:Ck}(ok:Bm m s){no:Int}(h:Bx s.its no=true):Bm (m+257) (s.B4 no).2:=by
 obtain ⟨b,hb,hl,_,_⟩:=ok.key h
 have e:s.Au no=b:=by unfold Ck.Au;rw[hb];rfl
 have hw:=Pq ok.dk s.nm (no*256) (s.Au no)
 rw[e,hl] at hw
 unfold Ck.B4
 rw[e]
 split
 ·exact Bm.mark (ok.dT (m':=m+257) (by omega) (E8 hw (by omega))) no false
 exact ok.dT (by omega) (E8 hw (by omega))
theorem BW(s:Ck)(no:Int):(s.write no).2.nm=s.nm∧(s.write no).2.cap=s.cap∧(s.write no).2.reads=s.reads∧(s.write no).2.CV=s.CV∧((s.write no).2.its=s.its∨(s.write no).2.its=Bu s.its no false):=by
 have a: ∀s:Ck,(s.B4 no).2.nm=s.nm∧(s.B4 no).2.cap=s.cap∧(s.B4 no).2.reads=s.reads∧(s.B4 no).2.CV=s.CV∧((s.B4 no).2.its=s.its∨(s.B4 no).2.its=Bu s.its no false):=by
  intro s
  unfold Ck.B4
  split
  · exact ⟨rfl,rfl,rfl,rfl,.inr rfl⟩
  exact ⟨rfl,rfl,rfl,rfl,.inl rfl⟩
 unfold Ck.write
 split
 · exact ⟨rfl,rfl,rfl,rfl,.inl rfl⟩
 split
 · split
   · exact a _
   exact ⟨rfl,rfl,rfl,rfl,.inl rfl⟩
 exact a s
theorem FC{m:Nat}{s:Ck}(ok:Bm m s){no:Int}(h:Bx s.its no=true):Bm (m+U) (s.write no).2:=by
 obtain ⟨b,hb,hl,h0,h1⟩:=ok.key h
 unfold Ck.write
 split
 ·exact ok.more (by omega)
 split
 ·have hp:=Pq ok.dk s.nm (max 0 (s.d.size s.nm)) (List.replicate (no*256-max 0 (s.d.size s.nm)).toNat 0)
  rw[List.length_replicate] at hp
  have a:Ok (m+268435457) (s.pad no).2:=E8 hp (by omega)
  have hq:=ok.dT (m':=m+268435457) (by omega) a
  split
  ·exact (R8 hq h).more (by unfold U;omega)
  exact hq.more (by unfold U;omega)
 exact (R8 ok h).more (by unfold U;omega)
theorem WQ{m:Nat}{s:Ck}(ok:Bm m s){no:Int}(h:DB s.its no=true):Bm (m+U) (s.release no).2∧((s.release no).1=0→(s.release no).2.its.length+1=s.its.length)∧(∀k,Bx (s.release no).2.its k=true→Bx s.its k=true)∧(s.release no).2.cap=s.cap:=by
 have hw:=FC ok (E0 h)
 obtain ⟨n,i,o,q,c⟩:=BW s no
 have b:DB (s.write no).2.its no=true:=by
  rcases c with e|e
  · simp_all
  rw[e,Ir];exact h
 have f: ∀k,Bx (s.write no).2.its k=Bx s.its k:=by
  intro k
  rcases c with e|e
  · grind
  rw[e,OD]
 have d:(s.write no).2.its.length=s.its.length:=by
  rcases c with e|e
  · grind
  rw[e,L9]
 unfold Ck.release
 by_cases g:(s.write no).1=0
 · rw [if_pos g]
   simp only[b,if_true]
   have j:=Ya hw.Mi (E0 b)
   refine ⟨⟨aI hw.Mi no,hw.nd.sublist ((LQ _ _).map _),?_,?_,fun p hp=>hw.Au p ((LQ _ _).subset hp),hw.cap,?_,hw.dk,hw.nm,hw.reads⟩,?_,?_,i⟩
   · intro k
     rw[FW hw.nd]
     by_cases a:k=no
     ·rw[if_pos a]
      subst a
      show _=false
      rw[Bool.eq_false_iff]
      intro h
      exact (LL.1 (Br.1 h)).2 rfl
     rw[if_neg a,←hw.same k,Bool.eq_iff_iff,Br,Br,LL]
     simp_all
   · show (Gl no (s.write no).2.CV).length=(Gk (s.write no).2.its no).length
     have:=U4 (k:=no) (l:=(s.write no).2.CV) (by rw[←hw.same];exact E0 b)
     have:=hw.len
     omega
   · have:=hw.most
     grind
   · omega
   intro k a
   rw[←f]
   exact Br.2 (LL.1 (Br.1 a)).1
 simp_all
theorem LX{m:Nat}{s:Ck}(ok:Bm m s):Bm (m+U) s.room.2∧(s.room.1=0→(s.room.2.its.length:Int)<s.room.2.cap)∧(∀k,Bx s.room.2.its k=true→Bx s.its k=true)∧s.room.2.cap=s.cap:=by
 unfold Ck.room
 by_cases a:(s.CV.length:Int)<s.cap
 ·rw[if_pos a]
  exact ⟨ok.more (by omega),fun _=>by have:=ok.len;show (s.its.length:Int)<s.cap;omega,fun k h=>h,rfl⟩
 rw[if_neg a]
 cases b:NQ s.its with
 |none=>exact ⟨ok.more (by omega),(fun h=>by cases h),(fun k h=>h),rfl⟩
 | some n =>
  obtain ⟨h1,c,d,e⟩:=WQ ok (LJ b)
  have:=ok.most
  grind
theorem Rj{no:Int}{b:List UInt8}(hb:b.length=256)(h0:0≤no)(h1:no<1048576): ∀{l:SY},(∀p∈l,p.2.length=256∧0≤p.1∧p.1<1048576)→ ∀p∈Ee no b l,p.2.length=256∧0≤p.1∧p.1<1048576
 | [],_,p,hp=>by simp[Ee] at hp;subst hp;exact ⟨hb,h0,h1⟩
 | q :: l, hl, p, hp => by
  unfold Ee at hp
  split at hp
  ·grind
  rcases List.mem_cons.1 hp with rfl|hp
  ·simp_all
  exact Rj hb h0 h1 (fun p hp=>hl p (List.mem_cons_of_mem _ hp)) p hp
theorem Lf(s:Ck)(no:Int)(b:List UInt8):(s.take no b).2.reads=s.reads:=by
 have hw: ∀k,(s.release k).2.reads=s.reads:=by
  intro k
  unfold Ck.release
  split
  ·exact (BW s k).2.2.1
  exact (BW s k).2.2.1
 have hr:s.room.2.reads=s.reads:=by grind [Ck.room]
 grind [Ck.take]
theorem Om{m : Nat}{s : Ck}(ok : Bm m s){no : Int}{b : List UInt8}(h : Bx s.its no = false)(h0 : 0 ≤ no)(h1 : no < 1048576)(hb : b.length = 256) : Bm (m + U) (s.take no b).2 := by
 obtain ⟨hr,r,w,x⟩:=LX ok
 unfold Ck.take
 by_cases o:s.room.1=0
 ·rw [if_pos o]
  have u:=r o
  have f:Bx s.room.2.its no=false:=by grind
  have d:(BI no s.room.2.CV).isSome=false:=by rw[←hr.same];exact f
  refine ⟨⟨?_,?_,?_⟩,?_,?_,?_,?_,hr.cap,?_,hr.dk,hr.nm,hr.reads⟩
  ·show (D5 (s.room.2.its++ [⟨no,0,false⟩])).Nodup
   unfold D5
   rw[List.map_append,List.nodup_append]
   refine ⟨hr.Mi.nd,by simp,?_⟩
   intro a ha c g e
   simp at g
   subst e g
   rw[Br.2 ha] at f
   cases f
  ·intro n i
   rcases List.mem_append.1 i with i|i
   · exact hr.Mi.pins n i
   simp_all
  ·have:=hr.cap
   grind
  ·show ((Ee no b s.room.2.CV).map (·.1)).Nodup
   rw[MF,d]
   simp only[Bool.false_eq_true,if_false]
   rw[List.nodup_append]
   refine ⟨hr.nd,by simp,?_⟩
   intro a ha c g e
   simp at g
   subst e g
   rw[Rh.2 ha] at d;cases d
  ·intro k
   show Bx (s.room.2.its++ [_]) k=(BI k (Ee no b s.room.2.CV)).isSome
   rw[CZ]
   unfold Bx
   rw[List.any_append]
   by_cases t:k=no
   · simp_all
   rw[if_neg t,←hr.same k]
   grind [Bx]
  ·show (Ee no b s.room.2.CV).length=(s.room.2.its++ [_]).length
   simp[U7,d,List.length_append,hr.len]
  ·intro p hp
   have j:=hp
   have: ∀l:SY,(∀p∈l,p.2.length=256∧0≤p.1∧p.1<1048576)→ ∀p∈Ee no b l,p.2.length=256∧0≤p.1∧p.1<1048576:=by
    intro l
    induction l with
    |nil=>intro _ p hp;simp[Ee] at hp;subst hp;exact ⟨hb,h0,h1⟩
    | cons q l v =>
      intro hl p hp
      unfold Ee at hp
      split at hp
      ·grind
      rcases List.mem_cons.1 hp with rfl|hp
      ·simp_all
      exact v (fun p hp=>hl p (List.mem_cons_of_mem _ hp)) p hp
   exact this _ hr.Au p j
  show ((s.room.2.its++ [_]).length:Int)≤s.room.2.cap
  rw[List.length_append];simp;omega
 rw[if_neg o];exact hr
open Go.RowKit Go.Sl
open Go.PS (A9)
attribute [local go_sem] L7 Wi W9 VR
theorem UR(C D:Nat)(s:Ck)(m:Nat)(no:Int)(F:Ab)(w:World)(hs:Sat (Be C D s*F) w)(ok:Bm m s)(hm:m≤549755813888)(l:DB s.its no=true):
 Calls Tryz.prog 253 #[.pointer (some ⟨C,0,none⟩),.int .i64 no] w fun e P=>e= .returned (.int .i64 (s.release no).1)∧Sat (Be C D (s.release no).2*F) P:=by
 obtain ⟨L,PM,ps,hp,hs⟩:=Sat.Cj hs
 obtain ⟨b,hb,hl,h0,h1⟩:=ok.key (E0 l)
 have f:=V1 C L D PM ps s m no F w hs hp ok hm h0 h1
 have c:=FC ok (E0 l)
 obtain ⟨Q,z,K,B,G⟩:=BW s no
 have g:Aside (s.release no=if (s.write no).1=0 then (0, { (s.write no).2 with its:=if DB (s.write no).2.its no then Gk (s.write no).2.its no else (s.write no).2.its,CV:=Gl no (s.write no).2.CV }) else s.write no):=rfl
 obtain ⟨s1,j⟩:=Aq ((s.write no).2)
 obtain ⟨t,n⟩:=Aq ((s.write no).1)
 have o:s.write no=(t,s1):=by rw[←j,←n]
 rw[o] at f c g
 rw[j,←hp] at B
 rw[j] at G
 have k:DB s1.its no=true:=by
  rcases G with e|e
  · rw[e];exact l
  rw[e,Ir];exact l
 simp only at f c g
 rw[if_pos k] at g
 have Ev:=fun F w h=>gH L s1.cap s1.its no F w h c.Mi
 rw[k,if_pos rfl] at Ev
 have r:Aside (Ce ps=s1.CV∧BI no s.CV=some b):=⟨B.symm,hb⟩
 have R:=As c.Mi
 clear j n o Q z K B G c hs hl l k
 by_cases y:t=0
 · subst y
   rw[if_pos rfl] at g
   rw[g.out]
   clear g
   rcases H3 ps no with ⟨l1,p,l2,rfl,rfl,u⟩|x
   · obtain ⟨_,_,_,I,J⟩:=H7 (l2:=l2) u
     have H:Aside (Ce (l1++l2)=Gl p.key s1.CV∧FL p.key ((l1++p::l2).map JZ)=(l1++l2).map JZ):=⟨by rw[←r.out.1];exact I.symm,J⟩
     clear I J hp hb
     go_enter Tryz.func253,Tryz.ntmps253
     go_wp2_with fail
     refine f.mono ?_
     rintro e z ⟨rfl,a⟩
     unfold BF at a
     haveI:=a.i
     have q:=As Ev
     clear f Ev
     go_wp2_with fail
     refine Dz (q.out _ _ (Ae (C2 L s1.cap s1.its))) fun K M _=>?_
     clear a
     go_wp2
     go_ret
     refine ⟨rfl,?_⟩
     refine Sat.AS (L:=L) (PM:=PM) (ps:=l1++l2) H.out.1 ?_
     refine Ax (C:=rw TB 1 p.v (A4 p.b)) ?_
     rw[H.out.2,CG,show AU (p::l2)=rw TB 1 p.v (A4 p.b)*AU l2 from rfl]
     show _=coreC C L D PM s1*(C2 L s1.cap (Gk s1.its p.key)*(Bv D s1.d*(mp A9 PM ((l1++l2).map JZ)*AU (l1++l2))))*F*rw TB 1 p.v (A4 p.b)
     rw[CG]
     ac_rfl
   have:=r.out.2
   rw[←hp,(Kg x).1] at this
   cases this
 rw[if_neg y] at g
 rw[g.out]
 clear g
 have O:(t==0)=false:=by simpa using y
 go_enter Tryz.func253,Tryz.ntmps253
 go_wp2_with fail
 refine f.mono ?_
 rintro e z ⟨rfl,a⟩
 go_wp2
 go_ret
 exact ⟨rfl,Sat.AS r.out.1 a⟩
theorem bR(C D:Nat)(s:Ck)(m:Nat)(F:Ab)(w:World)(hs:Sat (Be C D s*F) w)(ok:Bm m s)(hm:m≤549755813888):
 Calls Tryz.prog 229 #[.pointer (some ⟨C,0,none⟩)] w fun e r=>e= .returned (.int .i64 s.room.1)∧Sat (Be C D s.room.2*F) r:=by
 obtain ⟨L,PM,ps,hp,f⟩:=Sat.Cj hs
 have c:ps.length=s.CV.length:=by rw[←hp];simp[Ce]
 have d:=ok.len
 have p:=ok.cap
 have l:=ok.most
 unfold BF at f
 by_cases b:(ps.length:Int)<s.cap
 ·have e:s.room=(0,s):=by unfold Ck.room;rw[if_pos (by rw[←c];exact b)]
  rw[e]
  have j:=As hp
  haveI:=f.i
  clear e hs hp c d
  go_enter Tryz.func229,Tryz.ntmps229
  go_upto_region 1 with (fail)
  go_region
  all_goals
   go_wp2
   go_ret
   exact ⟨rfl,Sat.AS j.out (Ap (by unfold BF;rfl))⟩
 have q:decide ((ps.length:Int)<s.cap)=false:=by simpa using b
 cases g:NQ s.its with
 | none =>
  have e:s.room=(9,s):=by unfold Ck.room;rw[if_neg (by rw[←c];exact b),g]
  rw[e]
  have a:=fun F w h=>XZ L s.cap s.its F w h
  rw[g] at a
  have j:=As hp
  have k:=As a
  haveI:=f.i
  clear e hs hp c d b a g
  go_enter Tryz.func229,Tryz.ntmps229
  go_upto_region 1 with (fail)
  go_region
  all_goals
   go_wp2_with fail
   refine (k.out _ _ (Ae (C2 L s.cap s.its))).mono ?_
   rintro e t ⟨rfl,rfl⟩
   go_wp2
   go_ret
   exact ⟨rfl,Sat.AS j.out (Ap (by unfold BF;rfl))⟩
 | some n =>
  have e:s.room=s.release n.key:=by unfold Ck.room;rw[if_neg (by rw[←c];exact b),g]
  rw[e]
  have a:=fun F w h=>XZ L s.cap s.its F w h
  rw[g] at a
  have j:Aside (Ce ps=s.CV∧DB s.its n.key=true):=⟨hp,LJ g⟩
  have k:=As a
  haveI:=f.i
  clear e hs hp c d b a g
  go_enter Tryz.func229,Tryz.ntmps229
  go_upto_region 1 with (fail)
  go_region
  all_goals
   go_wp2_with fail
   refine (k.out _ _ (Ae (C2 L s.cap s.its))).mono ?_
   rintro e t ⟨rfl,rfl⟩
   go_wp2_with fail
   refine (UR C D s m n.key F _ (Sat.AS j.out.1 (Ap (by unfold BF;rfl))) ok hm j.out.2).mono ?_
   rintro e u ⟨rfl,o⟩
   go_wp2
   go_ret
   exact ⟨rfl,o⟩
theorem Vp(C D:Nat)(s:Ck)(m:Nat)(no:Int)(v:Value)(b:List UInt8)(B F:Ab)(w:World)(H:Reads B v b)(hs:Sat (Be C D s*(B*F)) w)(ok:Bm m s)(hm:m≤274877906944)(g:Bx s.its no=false)(hb:b.length=256):
 Calls Tryz.prog 181 #[.pointer (some ⟨C,0,none⟩),.int .i64 no,v] w fun e O=>e= .returned (.int .i64 (s.take no b).1)∧Sat (Be C D (s.take no b).2*(B*F)) O:=by
 obtain ⟨va,vc,rfl,M,X⟩:=(H _ _ (hs.take B)).len
 have f:=bR C D s m _ w hs ok (by omega)
 obtain ⟨r1,u,z,Q⟩:=LX ok
 have j:Aside (s.take no b=if s.room.1=0 then (0, { s.room.2 with its:=s.room.2.its++ [⟨no,0,false⟩],CV:=Ee no b s.room.2.CV }) else s.room):=rfl
 obtain ⟨s1,l⟩:=Aq s.room.2
 obtain ⟨G,k⟩:=Aq s.room.1
 have t:s.room=(G,s1):=by rw[←l,←k]
 rw[t] at f j
 simp only at f j
 rw[l] at r1 u z
 rw[k] at u
 clear l k t
 by_cases y:G=0
 ·subst y
  rw[if_pos rfl] at j
  rw[j.out]
  have J:=u rfl
  have c:Bx s1.its no=false:=by
   rw[Bool.eq_false_iff];intro V;rw[z no V] at g;cases g
  have q:(BI no s1.CV).isSome=false:=by rw[←r1.same];exact c
  have x:Aside (Ey s1.its∧Bx s1.its no=false∧(s1.its.length:Int)≠s1.cap∧(BI no s1.CV).isSome=false):=⟨r1.Mi,c,by omega,q⟩
  obtain ⟨i0,E⟩:=Dp
  rw[hb] at M H
  rw[hb]
  have R:=As hb
  clear j r1 u z Q J c q hs g hb
  go_enter Tryz.func181,Tryz.ntmps181
  go_wp2_with fail
  refine f.mono ?_
  rintro e Z ⟨rfl,a⟩
  obtain ⟨L,PM,ps,hp,a⟩:=Sat.Cj a
  unfold BF at a
  have P:=As hp
  haveI:=a.i
  clear f hp
  go_wp2_with fail
  refine Dz (lZ L s1.cap s1.its no _ _ (Ae (C2 L s1.cap s1.its)) x.out.1 x.out.2.1 x.out.2.2.1) fun w3 W _=>?_
  clear a
  go_upto_region 5 with (fail)
  go_region_held3 (fun O=>O.cell? ⟨C,4,none⟩=some (.map (some PM))) (first|exact Ac _ _ _) (first
   |(refine A6 E rfl (.tmp 24) (.tmp 25) rfl rfl rfl (LZ (b:=w3.heap.size) (e:=TB)) (H.NT R.out) (by unfold maxLen;omega) (by omega) ?_;intro n c4 w4 r K;clear K;simp only[Nat.zero_add,List.nil_append] at r;haveI:=r.i))
  all_goals
   go_wp2
   go_ret
   refine ⟨rfl,?_⟩
   have o: ∀p∈ps,p.key≠no:=by
    rcases H3 ps no with ⟨l1,p,l2,rfl,rfl,I⟩|h
    · have:=x.out.2.2.2
      rw[←P.out,(H7 I).1] at this
      cases this
    exact h
   obtain ⟨_,_,T,U⟩:=Kg o
   refine Sat.AS (L:=L) (PM:=PM) (ps:=ps++ [⟨no,.slice n 256 c4,b⟩]) ?_ ?_
   · show _=Ee no b s1.CV
     rw[←P.out,T];simp[Ce]
   refine Ap ?_
   rw[U]
   show _=coreC C L D PM s1*(C2 L s1.cap (s1.its++ [⟨no,0,false⟩])*(Bv D s1.d*(mp A9 PM ((ps++ [(⟨no,.slice n 256 c4,b⟩:Pg)]).map JZ)*AU (ps++ [(⟨no,.slice n 256 c4,b⟩:Pg)]))))*(B*F)
   rw[CG,List.map_append,show AU [(⟨no,.slice n 256 c4,b⟩:Pg)]=rw TB 1 (.slice n 256 c4) (A4 b)*1 from rfl,Bg]
   show _=coreC C L D PM s1*(C2 L s1.cap (s1.its++ [⟨no,0,false⟩])*(Bv D s1.d*(mp A9 PM (ps.map JZ++ [(no,.slice n 256 c4)])*_)))*(B*F)
   ac_rfl
 rw[if_neg y] at j
 rw[j.out]
 have Y:(G !=0)=true:=by simpa using y
 clear j r1 u z Q hs g y
 go_enter Tryz.func181,Tryz.ntmps181
 go_wp2_with fail
 refine f.mono ?_
 rintro e Z ⟨rfl,a⟩
 go_wp2
 go_ret
 exact ⟨rfl,a⟩
theorem R6{its:List It}{no:Int}(c:Bx its no=false):Fe its no=its:=by
 unfold Fe Gk
 have h1:its.filter (fun n=>n.key==no)= []:=List.filter_eq_nil_iff.2 fun x hx=>by
  intro a
  have b:Bx its no=true:=Br.2 (List.mem_map.2 ⟨x,hx,by simpa using a⟩)
  rw[c] at b;cases b
 have a:its.filter (fun n=>n.key !=no)=its:=List.filter_eq_self.2 fun x hx=>by
  simp
  intro a
  have b:Bx its no=true:=Br.2 (List.mem_map.2 ⟨x,hx,a⟩)
  rw[c] at b;cases b
 rw[h1,a,List.append_nil]
theorem P6{d:Dk}{nm:ByteArray}{k:Int}{n:Nat}(h:(d.read nm k n).1=0):(d.read nm k n).2.length=n:=by
 unfold Dk.read at h⊢
 split at h
 ·rename_i h1;exact absurd h h1
 rename_i h1
 rw[if_neg h1]
 simp only at h⊢
 split at h
 ·cases h
 rename_i a
 rw[if_neg a]
 simp
 omega
def dF(C D:Nat)(F:Ab)(r:Int×List UInt8×Ck)(e:Ending)(a:World):Prop:=
 ∃v,e= .returned (.tuple #[v,.int .i64 r.1])∧Sat (rw TB 1 v (A4 r.2.1)*(Be C D r.2.2*F)) a
theorem eE(C D : Nat)(s : Ck)(m : Nat)(no : Int)(F : Ab)(w : World)(hs : Sat (Be C D s * F) w)(ok : Bm m s)(hm : m ≤ 274877906944) :
 Calls Tryz.prog 157 #[.pointer (some ⟨C,0,none⟩),.int .i64 no] w (dF C D F (s.get no)):=by
 by_cases hr:no<0∨1048576≤no
 ·have e:s.get no=(1,[],s):=by unfold Ck.get;rw[if_pos hr]
  rw[e]
  have a:Sat (rw TB 1 (.slice none 0 0) (A4 [])*(Be C D s*F)) w:=Sat.AG hs
  rcases hr with hr|hr
  · go_enter Tryz.func157,Tryz.ntmps157
    go_wp2
    go_ret2
    exact ⟨_,rfl,a⟩
  have az: ¬no<0:=by omega
  go_enter Tryz.func157,Tryz.ntmps157
  go_wp2
  go_ret2
  exact ⟨_,rfl,a⟩
 have ag:0≤no:=by omega
 have ah:no<1048576:=by omega
 obtain ⟨L,PM,ps,hp,c⟩:=Sat.Cj hs
 unfold BF at c
 have ad:s.nm.size≤9223372036854775807:=I8 ok.nm
 cases z:Bx s.its no with
 | true =>
  have e:s.get no=(0,s.Au no, { s with its:=Fe s.its no }):=by unfold Ck.get;rw[if_neg hr,if_pos z]
  rw[e]
  obtain ⟨b,hb,R,_,_⟩:=ok.key z
  rcases H3 ps no with ⟨l1,p,l2,rfl,rfl,ac⟩|af
  · obtain ⟨q1,q2,_⟩:=H7 (l2:=l2) ac
    rw[hp] at q1
    have Q:p.b=b:=by rw[q1] at hb;exact Option.some.inj hb
    have Z:s.Au p.key=p.b:=by unfold Ck.Au;rw[q1];rfl
    have hR:AU (l1++p::l2)=rw TB 1 p.v (A4 p.b)*(AU l1*AU l2):=by rw[CG];show AU l1*(_*AU l2)=_;ac_rfl
    rw[hR] at c
    obtain ⟨va,vc,G,ai,b0⟩:=GN (c.take (rw TB 1 p.v (A4 p.b)))
    rw[Q,R] at G ai
    have u:Aside (Ce (l1++p::l2)=s.CV∧s.Au p.key=p.b∧p.b.length=256∧AU (l1++p::l2)=rw TB 1 p.v (A4 p.b)*(AU l1*AU l2)∧p.v= .slice va 256 vc):=⟨hp,Z,by rw[Q];exact R,hR,G⟩
    rw[G] at q2 c
    obtain ⟨ms,T⟩:=Aq ((l1++p::l2).map JZ)
    rw[T] at q2 c
    have a8:=As T
    clear T
    have o:=jW L s.cap s.its p.key _ w (c.take (C2 L s.cap s.its)) ok.Mi
    rw[z] at o
    obtain ⟨i0,E⟩:=Dp
    haveI:=c.i
    clear e hr hs hp z hb q1 Q R Z hR G
    go_enter Tryz.func157,Tryz.ntmps157
    go_wp2_with fail
    refine o.mono ?_
    rintro e w2 ⟨rfl,a⟩
    clear o c
    haveI:=a.i
    go_wp2_with (at_builtin;(refine Af E rfl (.tmp 24) (.tmp 30) rfl rfl rfl (LZ (b:=w2.heap.size) (e:=TB)) (Reads.NT (B:=rw TB 1 (.slice va 256 vc) (A4 p.b)) (by have q:=Reads.rw (e:=TB) (v:= .slice va 256 vc) (l:=p.b);exact q) u.out.2.2.1) (by unfold maxLen;omega) (by omega) ?_;intro a4 c4 w4 f ae;clear ae;simp only[Nat.zero_add,List.nil_append] at f;haveI:=f.i))
    go_ret2
    refine ⟨_,rfl,?_⟩
    obtain ⟨g1,g2,g3,g4,g5⟩:=u.out
    show Sat (rw TB 1 _ (A4 (s.Au p.key))*_) _
    rw[g2,BD]
    refine Sat.AS (L:=L) (PM:=PM) (ps:=l1++p::l2) g1 (f.eq ?_)
    show _=coreC C L D PM s*(C2 L s.cap (Fe s.its p.key)*(Bv D s.d*(mp A9 PM ((l1++p::l2).map JZ)*AU (l1++p::l2))))*_
    rw[g4,g5,a8.out]
    ac_rfl
  rw[←hp,(Kg af).1] at hb
  cases hb
 | false =>
  have K:Aside (s.get no=if (s.d.read s.nm (no*256) 256).1=0 then (if (s.take no (s.d.read s.nm (no*256) 256).2).1=0 then (0,(s.d.read s.nm (no*256) 256).2, { (s.take no (s.d.read s.nm (no*256) 256).2).2 with reads:=(s.take no (s.d.read s.nm (no*256) 256).2).2.reads+1 }) else ((s.take no (s.d.read s.nm (no*256) 256).2).1,[],(s.take no (s.d.read s.nm (no*256) 256).2).2)) else (if (s.d.read s.nm (no*256) 256).1=2 then 6 else (s.d.read s.nm (no*256) 256).1,[],s)):=by
   show _=_
   unfold Ck.get;rw[if_neg hr,if_neg (by simp[z])]
  have j:=P6 (d:=s.d) (nm:=s.nm) (k:=no*256) (n:=256)
  obtain ⟨r,H⟩:=Aq (s.d.read s.nm (no*256) 256)
  have a0: ∀F w,Sat (Bv D s.d*F) w→Calls Tryz.prog 49 #[.pointer (some ⟨D,0,none⟩),.string s.nm,.int .i64 (no*256),.int .i64 256] w fun e t=> ∃v,e= .returned (.tuple #[v,.int .i64 r.1])∧Sat (rw TB 1 v (A4 r.2)*(Bv D s.d*F)) t:=by
   intro F w h
   have:=P5 D s.d s.nm (no*256) 256 F w h ad (fun p hp=>(ok.dk.sz p hp).1)
   rw[H] at this
   exact this
  have M:r.1=0→r.2.length=256:=by
   have:((256:Nat):Int)=256:=rfl
   rw[this,H] at j
   exact j
  rw[H] at K
  clear j H
  have o:=jW L s.cap s.its no _ w (c.take (C2 L s.cap s.its)) ok.Mi
  rw[z] at o
  have O:Fe s.its no=s.its:=R6 z
  rw[O] at o
  have x:=As a0
  have u:Aside (Ce ps=s.CV∧Bx s.its no=false∧(r.1=0→r.2.length=256)):=⟨hp,z,M⟩
  obtain ⟨rc,W⟩:=r
  simp only at K x u
  haveI:=c.i
  clear a0 M z hr hs hp O
  by_cases q:rc=0
  · subst q
    rw[if_pos rfl] at K
    rw[K.out]
    clear K
    have j:=u.out.2.2 rfl
    have I:=fun(v:Value)(F:Ab)(w:World)(h:Sat (Be C D s*(rw TB 1 v (A4 W)*F)) w)=>Vp C D s m no v W (rw TB 1 v (A4 W)) F w Reads.rw h ok hm u.out.2.1 j
    have J:=Om ok u.out.2.1 ag ah j
    obtain ⟨⟨tc,ts⟩,a1⟩:=Aq (s.take no W)
    rw[a1] at I J⊢
    simp only at I J⊢
    have X:=As I
    have y:=J.reads
    have ap:ts.reads≤4611686018427387904:=by unfold U at y;omega
    have aq:=y.1
    clear I a1 J j y
    by_cases q:tc=0
    · subst q
      rw[if_pos rfl]
      go_enter Tryz.func157,Tryz.ntmps157
      go_wp2_with fail
      refine o.mono ?_
      rintro e w2 ⟨rfl,a⟩
      haveI:=a.i
      clear o c
      go_upto_region 5 with (fail)
      have hw1:=Bb (no*256) (by omega)
      go_region_held3 (fun t=>t.cell? ⟨C,1,none⟩=some (.pointer (some ⟨D,0,none⟩))∧t.cell? ⟨C,2,none⟩=some (.string s.nm)) (first|exact ⟨Ac _ _ _,Ac _ _ _⟩) (first
       |(go_at_call 49;refine (x.out _ _ (Ae (Bv D s.d))).mono ?_;rintro e w3 ⟨v,rfl,g⟩;haveI:=g.i))
      clear hw1 a
      all_goals
       go_wp2_with fail
       refine (X.out v F _ (Sat.AS (L:=L) (PM:=PM) (ps:=ps) u.out.1 (Ap (by unfold BF;ac_rfl)))).mono ?_
       rintro e w4 ⟨rfl,f⟩
       obtain ⟨L4,P,V,Y,f⟩:=Sat.Cj f
       unfold BF at f
       have a9:=As Y
       haveI:=f.i
       clear g Y
       go_wp2
       go_ret2
       refine ⟨_,rfl,?_⟩
       rw[BD]
       refine Sat.AS (L:=L4) (PM:=P) (ps:=V) a9.out ?_
       refine Ap ?_
       show _=coreC C L4 D P { ts with reads:=ts.reads+1 } *(C2 L4 ts.cap ts.its*(Bv D ts.d*(mp A9 P (V.map JZ)*AU V)))*_
       ac_rfl
    rw[if_neg q]
    have a2:(tc==0)=false:=by simpa using q
    have aj:(tc !=0)=true:=by simpa using q
    clear q
    go_enter Tryz.func157,Tryz.ntmps157
    go_wp2_with fail
    refine o.mono ?_
    rintro e w2 ⟨rfl,a⟩
    haveI:=a.i
    clear o c
    go_upto_region 5 with (fail)
    have hw1:=Bb (no*256) (by omega)
    go_region_held3 (fun t=>t.cell? ⟨C,1,none⟩=some (.pointer (some ⟨D,0,none⟩))∧t.cell? ⟨C,2,none⟩=some (.string s.nm)) (first|exact ⟨Ac _ _ _,Ac _ _ _⟩) (first
     |(go_at_call 49;refine (x.out _ _ (Ae (Bv D s.d))).mono ?_;rintro e w3 ⟨v,rfl,g⟩;haveI:=g.i))
    clear hw1 a
    all_goals
     go_wp2_with fail
     refine (X.out v F _ (Sat.AS (L:=L) (PM:=PM) (ps:=ps) u.out.1 (Ap (by unfold BF;ac_rfl)))).mono ?_
     rintro e w4 ⟨rfl,f⟩
     go_wp2
     go_ret2
     exact ⟨_,rfl,Sat.AG (f.drop (rw TB 1 v (A4 W)))⟩
  rw[if_neg q] at K
  have a2:(rc==0)=false:=by simpa using q
  have ak:(rc !=0)=true:=by simpa using q
  rw[K.out]
  clear K
  by_cases h2:rc=2
  · subst h2
    rw[if_pos rfl]
    clear q a2 ak
    go_enter Tryz.func157,Tryz.ntmps157
    go_wp2_with fail
    refine o.mono ?_
    rintro e w2 ⟨rfl,a⟩
    haveI:=a.i
    clear o c
    go_upto_region 5 with (fail)
    have hw1:=Bb (no*256) (by omega)
    go_region_held3 (fun t=>t.cell? ⟨C,1,none⟩=some (.pointer (some ⟨D,0,none⟩))∧t.cell? ⟨C,2,none⟩=some (.string s.nm)) (first|exact ⟨Ac _ _ _,Ac _ _ _⟩) (first
     |(go_at_call 49;refine (x.out _ _ (Ae (Bv D s.d))).mono ?_;rintro e w3 ⟨v,rfl,g⟩;haveI:=g.i))
    clear hw1 a
    all_goals
     go_wp2
     go_ret2
     refine ⟨_,rfl,Sat.AG (Sat.AS (L:=L) (PM:=PM) (ps:=ps) u.out.1 ?_)⟩
     refine Ax (C:=rw TB 1 v (A4 W)) ?_
     unfold BF
     ac_rfl
  rw[if_neg h2]
  have aj:(rc==2)=false:=by simpa using h2
  clear q h2
  go_enter Tryz.func157,Tryz.ntmps157
  go_wp2_with fail
  refine o.mono ?_
  rintro e w2 ⟨rfl,a⟩
  haveI:=a.i
  clear o c
  go_upto_region 5 with (fail)
  have hw1:=Bb (no*256) (by omega)
  go_region_held3 (fun t=>t.cell? ⟨C,1,none⟩=some (.pointer (some ⟨D,0,none⟩))∧t.cell? ⟨C,2,none⟩=some (.string s.nm)) (first|exact ⟨Ac _ _ _,Ac _ _ _⟩) (first
   |(go_at_call 49;refine (x.out _ _ (Ae (Bv D s.d))).mono ?_;rintro e w3 ⟨v,rfl,g⟩;haveI:=g.i))
  clear hw1 a
  all_goals
   go_wp2
   go_ret2
   refine ⟨_,rfl,Sat.AG (Sat.AS (L:=L) (PM:=PM) (ps:=ps) u.out.1 ?_)⟩
   refine Ax (C:=rw TB 1 v (A4 W)) ?_
   unfold BF
   ac_rfl
theorem fA(C D:Nat)(s:Ck)(m:Nat)(no:Int)(v:Value)(b:List UInt8)(B F:Ab)(w:World)(W:Reads B v b)(hs:Sat (Be C D s*(B*F)) w)(ok:Bm m s)(hm:m≤274877906944):
 Calls Tryz.prog 195 #[.pointer (some ⟨C,0,none⟩),.int .i64 no,v] w fun e w'=>e= .returned (.int .i64 (s.put no b).1)∧Sat (Be C D (s.put no b).2*(B*F)) w':=by
 obtain ⟨va,vc,rfl,a7,ak⟩:=(W _ _ (hs.take B)).len
 by_cases hr:no<0∨1048576≤no∨b.length≠256
 ·have e:s.put no b=(1,s):=by unfold Ck.put;rw[if_pos hr]
  rw[e]
  by_cases h1:no<0
  · go_enter Tryz.func195,Tryz.ntmps195
    go_wp2
    go_ret
    exact ⟨rfl,hs⟩
  by_cases h2:1048576≤no
  · go_enter Tryz.func195,Tryz.ntmps195
    go_wp2
    go_ret
    exact ⟨rfl,hs⟩
  have h3:((b.length:Int) !=256)=true:=by simp;omega
  have aj:(b.length !=256)=true:=by simp;omega
  have h4:no<1048576:=by omega
  have h5:0≤no:=by omega
  clear hr e h2 h1
  go_enter Tryz.func195,Tryz.ntmps195
  go_wp2
  go_ret
  exact ⟨rfl,hs⟩
 have a4:0≤no:=by omega
 have a5:no<1048576:=by omega
 have g:b.length=256:=by omega
 obtain ⟨L,PM,ps,hp,a⟩:=Sat.Cj hs
 unfold BF at a
 rw[g] at W a7
 rw[g]
 have Y:=As g
 have j:=jW L s.cap s.its no _ w (a.take (C2 L s.cap s.its)) ok.Mi
 cases k:Bx s.its no with
 | true =>
  have e:s.put no b=(0, { s with its:=Bu (Fe s.its no) no true,CV:=Ee no b s.CV }):=by unfold Ck.put;rw[if_neg hr,if_pos k]
  rw[e]
  rw[k] at j
  obtain ⟨b0,hb,K,_,_⟩:=ok.key k
  have M:=aL ok.Mi no
  rcases H3 ps no with ⟨l1,p,l2,rfl,rfl,a2⟩|a3
  · obtain ⟨q1,q2,q3,_⟩:=H7 (l2:=l2) a2
    rw[hp] at q1
    have l:p.b.length=256:=by rw[q1] at hb;rw[Option.some.inj hb];exact K
    have hR: ∀q:Pg,AU (l1++q::l2)=rw TB 1 q.v (A4 q.b)*(AU l1*AU l2):=by intro q;rw[CG];show AU l1*(_*AU l2)=_;ac_rfl
    rw[hR] at a j
    rcases (a.take (rw TB 1 p.v (A4 p.b))).Cr with ⟨_,V,_⟩|⟨pg,n,pc,sp,G,V,g3,g4,g5,g6⟩
    ·have:=congrArg List.length V;rw[Cc,l] at this;cases this
    rw[Cc,l,Nat.mul_one] at V
    subst V
    rw[G] at q2 a j
    obtain ⟨ms,z⟩:=Aq ((l1++p::l2).map JZ)
    have u:Aside ((l1++ { p with b:=b } ::l2).map JZ=ms∧Ce (l1++ { p with b:=b } ::l2)=Ee p.key b s.CV∧p.v= .slice (some ⟨pg,0,none⟩) 256 pc):=⟨by rw[←z];simp[JZ],by rw[←hp];exact (q3 b).symm,G⟩
    have x:Aside ((∀q:Pg,AU (l1++q::l2)=rw TB 1 q.v (A4 q.b)*(AU l1*AU l2))∧p.b.length=256∧Ey (Fe s.its p.key)∧Bx (Fe s.its p.key) p.key=true):=⟨hR,l,M,Br.2 (Yp.2 (Br.1 k))⟩
    rw[z] at q2 a j
    obtain ⟨i0,E⟩:=Dp
    haveI:=a.i
    clear e hr hs hp k hb q1 q3 l g hR G z g3 g6 M
    go_enter Tryz.func195,Tryz.ntmps195
    go_wp2_with fail
    refine j.mono ?_
    rintro e w2 ⟨rfl,c⟩
    have U:=W _ _ (c.take B)
    obtain ⟨w3,Q,R⟩:=LY (P:=Tryz.prog) E 26 3 (lo:=0) (c.take (rw TB 1 (.slice (some ⟨pg,0,none⟩) 256 pc) (A4 p.b))) U (by rw[Y.out];omega)
    rw[Q1,Nat.sub_zero,Nat.sub_zero,Y.out] at Q
    rw[Y.out,List.take_zero,List.nil_append,List.drop_of_length_le (by rw[Cc,x.out.2.1];omega),List.append_nil] at R
    haveI:=c.i
    haveI:=R.i
    clear j a U
    go_wp2_with fail
    refine (p' L s.cap (Fe s.its p.key) p.key true _ _ (Ae (C2 L s.cap (Fe s.its p.key))) x.out.2.2.1).mono ?_
    rintro e w4 ⟨rfl,f⟩
    go_wp2
    go_ret
    refine ⟨rfl,Sat.AS (L:=L) (PM:=PM) (ps:=l1++ { p with b:=b } ::l2) u.out.2.1 (f.eq ?_)⟩
    show _=coreC C L D PM s*(C2 L s.cap (Bu (Fe s.its p.key) p.key true)*(Bv D s.d*(mp A9 PM ((l1++ { p with b:=b } ::l2).map JZ)*AU (l1++ { p with b:=b } ::l2))))*_
    rw[u.out.1,x.out.1]
    show _=coreC C L D PM s*(C2 L s.cap (Bu (Fe s.its p.key) p.key true)*(Bv D s.d*(mp A9 PM ms*(rw TB 1 p.v (A4 b)*_))))*_
    rw[u.out.2.2]
    ac_rfl
  rw[←hp,(Kg a3).1] at hb
  cases hb
 | false =>
  have HE:Aside (s.put no b=if (s.take no b).1=0 then (0, { (s.take no b).2 with its:=Bu (s.take no b).2.its no true }) else s.take no b):=by
   show _=_
   unfold Ck.put;rw[if_neg hr,if_neg (by simp[k])]
  rw[k] at j
  have t:Fe s.its no=s.its:=R6 k
  rw[t] at j
  have o:=fun(F:Ab)(w:World)(h:Sat (Be C D s*(B*F)) w)=>Vp C D s m no (.slice va 256 vc) b B F w W h ok hm k g
  have r:=(Om ok k a4 a5 g).Mi
  rw[HE.out]
  obtain ⟨⟨tc,ts⟩,T⟩:=Aq (s.take no b)
  rw[T] at o r⊢
  simp only at o r⊢
  have I:=As o
  have Z:Aside (Ce ps=s.CV∧Ey ts.its):=⟨hp,r⟩
  haveI:=a.i
  clear o T r t k hr hs hp g HE
  by_cases X:tc=0
  · subst X
    rw[if_pos rfl]
    go_enter Tryz.func195,Tryz.ntmps195
    go_wp2_with fail
    refine j.mono ?_
    rintro e w2 ⟨rfl,c⟩
    clear j a
    go_wp2_with fail
    refine (I.out F _ (Sat.AS (L:=L) (PM:=PM) (ps:=ps) Z.out.1 (c.eq (by unfold BF;ac_rfl)))).mono ?_
    rintro e w4 ⟨rfl,f⟩
    obtain ⟨J,y,H,O,f⟩:=Sat.Cj f
    unfold BF at f
    have a0:=As O
    haveI:=f.i
    clear c O
    go_wp2_with fail
    refine (p' J ts.cap ts.its no true _ _ (Ae (C2 J ts.cap ts.its)) Z.out.2).mono ?_
    rintro e w5 ⟨rfl,a6⟩
    go_wp2
    go_ret
    refine ⟨rfl,Sat.AS (L:=J) (PM:=y) (ps:=H) a0.out (a6.eq ?_)⟩
    show _=coreC C J D y ts*(C2 J ts.cap (Bu ts.its no true)*(Bv D ts.d*(mp A9 y (H.map JZ)*AU H)))*_
    ac_rfl
  rw[if_neg X]
  have al:(tc !=0)=true:=by simpa using X
  clear X
  go_enter Tryz.func195,Tryz.ntmps195
  go_wp2_with fail
  refine j.mono ?_
  rintro e w2 ⟨rfl,c⟩
  clear j a
  go_wp2_with fail
  refine (I.out F _ (Sat.AS (L:=L) (PM:=PM) (ps:=ps) Z.out.1 (c.eq (by unfold BF;ac_rfl)))).mono ?_
  rintro e w4 ⟨rfl,f⟩
  go_wp2
  go_ret
  exact ⟨rfl,f⟩
theorem Xs(C D:Nat)(s:Ck)(m:Nat)(no:Int)(F:Ab)(w:World)(hs:Sat (Be C D s*F) w)(ok:Bm m s)(hm:m≤549755813888)(h0:0≤no)(h1:no<1048576):
 Calls Tryz.prog 101 #[.pointer (some ⟨C,0,none⟩),.int .i64 no] w fun e b=>e= .returned (.int .i64 (s.write no).1)∧Sat (Be C D (s.write no).2*F) b:=by
 obtain ⟨L,PM,ps,hp,a⟩:=Sat.Cj hs
 refine (V1 C L D PM ps s m no F w a hp ok hm h0 h1).mono ?_
 rintro e b ⟨c,d⟩
 exact ⟨c,Sat.AS (by rw[(BW s no).2.2.2.1];exact hp) d⟩
theorem Kp(s:Ck)(no k:Int):Bx (s.write no).2.its k=Bx s.its k:=by
 rcases (BW s no).2.2.2.2 with e|e
 ·rw[e]
 rw[e,OD]
theorem YB(C D:Nat)(s:Ck)(m:Nat)(F:Ab)(w:World)(hs:Sat (Be C D s*F) w)(ok:Bm m s)(hm:m+s.its.length*U≤549755813888):
 Calls Tryz.prog 36 #[.pointer (some ⟨C,0,none⟩)] w fun e J=>e= .returned (.int .i64 s.flush.1)∧Sat (Be C D s.flush.2*F) J:=by
 obtain ⟨R,HR⟩: ∃R,Aside (Ck.writes (BJ s.its) s=R):=⟨_,rfl⟩
 have K:Aside (s.flush=if R.1=0 then ((if (R.2.d.sync R.2.nm).1=6 then 0 else (R.2.d.sync R.2.nm).1), { R.2 with d:=(R.2.d.sync R.2.nm).2 }) else R):=by
  show _=_
  unfold Ck.flush;rw[HR.out]
 obtain ⟨Z,I⟩: ∃Z,Aside (s.flush=Z):=⟨_,rfl⟩
 rw[I.out]
 rw[I.out] at K
 clear I
 obtain ⟨L,PM,ps,hp,Q⟩:=Sat.Cj hs
 unfold BF at Q
 have a3:=XT L s.cap s.its _ w (Q.take (C2 L s.cap s.its)) ok.Mi
 have a6: ∀z∈BJ s.its,Bx s.its z=true:=by
  intro z hz
  exact Q2 (s:=s) (by unfold Ck.CD;exact List.contains_iff_mem.2 hz)
 have X:(BJ s.its).length≤s.its.length:=by
  unfold BJ Df
  rw[(List.mergeSort_perm _ _).length_eq,List.length_map]
  exact List.length_filter_le _ _
 obtain ⟨zs,u⟩:=Aq (BJ s.its)
 rw[u] at a3 a6 X HR
 have HP:Aside (Ce ps=s.CV∧(∀z∈zs,Bx s.its z=true)∧Bm m s∧m+zs.length*U≤549755813888∧zs.length≤4096):=⟨hp,a6,ok,by have:=Nat.mul_le_mul_right U X;omega,by have:=ok.Mi.len;omega⟩
 haveI:=Q.i
 clear u a6 X hs hp ok hm
 go_enter Tryz.func36,Tryz.ntmps36
 go_wp2_with fail
 refine a3.mono ?_
 rintro e w1 ⟨a,n,c,rfl,T⟩
 have hn:n=zs.length:=by have:=T.bT;simpa using this
 subst hn
 obtain ⟨R0,a2⟩:=Aq (rw 3 1 (.slice a zs.length c) (zs.map (Value.int .i64)))
 have hI: ∀F w,Sat (R0*F) w→Ints w (.slice a zs.length c) zs:=by intro F w h;rw[←a2] at h;exact Ints.gR h
 have B:Sat (R0*(Be C D s*F)) w1:=by
  rw[a2] at T
  have h3:=Sat.AS (L:=L) (PM:=PM) (ps:=ps) (C:=C) (D:=D) (s:=s) (F:=R0*F) (w:=w1) HP.out.1 (T.eq (by unfold BF;ac_rfl))
  exact h3.eq (by ac_rfl)
 have HI:=As hI
 have X:zs.length≤4096:=HP.out.2.2.2.2
 clear a3 Q T a2 hI
 go_wp2_with fail
 go_loopg [15] zs.length (fun k al wr=> ∃(j:Nat)(t:Ck),al= .int .i64 j∧j≤zs.length∧Aside (k=zs.length-j∧Ck.writes (zs.drop j) t=R∧Bm (m+j*U) t∧(∀z,Bx t.its z=Bx s.its z))∧Sat (R0*(Be C D t*F)) wr)
 case atStart=>exact ⟨0,s,rfl,by omega,⟨rfl,HR.out,by simpa using HP.out.2.2.1,fun _=>rfl⟩,B⟩
 clear B
 obtain ⟨j,t,rfl,hj,A,hs⟩:=hrel
 by_cases O:j<zs.length
 · have ac:(j:Int)<zs.length:=by omega
   obtain ⟨z,hz⟩: ∃z,zs[j]?=some z:=⟨zs[j],by simp[O]⟩
   obtain ⟨hk,r,p,l⟩:=A.out
   have W:Bx t.its z=true:=by rw[l];exact HP.out.2.1 z (List.mem_of_getElem? hz)
   obtain ⟨b0,_,_,a4,a5⟩:=p.key W
   have P:m+j*U+U≤549755813888:=by
    have:=HP.out.2.2.2.1
    have h2:(j+1)*U≤zs.length*U:=Nat.mul_le_mul_right U O
    rw[Nat.add_mul] at h2
    omega
   have hw:=Xs C D t (m+j*U) z (R0*F) wr (hs.eq (by ac_rfl)) p (by omega) a4 a5
   have hw2:=FC p W
   have Ev:zs.drop j=z::zs.drop (j+1):=by
    rw[List.drop_eq_getElem_cons O]
    congr 1
    rw[List.getElem?_eq_getElem O] at hz;exact Option.some.inj hz
   rw[Ev] at r
   have f:(if (t.write z).1=0 then Ck.writes (zs.drop (j+1)) (t.write z).2 else t.write z)=R:=r
   have g: ∀y,Bx (t.write z).2.its y=Bx s.its y:=by
    intro y;rw[←l y,Kp]
   obtain ⟨⟨Y,rs⟩,x⟩:=Aq (t.write z)
   rw[x] at hw hw2 f g
   simp only at hw hw2 f g
   obtain ⟨b,o,rfl,hc⟩:=(HI.out _ _ hs).at hz
   have HK:=As hk
   have HH:=As g
   have HO:Aside (Bm (m+(j+1)*U) rs):=hw2.more (by rw[Nat.add_mul];omega)
   by_cases u:Y=0
   · subst u
     rw[if_pos rfl] at f
     have HW:=As f
     clear A hz hk r p l W a4 a5 P hw2 Ev f g x
     go_wp2_with fail
     refine hw.mono ?_
     rintro e w3 ⟨rfl,B⟩
     clear hw hs hc
     go_wp2_with fail
     go_roundg (zs.length-(j+1))
     case measure=>have:=HK.out;omega
     case rel=>exact ⟨j+1,rs,by go_num,by omega,⟨rfl,HW.out,HO.out,HH.out⟩,B.eq (by ac_rfl)⟩
   rw[if_neg u] at f
   have b2:(Y !=0)=true:=by simpa using u
   have HW:Aside (Z=(Y,rs)):=by
    show _=_
    rw[K.out,←f,if_neg u]
   clear A hz hk r p l W a4 a5 P hw2 Ev f g x u
   go_wp2_with fail
   refine hw.mono ?_
   rintro e w3 ⟨rfl,B⟩
   clear hw hs hc
   go_wp2
   go_ret
   rw[HW.out]
   exact ⟨rfl,(B.eq (BD _ _ _)).right⟩
 have ac: ¬(j:Int)<zs.length:=by omega
 obtain ⟨hk,r,p,l⟩:=A.out
 rw[List.drop_of_length_le (by omega)] at r
 have f:(0,t)=R:=r
 have I:Aside (Z=((if (t.d.sync t.nm).1=6 then 0 else (t.d.sync t.nm).1), { t with d:=(t.d.sync t.nm).2 })):=by
  show _=_
  rw[K.out,←f,if_pos rfl]
 have P:m+j*U≤549755813888:=by
  have:=HP.out.2.2.2.1
  have h2:j*U≤zs.length*U:=Nat.mul_le_mul_right U hj
  omega
 have aj:t.nm.size≤9223372036854775807:=I8 p.nm
 have V:=fun F w h=>cF D t.d (m+j*U) t.nm F w h aj p.dk (by unfold Mo;omega)
 obtain ⟨⟨Y,rd⟩,x⟩:=Aq (t.d.sync t.nm)
 rw[x] at V I
 simp only at V I
 have a1:=As V
 obtain ⟨L5,G,H,ad,ae⟩:=Sat.Cj (hs.right)
 unfold BF at ae
 have af:=As ad
 haveI:=ae.i
 clear A hk r p l f P V x K ad hs
 have v:Aside (∀w,Sat (Bv D rd*(coreC C L5 D G t*(C2 L5 t.cap t.its*(mp A9 G (H.map JZ)*AU H))*F)) w→Sat (Be C D { t with d:=rd } *F) w):=by
  intro w h
  refine Sat.AS (L:=L5) (PM:=G) (ps:=H) af.out (h.eq ?_)
  show _=coreC C L5 D G t*(C2 L5 t.cap t.its*(Bv D rd*(mp A9 G (H.map JZ)*AU H)))*F
  ac_rfl
 by_cases h6:Y=6
 · subst h6
   have M:Aside (Z=(0, { t with d:=rd })):=by show _=_;rw[I.out,if_pos rfl]
   clear I
   go_upto_region 10 with (fail)
   go_region_held3 (fun J=>J.cell? ⟨C,1,none⟩=some (.pointer (some ⟨D,0,none⟩))∧J.cell? ⟨C,2,none⟩=some (.string t.nm)) (first|exact ⟨Ac _ _ _,Ac _ _ _⟩) (first
    |(go_at_call 102;refine (a1.out _ _ (Ae (Bv D t.d))).mono ?_;rintro e w6 ⟨rfl,q⟩;haveI:=q.i))
   all_goals
    go_wp2
    go_ret
    rw[M.out]
    exact ⟨rfl,v.out _ (q.eq (by ac_rfl))⟩
 have M:Aside (Z=(Y, { t with d:=rd })):=by show _=_;rw[I.out,if_neg h6]
 clear I
 have ai:(Y !=6)=true:=by simpa using h6
 by_cases h0:Y=0
 · subst h0
   clear h6 ai
   go_upto_region 10 with (fail)
   go_region_held3 (fun J=>J.cell? ⟨C,1,none⟩=some (.pointer (some ⟨D,0,none⟩))∧J.cell? ⟨C,2,none⟩=some (.string t.nm)) (first|exact ⟨Ac _ _ _,Ac _ _ _⟩) (first
    |(go_at_call 102;refine (a1.out _ _ (Ae (Bv D t.d))).mono ?_;rintro e w6 ⟨rfl,q⟩;haveI:=q.i))
   all_goals
    go_wp2
    go_ret
    rw[M.out]
    exact ⟨rfl,v.out _ (q.eq (by ac_rfl))⟩
 have ax:(Y !=0)=true:=by simpa using h0
 clear h6 h0
 go_upto_region 10 with (fail)
 go_region_held3 (fun J=>J.cell? ⟨C,1,none⟩=some (.pointer (some ⟨D,0,none⟩))∧J.cell? ⟨C,2,none⟩=some (.string t.nm)) (first|exact ⟨Ac _ _ _,Ac _ _ _⟩) (first
  |(go_at_call 102;refine (a1.out _ _ (Ae (Bv D t.d))).mono ?_;rintro e w6 ⟨rfl,q⟩;haveI:=q.i))
 all_goals
  go_wp2
  go_ret
  rw[M.out]
  exact ⟨rfl,v.out _ (q.eq (by ac_rfl))⟩
def L3(s:ByteArray):Bool:=decide (1≤s.size)&&decide (s.size≤16)
theorem Pm(s:ByteArray):Dk.named s=(s.data.toList.all GU&&L3 s):=by
 unfold Dk.named L3 GU
 rw[Bool.and_comm]
theorem Ws(s:ByteArray)(w:World)(hs:s.size≤9223372036854775807):
 Calls Tryz.prog 111 #[.string s] w fun e l=>e= .returned (.bool (Dk.named s))∧w=l:=by
 obtain ⟨r,d⟩: ∃r,Aside (Dk.named s=r):=⟨_,rfl⟩
 rw[d.out]
 go_enter Tryz.func111,Tryz.ntmps111
 go_wp2
 go_loop [6] (fun i=> ∃k:Nat,k≤s.size∧i= .int .i64 k∧Aside ((s.data.toList.take k).all GU=true)) (fun i=>s.size-(intOf i).toNat)
 case atStart=>exact ⟨0,Nat.zero_le _,rfl,by simp[Aside]⟩
 obtain ⟨k,m,rfl,A⟩:=hrel
 by_cases b:k<s.size
 · have hb:=s[k].toNat_lt
   by_cases c1:s[k].toNat<97
   · have a:Aside (r=false):=by
      have:=Ke b (show GU s[k]=false by unfold GU;simp;omega)
      show _=_
      rw[←d.out,Pm,this];rfl
     go_wp2
     go_ret
     exact ⟨by rw[a.out];rfl,rfl⟩
   by_cases c2:122<s[k].toNat
   · have a:Aside (r=false):=by
      have:=Ke b (show GU s[k]=false by unfold GU;simp;omega)
      show _=_
      rw[←d.out,Pm,this];rfl
     go_wp2
     go_ret
     exact ⟨by rw[a.out];rfl,rfl⟩
   have j:Aside ((s.data.toList.take (k+1)).all GU=true):=by
    show _=true
    rw[Kw s k b,A.out]
    unfold GU;simp;omega
   go_wp2
   go_round
   case rel=>exact ⟨k+1,by omega,by go_num,j⟩
   case measure=>simp[intOf];omega
 have a:Aside (r=L3 s):=by
  have:=A.out
  rw[List.take_of_length_le (by simp;omega)] at this
  show _=_
  rw[←d.out,Pm,this];rfl
 clear A
 by_cases h1:1≤s.size
 · by_cases g:s.size≤16
   · have c:Aside (L3 s=true):=by show _=_;simp[L3,h1,g]
     have f:decide ((s.size:Int)≤16)=true:=by simp;omega
     go_wp2
     go_ret
     exact ⟨by rw[a.out,c.out];rfl,rfl⟩
   have c:Aside (L3 s=false):=by show _=_;simp[L3,g]
   have f:decide ((s.size:Int)≤16)=false:=by simp;omega
   go_wp2
   go_ret
   exact ⟨by rw[a.out,c.out];rfl,rfl⟩
 have c:Aside (L3 s=false):=by show _=_;simp[L3,h1]
 go_wp2
 go_ret
 exact ⟨by rw[a.out,c.out];rfl,rfl⟩
theorem aA(D:Nat)(d:Dk)(nm:ByteArray)(cap:Int)(F:Ab)(w:World)(hs:Sat (Bv D d*F) w)(l:Dk.named nm=true)(h1:1≤cap)(p:cap≤4096):
 Calls Tryz.prog 46 #[.pointer (some ⟨D,0,none⟩),.string nm,.int .i64 cap] w fun e m=> ∃C,e= .returned (.tuple #[.pointer (some ⟨C,0,none⟩),.int .i64 0])∧Sat (Be C D ⟨nm,cap,0,d,[],[]⟩*F) m:=by
 have c:=Ws nm w (I8 l)
 rw[l] at c
 have a:=eV cap _ w hs h1 p
 have q:= @run_makeMap Tryz.prog
 go_enter Tryz.func46,Tryz.ntmps46
 go_wp2_with fail
 refine c.mono ?_
 rintro e m ⟨rfl,rfl⟩
 go_wp2_with fail
 refine a.mono ?_
 rintro e f ⟨L,M,rfl,g⟩
 have j:=Sat.Hu (its:= []) rfl g
 have k:=j.CW (.map #[] 0)
 have i:=k.alloc #[.pointer (some ⟨L,0,none⟩),.pointer (some ⟨D,0,none⟩),.string nm,.int .i64 cap,.map (some f.heap.size),.int .i64 0] TC
 have e:(f.alloc (.map #[] 0)).heap.size=f.heap.size+1:=by simp
 rw[e] at i
 have n:=Sat.Eo (kf:=A9) (ms:= []) (b:=f.heap.size) (o:= .map #[] 0) ⟨#[],0,rfl,rfl,by simp,by simp⟩ (i.take (raw f.heap.size _))
 clear j k i e hs g c a
 go_wp2
 go_ret2
 refine ⟨f.heap.size+1,rfl,?_⟩
 refine Sat.AS (L:=L) (PM:=f.heap.size) (ps:= []) rfl (n.eq ?_)
 unfold BF coreC
 simp only[block,Sl.cells,AU,List.map_nil,Ay,Bg,List.length_cons,List.length_nil,Nat.zero_add,Nat.reduceAdd]
 ac_rfl
theorem Q'{m:Nat}{s:Ck}(ok:Bm m s)(k:Int):Bm m { s with its:=Fe s.its k } :=
 ⟨aL ok.Mi k,ok.nd,fun j=>by show Bx (Fe s.its k) j=_;rw[QD (fun _=>Yp)];exact ok.same j,by show _=(Fe s.its k).length;rw[(BO s.its k).length_eq];exact ok.len,ok.Au,ok.cap,by show ((Fe s.its k).length:Int)≤_;rw[(BO s.its k).length_eq];exact ok.most,ok.dk,ok.nm,ok.reads⟩
theorem iR{m:Nat}{s:Ck}(ok:Bm m s)(no:Int):Bm (m+U) (s.get no).2.2:=by
 unfold Ck.get
 split
 ·exact ok.more (by omega)
 split
 ·exact (Q' ok no).more (by omega)
 rename_i hr e
 have b:Bx s.its no=false:=by simpa using e
 simp only
 split
 ·rename_i f
  have hl:(s.d.read s.nm (no*256) 256).2.length=256:=P6 (n:=256) f
  have a:=Om ok b (by omega) (by omega) hl
  split
  ·exact ⟨a.Mi,a.nd,a.same,a.len,a.Au,a.cap,a.most,a.dk,a.nm,by
    have c:(s.take no (s.d.read s.nm (no*256) 256).2).2.reads=s.reads:=Lf s no _
    have:=ok.reads
    show 0≤(s.take no (s.d.read s.nm (no*256) 256).2).2.reads+1∧(s.take no (s.d.read s.nm (no*256) 256).2).2.reads+1≤((m+U:Nat):Int)
    rw[c];unfold U;omega⟩
  exact a
 exact ok.more (by omega)
theorem MH{m:Nat}{s:Ck}(ok:Bm m s)(no:Int)(b:List UInt8):Bm (m+U) (s.put no b).2:=by
 unfold Ck.put
 split
 ·exact ok.more (by omega)
 split
 ·rename_i hr a
  have h1:=(Q' ok no).mark no true
  have hp:(BI no s.CV).isSome=true:=by rw[←ok.same];exact a
  refine Bm.more (m:=m) ⟨h1.Mi,?_,?_,?_,?_,h1.cap,h1.most,h1.dk,h1.nm,h1.reads⟩ (by omega)
  ·show ((Ee no b s.CV).map (·.1)).Nodup
   rw[MF,hp];exact ok.nd
  ·intro k
   show Bx (Bu (Fe s.its no) no true) k=(BI k (Ee no b s.CV)).isSome
   rw[h1.same k,CZ]
   show (BI k s.CV).isSome=_
   split
   ·rename_i e;subst e;rw[hp];rfl
   rfl
  ·show (Ee no b s.CV).length=(Bu (Fe s.its no) no true).length
   rw[U7,hp]
   exact h1.len
  intro p d
  exact Rj (by omega) (by omega) (by omega) ok.Au p d
 rename_i hr a
 have c:Bx s.its no=false:=by simpa using a
 have f:=Om (b:=b) ok c (by omega) (by omega) (by omega)
 split
 ·exact f.mark no true
 exact f
theorem Im: ∀(l:List Int){m:Nat}{s:Ck},Bm m s→(∀k∈l,Bx s.its k=true)→Bm (m+l.length*U) (Ck.writes l s).2∧(Ck.writes l s).2.nm=s.nm
 | [],m,s,ok,_=>⟨ok.more (by omega),rfl⟩
 | k :: l, m, s, ok, h => by
  have h1:=FC ok (h k (by simp))
  have e:(k::l).length*U=l.length*U+U:=by rw[List.length_cons,Nat.add_mul];omega
  unfold Ck.writes
  split
  ·obtain ⟨a,b⟩:=Im l h1 fun j c=>by rw[Kp];exact h j (by simp[c])
   exact ⟨a.more (by rw[e];omega),by rw[b];exact (BW s k).1⟩
  exact ⟨h1.more (by rw[e];omega),(BW s k).1⟩
theorem OZ(its:List It):(BJ its).length≤its.length:=by
 unfold BJ Df
 rw[(List.mergeSort_perm _ _).length_eq,List.length_map]
 exact List.length_filter_le _ _
theorem KL{its:List It}{z:Int} :z∈BJ its↔ ∃n∈its,n.J1=true∧n.key=z:=by
 unfold BJ
 rw[MR,List.mem_map]
 constructor
 ·rintro ⟨n,h1,a⟩;exact ⟨n,(List.mem_filter.1 h1).1,(List.mem_filter.1 h1).2,a⟩
 rintro ⟨n,h1,a,b⟩;exact ⟨n,List.mem_filter.2 ⟨h1,a⟩,b⟩
theorem Fm{its:List It}{z:Int}(h:z∈BJ its):Bx its z=true:=by
 obtain ⟨n,h1,_,a⟩:=KL.1 h
 exact Br.2 (List.mem_map.2 ⟨n,h1,a⟩)
theorem T4{m:Nat}{s:Ck}(ok:Bm m s):Bm (m+s.its.length*U+1) s.flush.2:=by
 obtain ⟨h,c⟩:=Im (BJ s.its) ok fun k b=>Fm b
 have hl:=Nat.mul_le_mul_right U (OZ s.its)
 unfold Ck.flush
 simp only
 split
 ·have a:=eX h.dk (Ck.writes (BJ s.its) s).2.nm
  exact h.dT (by omega) (E8 a (by omega))
 exact h.more (by omega)
end Go.Proofs.YtfhbmblbidcmmaaGreat
namespace Go.Proofs.YtfhbmblbidcmmaaGreat
open Go.Dk
def A0(d:Dk)(nm:ByteArray):List UInt8:=((d.get nm).getD Dk.Jv).now
def QA(d:Dk)(nm:ByteArray):Bool:=((d.get nm).getD Dk.Jv).sure
def Gd(d:Dk)(nm:ByteArray):List UInt8:=((d.get nm).getD Dk.Jv).safe
theorem QI{l b:List UInt8}{k p q:Nat}(hp:p+q≤l.length)(h:k+b.length≤p∨p+q≤k):((laid l k b).drop p).take q=(l.drop p).take q:=by
 apply List.ext_getElem?
 intro i
 by_cases hi:i<q
 ·rw[List.getElem?_take_of_lt hi,List.getElem?_take_of_lt hi,List.getElem?_drop,List.getElem?_drop]
  unfold laid
  rcases h with h|h
  ·have h1:((l++List.replicate (k+b.length-l.length) 0).take k).length=k:=by simp;omega
   grind
  have h1:((l++List.replicate (k+b.length-l.length) 0).take k).length=k:=by simp;omega
  grind
 grind
theorem XL{l b:List UInt8}{k:Nat} :((laid l k b).drop k).take b.length=b:=by
 unfold laid
 grind
def Jk(d:Dk)(nm:ByteArray):Int:=(sum d.files:Int)-Ff (d.get nm)
theorem Vl(nm:ByteArray)(f:Fl): ∀l:List (ByteArray×Fl),(sum (D9 nm f l):Int)=sum l-Ff (D7 nm l)+f.now.length
 | []=>by simp[sum,D9,D7,Ff]
 | p :: l => by
  have e:=Vl nm f l
  have b:D9 nm f (p::l)=if nm=p.1 then (nm,f)::l else p::D9 nm f l:=rfl
  have c:D7 nm (p::l)=if nm=p.1 then some p.2 else D7 nm l:=rfl
  have a: ∀(q:ByteArray×Fl)(m:List (ByteArray×Fl)),sum (q::m)=q.2.now.length+sum m:=fun q m=>by simp[sum]
  rw[b,c]
  by_cases h:nm=p.1
  ·rw[if_pos h,if_pos h,a,a]
   have d:Ff (some p.2)=p.2.now.length:=rfl
   grind
  grind
theorem Sv{d d':Dk}{nm:ByteArray}{f:Fl}(h:d'.files=D9 nm f d.files):Jk d' nm=Jk d nm:=by
 have h1:=Vl nm f d.files
 have a:Ff (d'.get nm)=f.now.length:=by
  unfold Dk.get
  rw[h,CH,if_pos rfl]
  rfl
 unfold Jk
 rw[a,h,h1]
 simp[Dk.get]
structure Da (d:Dk) (nm:ByteArray):Prop where
 down:d.down=false
 FZ:d.FZ=false
 Aq:Dk.named nm=true
 nf:d.files.length+(if (d.get nm).isSome then 0 else 1)≤8
structure Wr (d:Dk) (nm:ByteArray) (k:Nat) (b:List UInt8) (d':Dk):Prop where
 le:k≤(A0 d nm).length
 ne:b.length≠0
 BU:Da d' nm
 now:A0 d' nm=laid (A0 d nm) k b
 safe:Gd d' nm=Gd d nm
 sure:QA d' nm=QA d nm
 BN:d'.BN=d.BN++FF nm k b
 room:d'.room=d.room
 other: ∀n,n≠nm→d'.get n=d.get n
 only:Jk d' nm=Jk d nm
 nN:(d'.get nm).isSome=true
theorem TA(d:Dk)(nm:ByteArray):Ff (d.get nm)=(A0 d nm).length:=by
 unfold Ff A0
 cases d.get nm<;>simp[Dk.Jv]
theorem Tw{d:Dk}{nm:ByteArray}(g:Da d nm){k:Nat}{b:List UInt8}(c:k≤(A0 d nm).length)(hb:b.length≠0):
 (d.write nm k b=(7,d)∨((d.write nm k b).1=0∧Wr d nm k b (d.write nm k b).2))∧
 (Jk d nm+((max (A0 d nm).length (k+b.length):Nat):Int)≤d.room→(d.write nm k b).1=0):=by
 have hm:=Si g.Aq g.down
 have o:=TA d nm
 have j:d.stop=false:=by unfold Dk.stop;simp[g.FZ]
 have i: ¬(((d.get nm).isNone&&decide (16≤d.files.length))=true):=by
  have:=g.nf
  grind
 have e:d.write nm k b=if d.fits (d.get nm) (max (Ff (d.get nm)) (k+b.length))≠0 then (d.fits (d.get nm) (max (Ff (d.get nm)) (k+b.length)),d) else (0,d.written nm k b):=by
  unfold Dk.write
  grind
 have m:d.fits (d.get nm) (max (Ff (d.get nm)) (k+b.length))=0∨d.fits (d.get nm) (max (Ff (d.get nm)) (k+b.length))=7:=by grind [Dk.fits]
 have l:Wr d nm k b (d.written nm k b):=by
  have a:(d.written nm k b).get nm=some { (d.get nm).getD Dk.Jv with now:=laid ((d.get nm).getD Dk.Jv).now k b } :=by simp[Dk.get,Dk.written,Dk.put,CH]
  refine ⟨c,hb,⟨g.down,g.FZ,g.Aq,?_⟩,?_,?_,by (unfold QA;rw[a];rfl),rfl,rfl,?_,?_,by rw[a];rfl⟩
  · rw[a]
    show (D9 nm _ d.files).length+_≤8
    rw[Hn]
    have:=g.nf
    unfold Dk.get at this
    grind
  · simp[a,A0]
  · simp[a,Gd]
  · intro n f
    unfold Dk.get Dk.written Dk.put
    rw[CH,if_neg f]
    rfl
  exact Sv rfl
 constructor
 · grind
 intro hr
 have h:d.fits (d.get nm) (max (Ff (d.get nm)) (k+b.length))=0:=by
  unfold Dk.fits
  unfold Jk at hr
  grind
 simp_all
def BR(l:List UInt8)(k:Int)(b:List UInt8):Prop:=0≤k∧256*k.toNat+256≤l.length∧(l.drop (256*k.toNat)).take 256=b
theorem Wr.EX{d d':Dk}{nm:ByteArray}{k:Nat}{b:List UInt8}(h:Wr d nm k b d'){j:Int}{c:List UInt8}(f:BR (A0 d nm) j c)(e:k+b.length≤256*j.toNat∨256*j.toNat+256≤k):BR (A0 d' nm) j c:=by
 obtain ⟨h0,h1,a⟩:=f
 refine ⟨h0,?_,?_⟩
 ·grind [h.now,De]
 rw[h.now,QI h1 e];exact a
theorem Wr.Au{d d':Dk}{nm:ByteArray}{j:Int}{b:List UInt8}(h:Wr d nm (256*j.toNat) b d')(hb:b.length=256)(h0:0≤j):BR (A0 d' nm) j b:=by
 refine ⟨h0,?_,?_⟩
 ·rw[h.now,De,hb];omega
 rw[h.now]
 have:=XL (l:=A0 d nm) (b:=b) (k:=256*j.toNat)
 simp_all
theorem Kj{d:Dk}{nm:ByteArray}(g:Da d nm):max 0 (d.size nm)=((A0 d nm).length:Int):=by
 unfold Dk.size A0
 by_cases h:(d.get nm).isSome=true
 ·obtain ⟨f,a⟩:=Option.isSome_iff_exists.1 h
  rw[if_neg (by rw[Fp g.Aq g.down a];simp)]
  rfl
 have b:d.get nm=none:=by simpa using h
 grind [Dk.Jv]
theorem JS{m:Nat}{s:Ck}(ok:Bm m s)(g:Da s.d s.nm){no:Int}{b:List UInt8}(w:s.CD no=true)(hb:BI no s.CV=some b):
 (∃a,(a=s.d∨ ∃n,Wr s.d s.nm (A0 s.d s.nm).length (List.replicate n 0) a∧(A0 s.d s.nm).length+n=256*no.toNat)∧Da a s.nm∧
   (s.write no=(7, { s with d:=a })∨ ∃j,Wr a s.nm (256*no.toNat) b j∧s.write no=(0, { s with d:=j,its:=Bu s.its no false })))∧
 (Jk s.d s.nm+((max (A0 s.d s.nm).length (256*no.toNat+256):Nat):Int)≤s.d.room→(s.write no).1=0):=by
 obtain ⟨hl,h0,h1⟩:=ok.Au _ (J6 hb)
 simp only at hl h0 h1
 have hp: ∀d,Ck.Au { s with d:=d } no=b:=by intro d;unfold Ck.Au;rw[hb];rfl
 have r:no*256=((256*no.toNat:Nat):Int):=by omega
 have f : ∀ a, Da a s.nm → 256 * no.toNat ≤ (A0 a s.nm).length →
  ((Ck.B4 { s with d := a } no = (7, { s with d := a }) ∨ ∃ j, Wr a s.nm (256 * no.toNat) b j ∧ Ck.B4 { s with d := a } no = (0, { s with d := j, its := Bu s.its no false })) ∧
   (Jk a s.nm+((max (A0 a s.nm).length (256*no.toNat+256):Nat):Int)≤a.room→(Ck.B4 { s with d:=a } no).1=0)):=by
  intro a v q
  obtain ⟨hw,hr⟩:=Tw v (k:=256*no.toNat) (b:=b) q (by omega)
  have e:Ck.B4 { s with d:=a } no=if (a.write s.nm ((256*no.toNat:Nat):Int) b).1=0 then (0, { s with d:=(a.write s.nm ((256*no.toNat:Nat):Int) b).2,its:=Bu s.its no false }) else ((a.write s.nm ((256*no.toNat:Nat):Int) b).1, { s with d:=(a.write s.nm ((256*no.toNat:Nat):Int) b).2 }):=by
   unfold Ck.B4
   rw[hp a,←r]
  constructor
  · rcases hw with hw|⟨hw1,hw2⟩
    · left
      rw[e,hw,if_neg (by simp)]
    right
    exact ⟨_,hw2,by rw[e,if_pos hw1]⟩
  intro c
  have:=hr (by rw[hl];exact c)
  rw[e,if_pos this]
 have t:=Kj g
 have i:s.write no=if max 0 (s.d.size s.nm)<no*256 then (if (s.pad no).1=0 then Ck.B4 { s with d:=(s.pad no).2 } no else ((s.pad no).1, { s with d:=(s.pad no).2 })) else s.B4 no:=by
  unfold Ck.write
  rw[if_neg (by simp[w])]
 by_cases o:max 0 (s.d.size s.nm)<no*256
 · rw[if_pos o] at i
   have u:(A0 s.d s.nm).length<256*no.toNat:=by omega
   have l:s.pad no=s.d.write s.nm ((A0 s.d s.nm).length:Int) (List.replicate (256*no.toNat-(A0 s.d s.nm).length) 0):=by
    unfold Ck.pad
    rw[t]
    congr 2
    omega
   obtain ⟨hw,hr⟩:=Tw g (k:=(A0 s.d s.nm).length) (b:=List.replicate (256*no.toNat-(A0 s.d s.nm).length) 0) (Nat.le_refl _) (by rw[List.length_replicate];omega)
   rw[←l] at hw hr
   rcases hw with hw|⟨hw1,hw2⟩
   · refine ⟨⟨s.d,.inl rfl,g,.inl ?_⟩,fun c=>?_⟩
     · rw[i,hw,if_neg (by simp)]
     exfalso
     have:=hr (by rw[List.length_replicate];omega)
     rw[hw] at this;cases this
   rw[if_pos hw1] at i
   have p:(A0 (s.pad no).2 s.nm).length=256*no.toNat:=by rw[hw2.now,De,List.length_replicate];omega
   obtain ⟨s1,s2⟩:=f (s.pad no).2 hw2.BU (by omega)
   refine ⟨⟨(s.pad no).2,.inr ⟨_,hw2,by omega⟩,hw2.BU,?_⟩,fun c=>?_⟩
   · rw[i];exact s1
   rw[i];exact s2 (by rw[p,hw2.room,hw2.only];omega)
 rw[if_neg o] at i
 obtain ⟨s1,s2⟩:=f s.d g (by omega)
 refine ⟨⟨s.d,.inl rfl,g,?_⟩,fun c=>?_⟩
 · rw[i];exact s1
 rw[i];exact s2 c
def Has(s:Ck)(k:Int)(b:List UInt8):Prop:=BI k s.CV=some b∨(BI k s.CV=none∧BR (A0 s.d s.nm) k b)
structure Good (T:Nat) (s:Ck):Prop where
 BU:Da s.d s.nm
 pins: ∀n∈s.its,n.pins=0
 clean: ∀n∈s.its,n.J1=false→ ∀b,BI n.key s.CV=some b→BR (A0 s.d s.nm) n.key b
 top:(A0 s.d s.nm).length≤256*T∧ ∀n∈s.its,n.key.toNat<T
def Roomy(T:Nat)(s:Ck):Prop:=Jk s.d s.nm+((256*T:Nat):Int)≤s.d.room
structure Kept (P:Int→List UInt8→Prop) (s:Ck):Prop where
 le:(Gd s.d s.nm).length≤(A0 s.d s.nm).length
 safe: ∀k b,P k b→BR (Gd s.d s.nm) k b
 BN: ∀p∈s.d.BN,p.nm=s.nm→ ∃x,p.b=some x∧ ∀k b,P k b→p.pos+x.length≤256*k.toNat∨256*k.toNat+256≤p.pos
 CD: ∀n∈s.its,n.J1=true→ ∀b,¬P n.key b
theorem Hj{s:Ck}{no:Int} :s.CD no=true↔ ∃n∈s.its,n.J1=true∧n.key=no:=by
 unfold Ck.CD
 rw[List.contains_iff_mem]
 exact KL
theorem RV: ∀{its:List It},(D5 its).Nodup→ ∀{a b:It},a∈its→b∈its→a.key=b.key→a=b
 | [],_,a,b,ha,_,_=>by simp at ha
 | x :: l, f, a, b, ha, hb, e => by
  unfold D5 at f
  rw[List.map_cons,List.nodup_cons] at f
  rcases List.mem_cons.1 ha with g|c
  ·grind
  rcases List.mem_cons.1 hb with i|d
  ·simp_all
  exact RV f.2 c d e
theorem Kept.wr{P:Int→List UInt8→Prop}{s:Ck}(h:Kept P s){f e:Dk}{k:Nat}{b:List UInt8}(g:Kept P { s with d:=f })(hw:Wr f s.nm k b e)(i: ∀j c,P j c→k+b.length≤256*j.toNat∨256*j.toNat+256≤k):Kept P { s with d:=e } :=by
 refine ⟨?_,?_,?_,h.CD⟩
 ·show (Gd e s.nm).length≤(A0 e s.nm).length
  rw[hw.safe,hw.now,De]
  have:=g.le
  grind
 ·intro j c m
  rw[hw.safe]
  exact g.safe j c m
 intro p hp n
 have a:p∈f.BN++FF s.nm k b:=by rw[←hw.BN];exact hp
 rcases List.mem_append.1 a with a|a
 ·exact g.BN p a n
 obtain ⟨_,l,h1,o,q⟩:=JK s.nm b.length k b (Nat.le_refl _) p a
 grind
theorem Kept.marks{P:Int→List UInt8→Prop}{s:Ck}(h:Kept P s)(k:Int):Kept P { s with its:=Bu s.its k false } :=by
 refine ⟨h.le,h.safe,h.BN,?_⟩
 intro n c hm
 have a:=c
 obtain ⟨x,hx,rfl⟩:=List.mem_map.1 a
 by_cases b:x.key=k
 ·simp_all
 rw[if_neg b] at hm⊢
 exact h.CD x hx hm
structure FY (T:Nat) (s:Ck) (no:Int) (e:Int) (s':Ck):Prop where
 code:e=0∨e=7
 Bn:Good T s'
 EX: ∀k b,k≠no→BR (A0 s.d s.nm) k b→BR (A0 s'.d s.nm) k b
 Au:e=0→ ∀b,BI no s.CV=some b→BR (A0 s'.d s.nm) no b
 roomy:Roomy T s→e=0∧Roomy T s'
 kept: ∀P,Kept P s→Kept P s'
 inv: ∀Q:Dk→Prop,(∀d k b d',Q d→Wr d s.nm k b d'→Q d')→Q s.d→Q s'.d
 done:e=0→ ∀n∈s'.its,n.key=no→n.J1=false
theorem Jd{m T:Nat}{s:Ck}{no:Int}(ok:Bm m s)(g:Good T s)(hh:Bx s.its no=true):FY T s no (s.write no).1 (s.write no).2:=by
 obtain ⟨b,hb,r,h0,h1⟩:=ok.key hh
 cases K:s.CD no with
 | false =>
  have e:s.write no=(0,s):=by unfold Ck.write;rw[if_pos K]
  rw[e]
  have J: ∀n∈s.its,n.key=no→n.J1=false:=by
   intro n f o
   cases hm:n.J1 with
   |false=>rfl
   |true=>rw[Hj.2 ⟨n,f,hm,o⟩] at K;cases K
  refine ⟨.inl rfl,g,fun k b _ h=>h,fun _ b hb=>?_,fun h=>⟨rfl,h⟩,fun P h=>h,fun Q _ h=>h,fun _=>J⟩
  obtain ⟨n,f,o⟩:=List.mem_map.1 (Br.1 hh)
  have:=g.clean n f (J n f o)
  simp_all
 | true =>
  obtain ⟨⟨I,t,X,y⟩,a0⟩:=JS ok g.BU K hb
  obtain ⟨nd,H,Y,B⟩:=Hj.1 K
  have a3:no.toNat<T:=by have:=g.top.2 nd H;rw[B] at this;exact this
  have l: ∀k c,BR (A0 s.d s.nm) k c→BR (A0 I s.nm) k c:=by
   intro k c h
   rcases t with rfl|⟨n,hw,_⟩
   · omega
   exact hw.EX h (.inr h.2.1)
  have G:(A0 I s.nm).length≤256*T:=by
   rcases t with rfl|⟨n,hw,f⟩
   · exact g.top.1
   grind [hw.now,De,List.length_replicate]
  have w:Jk I s.nm=Jk s.d s.nm∧I.room=s.d.room:=by
   rcases t with rfl|⟨n,hw,f⟩
   · omega
   exact ⟨hw.only,hw.room⟩
  have v: ∀P,Kept P s→Kept P { s with d:=I } :=by
   intro P h
   rcases t with rfl|⟨n,hw,f⟩
   · omega
   refine Kept.wr h h hw fun j c V=> .inr ?_
   have:=(h.safe j c V).2.1
   have:=h.le
   omega
  have u: ∀Q:Dk→Prop,(∀d k b d',Q d→Wr d s.nm k b d'→Q d')→Q s.d→Q I:=by grind
  have a6: ∀n∈s.its,n.key=no→n=nd:=fun n f o=>RV ok.Mi.nd f H (o.trans B.symm)
  have O:Roomy T s→(s.write no).1=0:=by grind [Roomy]
  rcases y with q|⟨U,hw2,q⟩
  · rw[q] at O⊢
    have R: ¬Roomy T s:=fun h=>by have:=O h;cases this
    refine ⟨.inr rfl,⟨X,g.pins,?_,⟨G,g.top.2⟩⟩,fun k c _ h=>l k c h,(fun h=>by cases h),fun h=>absurd h R,v,u,(fun h=>by cases h)⟩
    intro n f hm c q
    exact l _ _ (g.clean n f hm c q)
  rw[q]
  have p: ∀k c,k≠no→BR (A0 s.d s.nm) k c→BR (A0 U s.nm) k c:=by
   intro k c o h
   have h3:=l k c h
   refine hw2.EX h3 ?_
   rw[r]
   have:=h.1
   omega
  have M:=hw2.Au r h0
  refine ⟨.inl rfl,⟨hw2.BU,?_,?_,?_,?_⟩,p,fun _ c q=>?_,fun h=>⟨rfl,?_⟩,?_,fun Q hQ h=>hQ _ _ _ _ (u Q hQ h) hw2,?_⟩
  · intro n f
    have a:=f
    unfold Bu Ti at a
    obtain ⟨x,hx,rfl⟩:=List.mem_map.1 a
    have:=g.pins x hx
    split<;>exact this
  · intro n f hm c q
    have a:=f
    unfold Bu Ti at a
    obtain ⟨x,hx,rfl⟩:=List.mem_map.1 a
    have i:=q
    by_cases o:x.key=no
    · rw[if_pos o] at i⊢
      simp only at i⊢
      rw[o] at i⊢
      rw[hb] at i
      cases i
      exact M
    rw[if_neg o] at i hm⊢
    exact p _ _ o (g.clean x hx hm c i)
  · show (A0 U s.nm).length≤256*T
    rw[hw2.now,De,r];omega
  · intro n f
    have a:=f
    unfold Bu Ti at a
    obtain ⟨x,hx,rfl⟩:=List.mem_map.1 a
    have:=g.top.2 x hx
    split<;>exact this
  · rw[hb] at q;cases q;exact M
  · show Jk U s.nm+_≤U.room
    rw[hw2.room,w.2,hw2.only,w.1];exact h
  · intro P h
    have h2:=Kept.wr h (v P h) hw2 (by
     intro j c V
     rw[r]
     have Z:j≠no:=fun e=>by
      have:=h.CD nd H Y c
      rw[B,←e] at this
      exact this V
     have:=(h.safe j c V).1
     rcases Int.lt_trichotomy j no with W|W|W
     · right;omega
     · exact absurd W Z
     left;omega)
    exact Kept.marks h2 no
  intro _ n f o
  have a:=f
  unfold Bu Ti at a
  obtain ⟨x,hx,rfl⟩:=List.mem_map.1 a
  by_cases z:x.key=no
  · rw[if_pos z]
  rw[if_neg z] at o;exact absurd o z
structure Out (T:Nat) (s:Ck) (e:Int) (s':Ck):Prop where
 inv: ∀Q:Dk→Prop,(∀d k b d',Q d→Wr d s.nm k b d'→Q d')→Q s.d→Q s'.d
 code:e=0∨e=7
 Bn:Good T s'
 has: ∀k b,Has s k b→Has s' k b
 EX: ∀k b,Bx s.its k=false→BR (A0 s.d s.nm) k b→BR (A0 s'.d s.nm) k b
 roomy:Roomy T s→e=0∧Roomy T s'
 kept: ∀P,Kept P s→Kept P s'
 nm:s'.nm=s.nm
theorem FY.out{m T:Nat}{s:Ck}{no:Int}(ok:Bm m s)(d:Bx s.its no=true)(h:FY T s no (s.write no).1 (s.write no).2):Out T s (s.write no).1 (s.write no).2:=by
 obtain ⟨e,g,i,f,j⟩:=BW s no
 refine ⟨h.inv,h.code,h.Bn,?_,?_,h.roomy,h.kept,e⟩
 ·intro k b a
  unfold Has at a⊢
  rw[f,e]
  rcases a with a|⟨a,c⟩
  ·simp_all
  refine .inr ⟨a,h.EX k b ?_ c⟩
  rintro rfl
  rw[ok.same,a] at d;cases d
 intro k b a c
 refine h.EX k b ?_ c
 grind
theorem IP{m T:Nat}{s:Ck}{no:Int}(ok:Bm m s)(g:Good T s)(u:DB s.its no=true):Out T s (s.release no).1 (s.release no).2:=by
 have p:=E0 u
 have hw:=Jd ok g p
 have a:=hw.out ok p
 have l:=FC ok p
 obtain ⟨w,H,I,J,B⟩:=BW s no
 have q:DB (s.write no).2.its no=true:=by
  rcases B with e|e
  · simp_all
  rw[e,Ir];exact u
 unfold Ck.release
 by_cases v:(s.write no).1=0
 · rw [if_pos v]
   simp only[q,if_true]
   obtain ⟨G,y,_⟩:=ok.key p
   refine ⟨a.inv,.inl rfl,⟨a.Bn.BU,?_,?_,a.Bn.top.1,?_⟩,?_,a.EX,?_,?_,w⟩
   · intro n d;exact a.Bn.pins n (List.mem_filter.1 d).1
   · intro n d hm c z
     have t:n.key≠no:=by have:=(List.mem_filter.1 d).2;simpa using this
     have f:=z
     rw[FW l.nd,if_neg t] at f
     exact a.Bn.clean n (List.mem_filter.1 d).1 hm c f
   · intro n d;exact a.Bn.top.2 n (List.mem_filter.1 d).1
   · intro k b i
     have r:=a.has k b i
     unfold Has
     rw[FW l.nd]
     by_cases j:k=no
     ·subst j
      rw[if_pos rfl]
      refine .inr ⟨rfl,?_⟩
      rw[w]
      rcases i with i|⟨i,_⟩
      ·exact hw.Au v b i
      simp_all
     rw[if_neg j];exact r
   · intro hr;exact ⟨rfl,(a.roomy hr).2⟩
   intro P x
   have o:=a.kept P x
   exact ⟨o.le,o.safe,o.BN,fun n d hm=>o.CD n (List.mem_filter.1 d).1 hm⟩
 simp_all
theorem Out.refl{T:Nat}{s:Ck}(g:Good T s):Out T s 0 s:=⟨fun Q _ h=>h,.inl rfl,g,fun k b h=>h,fun k b _ h=>h,fun h=>⟨rfl,h⟩,fun P h=>h,rfl⟩
theorem Ki{m T:Nat}{s:Ck}(ok:Bm m s)(g:Good T s):Out T s s.room.1 s.room.2:=by
 unfold Ck.room
 by_cases c:(s.CV.length:Int)<s.cap
 ·rw[if_pos c];exact Out.refl g
 rw[if_neg c]
 cases b:NQ s.its with
 | none =>
  have h1:=ok.cap
  have e:=ok.len
  have d:0<s.its.length:=by omega
  obtain ⟨n,a⟩:=List.exists_mem_of_length_pos d
  have:=List.find?_eq_none.1 b n a
  simp[g.pins n a] at this
 |some n=>exact IP ok g (LJ b)
theorem Of{its:List It}{no:Int}{n:It}(h:n∈Bu its no true): ∃x∈its,n.key=x.key∧n.pins=x.pins∧(x.key=no→n.J1=true)∧(x.key≠no→n.J1=x.J1):=by
 unfold Bu Ti at h
 grind
structure hW (T:Nat) (s:Ck) (no:Int) (c:List UInt8) (e:Int) (s':Ck):Prop where
 inv: ∀Q:Dk→Prop,(∀d k b d',Q d→Wr d s.nm k b d'→Q d')→Q s.d→Q s'.d
 code:e=0∨e=7
 Bn:Good T s'
 has: ∀k b,k≠no∨e=7→Has s k b→Has s' k b
 put:e=0→Has s' no c
 roomy:Roomy T s→e=0∧Roomy T s'
 kept: ∀P,(∀b,¬P no b)→Kept P s→Kept P s'
 nm:s'.nm=s.nm
theorem bJ{m T : Nat}{s : Ck}{no : Int}{c : List UInt8}(ok : Bm m s)(g : Good T s)(h0 : 0 ≤ no)(h1 : no < 1048576)(B : no.toNat < T)(G : c.length = 256) : hW T s no c (s.put no c).1 (s.put no c).2 := by
 unfold Ck.put
 rw[if_neg (by omega)]
 cases H:Bx s.its no with
 | true =>
  rw[if_pos rfl]
  refine ⟨fun Q _ h=>h,.inl rfl,⟨g.BU,?_,?_,g.top.1,?_⟩,?_,fun _=> .inl ?_,fun h=>⟨rfl,h⟩,?_,rfl⟩
  ·intro n a
   obtain ⟨x,hx,_,q,_⟩:=Of a
   rw[q];exact g.pins x ((BO s.its no).mem_iff.1 hx)
  ·intro n a hm b hb
   obtain ⟨x,hx,i,q,v,r⟩:=Of a
   by_cases l:x.key=no
   · simp_all
   have j:=hb
   rw[CZ,i,if_neg l] at j
   rw[i]
   exact g.clean x ((BO s.its no).mem_iff.1 hx) (by rw[←r l];exact hm) b j
  ·intro n a
   obtain ⟨x,hx,i,_⟩:=Of a
   rw[i];exact g.top.2 x ((BO s.its no).mem_iff.1 hx)
  ·simp_all[Has,CZ]
  ·simp[CZ]
  intro P u l
  refine ⟨l.le,l.safe,l.BN,?_⟩
  intro n a hm b
  obtain ⟨x,hx,i,q,v,r⟩:=Of a
  rw[i]
  by_cases t:x.key=no
  ·simp_all
  exact l.CD x ((BO s.its no).mem_iff.1 hx) (by rw[←r t];exact hm) b
 | false =>
  rw[if_neg (by simp)]
  have d:=Ki ok g
  obtain ⟨r1,I,J,K⟩:=LX ok
  unfold Ck.take
  by_cases p:s.room.1=0
  ·rw [if_pos p]
   simp only[if_true]
   have z:Bx s.room.2.its no=false:=by grind
   have f: ∀n,n∈Bu (s.room.2.its++ [⟨no,0,false⟩]) no true→(n.key=no∧n.J1=true∧n.pins=0)∨n∈s.room.2.its∧n.key≠no:=by
    intro n a
    unfold Bu Ti at a
    rw[List.map_append] at a
    rcases List.mem_append.1 a with a|a
    · obtain ⟨x,hx,rfl⟩:=List.mem_map.1 a
      have o:x.key≠no:=fun e=>by
       have:Bx s.room.2.its no=true:=Br.2 (List.mem_map.2 ⟨x,hx,e⟩)
       simp_all
      simp_all
    simp_all
   refine ⟨d.inv,.inl rfl,⟨d.Bn.BU,?_,?_,d.Bn.top.1,?_⟩,?_,fun _=> .inl ?_,fun h=>⟨rfl,(d.roomy h).2⟩,?_,d.nm⟩
   · intro n a
     rcases f n a with ⟨_,_,h⟩|⟨h,_⟩
     · omega
     exact d.Bn.pins n h
   · intro n a hm b hb
     rcases f n a with ⟨_,h,_⟩|⟨h,o⟩
     · simp_all
     have j:=hb
     rw[CZ,if_neg o] at j
     exact d.Bn.clean n h hm b j
   · intro n a
     rcases f n a with ⟨h,_,_⟩|⟨h,_⟩
     · omega
     exact d.Bn.top.2 n h
   · intro k b l hs
     have y:k≠no:=l.resolve_right (fun e=>by cases e)
     have i:=d.has k b hs
     simp_all[Has,CZ]
   · simp[CZ]
   intro P u l
   have i:=d.kept P l
   refine ⟨i.le,i.safe,i.BN,?_⟩
   intro n a hm b
   rcases f n a with ⟨h,_,_⟩|⟨h,_⟩
   · rw[h];exact u b
   exact i.CD n h hm b
  rw[if_neg p,if_neg p]
  have w:=d.code.resolve_left p
  exact ⟨d.inv,.inr w,d.Bn,fun k b _ h=>d.has k b h,fun h=>absurd h p,d.roomy,fun P _ h=>d.kept P h,d.nm⟩
theorem Lp{d:Dk}{nm:ByteArray}(g:Da d nm){no:Int}(h0:0≤no):
 (256*no.toNat+256≤(A0 d nm).length∧d.read nm (no*256) 256=(0,((A0 d nm).drop (256*no.toNat)).take 256))∨
 ((A0 d nm).length<256*no.toNat+256∧((d.read nm (no*256) 256).1=2∨(d.read nm (no*256) 256).1=6)):=by
 cases a:d.get nm with
 | none =>
  right
  refine ⟨by unfold A0;rw[a];simp[Dk.Jv],.inr ?_⟩
  unfold Dk.read
  have:=I7 g.Aq g.down a
  simp_all
 | some f =>
  have hm:=Fp (t:=true) g.Aq g.down a
  have b:A0 d nm=f.now:=by unfold A0;rw[a];rfl
  unfold Dk.read
  grind
structure V6 (T:Nat) (s:Ck) (no:Int) (e:Int) (c:List UInt8) (s':Ck):Prop where
 inv: ∀Q:Dk→Prop,(∀d k b d',Q d→Wr d s.nm k b d'→Q d')→Q s.d→Q s'.d
 code:e=0∨e=7∨e=6
 Bn:Good T s'
 has: ∀k b,Has s k b→Has s' k b
 lH: ∀b,Has s no b→e=7∨(e=0∧c=b)
 len:e=0→c.length=256
 none:e≠0→c= []
 nV:T≤no.toNat→e=6
 roomy:Roomy T s→e≠7∧Roomy T s'
 kept: ∀P,Kept P s→Kept P s'
 nm:s'.nm=s.nm
theorem Ly{m T:Nat}{s:Ck}{no:Int}(ok:Bm m s)(g:Good T s)(h0:0≤no)(h1:no<1048576):V6 T s no (s.get no).1 (s.get no).2.1 (s.get no).2.2:=by
 unfold Ck.get
 rw[if_neg (by omega)]
 cases u:Bx s.its no with
 | true =>
  rw[if_pos rfl]
  obtain ⟨b,hb,hl,_⟩:=ok.key u
  have hp:s.Au no=b:=by unfold Ck.Au;rw[hb];rfl
  simp only[hp]
  refine ⟨fun Q _ h=>h,.inl rfl,⟨g.BU,?_,?_,g.top.1,?_⟩,fun k b h=>h,?_,fun _=>hl,fun h=>absurd rfl h,?_,fun h=>⟨by decide,h⟩,?_,rfl⟩
  · intro n a;exact g.pins n ((BO s.its no).mem_iff.1 a)
  · intro n a;exact g.clean n ((BO s.its no).mem_iff.1 a)
  · intro n a;exact g.top.2 n ((BO s.its no).mem_iff.1 a)
  · intro c j
    rcases j with j|⟨j,_⟩
    · simp_all
    simp_all
  · intro y
    obtain ⟨n,a,z⟩:=List.mem_map.1 (Br.1 u)
    have:=g.top.2 n a
    omega
  intro P o
  exact ⟨o.le,o.safe,o.BN,fun n a=>o.CD n ((BO s.its no).mem_iff.1 a)⟩
 | false =>
  rw[if_neg (by simp)]
  have v:BI no s.CV=none:=by
   have:=ok.same no
   simp_all
  rcases Lp g.BU h0 with ⟨hl,hr⟩|⟨hl,hr⟩
  · simp only[hr]
    rw[if_pos trivial]
    obtain ⟨c,j⟩:=Aq (((A0 s.d s.nm).drop (256*no.toNat)).take 256)
    rw[j]
    have r:c.length=256:=by rw[←j];simp;omega
    have t:BR (A0 s.d s.nm) no c:=⟨h0,hl,j⟩
    have G:no.toNat<T:=by have:=g.top.1;omega
    have f:=Ki ok g
    obtain ⟨r1,I,J,K⟩:=LX ok
    have w: ∀b,Has s no b→c=b:=by
     intro b hb
     rcases hb with hb|⟨_,hb⟩
     · simp_all
     rw[←j];exact hb.2.2
    unfold Ck.take
    by_cases p:s.room.1=0
    · rw [if_pos p]
      simp only[if_true]
      have H:Bx s.room.2.its no=false:=by grind
      refine ⟨f.inv,.inl rfl,⟨f.Bn.BU,?_,?_,f.Bn.top.1,?_⟩,?_,fun b hb=> .inr ⟨rfl,w b hb⟩,fun _=>r,fun h=>absurd rfl h,fun y=>by omega,fun h=>⟨by decide,(f.roomy h).2⟩,?_,f.nm⟩
      · intro n a
        rcases List.mem_append.1 a with a|a
        ·exact f.Bn.pins n a
        simp_all
      · intro n a hm b hb
        have i:=hb
        rw[CZ] at i
        rcases List.mem_append.1 a with a|a
        ·have l:n.key≠no:=fun e=>by
          have:Bx s.room.2.its no=true:=Br.2 (List.mem_map.2 ⟨n,a,e⟩)
          simp_all
         rw[if_neg l] at i
         exact f.Bn.clean n a hm b i
        simp at a
        subst a
        simp only[if_true] at i
        cases i
        show BR (A0 s.room.2.d s.room.2.nm) no c
        rw[f.nm]
        exact f.EX no c u t
      · intro n a
        rcases List.mem_append.1 a with a|a
        ·exact f.Bn.top.2 n a
        simp_all
      · intro k b z
        have q:=f.has k b z
        grind [Has,CZ]
      intro P o
      have q:=f.kept P o
      refine ⟨q.le,q.safe,q.BN,?_⟩
      intro n a hm b
      rcases List.mem_append.1 a with a|a
      · exact q.CD n a hm b
      simp at a;subst a;cases hm
    rw[if_neg p,if_neg p]
    have x:=f.code.resolve_left p
    refine ⟨f.inv,.inr (.inl x),f.Bn,f.has,fun b _=> .inl x,fun h=>absurd h p,fun _=>rfl,fun y=>by omega,fun h=>absurd (f.roomy h).1 p,f.kept,f.nm⟩
  simp only
  have l:(s.d.read s.nm (no*256) 256).1≠0:=by rcases hr with h|h<;>rw[h]<;>decide
  rw[if_neg l]
  have B:(if (s.d.read s.nm (no*256) 256).1=2 then 6 else (s.d.read s.nm (no*256) 256).1)=6:=by
   rcases hr with h|h
   · rw[if_pos h]
   rw[if_neg (by rw[h];decide),h]
  simp only[B]
  refine ⟨fun Q _ h=>h,.inr (.inr rfl),g,fun k b h=>h,?_,(fun h=>by cases h),fun _=>rfl,fun _=>rfl,fun h=>⟨by decide,h⟩,fun P h=>h,rfl⟩
  intro b hb
  rcases hb with hb|⟨_,hb⟩
  · rw[v] at hb;cases hb
  have:=hb.2.1;omega
structure RF (T:Nat) (s:Ck) (e:Int) (s':Ck):Prop where
 inv: ∀Q:Dk→Prop,(∀d k b d',Q d→Wr d s.nm k b d'→Q d')→Q s.d→Q s'.d
 code:e=0∨e=7
 Bn:Good T s'
 has: ∀k b,Has s k b→Has s' k b
 roomy:Roomy T s→e=0∧Roomy T s'
 kept: ∀P,Kept P s→Kept P s'
 nm:s'.nm=s.nm
theorem Out.e{T:Nat}{s s':Ck}{e:Int}(h:Out T s e s'):RF T s e s':=⟨h.inv,h.code,h.Bn,h.has,h.roomy,h.kept,h.nm⟩
theorem RF.refl{T:Nat}{s:Ck}(g:Good T s):RF T s 0 s:=(Out.refl g).e
theorem RF.trans{T:Nat}{s s1 s2:Ck}{d e:Int}(h:RF T s d s1)(a:RF T s1 e s2):RF T s e s2:=
 ⟨fun Q c hq=>a.inv Q (by rw[h.nm];exact c) (h.inv Q c hq),a.code,a.Bn,fun k b g=>a.has k b (h.has k b g),fun hr=>a.roomy (h.roomy hr).2,fun P f=>a.kept P (h.kept P f),a.nm.trans h.nm⟩
theorem NN: ∀(l:List Int){m T:Nat}{s:Ck},Bm m s→Good T s→(∀k∈l,Bx s.its k=true)→
 RF T s (Ck.writes l s).1 (Ck.writes l s).2∧((Ck.writes l s).1=0→ ∀n∈(Ck.writes l s).2.its,n.J1=true→n.key∉l∧ ∃x∈s.its,x.key=n.key∧x.J1=true)
 | [],m,T,s,ok,g,_=>⟨RF.refl g,fun _ n c hm=>⟨by simp,n,c,rfl,hm⟩⟩
 | k :: l, m, T, s, ok, g, h => by
  have b:=h k (by simp)
  have hw:=Jd ok g b
  have h1:=(hw.out ok b).e
  unfold Ck.writes
  by_cases d:(s.write k).1=0
  ·rw[if_pos d]
   obtain ⟨f,i⟩:=NN l (FC ok b) h1.Bn fun j o=>by rw[Kp];exact h j (by simp[o])
   refine ⟨h1.trans f,fun h0 n c hm=>?_⟩
   obtain ⟨r,x,hx,q,a⟩:=i h0 n c hm
   have p:x.key≠k:=fun e=>by rw[hw.done d x hx e] at a;cases a
   refine ⟨?_,?_⟩
   ·simp_all
   rcases (BW s k).2.2.2.2 with e|e
   ·simp_all
   rw[e] at hx
   unfold Bu Ti at hx
   grind
  simp_all
structure ZN (T:Nat) (s:Ck) (e:Int) (s':Ck):Prop where
 code:e=0∨e=7
 Bn:Good T s'
 has: ∀k b,Has s k b→Has s' k b
 roomy:Roomy T s→e=0∧Roomy T s'
 EX:e=0→ ∀k b,Has s' k b→BR (A0 s'.d s'.nm) k b
 kept:e=0→Kept (fun k b=>BR (A0 s'.d s'.nm) k b) s'
 sure:e=0→ ∀f,s'.d.get s'.nm=some f→f.sure=true
 nm:s'.nm=s.nm
theorem O8{m T : Nat}{s : Ck}(ok : Bm m s)(g : Good T s) : ZN T s s.flush.1 s.flush.2 := by
 obtain ⟨h1,z⟩:=NN (BJ s.its) ok g fun k i=>Fm i
 have q:=(Im (BJ s.its) ok fun k i=>Fm i).1
 unfold Ck.flush
 simp only
 obtain ⟨⟨e,t⟩,hr⟩:=Aq (Ck.writes (BJ s.its) s)
 rw[hr] at h1 z q⊢
 simp only at h1 z q⊢
 by_cases v:e=0
 ·subst v
  rw[if_pos rfl]
  have l: ∀n∈t.its,n.J1=false:=by
   intro n o
   cases hm:n.J1 with
   |false=>rfl
   | true =>
     obtain ⟨B,x,hx,J,K⟩:=z rfl n o hm
     exact absurd (KL.2 ⟨x,hx,K,J⟩) B
  have U:t.d.stop=false:=by unfold Dk.stop;simp[h1.Bn.BU.FZ]
  have a: ∀k b,Has t k b→BR (A0 t.d t.nm) k b:=by
   intro k b i
   rcases i with i|⟨_,i⟩
   · have O:Bx t.its k=true:=by rw[q.same,i];rfl
     obtain ⟨n,o,Q⟩:=List.mem_map.1 (Br.1 O)
     have:=h1.Bn.clean n o (l n o)
     simp_all
   omega
  cases r:t.d.get t.nm with
  | none =>
    have y:=I7 h1.Bn.BU.Aq h1.Bn.BU.down r
    have u:t.d.sync t.nm=(6,t.d):=by unfold Dk.sync;rw[if_pos (by rw[y];decide),y]
    rw[u]
    have P:A0 t.d t.nm= []:=by unfold A0;rw[r];rfl
    refine ⟨.inl rfl,h1.Bn,h1.has,fun h=>⟨rfl,(h1.roomy h).2⟩,fun _=>a,fun _=>⟨?_,?_,?_,?_⟩,(fun _ f w=>by rw[r] at w;cases w),h1.nm⟩
    · simp[r,Dk.Jv,Gd]
    · intro k b i
      have:=i.2.1
      simp_all
    · intro p hp o
      have:=q.dk.pn p hp
      simp_all
    simp_all
  | some f =>
    have hm:=Fp (t:=true) h1.Bn.BU.Aq h1.Bn.BU.down r
    have u:t.d.sync t.nm=(0,(t.d.BV.put t.nm { f with safe:=f.now,sure:=true }).settled t.nm):=by
     unfold Dk.sync
     simp_all
    rw[u]
    have c:((t.d.BV.put t.nm { f with safe:=f.now,sure:=true }).settled t.nm).get t.nm=some { f with safe:=f.now,sure:=true } :=by simp[Dk.get,Dk.settled,Dk.put,CH]
    have j:A0 ((t.d.BV.put t.nm { f with safe:=f.now,sure:=true }).settled t.nm) t.nm=A0 t.d t.nm:=by simp[c,r,A0]
    have I:Gd ((t.d.BV.put t.nm { f with safe:=f.now,sure:=true }).settled t.nm) t.nm=A0 t.d t.nm:=by simp[c,r,Gd,A0]
    refine ⟨.inl rfl,⟨⟨h1.Bn.BU.down,h1.Bn.BU.FZ,h1.Bn.BU.Aq,?_⟩,h1.Bn.pins,?_,?_,h1.Bn.top.2⟩,?_,fun h=>⟨rfl,?_⟩,fun _=>?_,fun _=>⟨?_,?_,?_,?_⟩,(fun _ V w=>by rw[c] at w;cases w;rfl),h1.nm⟩
    · rw[c]
      show (D9 t.nm _ t.d.files).length+_≤8
      have B:(D7 t.nm t.d.files).isSome=true:=by
       have:t.d.get t.nm=D7 t.nm t.d.files:=rfl
       simp_all
      rw[Hn,if_pos B]
      have:=h1.Bn.BU.nf
      simp_all
    · intro n o hm b hb
      rw[j]
      exact h1.Bn.clean n o hm b hb
    · show (A0 ((t.d.BV.put t.nm { f with safe:=f.now,sure:=true }).settled t.nm) t.nm).length≤_
      rw[j];exact h1.Bn.top.1
    · intro k b i
      have:=h1.has k b i
      unfold Has at this⊢
      simp_all
    · have R:=(h1.roomy h).2
      unfold Roomy at R⊢
      show Jk ((t.d.BV.put t.nm { f with safe:=f.now,sure:=true }).settled t.nm) t.nm+_≤t.d.room
      rw[Sv (d:=t.d) (d':=(t.d.BV.put t.nm { f with safe:=f.now,sure:=true }).settled t.nm) (f:= { f with safe:=f.now,sure:=true }) rfl]
      omega
    · intro k b i
      rw[j]
      refine a k b ?_
      unfold Has at i⊢
      simp_all
    · simp_all
    · simp_all
    · intro p hp o
      have H:=hp
      have:=(List.mem_filter.1 H).2
      have G:=o
      rw[G,Mp] at this
      simp_all
    simp_all
 rw[if_neg v]
 have M:=h1.code.resolve_left v
 exact ⟨.inr M,h1.Bn,h1.has,fun h=>absurd (h1.roomy h).1 v,fun h=>absurd h v,fun h=>absurd h v,fun h=>absurd h v,h1.nm⟩
structure Bp (a:Nat) (nm:ByteArray) (d d':Dk):Prop where
 changes:d'.changes≤d.changes+a
 left:d.left≤d'.left+a
 BN:d'.BN.length+(A0 d nm).length≤d.BN.length+(A0 d' nm).length+256*a
 len:(A0 d nm).length≤(A0 d' nm).length
 cap:(A0 d' nm).length≤max (A0 d nm).length 268435456
theorem Bp.MK(nm:ByteArray)(d:Dk):Bp 0 nm d d:=⟨by omega,by omega,by omega,by omega,by omega⟩
theorem Bp.trans{a b:Nat}{nm:ByteArray}{d d' c:Dk}(h:Bp a nm d d')(k:Bp b nm d' c):Bp (a+b) nm d c:=by
 obtain ⟨h1,e,f,g,i⟩:=h
 obtain ⟨j,l,m,n,o⟩:=k
 exact ⟨by omega,by omega,by omega,by omega,by omega⟩
theorem Bp.more{a b:Nat}{nm:ByteArray}{d d':Dk}(h:Bp a nm d d')(k:a≤b):Bp b nm d d':=by
 obtain ⟨h1,c,e,f,g⟩:=h
 exact ⟨by omega,by omega,by omega,by omega,by omega⟩
theorem f'(d:Dk)(nm:ByteArray)(k:Int)(b:List UInt8)(h:b.length≤256∨k=(A0 d nm).length)(a:b.length=0∨k+b.length≤268435456):Bp 1 nm d (d.write nm k b).2:=by
 have same:Bp 1 nm d d:=(Bp.MK nm d).more (by omega)
 unfold Dk.write
 split
 · omega
 split
 · omega
 rename_i g
 split
 · omega
 split
 · omega
 split
 · exact ⟨same.changes,same.left,same.BN,same.len,same.cap⟩
 have c:(d.written nm k.toNat b).get nm=some { (d.get nm).getD Dk.Jv with now:=laid ((d.get nm).getD Dk.Jv).now k.toNat b } :=by simp[Dk.get,Dk.written,Dk.put,CH]
 have i:A0 (d.written nm k.toNat b) nm=laid (A0 d nm) k.toNat b:=by unfold A0;rw[c];rfl
 have hl:=De (A0 d nm) k.toNat b
 have hs:=PB nm b.length k.toNat b (Nat.le_refl _)
 have hp:(d.written nm k.toNat b).BN.length=d.BN.length+(FF nm k.toNat b).length:=by
  show (d.BN++FF nm k.toNat b).length=_
  simp
 have f:(d.written nm k.toNat b).changes=d.changes+1:=rfl
 have e:(d.written nm k.toNat b).left=d.left-1:=rfl
 refine ⟨?_,?_,?_,?_,?_⟩
 · simp_all
 · simp_all
 · grind
 · grind
 grind
theorem size_eq(d:Dk)(nm:ByteArray):max 0 (d.size nm)=((A0 d nm).length:Int)∨d.size nm= -1:=by grind [Dk.size,A0]
theorem J4{m:Nat}{s:Ck}(ok:Bm m s)(no:Int):(s.Au no).length≤256:=by
 unfold Ck.Au
 cases h:BI no s.CV with
 |none=>simp
 |some b=>have:=(ok.Au _ (J6 h)).1;simp at this⊢;omega
theorem jE(s:Ck)(no:Int)(a:no≤1048576):Bp 1 s.nm s.d (s.pad no).2:=by
 unfold Ck.pad
 by_cases hm:s.d.may s.nm false=0
 ·refine f' _ _ _ _ (.inr ?_) (by rw[List.length_replicate];omega)
  rcases size_eq s.d s.nm with h|h
  · omega
  rw[h]
  have:s.d.get s.nm=none:=by
   unfold Dk.size at h
   cases b:s.d.get s.nm with
   |none=>rfl
   | some f =>
     have:s.d.may s.nm true=0:=by
      unfold Dk.may at hm⊢
      simp_all
     omega
  unfold A0
  rw[this]
  rfl
 have e:(s.d.write s.nm (max 0 (s.d.size s.nm)) (List.replicate (no*256-max 0 (s.d.size s.nm)).toNat 0)).2=s.d:=by simp_all[Dk.write]
 rw[e]
 exact (Bp.MK _ _).more (by omega)
theorem ZJ{m:Nat}{s:Ck}(ok:Bm m s)(no:Int)(a:no<1048576):Bp 1 s.nm s.d (s.B4 no).2.d:=by
 have h:=f' s.d s.nm (no*256) (s.Au no) (.inl (J4 ok no)) (.inr (by have:=J4 ok no;omega))
 grind [Ck.B4]
theorem Vz{m:Nat}{s:Ck}(ok:Bm m s)(no:Int)(a:no<1048576):Bp 2 s.nm s.d (s.write no).2.d:=by
 unfold Ck.write
 split
 ·exact (Bp.MK _ _).more (by omega)
 split
 ·have hp:=jE s no (by omega)
  split
  ·have h:=f' (s.pad no).2 s.nm (no*256) (s.Au no) (.inl (J4 ok no)) (.inr (by have:=J4 ok no;omega))
   exact hp.trans (b:=1) (by unfold Ck.B4;split<;>exact h)
  exact hp.more (by omega)
 exact (ZJ ok no a).more (by omega)
theorem WM{m:Nat}{s:Ck}(ok:Bm m s)(no:Int)(a:no<1048576):Bp 2 s.nm s.d (s.release no).2.d:=by
 have h:=Vz ok no a
 grind [Ck.release]
theorem fJ{m:Nat}{s:Ck}(ok:Bm m s):Bp 2 s.nm s.d s.room.2.d:=by
 unfold Ck.room
 split
 ·exact (Bp.MK _ _).more (by omega)
 split
 ·exact (Bp.MK _ _).more (by omega)
 rename_i n a
 refine WM ok _ ?_
 obtain ⟨b,hb⟩:=ok.key (k:=n.key) (Br.2 (List.mem_map.2 ⟨n,(XY a).1,rfl⟩))
 omega
theorem Yk{m:Nat}{s:Ck}(ok:Bm m s)(no:Int)(b:List UInt8):Bp 2 s.nm s.d (s.take no b).2.d:=by
 have h:=fJ ok
 grind [Ck.take]
theorem Wc{m:Nat}{s:Ck}(ok:Bm m s)(no:Int):Bp 2 s.nm s.d (s.get no).2.2.d∧(s.get no).2.2.reads≤s.reads+1:=by
 have same:Bp 2 s.nm s.d s.d:=(Bp.MK _ _).more (by omega)
 unfold Ck.get
 split
 ·grind
 split
 ·grind
 simp only
 split
 ·have h:=Yk ok no (s.d.read s.nm (no*256) 256).2
  have hr:=Lf s no (s.d.read s.nm (no*256) 256).2
  grind
 grind
theorem WA{m:Nat}{s:Ck}(ok:Bm m s)(no:Int)(b:List UInt8):Bp 2 s.nm s.d (s.put no b).2.d∧(s.put no b).2.reads=s.reads:=by
 have same:Bp 2 s.nm s.d s.d:=(Bp.MK _ _).more (by omega)
 unfold Ck.put
 split
 ·simp_all
 split
 ·simp_all
 have h:=Yk ok no b
 have hr:=Lf s no b
 grind
structure cW (N:Nat) (s:Ck):Prop where
 changes:s.d.changes≤2*N
 left: -(2*N:Int)≤s.d.left
 BN:s.d.BN.length≤512*N+(A0 s.d s.nm).length
 reads:s.reads≤N
 len:(A0 s.d s.nm).length≤268435456
theorem cW.ok{m N:Nat}{s:Ck}(ok:Bm m s)(h:cW N s)(B:N≤134217728):Bm 137438953472 s:=by
 obtain ⟨h1,w,x,y,z⟩:=h
 obtain ⟨k,l,n,o,p,q,r,t,u,a⟩:=ok
 obtain ⟨b,c,d,e,v,f,g,i,j⟩:=t
 exact ⟨k,l,n,o,p,q,r,⟨b,c,⟨by omega,d.2⟩,⟨e.1,by omega⟩,by omega,f,g,i,j⟩,u,⟨a.1,by omega⟩⟩
theorem cW.step{N:Nat}{s s':Ck}(h:cW N s)(a:s'.nm=s.nm)(hb:Bp 2 s.nm s.d s'.d)(hr:s'.reads≤s.reads+1):cW (N+1) s':=by
 obtain ⟨h1,g,i,j,k⟩:=h
 obtain ⟨b,b2,c,e,f⟩:=hb
 exact ⟨by omega,by omega,by rw[a];omega,by omega,by rw[a];omega⟩
