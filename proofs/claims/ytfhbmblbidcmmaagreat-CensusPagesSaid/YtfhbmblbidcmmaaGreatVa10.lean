/- censusPages holds for every input. No condition. (part 10) -/
import Derived.Test.YtfhbmblbidcmmaaGreatVa8
import Derived.Test.YtfhbmblbidcmmaaGreatVa9
set_option linter.all false
set_option maxRecDepth 100000
set_option maxHeartbeats 1000000
namespace Go.Proofs.YtfhbmblbidcmmaaGreat
open Go.RowKit Go.Sl Go.Dk
open Go.PW (A8)
attribute [go_sem] Go.Sl.Ac Go.Sl.Iw
abbrev TC:TypeId:=203
abbrev X':TypeId:=201
structure Pg where
 key:Int
 v:Value
 b:List UInt8
def Ju(p:Pg):Int×Value:=(p.key,p.v)
def AX:List Pg→Ab
 | []=>1
 |p::l=>rw TB 1 p.v (A0 p.b)*AX l
def BP(ps:List Pg):Tf:=ps.map fun p=>(p.key,p.b)
def coreC(C L D PM:Nat)(s:Ck):Ab:=
 Ew C TC 6*(Sl.cell C 0 (.pointer (some ⟨L,0,none⟩))*(Sl.cell C 1 (.pointer (some ⟨D,0,none⟩))*(Sl.cell C 2 (.string s.nm)*(Sl.cell C 3 (.int .i64 s.cap)*(Sl.cell C 4 (.map (some PM))*Sl.cell C 5 (.int .i64 s.reads))))))
section
variable (C L D PM:Nat) (s:Ck)
instance:Em (coreC C L D PM s) C 0 (.pointer (some ⟨L,0,none⟩)):=by unfold coreC;infer_instance
instance:Em (coreC C L D PM s) C 1 (.pointer (some ⟨D,0,none⟩)):=by unfold coreC;infer_instance
instance:Em (coreC C L D PM s) C 2 (.string s.nm):=by unfold coreC;infer_instance
instance:Em (coreC C L D PM s) C 3 (.int .i64 s.cap):=by unfold coreC;infer_instance
instance:Em (coreC C L D PM s) C 4 (.map (some PM)):=by unfold coreC;infer_instance
instance:Em (coreC C L D PM s) C 5 (.int .i64 s.reads):=by unfold coreC;infer_instance
instance(n:Int):VN (coreC C L D PM s) C 5 (.int .i64 n) (coreC C L D PM { s with reads:=n }):=by unfold coreC;infer_instance
end
def BF(C L D PM:Nat)(ps:List Pg)(s:Ck):Ab:=coreC C L D PM s*(C6 L s.cap s.its*(Bk D s.d*(mp A8 PM (ps.map Ju)*AX ps)))
def AU(C D:Nat)(s:Ck):Ab:=ex fun x:Nat×Nat×List Pg=>dX (BP x.2.2=s.CS)*BF C x.1 D x.2.1 x.2.2 s
theorem Sat.Ch{C D:Nat}{s:Ck}{F:Ab}{w:World}(hs:Sat (AU C D s*F) w): ∃L PM ps,BP ps=s.CS∧Sat (BF C L D PM ps s*F) w:=by
 obtain ⟨⟨L,PM,ps⟩,h⟩:=hs.NZ
 rw[Ax] at h
 obtain ⟨h1,a⟩:=h.H3
 exact ⟨L,PM,ps,h1,a⟩
theorem Sat.AW{C D L PM:Nat}{ps:List Pg}{s:Ck}{F:Ab}{w:World}(h1:BP ps=s.CS)(hs:Sat (BF C L D PM ps s*F) w):Sat (AU C D s*F) w:=by
 refine Sat.Oa (L,PM,ps) ?_
 rw[Ax]
 exact Sat.LR h1 hs
theorem CG(l1 l2:List Pg):AX (l1++l2)=AX l1*AX l2:=by
 induction l1 with
 |nil=>simp[AX,Aw]
 |cons n l a=>simp[AX,a,Ax]
theorem Hy(ps:List Pg)(k:Int):(∃l1 p l2,ps=l1++p::l2∧p.key=k∧ ∀m∈l1,m.key≠k)∨ ∀p∈ps,p.key≠k:=by
 induction ps with
 |nil=>exact .inr (by simp)
 | cons m l c =>
  by_cases a:m.key=k
  ·exact .inl ⟨[],m,l,rfl,a,by simp⟩
  rcases c with ⟨l1,n,l2,rfl,h1,b⟩|h
  ·exact .inl ⟨m::l1,n,l2,rfl,h1,fun x hx=>by rcases List.mem_cons.1 hx with rfl|hx;exact a;exact b x hx⟩
  exact .inr fun x hx=>by rcases List.mem_cons.1 hx with rfl|hx;exact a;exact h x hx
theorem Kb{ps:List Pg}{k:Int}(h: ∀p∈ps,p.key≠k):BH k (BP ps)=none∧Cp k (ps.map Ju)=none∧(∀b,Ed k b (BP ps)=BP ps++ [(k,b)])∧(∀v,CW k v (ps.map Ju)=ps.map Ju++ [(k,v)]):=by
 induction ps with
 |nil=>exact ⟨rfl,rfl,fun _=>rfl,fun _=>rfl⟩
 | cons n l g =>
  have a: ¬k=n.key:=fun e=>h n (by simp) e.symm
  obtain ⟨h1,c,d,f⟩:=g fun m hm=>h m (by simp[hm])
  refine ⟨?_,?_,fun b=>?_,fun v=>?_⟩
  ·show (if k=n.key then _ else _)=_;rw[if_neg a];exact h1
  ·show (if k=n.key then _ else _)=_;rw[if_neg a];exact c
  ·show (if k=n.key then _ else _)=_;rw[if_neg a];show _::Ed k b (BP l)=_;rw[d];rfl
  show (if k=n.key then _ else _)=_;rw[if_neg a];show _::CW k v (l.map Ju)=_;rw[f];rfl
theorem Hz{l1:List Pg}{p:Pg}{l2:List Pg}(h: ∀m∈l1,m.key≠p.key):BH p.key (BP (l1++p::l2))=some p.b∧Cp p.key ((l1++p::l2).map Ju)=some p.v∧
 (∀b,Ed p.key b (BP (l1++p::l2))=BP (l1++ { p with b:=b } ::l2))∧Gr p.key (BP (l1++p::l2))=BP (l1++l2)∧FP p.key ((l1++p::l2).map Ju)=(l1++l2).map Ju:=by
 induction l1 with
 |nil=>simp[BP,BH,Cp,Ju,Ed,Gr,FP]
 | cons n l i =>
  have a: ¬p.key=n.key:=fun e=>h n (by simp) e.symm
  obtain ⟨h1,c,d,f,g⟩:=i fun m hm=>h m (by simp[hm])
  refine ⟨?_,?_,fun b=>?_,?_,?_⟩
  ·show (if p.key=n.key then _ else _)=_;rw[if_neg a];exact h1
  ·show (if p.key=n.key then _ else _)=_;rw[if_neg a];exact c
  ·show (if p.key=n.key then _ else _)=_;rw[if_neg a];show _::Ed p.key b (BP (l++p::l2))=_;rw[d];rfl
  ·show (if p.key=n.key then _ else _)=_;rw[if_neg a];show _::Gr p.key (BP (l++p::l2))=_;rw[f];rfl
  show (if p.key=n.key then _ else _)=_;rw[if_neg a];show _::FP p.key ((l++p::l2).map Ju)=_;rw[g];rfl
instance QY:PZ Tryz.prog X' Int A8 (.slice none 0 0):=⟨3,26,Jt,Tryz.underlying201,fun w=>by kernel_rfl⟩
theorem L3(w:World)(M:Nat)(k:Int){A:Ab}{ms:List (Int×Value)}[h:AV A w][h2:DM A M A8 ms]:(Instr.lookup X' (.map (some M)) (.int .i64 k) false).run Tryz.prog w= .ok ((Cp k ms).getD (.slice none 0 0)) w:=OY QY w M k
theorem Wq(w:World)(M:Nat)(a:TypeId){A:Ab}{ms:List (Int×Value)}[h:AV A w][h2:DM A M A8 ms]:(Builtin.len_ #[X'] a #[.map (some M)]).run Tryz.prog w= .ok (.int .i64 ms.length) w:=fJ QY w M a
theorem WJ(w:World)(M:Nat)(k:Int)(v:Value){A:Ab}{ms:List (Int×Value)}[h:AV A w][h2:DM A M A8 ms]:(Instr.mapUpdate X' (.map (some M)) (.int .i64 k) v).run Tryz.prog w= .ok () (Gt Tryz.prog X' M (A8 k) v w):=SA QY w M k v
theorem Wa(w:World)(M:Nat)(k:Int)(a b:TypeId){A:Ab}{ms:List (Int×Value)}[h:AV A w][h2:DM A M A8 ms]:(Builtin.delete_ #[X',a] b #[.map (some M),.int .i64 k]).run Tryz.prog w= .ok (.tuple #[]) (Qi Tryz.prog X' M (A8 k) w):=XG QY w M k a b
instance{w:World}{M:Nat}{k:Int}{v:Value}{A A':Ab}{ms:List (Int×Value)}[h:AV A w][h2:DM A M A8 ms][h3:K7 A M A8 (CW k v ms) A']:AV A' (Gt Tryz.prog X' M (A8 k) v w):=SB QY
instance{w:World}{M:Nat}{k:Int}{A A':Ab}{ms:List (Int×Value)}[h:AV A w][h2:DM A M A8 ms][h3:K7 A M A8 (FP k ms) A']:AV A' (Qi Tryz.prog X' M (A8 k) w):=XH QY
def jI(l:List Int)(k:Int):Bool:=l.contains k
theorem l6(C L D PM:Nat)(s:Ck)(no:Int)(F:Ab)(w:World)(hs:Sat (coreC C L D PM s*(C6 L s.cap s.its*F)) w)(ok:Ez s.its):
 Calls Tryz.prog 146 #[.pointer (some ⟨C,0,none⟩),.int .i64 no] w fun e Q=>e= .returned (.bool (s.CD no))∧Sat (coreC C L D PM s*(C6 L s.cap s.its*F)) Q:=by
 have f:=Yd L s.cap s.its _ w (hs.take (C6 L s.cap s.its)) ok
 obtain ⟨r,v⟩: ∃r,Aside (s.CD no=r):=⟨_,rfl⟩
 rw[v.out]
 have t:Aside (r=jI (BI s.its) no):=v.out.symm
 clear v
 obtain ⟨zs,m⟩:=Aq (BI s.its)
 rw[m] at f t
 clear m
 haveI:=hs.i
 go_enter Tryz.func146,Tryz.ntmps146
 go_wp2_with fail
 refine f.mono ?_
 rintro e J ⟨a,n,c,rfl,d⟩
 have O:n=zs.length:=by have:=d.dA;simpa using this
 subst O
 have I:=Ints.Yg d
 have l:Sat (coreC C L D PM s*(C6 L s.cap s.its*F)) J:=d.right.eq (by ac_rfl)
 have x:=MP d
 have P:zs.length≤9223372036854775807:=by
  obtain ⟨_,_,_,h1,p,T,U⟩:=x
  cases h1;omega
 clear f hs x d
 go_wp2_with fail
 go_loopg [13] zs.length (fun k i wr=> ∃(j:Nat),i= .int .i64 j∧j≤zs.length∧Aside (k=zs.length-j∧ ∀i z,i<j→zs[i]?=some z→z≠no)∧J=wr)
 case atStart=>exact ⟨0,rfl,by omega,⟨rfl,by omega⟩,rfl⟩
 obtain ⟨j,rfl,V,A,rfl⟩:=hrel
 by_cases B:j<zs.length
 · have g:(j:Int)<zs.length:=by omega
   obtain ⟨z,G⟩: ∃z,zs[j]?=some z:=⟨zs[j],by simp[B]⟩
   obtain ⟨b,o,rfl,x⟩:=I.at G
   have H:Aside (zs[j]?=some z):=G
   clear I G
   by_cases q:z=no
   ·subst q
    have u:Aside (r=true):=by
     show r=true
     rw[t.out];unfold jI
     simp only[List.contains_iff_mem]
     exact List.mem_of_getElem? H.out
    go_wp2
    go_ret
    exact ⟨by rw[u.out];rfl,l⟩
   have M:(z==no)=false:=by simpa using q
   have K:Aside (z≠no):=q
   clear q
   go_wp2
   go_roundg (zs.length-(j+1))
   case measure=>have:=A.out.1;omega
   refine ⟨j+1,by go_num,by omega,⟨rfl,fun i R h1 p=>?_⟩,rfl⟩
   by_cases y:i=j
   ·subst y;rw[H.out] at p;cases p;exact K.out
   exact A.out.2 i R (by omega) p
 have g: ¬(j:Int)<zs.length:=by omega
 have u:Aside (r=false):=by
  show r=false
  rw[t.out];unfold jI
  rw[Bool.eq_false_iff]
  intro h
  have h:=List.contains_iff_mem.1 h
  obtain ⟨i,hi⟩:=List.mem_iff_getElem?.1 h
  exact A.out.2 i no (by have:=(List.getElem?_eq_some_iff.1 hi).1;omega) hi rfl
 clear A
 go_wp2
 go_ret
 exact ⟨by rw[u.out];rfl,l⟩
attribute [local go_sem] L3 Wq WJ Wa
theorem Ww(n:Nat):madeCells (Value.int .u8 0).cells n=(A0 (List.replicate n 0)).toArray:=by
 apply Array.ext
 ·simp[madeCells,A0]
 intro i h1 a
 have e:(Value.int .u8 0).cells= #[Value.int .u8 0]:=rfl
 simp[madeCells,A0,bv,e,Nat.mod_one]
theorem bB(n:Nat)(a:n≤1099511627776)(w:World):(Instr.makeSlice 26 (.int .i64 n) (.int .i64 n)).run Tryz.prog w= .ok (.slice (some ⟨w.heap.size,0,none⟩) n n) (w.alloc (.cells (A0 (List.replicate n 0)).toArray TB)):=by
 obtain ⟨i,E⟩:=D3
 have h:=run_make (P:=Tryz.prog) w 26 TB i (.int .u8 0) E.NU E.info E.zero .i64 .i64 n n (by omega) (by omega) (by rw[E.bytes];omega) (by omega)
 rw[E.size,Nat.mul_one,Int.toNat_natCast,Ww] at h
 exact h
theorem MR(l:List Int)(x:Int):x∈Di l↔x∈l:=(List.mergeSort_perm l _).mem_iff
theorem I4{s:ByteArray}(h:Dk.named s=true):s.size≤9223372036854775807:=by
 rcases Nat.lt_or_ge 16 s.size with h1|h1
 ·rw[Nu (.inr h1)] at h;cases h
 omega
theorem Q9{s:Ck}{no:Int}(h:s.CD no=true):Bw s.its no=true:=by
 unfold Ck.CD at h
 have h1:=List.contains_iff_mem.1 h
 unfold BI at h1
 have a:=(MR _ _).1 h1
 obtain ⟨n,b,rfl⟩:=List.mem_map.1 a
 unfold Bw
 rw[List.any_eq_true]
 exact ⟨n,(List.mem_filter.1 b).1,by simp⟩
theorem dC{m:Nat}{d:Dk}(ok:Ok m d)(nm:ByteArray): ∃sz:Nat,max 0 (d.size nm)=sz∧sz≤1099511627776∧d.size nm≤sz∧ -1≤d.size nm:=by
 unfold Dk.size
 split
 ·exact ⟨0,by omega,by omega,by omega,by omega⟩
 refine ⟨((d.get nm).getD Dk.Jo).now.length,by omega,?_,by omega,by omega⟩
 cases h:d.get nm with
 |none=>simp[Dk.Jo]
 | some f =>
  have:(nm,f)∈d.files:=by
   unfold Dk.get at h
   generalize d.files=l at h
   induction l with
   |nil=>simp[D7] at h
   | cons p l a =>
    unfold D7 at h
    split at h
    ·cases h;subst nm;simp
    exact List.mem_cons_of_mem _ (a h)
  exact (ok.sz _ this).1
theorem VD(C L D PM : Nat)(ps : List Pg)(s : Ck)(m : Nat)(no : Int)(F : Ab)(w : World)(hs : Sat (BF C L D PM ps s * F) w)(hp : BP ps = s.CS)(ok : Bn m s)(hm : m ≤ 549755813888)(h0 : 0 ≤ no)(h1 : no < 1048576) :
 Calls Tryz.prog 101 #[.pointer (some ⟨C,0,none⟩),.int .i64 no] w fun e f=>e= .returned (.int .i64 (s.write no).1)∧Sat (BF C L D PM ps (s.write no).2*F) f:=by
 unfold BF at hs
 have n:=l6 C L D PM s no _ w (hs.NK (coreC C L D PM s) (C6 L s.cap s.its)) ok.Mi
 cases O:s.CD no with
 | false =>
  have e:s.write no=(0,s):=by unfold Ck.write;rw[if_pos O]
  rw[e]
  rw[O] at n
  clear e
  go_enter Tryz.func101,Tryz.ntmps101
  go_wp2_with fail
  refine n.mono ?_
  rintro e u ⟨rfl,I⟩
  go_wp2
  go_ret
  exact ⟨rfl,I.eq (by unfold BF;ac_rfl)⟩
 | true =>
  rw[O] at n
  have X:=Q9 O
  rw[ok.same,←hp] at X
  rcases Hy ps no with ⟨l1,p,l2,rfl,rfl,G⟩|a3
  ·obtain ⟨sz,y,ac,ad,W⟩:=dC ok.dk s.nm
   obtain ⟨q1,q2,_⟩:=Hz (l2:=l2) G
   rw[hp] at q1
   have hb:s.Ap p.key=p.b:=by unfold Ck.Ap;rw[q1];rfl
   have o:s.nm.size≤9223372036854775807:=I4 ok.nm
   have HW:Aside (s.write p.key=if (sz:Int)<p.key*256 then (if (s.pad p.key).1=0 then Ck.B7 { s with d:=(s.pad p.key).2 } p.key else ((s.pad p.key).1, { s with d:=(s.pad p.key).2 })) else s.B7 p.key):=by
    show _=_
    unfold Ck.write
    rw[if_neg (by simp[O]),y]
   go_enter Tryz.func101,Tryz.ntmps101
   go_wp2_with fail
   refine n.mono ?_
   rintro e u ⟨rfl,I⟩
   clear n hs
   have Y:Aside (G=G∧(Cp p.key ((l1++p::l2).map Ju)=some p.v)∧s.Ap p.key=p.b):=⟨rfl,q2,hb⟩
   have Z:Aside (BP (l1++p::l2)=s.CS):=hp
   clear q1 q2 hb X hp O W
   haveI:=I.i
   go_upto_region 3 with (fail)
   go_region_held3 (fun f=>f.cell? ⟨C,1,none⟩=some (.pointer (some ⟨D,0,none⟩))∧f.cell? ⟨C,2,none⟩=some (.string s.nm)) (first|exact ⟨Ac _ _ _,Ac _ _ _⟩) (first
    |(go_at_call 50;refine (Vr D s.d s.nm _ _ (Ae (Bk D s.d)) o).mono ?_;rintro e w2 ⟨rfl,rfl⟩))
   go_upto_if 25 with (fail)
   go_cut [6] (fun t6 wx=> ∃(c:Dk)(P:Nat),P≤824633720832∧Aside (s.write p.key=Ck.B7 { s with d:=c } p.key∧Ok P c)∧Sat (coreC C L D PM s*(C6 L s.cap s.its*(Bk D c*(mp A8 PM ((l1++p::l2).map Ju)*(AX (l1++p::l2)*F))))) wx)
   case first =>
    by_cases H:(sz:Int)<p.key*256
    · obtain ⟨a,a2,ab⟩: ∃a:Nat,p.key*256-sz=(a:Int)∧a≤268435456:=⟨(p.key*256-sz).toNat,by omega,by omega⟩
      have ah:=bB a (by omega)
      have g:s.pad p.key=s.d.write s.nm sz (List.replicate a 0):=by
       unfold Ck.pad
       rw[y,a2,Int.toNat_natCast]
      have k:=Ps ok.dk s.nm sz (List.replicate a 0)
      rw[←g,List.length_replicate] at k
      have HK:Aside (Ok (m+1+a) (s.pad p.key).2):=k
      have T:Aside (s.write p.key=if (s.pad p.key).1=0 then Ck.B7 { s with d:=(s.pad p.key).2 } p.key else ((s.pad p.key).1, { s with d:=(s.pad p.key).2 })):=by
       show _=_
       rw[HW.out,if_pos H]
      have z:Aside (s.pad p.key=s.d.write s.nm sz (List.replicate a 0)):=g
      by_cases j:(s.pad p.key).1=0
      · have K:((s.d.write s.nm sz (List.replicate a 0)).1 !=0)=false:=by rw[←g];simpa using j
        have M:Aside ((s.pad p.key).1=0):=j
        clear g k j
        go_upto_region 5 with (fail)
        have hw1:=Bg (p.key*256) (by omega)
        have hw2:IntKind.i64.wrap (a:Int)=a:=IntWalk.i64_in _ (by omega)
        go_region_held3 (fun f=>f.cell? ⟨C,1,none⟩=some (.pointer (some ⟨D,0,none⟩))∧f.cell? ⟨C,2,none⟩=some (.string s.nm)) (first|exact ⟨Ac _ _ _,Ac _ _ _⟩) (first
         |(go_at_call 147;refine (Kl D s.d m s.nm sz _ (List.replicate a 0) (block u.heap.size TB (A0 (List.replicate a 0))) _ _ (by have j:=Reads.RS (b:=u.heap.size) (e:=TB) (l:=List.replicate a 0) (by rw[List.length_replicate];unfold maxLen;omega);rw[List.length_replicate] at j;exact j) (Sat.NK ES (Bk D s.d) (block u.heap.size TB (A0 (List.replicate a 0)))) o (by rw[List.length_replicate];omega) ok.dk (by unfold Mn;omega)).mono ?_;rintro e w3 ⟨rfl,J⟩;haveI:=J.i))
        all_goals
         go_wp2_with fail
         go_meet
         refine ⟨(s.pad p.key).2,m+1+a,by omega,⟨by rw[T.out,if_pos M.out],HK.out⟩,?_⟩
         rw[z.out]
         exact A4 (C:=block u.heap.size TB (A0 (List.replicate a 0))) (by ac_rfl)
      have K:((s.d.write s.nm sz (List.replicate a 0)).1 !=0)=true:=by rw[←g];simpa using j
      have M:Aside ((s.pad p.key).1≠0):=j
      clear g k j
      go_upto_region 5 with (fail)
      have hw1:=Bg (p.key*256) (by omega)
      have hw2:IntKind.i64.wrap (a:Int)=a:=IntWalk.i64_in _ (by omega)
      go_region_held3 (fun f=>f.cell? ⟨C,1,none⟩=some (.pointer (some ⟨D,0,none⟩))∧f.cell? ⟨C,2,none⟩=some (.string s.nm)) (first|exact ⟨Ac _ _ _,Ac _ _ _⟩) (first
       |(go_at_call 147;refine (Kl D s.d m s.nm sz _ (List.replicate a 0) (block u.heap.size TB (A0 (List.replicate a 0))) _ _ (by have j:=Reads.RS (b:=u.heap.size) (e:=TB) (l:=List.replicate a 0) (by rw[List.length_replicate];unfold maxLen;omega);rw[List.length_replicate] at j;exact j) (Sat.NK ES (Bk D s.d) (block u.heap.size TB (A0 (List.replicate a 0)))) o (by rw[List.length_replicate];omega) ok.dk (by unfold Mn;omega)).mono ?_;rintro e w3 ⟨rfl,J⟩;haveI:=J.i))
      all_goals
       go_wp2_with fail
       go_ret
       refine ⟨?_,?_⟩
       · rw[T.out,if_neg M.out,z.out];rfl
       rw[T.out,if_neg M.out,z.out]
       exact A4 (C:=block u.heap.size TB (A0 (List.replicate a 0))) (by unfold BF;ac_rfl)
    have aa: ¬(sz:Int)<p.key*256:=H
    have T:Aside (s.write p.key=s.B7 p.key):=by
     show _=_
     rw[HW.out,if_neg H]
    go_wp2_with fail
    go_meet
    exact ⟨s.d,m,by omega,⟨T.out,ok.dk⟩,Av (by ac_rfl)⟩
   obtain ⟨c,P,ag,A,r⟩:=hcut
   obtain ⟨hw,x⟩:=A.out
   obtain ⟨R,B,a1⟩: ∃R,AX (l1++p::l2)=rw TB 1 p.v (A0 p.b)*R∧True:=⟨AX l1*AX l2,by rw[CG];show AX l1*(_*AX l2)=_;ac_rfl,trivial⟩
   rw[B] at r
   have V:=Y.out.2.2
   have q:=Y.out.2.1
   obtain ⟨va,vc,a4,aj,ak⟩:=GM (r.take (rw TB 1 p.v (A0 p.b)))
   have ai:p.b.length=256:=by
    have:=(ok.Ap (p.key,p.b) (by rw[←Z.out];simp[BP])).1
    exact this
   have HR:Aside (AX (l1++p::l2)=rw TB 1 p.v (A0 p.b)*R):=B
   have U:Aside (s.write p.key=Ck.B7 { s with d:=c } p.key):=hw
   have HO:Aside (Ok P c):=x
   have HB:Aside (Ck.Ap { s with d:=c } p.key=p.b):=V
   clear A hw B a1 HW x V Y a4
   by_cases j:(c.write s.nm (p.key*256) p.b).1=0
   · have K:((c.write s.nm (p.key*256) p.b).1==0)=true:=by simpa using j
     have Q:Aside (s.write p.key=(0, { s with d:=(c.write s.nm (p.key*256) p.b).2,its:=Bv s.its p.key false })):=by
      show _=_
      rw[U.out];unfold Ck.B7;rw[HB.out];rw[if_pos j]
     have M:Aside ((c.write s.nm (p.key*256) p.b).1=0):=j
     clear j
     haveI:=r.i
     go_upto_region 8 with (fail)
     have hw1:=Bg (p.key*256) (by omega)
     go_region_held3 (fun f=>f.cell? ⟨C,1,none⟩=some (.pointer (some ⟨D,0,none⟩))∧f.cell? ⟨C,2,none⟩=some (.string s.nm)∧f.cell? ⟨C,4,none⟩=some (.map (some PM))∧(Instr.lookup X' (.map (some PM)) (.int .i64 p.key) false).run Tryz.prog f= .ok p.v f) (first|exact ⟨Ac _ _ _,Ac _ _ _,Ac _ _ _,by rw[L3,q];rfl⟩) (first
      |(go_at_call 147;refine (Kl D c P s.nm (p.key*256) p.v p.b (rw TB 1 p.v (A0 p.b)) _ _ Reads.rw (Sat.NK ES (Bk D c) (rw TB 1 p.v (A0 p.b))) o (by omega) HO.out (by unfold Mn;omega)).mono ?_;rintro e w4 ⟨rfl,t⟩;haveI:=t.i))
     all_goals
      clear q
      go_wp2_with fail
      refine (aS L s.cap s.its p.key false _ _ (Ae (C6 L s.cap s.its)) ok.Mi).mono ?_
      rintro e w5 ⟨rfl,a5⟩
      go_wp2
      go_ret
      refine ⟨?_,?_⟩
      · rw[Q.out]
        show Ending.returned (.int .i64 (c.write s.nm (p.key*256) p.b).1)=_
        rw[M.out]
      rw[Q.out]
      refine a5.eq ?_
      unfold BF
      rw[HR.out]
      show C6 L s.cap (Bv s.its p.key false)*_=coreC C L D PM s*(C6 L s.cap (Bv s.its p.key false)*(Bk D (c.write s.nm (p.key*256) p.b).2*_))*_
      ac_rfl
   have K:((c.write s.nm (p.key*256) p.b).1==0)=false:=by simpa using j
   have Q:Aside (s.write p.key=((c.write s.nm (p.key*256) p.b).1, { s with d:=(c.write s.nm (p.key*256) p.b).2 })):=by
    show _=_
    rw[U.out];unfold Ck.B7;rw[HB.out];rw[if_neg j]
   clear j
   haveI:=r.i
   go_upto_region 8 with (fail)
   have hw1:=Bg (p.key*256) (by omega)
   go_region_held3 (fun f=>f.cell? ⟨C,1,none⟩=some (.pointer (some ⟨D,0,none⟩))∧f.cell? ⟨C,2,none⟩=some (.string s.nm)∧f.cell? ⟨C,4,none⟩=some (.map (some PM))∧(Instr.lookup X' (.map (some PM)) (.int .i64 p.key) false).run Tryz.prog f= .ok p.v f) (first|exact ⟨Ac _ _ _,Ac _ _ _,Ac _ _ _,by rw[L3,q];rfl⟩) (first
    |(go_at_call 147;refine (Kl D c P s.nm (p.key*256) p.v p.b (rw TB 1 p.v (A0 p.b)) _ _ Reads.rw (Sat.NK ES (Bk D c) (rw TB 1 p.v (A0 p.b))) o (by omega) HO.out (by unfold Mn;omega)).mono ?_;rintro e w4 ⟨rfl,t⟩;haveI:=t.i))
   all_goals
    clear q
    go_wp2
    go_ret
    refine ⟨?_,?_⟩
    · rw[Q.out];rfl
    rw[Q.out]
    refine t.eq ?_
    unfold BF
    rw[HR.out]
    show Bk D (c.write s.nm (p.key*256) p.b).2*_=coreC C L D PM s*(C6 L s.cap s.its*(Bk D (c.write s.nm (p.key*256) p.b).2*_))*_
    ac_rfl
  rw[(Kb a3).1] at X
  cases X
