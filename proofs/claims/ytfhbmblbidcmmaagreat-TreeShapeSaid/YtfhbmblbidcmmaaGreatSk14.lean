/- treeShape holds for every input. No condition. (part 14) -/
import Derived.Test.YtfhbmblbidcmmaaGreatSk12
import Derived.Test.YtfhbmblbidcmmaaGreatSk13
set_option linter.all false
set_option maxRecDepth 100000
set_option maxHeartbeats 1000000
namespace Go.Proofs.YtfhbmblbidcmmaaGreat
open Go.RowKit Go.Sl Go.Dk
open Go.QK (A8)
attribute [go_sem] Go.Sl.Ab Go.Sl.Ib
abbrev TC:TypeId:=203
abbrev YA:TypeId:=201
structure Pg where
 key:Int
 v:Value
 b:List UInt8
def JE(p:Pg):Int×Value:=(p.key,p.v)
def AV:List Pg→Ac
 | []=>1
 |p::l=>rw TB 1 p.v (A1 p.b)*AV l
def BP(ps:List Pg):Sa:=ps.map fun p=>(p.key,p.b)
def coreC(C L D PM:Nat)(s:Ck):Ac:=
 Ef C TC 6*(Sl.cell C 0 (.pointer (some ⟨L,0,none⟩))*(Sl.cell C 1 (.pointer (some ⟨D,0,none⟩))*(Sl.cell C 2 (.string s.nm)*(Sl.cell C 3 (.int .i64 s.cap)*(Sl.cell C 4 (.map (some PM))*Sl.cell C 5 (.int .i64 s.reads))))))
section
variable (C L D PM:Nat) (s:Ck)
instance:EM (coreC C L D PM s) C 0 (.pointer (some ⟨L,0,none⟩)):=by unfold coreC;infer_instance
instance:EM (coreC C L D PM s) C 1 (.pointer (some ⟨D,0,none⟩)):=by unfold coreC;infer_instance
instance:EM (coreC C L D PM s) C 2 (.string s.nm):=by unfold coreC;infer_instance
instance:EM (coreC C L D PM s) C 3 (.int .i64 s.cap):=by unfold coreC;infer_instance
instance:EM (coreC C L D PM s) C 4 (.map (some PM)):=by unfold coreC;infer_instance
instance:EM (coreC C L D PM s) C 5 (.int .i64 s.reads):=by unfold coreC;infer_instance
instance(n:Int):Xa (coreC C L D PM s) C 5 (.int .i64 n) (coreC C L D PM { s with reads:=n }):=by unfold coreC;infer_instance
end
def BI(C L D PM:Nat)(ps:List Pg)(s:Ck):Ac:=coreC C L D PM s*(C8 L s.cap s.its*(B6 D s.d*(mp A8 PM (ps.map JE)*AV ps)))
def AN(C D:Nat)(s:Ck):Ac:=ex fun x:Nat×Nat×List Pg=>i6 (BP x.2.2=s.CO)*BI C x.1 D x.2.1 x.2.2 s
theorem Sat.Cu{C D:Nat}{s:Ck}{F:Ac}{w:World}(hs:Sat (AN C D s*F) w): ∃L PM ps,BP ps=s.CO∧Sat (BI C L D PM ps s*F) w:=by
 obtain ⟨⟨L,PM,ps⟩,h⟩:=hs.MW
 rw[Az] at h
 obtain ⟨h1,a⟩:=h.Ho
 exact ⟨L,PM,ps,h1,a⟩
theorem Sat.AZ{C D L PM:Nat}{ps:List Pg}{s:Ck}{F:Ac}{w:World}(h1:BP ps=s.CO)(hs:Sat (BI C L D PM ps s*F) w):Sat (AN C D s*F) w:=by
 refine Sat.MX (L,PM,ps) ?_
 rw[Az]
 exact Sat.Lv h1 hs
theorem CE(l1 l2:List Pg):AV (l1++l2)=AV l1*AV l2:=by
 induction l1 with
 |nil=>simp[AV,Aw]
 |cons n l a=>simp[AV,a,Az]
theorem Hk(ps:List Pg)(k:Int):(∃l1 p l2,ps=l1++p::l2∧p.key=k∧ ∀m∈l1,m.key≠k)∨ ∀p∈ps,p.key≠k:=by
 induction ps with
 |nil=>exact .inr (by simp)
 | cons m l c =>
  by_cases a:m.key=k
  ·exact .inl ⟨[],m,l,rfl,a,by simp⟩
  rcases c with ⟨l1,n,l2,rfl,h1,b⟩|h
  ·exact .inl ⟨m::l1,n,l2,rfl,h1,fun x hx=>by rcases List.mem_cons.1 hx with rfl|hx;exact a;exact b x hx⟩
  exact .inr fun x hx=>by rcases List.mem_cons.1 hx with rfl|hx;exact a;exact h x hx
theorem JL{ps:List Pg}{k:Int}(h: ∀p∈ps,p.key≠k):BK k (BP ps)=none∧CK k (ps.map JE)=none∧(∀b,DL k b (BP ps)=BP ps++ [(k,b)])∧(∀v,EO k v (ps.map JE)=ps.map JE++ [(k,v)]):=by
 induction ps with
 |nil=>exact ⟨rfl,rfl,fun _=>rfl,fun _=>rfl⟩
 | cons n l g =>
  have a: ¬k=n.key:=fun e=>h n (by simp) e.symm
  obtain ⟨h1,c,d,f⟩:=g fun m hm=>h m (by simp[hm])
  refine ⟨?_,?_,fun b=>?_,fun v=>?_⟩
  ·show (if k=n.key then _ else _)=_;rw[if_neg a];exact h1
  ·show (if k=n.key then _ else _)=_;rw[if_neg a];exact c
  ·show (if k=n.key then _ else _)=_;rw[if_neg a];show _::DL k b (BP l)=_;rw[d];rfl
  show (if k=n.key then _ else _)=_;rw[if_neg a];show _::EO k v (l.map JE)=_;rw[f];rfl
theorem Hl{l1:List Pg}{p:Pg}{l2:List Pg}(h: ∀m∈l1,m.key≠p.key):BK p.key (BP (l1++p::l2))=some p.b∧CK p.key ((l1++p::l2).map JE)=some p.v∧
 (∀b,DL p.key b (BP (l1++p::l2))=BP (l1++ { p with b:=b } ::l2))∧Gd p.key (BP (l1++p::l2))=BP (l1++l2)∧FG p.key ((l1++p::l2).map JE)=(l1++l2).map JE:=by
 induction l1 with
 |nil=>simp[BP,BK,CK,JE,DL,Gd,FG]
 | cons n l i =>
  have a: ¬p.key=n.key:=fun e=>h n (by simp) e.symm
  obtain ⟨h1,c,d,f,g⟩:=i fun m hm=>h m (by simp[hm])
  refine ⟨?_,?_,fun b=>?_,?_,?_⟩
  ·show (if p.key=n.key then _ else _)=_;rw[if_neg a];exact h1
  ·show (if p.key=n.key then _ else _)=_;rw[if_neg a];exact c
  ·show (if p.key=n.key then _ else _)=_;rw[if_neg a];show _::DL p.key b (BP (l++p::l2))=_;rw[d];rfl
  ·show (if p.key=n.key then _ else _)=_;rw[if_neg a];show _::Gd p.key (BP (l++p::l2))=_;rw[f];rfl
  show (if p.key=n.key then _ else _)=_;rw[if_neg a];show _::FG p.key ((l++p::l2).map JE)=_;rw[g];rfl
instance Qg:Ph Tryz.prog YA Int A8 (.slice none 0 0):=⟨3,26,Jb,Tryz.underlying201,fun w=>by kernel_rfl⟩
theorem Lb(w:World)(M:Nat)(k:Int){A:Ac}{ms:List (Int×Value)}[h:Bg A w][h2:Fq A M A8 ms]:(Instr.lookup YA (.map (some M)) (.int .i64 k) false).run Tryz.prog w= .ok ((CK k ms).getD (.slice none 0 0)) w:=Oi Qg w M k
theorem Va(w:World)(M:Nat)(a:TypeId){A:Ac}{ms:List (Int×Value)}[h:Bg A w][h2:Fq A M A8 ms]:(Builtin.len_ #[YA] a #[.map (some M)]).run Tryz.prog w= .ok (.int .i64 ms.length) w:=z' Qg w M a
theorem Vw(w:World)(M:Nat)(k:Int)(v:Value){A:Ac}{ms:List (Int×Value)}[h:Bg A w][h2:Fq A M A8 ms]:(Instr.mapUpdate YA (.map (some M)) (.int .i64 k) v).run Tryz.prog w= .ok () (Kz Tryz.prog YA M (A8 k) v w):=R7 Qg w M k v
theorem UK(w:World)(M:Nat)(k:Int)(a b:TypeId){A:Ac}{ms:List (Int×Value)}[h:Bg A w][h2:Fq A M A8 ms]:(Builtin.delete_ #[YA,a] b #[.map (some M),.int .i64 k]).run Tryz.prog w= .ok (.tuple #[]) (Pr Tryz.prog YA M (A8 k) w):=Wo Qg w M k a b
instance{w:World}{M:Nat}{k:Int}{v:Value}{A A':Ac}{ms:List (Int×Value)}[h:Bg A w][h2:Fq A M A8 ms][h3:MO A M A8 (EO k v ms) A']:Bg A' (Kz Tryz.prog YA M (A8 k) v w):=R8 Qg
instance{w:World}{M:Nat}{k:Int}{A A':Ac}{ms:List (Int×Value)}[h:Bg A w][h2:Fq A M A8 ms][h3:MO A M A8 (FG k ms) A']:Bg A' (Pr Tryz.prog YA M (A8 k) w):=Wp Qg
def dD(l:List Int)(k:Int):Bool:=l.contains k
theorem YP(C L D PM:Nat)(s:Ck)(no:Int)(F:Ac)(w:World)(hs:Sat (coreC C L D PM s*(C8 L s.cap s.its*F)) w)(ok:Ei s.its):
 Calls Tryz.prog 146 #[.pointer (some ⟨C,0,none⟩),.int .i64 no] w fun e Q=>e= .returned (.bool (s.CD no))∧Sat (coreC C L D PM s*(C8 L s.cap s.its*F)) Q:=by
 have f:=W9 L s.cap s.its _ w (hs.take (C8 L s.cap s.its)) ok
 obtain ⟨r,v⟩: ∃r,Aside (s.CD no=r):=⟨_,rfl⟩
 rw[v.out]
 have t:Aside (r=dD (BE s.its) no):=v.out.symm
 clear v
 obtain ⟨zs,m⟩:=Aq (BE s.its)
 rw[m] at f t
 clear m
 haveI:=hs.i
 go_enter Tryz.func146,Tryz.ntmps146
 go_wp2_with fail
 refine f.mono ?_
 rintro e J ⟨a,n,c,rfl,d⟩
 have O:n=zs.length:=by have:=d.C';simpa using this
 subst O
 have I:=Ints.cJ d
 have l:Sat (coreC C L D PM s*(C8 L s.cap s.its*F)) J:=d.right.eq (by ac_rfl)
 have x:=MS d
 have P:zs.length≤9223372036854775807:=by
  obtain ⟨_,_,_,h1,p,T,U⟩:=x
  cases h1;omega
 clear f hs x d
 go_wp2_with fail
 go_loopg [13] zs.length (fun k i wr=> ∃(j:Nat),i= .int .i64 j∧j≤zs.length∧Aside (k=zs.length-j∧ ∀i z,i<j→zs[i]?=some z→z≠no)∧J=wr)
 case atStart=>exact ⟨0,rfl,by omega,⟨rfl,by omega⟩,rfl⟩
 obtain ⟨j,rfl,V,A,rfl⟩:=hrel
 by_cases B:j<zs.length
 · have g:(j:Int)<zs.length:=by omega
   obtain ⟨z,G⟩: ∃z,zs[j]?=some z:=⟨zs[j],by simp[B]⟩
   obtain ⟨b,o,rfl,x⟩:=I.at G
   have H:Aside (zs[j]?=some z):=G
   clear I G
   by_cases q:z=no
   ·subst q
    have u:Aside (r=true):=by
     show r=true
     rw[t.out];unfold dD
     simp only[List.contains_iff_mem]
     exact List.mem_of_getElem? H.out
    go_wp2
    go_ret
    exact ⟨by rw[u.out];rfl,l⟩
   have M:(z==no)=false:=by simpa using q
   have K:Aside (z≠no):=q
   clear q
   go_wp2
   go_roundg (zs.length-(j+1))
   case measure=>have:=A.out.1;omega
   refine ⟨j+1,by go_num,by omega,⟨rfl,fun i R h1 p=>?_⟩,rfl⟩
   by_cases y:i=j
   ·subst y;rw[H.out] at p;cases p;exact K.out
   exact A.out.2 i R (by omega) p
 have g: ¬(j:Int)<zs.length:=by omega
 have u:Aside (r=false):=by
  show r=false
  rw[t.out];unfold dD
  rw[Bool.eq_false_iff]
  intro h
  have h:=List.contains_iff_mem.1 h
  obtain ⟨i,hi⟩:=List.mem_iff_getElem?.1 h
  exact A.out.2 i no (by have:=(List.getElem?_eq_some_iff.1 hi).1;omega) hi rfl
 clear A
 go_wp2
 go_ret
 exact ⟨by rw[u.out];rfl,l⟩
attribute [local go_sem] Lb Va Vw UK
theorem Vd(n:Nat):madeCells (Value.int .u8 0).cells n=(A1 (List.replicate n 0)).toArray:=by
 apply Array.ext
 ·simp[madeCells,A1]
 intro i h1 a
 have e:(Value.int .u8 0).cells= #[Value.int .u8 0]:=rfl
 simp[madeCells,A1,bv,e,Nat.mod_one]
theorem Z1(n:Nat)(a:n≤1099511627776)(w:World):(Instr.makeSlice 26 (.int .i64 n) (.int .i64 n)).run Tryz.prog w= .ok (.slice (some ⟨w.heap.size,0,none⟩) n n) (w.alloc (.cells (A1 (List.replicate n 0)).toArray TB)):=by
 obtain ⟨i,E⟩:=D2
 have h:=run_make (P:=Tryz.prog) w 26 TB i (.int .u8 0) E.Pd E.info E.zero .i64 .i64 n n (by omega) (by omega) (by rw[E.bytes];omega) (by omega)
 rw[E.size,Nat.mul_one,Int.toNat_natCast,Vd] at h
 exact h
theorem QB(l:List Int)(x:Int):x∈Em l↔x∈l:=(List.mergeSort_perm l _).mem_iff
theorem Io{s:ByteArray}(h:Dk.named s=true):s.size≤9223372036854775807:=by
 rcases Nat.lt_or_ge 16 s.size with h1|h1
 ·rw[MD (.inr h1)] at h;cases h
 omega
theorem PG{s:Ck}{no:Int}(h:s.CD no=true):Bo s.its no=true:=by
 unfold Ck.CD at h
 have h1:=List.contains_iff_mem.1 h
 unfold BE at h1
 have a:=(QB _ _).1 h1
 obtain ⟨n,b,rfl⟩:=List.mem_map.1 a
 unfold Bo
 rw[List.any_eq_true]
 exact ⟨n,(List.mem_filter.1 b).1,by simp⟩
theorem I'{m:Nat}{d:Dk}(ok:Ok m d)(nm:ByteArray): ∃sz:Nat,max 0 (d.size nm)=sz∧sz≤1099511627776∧d.size nm≤sz∧ -1≤d.size nm:=by
 unfold Dk.size
 split
 ·exact ⟨0,by omega,by omega,by omega,by omega⟩
 refine ⟨((d.get nm).getD Dk.KF).now.length,by omega,?_,by omega,by omega⟩
 cases h:d.get nm with
 |none=>simp[Dk.KF]
 | some f =>
  have:(nm,f)∈d.files:=by
   unfold Dk.get at h
   generalize d.files=l at h
   induction l with
   |nil=>simp[EC] at h
   | cons p l a =>
    unfold EC at h
    split at h
    ·cases h;subst nm;simp
    exact List.mem_cons_of_mem _ (a h)
  exact (ok.sz _ this).1
theorem U6(C L D PM : Nat)(ps : List Pg)(s : Ck)(m : Nat)(no : Int)(F : Ac)(w : World)(hs : Sat (BI C L D PM ps s * F) w)(hp : BP ps = s.CO)(ok : Bf m s)(hm : m ≤ 549755813888)(h0 : 0 ≤ no)(h1 : no < 1048576) :
 Calls Tryz.prog 101 #[.pointer (some ⟨C,0,none⟩),.int .i64 no] w fun e f=>e= .returned (.int .i64 (s.write no).1)∧Sat (BI C L D PM ps (s.write no).2*F) f:=by
 unfold BI at hs
 have n:=YP C L D PM s no _ w (hs.ML (coreC C L D PM s) (C8 L s.cap s.its)) ok.LC
 cases O:s.CD no with
 | false =>
  have e:s.write no=(0,s):=by unfold Ck.write;rw[if_pos O]
  rw[e]
  rw[O] at n
  clear e
  go_enter Tryz.func101,Tryz.ntmps101
  go_wp2_with fail
  refine n.mono ?_
  rintro e u ⟨rfl,I⟩
  go_wp2
  go_ret
  exact ⟨rfl,I.eq (by unfold BI;ac_rfl)⟩
 | true =>
  rw[O] at n
  have X:=PG O
  rw[ok.same,←hp] at X
  rcases Hk ps no with ⟨l1,p,l2,rfl,rfl,G⟩|a3
  ·obtain ⟨sz,y,ac,ad,W⟩:=I' ok.dk s.nm
   obtain ⟨q1,q2,_⟩:=Hl (l2:=l2) G
   rw[hp] at q1
   have hb:s.As p.key=p.b:=by unfold Ck.As;rw[q1];rfl
   have o:s.nm.size≤9223372036854775807:=Io ok.nm
   have HW:Aside (s.write p.key=if (sz:Int)<p.key*256 then (if (s.pad p.key).1=0 then Ck.Bw { s with d:=(s.pad p.key).2 } p.key else ((s.pad p.key).1, { s with d:=(s.pad p.key).2 })) else s.Bw p.key):=by
    show _=_
    unfold Ck.write
    rw[if_neg (by simp[O]),y]
   go_enter Tryz.func101,Tryz.ntmps101
   go_wp2_with fail
   refine n.mono ?_
   rintro e u ⟨rfl,I⟩
   clear n hs
   have Y:Aside (G=G∧(CK p.key ((l1++p::l2).map JE)=some p.v)∧s.As p.key=p.b):=⟨rfl,q2,hb⟩
   have Z:Aside (BP (l1++p::l2)=s.CO):=hp
   clear q1 q2 hb X hp O W
   haveI:=I.i
   go_upto_region 3 with (fail)
   go_region_held3 (fun f=>f.cell? ⟨C,1,none⟩=some (.pointer (some ⟨D,0,none⟩))∧f.cell? ⟨C,2,none⟩=some (.string s.nm)) (first|exact ⟨Ab _ _ _,Ab _ _ _⟩) (first
    |(go_at_call 50;refine (Uk D s.d s.nm _ _ (Af (B6 D s.d)) o).mono ?_;rintro e w2 ⟨rfl,rfl⟩))
   go_upto_if 25 with (fail)
   go_cut [6] (fun t6 wx=> ∃(c:Dk)(P:Nat),P≤824633720832∧Aside (s.write p.key=Ck.Bw { s with d:=c } p.key∧Ok P c)∧Sat (coreC C L D PM s*(C8 L s.cap s.its*(B6 D c*(mp A8 PM ((l1++p::l2).map JE)*(AV (l1++p::l2)*F))))) wx)
   case first =>
    by_cases H:(sz:Int)<p.key*256
    · obtain ⟨a,a2,ab⟩: ∃a:Nat,p.key*256-sz=(a:Int)∧a≤268435456:=⟨(p.key*256-sz).toNat,by omega,by omega⟩
      have ah:=Z1 a (by omega)
      have g:s.pad p.key=s.d.write s.nm sz (List.replicate a 0):=by
       unfold Ck.pad
       rw[y,a2,Int.toNat_natCast]
      have k:=O1 ok.dk s.nm sz (List.replicate a 0)
      rw[←g,List.length_replicate] at k
      have HK:Aside (Ok (m+1+a) (s.pad p.key).2):=k
      have T:Aside (s.write p.key=if (s.pad p.key).1=0 then Ck.Bw { s with d:=(s.pad p.key).2 } p.key else ((s.pad p.key).1, { s with d:=(s.pad p.key).2 })):=by
       show _=_
       rw[HW.out,if_pos H]
      have z:Aside (s.pad p.key=s.d.write s.nm sz (List.replicate a 0)):=g
      by_cases j:(s.pad p.key).1=0
      · have K:((s.d.write s.nm sz (List.replicate a 0)).1 !=0)=false:=by rw[←g];simpa using j
        have M:Aside ((s.pad p.key).1=0):=j
        clear g k j
        go_upto_region 5 with (fail)
        have hw1:=Bc (p.key*256) (by omega)
        have hw2:IntKind.i64.wrap (a:Int)=a:=IntWalk.i64_in _ (by omega)
        go_region_held3 (fun f=>f.cell? ⟨C,1,none⟩=some (.pointer (some ⟨D,0,none⟩))∧f.cell? ⟨C,2,none⟩=some (.string s.nm)) (first|exact ⟨Ab _ _ _,Ab _ _ _⟩) (first
         |(go_at_call 147;refine (JS D s.d m s.nm sz _ (List.replicate a 0) (block u.heap.size TB (A1 (List.replicate a 0))) _ _ (by have j:=Reads.QS (b:=u.heap.size) (e:=TB) (l:=List.replicate a 0) (by rw[List.length_replicate];unfold maxLen;omega);rw[List.length_replicate] at j;exact j) (Sat.ML E3 (B6 D s.d) (block u.heap.size TB (A1 (List.replicate a 0)))) o (by rw[List.length_replicate];omega) ok.dk (by unfold Pn;omega)).mono ?_;rintro e w3 ⟨rfl,J⟩;haveI:=J.i))
        all_goals
         go_wp2_with fail
         go_meet
         refine ⟨(s.pad p.key).2,m+1+a,by omega,⟨by rw[T.out,if_pos M.out],HK.out⟩,?_⟩
         rw[z.out]
         exact A6 (C:=block u.heap.size TB (A1 (List.replicate a 0))) (by ac_rfl)
      have K:((s.d.write s.nm sz (List.replicate a 0)).1 !=0)=true:=by rw[←g];simpa using j
      have M:Aside ((s.pad p.key).1≠0):=j
      clear g k j
      go_upto_region 5 with (fail)
      have hw1:=Bc (p.key*256) (by omega)
      have hw2:IntKind.i64.wrap (a:Int)=a:=IntWalk.i64_in _ (by omega)
      go_region_held3 (fun f=>f.cell? ⟨C,1,none⟩=some (.pointer (some ⟨D,0,none⟩))∧f.cell? ⟨C,2,none⟩=some (.string s.nm)) (first|exact ⟨Ab _ _ _,Ab _ _ _⟩) (first
       |(go_at_call 147;refine (JS D s.d m s.nm sz _ (List.replicate a 0) (block u.heap.size TB (A1 (List.replicate a 0))) _ _ (by have j:=Reads.QS (b:=u.heap.size) (e:=TB) (l:=List.replicate a 0) (by rw[List.length_replicate];unfold maxLen;omega);rw[List.length_replicate] at j;exact j) (Sat.ML E3 (B6 D s.d) (block u.heap.size TB (A1 (List.replicate a 0)))) o (by rw[List.length_replicate];omega) ok.dk (by unfold Pn;omega)).mono ?_;rintro e w3 ⟨rfl,J⟩;haveI:=J.i))
      all_goals
       go_wp2_with fail
       go_ret
       refine ⟨?_,?_⟩
       · rw[T.out,if_neg M.out,z.out];rfl
       rw[T.out,if_neg M.out,z.out]
       exact A6 (C:=block u.heap.size TB (A1 (List.replicate a 0))) (by unfold BI;ac_rfl)
    have aa: ¬(sz:Int)<p.key*256:=H
    have T:Aside (s.write p.key=s.Bw p.key):=by
     show _=_
     rw[HW.out,if_neg H]
    go_wp2_with fail
    go_meet
    exact ⟨s.d,m,by omega,⟨T.out,ok.dk⟩,Av (by ac_rfl)⟩
   obtain ⟨c,P,ag,A,r⟩:=hcut
   obtain ⟨hw,x⟩:=A.out
   obtain ⟨R,B,a1⟩: ∃R,AV (l1++p::l2)=rw TB 1 p.v (A1 p.b)*R∧True:=⟨AV l1*AV l2,by rw[CE];show AV l1*(_*AV l2)=_;ac_rfl,trivial⟩
   rw[B] at r
   have V:=Y.out.2.2
   have q:=Y.out.2.1
   obtain ⟨va,vc,a4,aj,ak⟩:=G0 (r.take (rw TB 1 p.v (A1 p.b)))
   have ai:p.b.length=256:=by
    have:=(ok.As (p.key,p.b) (by rw[←Z.out];simp[BP])).1
    exact this
   have HR:Aside (AV (l1++p::l2)=rw TB 1 p.v (A1 p.b)*R):=B
   have U:Aside (s.write p.key=Ck.Bw { s with d:=c } p.key):=hw
   have HO:Aside (Ok P c):=x
   have HB:Aside (Ck.As { s with d:=c } p.key=p.b):=V
   clear A hw B a1 HW x V Y a4
   by_cases j:(c.write s.nm (p.key*256) p.b).1=0
   · have K:((c.write s.nm (p.key*256) p.b).1==0)=true:=by simpa using j
     have Q:Aside (s.write p.key=(0, { s with d:=(c.write s.nm (p.key*256) p.b).2,its:=Bm s.its p.key false })):=by
      show _=_
      rw[U.out];unfold Ck.Bw;rw[HB.out];rw[if_pos j]
     have M:Aside ((c.write s.nm (p.key*256) p.b).1=0):=j
     clear j
     haveI:=r.i
     go_upto_region 8 with (fail)
     have hw1:=Bc (p.key*256) (by omega)
     go_region_held3 (fun f=>f.cell? ⟨C,1,none⟩=some (.pointer (some ⟨D,0,none⟩))∧f.cell? ⟨C,2,none⟩=some (.string s.nm)∧f.cell? ⟨C,4,none⟩=some (.map (some PM))∧(Instr.lookup YA (.map (some PM)) (.int .i64 p.key) false).run Tryz.prog f= .ok p.v f) (first|exact ⟨Ab _ _ _,Ab _ _ _,Ab _ _ _,by rw[Lb,q];rfl⟩) (first
      |(go_at_call 147;refine (JS D c P s.nm (p.key*256) p.v p.b (rw TB 1 p.v (A1 p.b)) _ _ Reads.rw (Sat.ML E3 (B6 D c) (rw TB 1 p.v (A1 p.b))) o (by omega) HO.out (by unfold Pn;omega)).mono ?_;rintro e w4 ⟨rfl,t⟩;haveI:=t.i))
     all_goals
      clear q
      go_wp2_with fail
      refine (Zv L s.cap s.its p.key false _ _ (Af (C8 L s.cap s.its)) ok.LC).mono ?_
      rintro e w5 ⟨rfl,a5⟩
      go_wp2
      go_ret
      refine ⟨?_,?_⟩
      · rw[Q.out]
        show Ending.returned (.int .i64 (c.write s.nm (p.key*256) p.b).1)=_
        rw[M.out]
      rw[Q.out]
      refine a5.eq ?_
      unfold BI
      rw[HR.out]
      show C8 L s.cap (Bm s.its p.key false)*_=coreC C L D PM s*(C8 L s.cap (Bm s.its p.key false)*(B6 D (c.write s.nm (p.key*256) p.b).2*_))*_
      ac_rfl
   have K:((c.write s.nm (p.key*256) p.b).1==0)=false:=by simpa using j
   have Q:Aside (s.write p.key=((c.write s.nm (p.key*256) p.b).1, { s with d:=(c.write s.nm (p.key*256) p.b).2 })):=by
    show _=_
    rw[U.out];unfold Ck.Bw;rw[HB.out];rw[if_neg j]
   clear j
   haveI:=r.i
   go_upto_region 8 with (fail)
   have hw1:=Bc (p.key*256) (by omega)
   go_region_held3 (fun f=>f.cell? ⟨C,1,none⟩=some (.pointer (some ⟨D,0,none⟩))∧f.cell? ⟨C,2,none⟩=some (.string s.nm)∧f.cell? ⟨C,4,none⟩=some (.map (some PM))∧(Instr.lookup YA (.map (some PM)) (.int .i64 p.key) false).run Tryz.prog f= .ok p.v f) (first|exact ⟨Ab _ _ _,Ab _ _ _,Ab _ _ _,by rw[Lb,q];rfl⟩) (first
    |(go_at_call 147;refine (JS D c P s.nm (p.key*256) p.v p.b (rw TB 1 p.v (A1 p.b)) _ _ Reads.rw (Sat.ML E3 (B6 D c) (rw TB 1 p.v (A1 p.b))) o (by omega) HO.out (by unfold Pn;omega)).mono ?_;rintro e w4 ⟨rfl,t⟩;haveI:=t.i))
   all_goals
    clear q
    go_wp2
    go_ret
    refine ⟨?_,?_⟩
    · rw[Q.out];rfl
    rw[Q.out]
    refine t.eq ?_
    unfold BI
    rw[HR.out]
    show B6 D (c.write s.nm (p.key*256) p.b).2*_=coreC C L D PM s*(C8 L s.cap s.its*(B6 D (c.write s.nm (p.key*256) p.b).2*_))*_
    ac_rfl
  rw[(JL a3).1] at X
  cases X
