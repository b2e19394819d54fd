/- treeFails holds for every input. No condition. (part 11) -/
import Derived.Test.YtfhbmblbidcmmaaGreatYa9
import Derived.Test.YtfhbmblbidcmmaaGreatYa10
set_option linter.all false
set_option maxRecDepth 100000
set_option maxHeartbeats 1000000
namespace Go.Proofs.YtfhbmblbidcmmaaGreat
open Go.RowKit Go.Sl Go.Dk
open Go.UB (AZ)
attribute [go_sem] Go.Sl.Aa Go.Sl.JL
abbrev TC:TypeId:=203
abbrev Wc:TypeId:=201
structure Pg where
 key:Int
 v:Value
 b:List UInt8
def Jy(p:Pg):Int×Value:=(p.key,p.v)
def AX:List Pg→Ac
 | []=>1
 |p::l=>rw TB 1 p.v (A4 p.b)*AX l
def B8(ps:List Pg):Qu:=ps.map fun p=>(p.key,p.b)
def coreC(C L D PM:Nat)(s:Ck):Ac:=
 Dl C TC 6*(Sl.cell C 0 (.pointer (some ⟨L,0,none⟩))*(Sl.cell C 1 (.pointer (some ⟨D,0,none⟩))*(Sl.cell C 2 (.string s.nm)*(Sl.cell C 3 (.int .i64 s.cap)*(Sl.cell C 4 (.map (some PM))*Sl.cell C 5 (.int .i64 s.reads))))))
section
variable (C L D PM:Nat) (s:Ck)
instance:DA (coreC C L D PM s) C 0 (.pointer (some ⟨L,0,none⟩)):=by unfold coreC;infer_instance
instance:DA (coreC C L D PM s) C 1 (.pointer (some ⟨D,0,none⟩)):=by unfold coreC;infer_instance
instance:DA (coreC C L D PM s) C 2 (.string s.nm):=by unfold coreC;infer_instance
instance:DA (coreC C L D PM s) C 3 (.int .i64 s.cap):=by unfold coreC;infer_instance
instance:DA (coreC C L D PM s) C 4 (.map (some PM)):=by unfold coreC;infer_instance
instance:DA (coreC C L D PM s) C 5 (.int .i64 s.reads):=by unfold coreC;infer_instance
instance(n:Int):UC (coreC C L D PM s) C 5 (.int .i64 n) (coreC C L D PM { s with reads:=n }):=by unfold coreC;infer_instance
end
def BN(C L D PM:Nat)(ps:List Pg)(s:Ck):Ac:=coreC C L D PM s*(Cf L s.cap s.its*(Bh D s.d*(mp AZ PM (ps.map Jy)*AX ps)))
def AD(C D:Nat)(s:Ck):Ac:=ex fun x:Nat×Nat×List Pg=>Yb (B8 x.2.2=s.BU)*BN C x.1 D x.2.1 x.2.2 s
theorem Sat.Cv{C D:Nat}{s:Ck}{F:Ac}{w:World}(hs:Sat (AD C D s*F) w): ∃L PM ps,B8 ps=s.BU∧Sat (BN C L D PM ps s*F) w:=by
 obtain ⟨⟨L,PM,ps⟩,h⟩:=hs.Mu
 rw[Ar] at h
 obtain ⟨a,b⟩:=h.Fp
 exact ⟨L,PM,ps,a,b⟩
theorem Sat.AW{C D L PM:Nat}{ps:List Pg}{s:Ck}{F:Ac}{w:World}(a:B8 ps=s.BU)(hs:Sat (BN C L D PM ps s*F) w):Sat (AD C D s*F) w:=by
 refine Sat.Mv (L,PM,ps) ?_
 rw[Ar]
 exact Sat.KU a hs
theorem C1(l1 l2:List Pg):AX (l1++l2)=AX l1*AX l2:=by
 induction l1 with
 |nil=>simp[AX,Am]
 |cons n l a=>simp[AX,a,Ar]
theorem GP(ps:List Pg)(k:Int):(∃l1 p l2,ps=l1++p::l2∧p.key=k∧ ∀m∈l1,m.key≠k)∨ ∀p∈ps,p.key≠k:=by
 induction ps with
 |nil=>exact .inr (by simp)
 | cons m l d =>
  by_cases a:m.key=k
  ·exact .inl ⟨[],m,l,rfl,a,by simp⟩
  rcases d with ⟨l1,n,l2,rfl,b,c⟩|h
  ·exact .inl ⟨m::l1,n,l2,rfl,b,fun x hx=>by rcases List.mem_cons.1 hx with rfl|hx;exact a;exact c x hx⟩
  exact .inr fun x hx=>by rcases List.mem_cons.1 hx with rfl|hx;exact a;exact h x hx
theorem Jn{ps:List Pg}{k:Int}(h: ∀p∈ps,p.key≠k):AP k (B8 ps)=none∧Dx k (ps.map Jy)=none∧(∀b,Cg k b (B8 ps)=B8 ps++ [(k,b)])∧(∀v,Er k v (ps.map Jy)=ps.map Jy++ [(k,v)]):=by
 induction ps with
 |nil=>exact ⟨rfl,rfl,fun _=>rfl,fun _=>rfl⟩
 | cons n l i =>
  have a: ¬k=n.key:=fun e=>h n (by simp) e.symm
  obtain ⟨c,d,f,g⟩:=i fun m hm=>h m (by simp[hm])
  refine ⟨?_,?_,fun b=>?_,fun v=>?_⟩
  ·show (if k=n.key then _ else _)=_;rw[if_neg a];exact c
  ·show (if k=n.key then _ else _)=_;rw[if_neg a];exact d
  ·show (if k=n.key then _ else _)=_;rw[if_neg a];show _::Cg k b (B8 l)=_;rw[f];rfl
  show (if k=n.key then _ else _)=_;rw[if_neg a];show _::Er k v (l.map Jy)=_;rw[g];rfl
theorem GQ{l1:List Pg}{p:Pg}{l2:List Pg}(h: ∀m∈l1,m.key≠p.key):AP p.key (B8 (l1++p::l2))=some p.b∧Dx p.key ((l1++p::l2).map Jy)=some p.v∧
 (∀b,Cg p.key b (B8 (l1++p::l2))=B8 (l1++ { p with b:=b } ::l2))∧EV p.key (B8 (l1++p::l2))=B8 (l1++l2)∧EU p.key ((l1++p::l2).map Jy)=(l1++l2).map Jy:=by
 induction l1 with
 |nil=>simp[B8,AP,Dx,Jy,Cg,EV,EU]
 | cons n l j =>
  have a: ¬p.key=n.key:=fun e=>h n (by simp) e.symm
  obtain ⟨c,d,f,g,i⟩:=j fun m hm=>h m (by simp[hm])
  refine ⟨?_,?_,fun b=>?_,?_,?_⟩
  ·show (if p.key=n.key then _ else _)=_;rw[if_neg a];exact c
  ·show (if p.key=n.key then _ else _)=_;rw[if_neg a];exact d
  ·show (if p.key=n.key then _ else _)=_;rw[if_neg a];show _::Cg p.key b (B8 (l++p::l2))=_;rw[f];rfl
  ·show (if p.key=n.key then _ else _)=_;rw[if_neg a];show _::EV p.key (B8 (l++p::l2))=_;rw[g];rfl
  show (if p.key=n.key then _ else _)=_;rw[if_neg a];show _::EU p.key ((l++p::l2).map Jy)=_;rw[i];rfl
instance OY:PB Tryz.prog Wc Int AZ (.slice none 0 0):=⟨3,26,I3,Tryz.underlying201,fun w=>by kernel_rfl⟩
theorem KA(w:World)(M:Nat)(k:Int){A:Ac}{ms:List (Int×Value)}[h:BG A w][h2:FG A M AZ ms]:(Instr.lookup Wc (.map (some M)) (.int .i64 k) false).run Tryz.prog w= .ok ((Dx k ms).getD (.slice none 0 0)) w:=Nb OY w M k
theorem SO(w:World)(M:Nat)(a:TypeId){A:Ac}{ms:List (Int×Value)}[h:BG A w][h2:FG A M AZ ms]:(Builtin.len_ #[Wc] a #[.map (some M)]).run Tryz.prog w= .ok (.int .i64 ms.length) w:=Y7 OY w M a
theorem Tj(w:World)(M:Nat)(k:Int)(v:Value){A:Ac}{ms:List (Int×Value)}[h:BG A w][h2:FG A M AZ ms]:(Instr.mapUpdate Wc (.map (some M)) (.int .i64 k) v).run Tryz.prog w= .ok () (NC Tryz.prog Wc M (AZ k) v w):=Ux OY w M k v
theorem S8(w:World)(M:Nat)(k:Int)(a b:TypeId){A:Ac}{ms:List (Int×Value)}[h:BG A w][h2:FG A M AZ ms]:(Builtin.delete_ #[Wc,a] b #[.map (some M),.int .i64 k]).run Tryz.prog w= .ok (.tuple #[]) (Oh Tryz.prog Wc M (AZ k) w):=Ua OY w M k a b
instance{w:World}{M:Nat}{k:Int}{v:Value}{A A':Ac}{ms:List (Int×Value)}[h:BG A w][h2:FG A M AZ ms][h3:Mm A M AZ (Er k v ms) A']:BG A' (NC Tryz.prog Wc M (AZ k) v w):=Qh OY
instance{w:World}{M:Nat}{k:Int}{A A':Ac}{ms:List (Int×Value)}[h:BG A w][h2:FG A M AZ ms][h3:Mm A M AZ (EU k ms) A']:BG A' (Oh Tryz.prog Wc M (AZ k) w):=Ub OY
def Z6(l:List Int)(k:Int):Bool:=l.contains k
theorem Ws(C L D PM:Nat)(s:Ck)(no:Int)(F:Ac)(w:World)(hs:Sat (coreC C L D PM s*(Cf L s.cap s.its*F)) w)(ok:DP s.its):
 Calls Tryz.prog 146 #[.pointer (some ⟨C,0,none⟩),.int .i64 no] w fun e R=>e= .returned (.bool (s.Ca no))∧Sat (coreC C L D PM s*(Cf L s.cap s.its*F)) R:=by
 have f:=Uo L s.cap s.its _ w (hs.take (Cf L s.cap s.its)) ok
 obtain ⟨r,v⟩: ∃r,Aside (s.Ca no=r):=⟨_,rfl⟩
 rw[v.out]
 have t:Aside (r=Z6 (BC s.its) no):=v.out.symm
 clear v
 obtain ⟨zs,m⟩: ∃zs,BC s.its=zs:=⟨_,rfl⟩
 rw[m] at f t
 clear m
 haveI:=hs.i
 go_enter Tryz.func146,Tryz.ntmps146
 go_wp2_with fail
 refine f.mono ?_
 rintro e K ⟨a,n,c,rfl,d⟩
 have P:n=zs.length:=by have:=d.XB;simpa using this
 subst P
 have J:=Ints.Zm d
 have l:Sat (coreC C L D PM s*(Cf L s.cap s.its*F)) K:=d.right.eq (by ac_rfl)
 have x:=Oo d
 have Q:zs.length≤9223372036854775807:=by
  obtain ⟨_,_,_,I,p,U,V⟩:=x
  cases I;omega
 clear f hs x d
 go_wp2_with fail
 go_loopg [13] zs.length (fun k i wr=> ∃(j:Nat),i= .int .i64 j∧j≤zs.length∧Aside (k=zs.length-j∧ ∀i z,i<j→zs[i]?=some z→z≠no)∧K=wr)
 case atStart=>exact ⟨0,rfl,by omega,⟨rfl,by omega⟩,rfl⟩
 obtain ⟨j,rfl,W,A,rfl⟩:=hrel
 by_cases B:j<zs.length
 · have g:(j:Int)<zs.length:=by omega
   obtain ⟨z,G⟩: ∃z,zs[j]?=some z:=⟨zs[j],by simp[B]⟩
   obtain ⟨b,o,rfl,x⟩:=J.at G
   have H:Aside (zs[j]?=some z):=G
   clear J G
   by_cases q:z=no
   ·subst q
    have u:Aside (r=true):=by
     show r=true
     rw[t.out];unfold Z6
     simp only[List.contains_iff_mem]
     exact List.mem_of_getElem? H.out
    go_wp2
    go_ret
    exact ⟨by rw[u.out];rfl,l⟩
   have O:(z==no)=false:=by simpa using q
   have M:Aside (z≠no):=q
   clear q
   go_wp2
   go_roundg (zs.length-(j+1))
   case measure=>have:=A.out.1;omega
   refine ⟨j+1,by go_num,by omega,⟨rfl,fun i T I p=>?_⟩,rfl⟩
   by_cases y:i=j
   ·subst y;rw[H.out] at p;cases p;exact M.out
   exact A.out.2 i T (by omega) p
 have g: ¬(j:Int)<zs.length:=by omega
 have u:Aside (r=false):=by
  show r=false
  rw[t.out];unfold Z6
  rw[Bool.eq_false_iff]
  intro h
  have h:=List.contains_iff_mem.1 h
  obtain ⟨i,hi⟩:=List.mem_iff_getElem?.1 h
  exact A.out.2 i no (by have:=(List.getElem?_eq_some_iff.1 hi).1;omega) hi rfl
 clear A
 go_wp2
 go_ret
 exact ⟨by rw[u.out];rfl,l⟩
attribute [local go_sem] KA SO Tj S8
theorem SS(n:Nat):madeCells (Value.int .u8 0).cells n=(A4 (List.replicate n 0)).toArray:=by
 apply Array.ext
 ·simp[madeCells,A4]
 intro i a b
 have e:(Value.int .u8 0).cells= #[Value.int .u8 0]:=rfl
 simp[madeCells,A4,bv,e,Nat.mod_one]
theorem Rf(n:Nat)(a:n≤1099511627776)(w:World):(Instr.makeSlice 26 (.int .i64 n) (.int .i64 n)).run Tryz.prog w= .ok (.slice (some ⟨w.heap.size,0,none⟩) n n) (w.alloc (.cells (A4 (List.replicate n 0)).toArray TB)):=by
 obtain ⟨i,E⟩:=Ez
 have h:=run_make (P:=Tryz.prog) w 26 TB i (.int .u8 0) E.NV E.info E.zero .i64 .i64 n n (by omega) (by omega) (by rw[E.bytes];omega) (by omega)
 rw[E.size,Nat.mul_one,Int.toNat_natCast,SS] at h
 exact h
theorem P1(l:List Int)(x:Int):x∈E8 l↔x∈l:=(List.mergeSort_perm l _).mem_iff
theorem Hs{s:ByteArray}(h:Dk.named s=true):s.size≤9223372036854775807:=by
 rcases Nat.lt_or_ge 16 s.size with a|a
 ·rw[LY (.inr a)] at h;cases h
 omega
theorem O9{s:Ck}{no:Int}(h:s.Ca no=true):Bf s.its no=true:=by
 unfold Ck.Ca at h
 have a:=List.contains_iff_mem.1 h
 unfold BC at a
 have b:=(P1 _ _).1 a
 obtain ⟨n,c,rfl⟩:=List.mem_map.1 b
 unfold Bf
 rw[List.any_eq_true]
 exact ⟨n,(List.mem_filter.1 c).1,by simp⟩
theorem XE{m:Nat}{d:Dk}(ok:Ok m d)(nm:ByteArray): ∃sz:Nat,max 0 (d.size nm)=sz∧sz≤1099511627776∧d.size nm≤sz∧ -1≤d.size nm:=by
 unfold Dk.size
 split
 ·exact ⟨0,by omega,by omega,by omega,by omega⟩
 refine ⟨((d.get nm).getD Dk.Io).now.length,by omega,?_,by omega,by omega⟩
 cases h:d.get nm with
 |none=>simp[Dk.Io]
 | some f =>
  have:(nm,f)∈d.files:=by
   unfold Dk.get at h
   generalize d.files=l at h
   induction l with
   |nil=>simp[Cb] at h
   | cons p l a =>
    unfold Cb at h
    split at h
    ·cases h;subst nm;simp
    exact List.mem_cons_of_mem _ (a h)
  exact (ok.sz _ this).1
theorem Sq(C L D PM : Nat)(ps : List Pg)(s : Ck)(m : Nat)(no : Int)(F : Ac)(w : World)(hs : Sat (BN C L D PM ps s * F) w)(hp : B8 ps = s.BU)(ok : Bi m s)(hm : m ≤ 549755813888)(h0 : 0 ≤ no)(h1 : no < 1048576) :
 Calls Tryz.prog 101 #[.pointer (some ⟨C,0,none⟩),.int .i64 no] w fun e f=>e= .returned (.int .i64 (s.write no).1)∧Sat (BN C L D PM ps (s.write no).2*F) f:=by
 unfold BN at hs
 have n:=Ws C L D PM s no _ w (hs.Mh (coreC C L D PM s) (Cf L s.cap s.its)) ok.Lj
 cases P:s.Ca no with
 | false =>
  have e:s.write no=(0,s):=by unfold Ck.write;rw[if_pos P]
  rw[e]
  rw[P] at n
  clear e
  go_enter Tryz.func101,Tryz.ntmps101
  go_wp2_with fail
  refine n.mono ?_
  rintro e u ⟨rfl,I⟩
  go_wp2
  go_ret
  exact ⟨rfl,I.eq (by unfold BN;ac_rfl)⟩
 | true =>
  rw[P] at n
  have Y:=O9 P
  rw[ok.same,←hp] at Y
  rcases GP ps no with ⟨l1,p,l2,rfl,rfl,G⟩|a4
  ·obtain ⟨sz,y,ae,af,X⟩:=XE ok.dk s.nm
   obtain ⟨q1,q2,_⟩:=GQ (l2:=l2) G
   rw[hp] at q1
   have hb:s.Ay p.key=p.b:=by unfold Ck.Ay;rw[q1];rfl
   have o:s.nm.size≤9223372036854775807:=Hs ok.nm
   have HW:Aside (s.write p.key=if (sz:Int)<p.key*256 then (if (s.pad p.key).1=0 then Ck.Bn { s with d:=(s.pad p.key).2 } p.key else ((s.pad p.key).1, { s with d:=(s.pad p.key).2 })) else s.Bn p.key):=by
    show _=_
    unfold Ck.write
    rw[if_neg (by simp[P]),y]
   go_enter Tryz.func101,Tryz.ntmps101
   go_wp2_with fail
   refine n.mono ?_
   rintro e u ⟨rfl,I⟩
   clear n hs
   have Z:Aside (G=G∧(Dx p.key ((l1++p::l2).map Jy)=some p.v)∧s.Ay p.key=p.b):=⟨rfl,q2,hb⟩
   have a0:Aside (B8 (l1++p::l2)=s.BU):=hp
   clear q1 q2 hb Y hp P X
   haveI:=I.i
   go_upto_region 3 with (fail)
   go_region_held3 (fun f=>f.cell? ⟨C,1,none⟩=some (.pointer (some ⟨D,0,none⟩))∧f.cell? ⟨C,2,none⟩=some (.string s.nm)) (first|exact ⟨Aa _ _ _,Aa _ _ _⟩) (first
    |(go_at_call 50;refine (XD D s.d s.nm _ _ (Ae (Bh D s.d)) o).mono ?_;rintro e w2 ⟨rfl,rfl⟩))
   go_upto_if 25 with (fail)
   go_cut [6] (fun t6 wx=> ∃(c:Dk)(Q:Nat),Q≤824633720832∧Aside (s.write p.key=Ck.Bn { s with d:=c } p.key∧Ok Q c)∧Sat (coreC C L D PM s*(Cf L s.cap s.its*(Bh D c*(mp AZ PM ((l1++p::l2).map Jy)*(AX (l1++p::l2)*F))))) wx)
   case first =>
    by_cases H:(sz:Int)<p.key*256
    · obtain ⟨a,a3,ad⟩: ∃a:Nat,p.key*256-sz=(a:Int)∧a≤268435456:=⟨(p.key*256-sz).toNat,by omega,by omega⟩
      have aj:=Rf a (by omega)
      have g:s.pad p.key=s.d.write s.nm sz (List.replicate a 0):=by
       unfold Ck.pad
       rw[y,a3,Int.toNat_natCast]
      have k:=Nv ok.dk s.nm sz (List.replicate a 0)
      rw[←g,List.length_replicate] at k
      have HK:Aside (Ok (m+1+a) (s.pad p.key).2):=k
      have U:Aside (s.write p.key=if (s.pad p.key).1=0 then Ck.Bn { s with d:=(s.pad p.key).2 } p.key else ((s.pad p.key).1, { s with d:=(s.pad p.key).2 })):=by
       show _=_
       rw[HW.out,if_pos H]
      have z:Aside (s.pad p.key=s.d.write s.nm sz (List.replicate a 0)):=g
      by_cases j:(s.pad p.key).1=0
      · have M:((s.d.write s.nm sz (List.replicate a 0)).1 !=0)=false:=by rw[←g];simpa using j
        have O:Aside ((s.pad p.key).1=0):=j
        clear g k j
        go_upto_region 5 with (fail)
        have K:IntKind.i64.wrap (p.key*256)=p.key*256:=IntWalk.i64_in _ (by omega)
        have a7:IntKind.i64.wrap (a:Int)=a:=IntWalk.i64_in _ (by omega)
        go_region_held3 (fun f=>f.cell? ⟨C,1,none⟩=some (.pointer (some ⟨D,0,none⟩))∧f.cell? ⟨C,2,none⟩=some (.string s.nm)) (first|exact ⟨Aa _ _ _,Aa _ _ _⟩) (first
         |(go_at_call 147;refine (Ju D s.d m s.nm sz _ (List.replicate a 0) (block u.heap.size TB (A4 (List.replicate a 0))) _ _ (by have j:=Reads.MC (b:=u.heap.size) (e:=TB) (l:=List.replicate a 0) (by rw[List.length_replicate];unfold maxLen;omega);rw[List.length_replicate] at j;exact j) (Sat.Mh Es (Bh D s.d) (block u.heap.size TB (A4 (List.replicate a 0)))) o (by rw[List.length_replicate];omega) ok.dk (by unfold Iq;omega)).mono ?_;rintro e w3 ⟨rfl,J⟩;haveI:=J.i))
        all_goals
         go_wp2_with fail
         go_meet
         refine ⟨(s.pad p.key).2,m+1+a,by omega,⟨by rw[U.out,if_pos O.out],HK.out⟩,?_⟩
         rw[z.out]
         exact Br (C:=block u.heap.size TB (A4 (List.replicate a 0))) (by ac_rfl)
      have M:((s.d.write s.nm sz (List.replicate a 0)).1 !=0)=true:=by rw[←g];simpa using j
      have O:Aside ((s.pad p.key).1≠0):=j
      clear g k j
      go_upto_region 5 with (fail)
      have K:IntKind.i64.wrap (p.key*256)=p.key*256:=IntWalk.i64_in _ (by omega)
      have a7:IntKind.i64.wrap (a:Int)=a:=IntWalk.i64_in _ (by omega)
      go_region_held3 (fun f=>f.cell? ⟨C,1,none⟩=some (.pointer (some ⟨D,0,none⟩))∧f.cell? ⟨C,2,none⟩=some (.string s.nm)) (first|exact ⟨Aa _ _ _,Aa _ _ _⟩) (first
       |(go_at_call 147;refine (Ju D s.d m s.nm sz _ (List.replicate a 0) (block u.heap.size TB (A4 (List.replicate a 0))) _ _ (by have j:=Reads.MC (b:=u.heap.size) (e:=TB) (l:=List.replicate a 0) (by rw[List.length_replicate];unfold maxLen;omega);rw[List.length_replicate] at j;exact j) (Sat.Mh Es (Bh D s.d) (block u.heap.size TB (A4 (List.replicate a 0)))) o (by rw[List.length_replicate];omega) ok.dk (by unfold Iq;omega)).mono ?_;rintro e w3 ⟨rfl,J⟩;haveI:=J.i))
      all_goals
       go_wp2_with fail
       go_ret
       refine ⟨?_,?_⟩
       · rw[U.out,if_neg O.out,z.out];rfl
       rw[U.out,if_neg O.out,z.out]
       exact Br (C:=block u.heap.size TB (A4 (List.replicate a 0))) (by unfold BN;ac_rfl)
    have ac: ¬(sz:Int)<p.key*256:=H
    have U:Aside (s.write p.key=s.Bn p.key):=by
     show _=_
     rw[HW.out,if_neg H]
    go_wp2_with fail
    go_meet
    exact ⟨s.d,m,by omega,⟨U.out,ok.dk⟩,A8 (by ac_rfl)⟩
   obtain ⟨c,Q,ai,A,r⟩:=hcut
   obtain ⟨hw,x⟩:=A.out
   obtain ⟨R,B,a2⟩: ∃R,AX (l1++p::l2)=rw TB 1 p.v (A4 p.b)*R∧True:=⟨AX l1*AX l2,by rw[C1];show AX l1*(_*AX l2)=_;ac_rfl,trivial⟩
   rw[B] at r
   have W:=Z.out.2.2
   have q:=Z.out.2.1
   obtain ⟨va,vc,a5,al,am⟩:=E7 (r.take (rw TB 1 p.v (A4 p.b)))
   have ak:p.b.length=256:=by
    have:=(ok.Ay (p.key,p.b) (by rw[←a0.out];simp[B8])).1
    exact this
   have HR:Aside (AX (l1++p::l2)=rw TB 1 p.v (A4 p.b)*R):=B
   have V:Aside (s.write p.key=Ck.Bn { s with d:=c } p.key):=hw
   have HO:Aside (Ok Q c):=x
   have HB:Aside (Ck.Ay { s with d:=c } p.key=p.b):=W
   clear A hw B a2 HW x W Z a5
   by_cases j:(c.write s.nm (p.key*256) p.b).1=0
   · have M:((c.write s.nm (p.key*256) p.b).1==0)=true:=by simpa using j
     have T:Aside (s.write p.key=(0, { s with d:=(c.write s.nm (p.key*256) p.b).2,its:=AU s.its p.key false })):=by
      show _=_
      rw[V.out];unfold Ck.Bn;rw[HB.out];rw[if_pos j]
     have O:Aside ((c.write s.nm (p.key*256) p.b).1=0):=j
     clear j
     haveI:=r.i
     go_upto_region 8 with (fail)
     have K:IntKind.i64.wrap (p.key*256)=p.key*256:=IntWalk.i64_in _ (by omega)
     go_region_held3 (fun f=>f.cell? ⟨C,1,none⟩=some (.pointer (some ⟨D,0,none⟩))∧f.cell? ⟨C,2,none⟩=some (.string s.nm)∧f.cell? ⟨C,4,none⟩=some (.map (some PM))∧(Instr.lookup Wc (.map (some PM)) (.int .i64 p.key) false).run Tryz.prog f= .ok p.v f) (first|exact ⟨Aa _ _ _,Aa _ _ _,Aa _ _ _,by rw[KA,q];rfl⟩) (first
      |(go_at_call 147;refine (Ju D c Q s.nm (p.key*256) p.v p.b (rw TB 1 p.v (A4 p.b)) _ _ Reads.rw (Sat.Mh Es (Bh D c) (rw TB 1 p.v (A4 p.b))) o (by omega) HO.out (by unfold Iq;omega)).mono ?_;rintro e w4 ⟨rfl,t⟩;haveI:=t.i))
     all_goals
      clear q
      go_wp2_with fail
      refine (WY L s.cap s.its p.key false _ _ (Ae (Cf L s.cap s.its)) ok.Lj).mono ?_
      rintro e w5 ⟨rfl,a6⟩
      go_wp2
      go_ret
      refine ⟨?_,?_⟩
      · rw[T.out]
        show Ending.returned (.int .i64 (c.write s.nm (p.key*256) p.b).1)=_
        rw[O.out]
      rw[T.out]
      refine a6.eq ?_
      unfold BN
      rw[HR.out]
      show Cf L s.cap (AU s.its p.key false)*_=coreC C L D PM s*(Cf L s.cap (AU s.its p.key false)*(Bh D (c.write s.nm (p.key*256) p.b).2*_))*_
      ac_rfl
   have M:((c.write s.nm (p.key*256) p.b).1==0)=false:=by simpa using j
   have T:Aside (s.write p.key=((c.write s.nm (p.key*256) p.b).1, { s with d:=(c.write s.nm (p.key*256) p.b).2 })):=by
    show _=_
    rw[V.out];unfold Ck.Bn;rw[HB.out];rw[if_neg j]
   clear j
   haveI:=r.i
   go_upto_region 8 with (fail)
   have K:IntKind.i64.wrap (p.key*256)=p.key*256:=IntWalk.i64_in _ (by omega)
   go_region_held3 (fun f=>f.cell? ⟨C,1,none⟩=some (.pointer (some ⟨D,0,none⟩))∧f.cell? ⟨C,2,none⟩=some (.string s.nm)∧f.cell? ⟨C,4,none⟩=some (.map (some PM))∧(Instr.lookup Wc (.map (some PM)) (.int .i64 p.key) false).run Tryz.prog f= .ok p.v f) (first|exact ⟨Aa _ _ _,Aa _ _ _,Aa _ _ _,by rw[KA,q];rfl⟩) (first
    |(go_at_call 147;refine (Ju D c Q s.nm (p.key*256) p.v p.b (rw TB 1 p.v (A4 p.b)) _ _ Reads.rw (Sat.Mh Es (Bh D c) (rw TB 1 p.v (A4 p.b))) o (by omega) HO.out (by unfold Iq;omega)).mono ?_;rintro e w4 ⟨rfl,t⟩;haveI:=t.i))
   all_goals
    clear q
    go_wp2
    go_ret
    refine ⟨?_,?_⟩
    · rw[T.out];rfl
    rw[T.out]
    refine t.eq ?_
    unfold BN
    rw[HR.out]
    show Bh D (c.write s.nm (p.key*256) p.b).2*_=coreC C L D PM s*(Cf L s.cap s.its*(Bh D (c.write s.nm (p.key*256) p.b).2*_))*_
    ac_rfl
  rw[(Jn a4).1] at Y
  cases Y
