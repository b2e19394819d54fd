/- treeFails holds for every input. No condition. (part 15) -/
import Derived.WalkKit
set_option linter.all false
namespace Go.Tr
def BF:Nat→Nat→List UInt8
 |_,0=> []
 |n,w+1=>UInt8.ofNat n::BF (n/256) w
def EI:List UInt8→Nat
 | []=>0
 |b::l=>b.toNat+256*EI l
theorem AB(n w:Nat):(BF n w).length=w:=by
 induction w generalizing n with
 |zero=>rfl
 |succ w a=>simp[BF,a]
theorem E3(n w:Nat)(h:n<256^w):EI (BF n w)=n:=by
 induction w generalizing n with
 |zero=>simp at h;subst h;rfl
 | succ w b =>
  have a:n/256<256^w:=by
   rw[Nat.pow_succ] at h
   exact Nat.div_lt_of_lt_mul (by rw[Nat.mul_comm];exact h)
  show (UInt8.ofNat n).toNat+256*EI (BF (n/256) w)=n
  rw[b _ a,UInt8.toNat_ofNat']
  omega
theorem Z9(l:List UInt8):EI l<256^l.length:=by
 induction l with
 |nil=>simp[EI]
 | cons b l a =>
  have:=b.toNat_lt
  simp only[EI,List.length_cons,Nat.pow_succ]
  omega
def Ec(s:Nat):Nat:=if s%2=1 then (s/2)^^^3988292384 else s/2
def Fk:Nat→Nat→Nat
 |0,s=>s
 |k+1,s=>Fk k (Ec s)
def Mt(s:Nat)(b:UInt8):Nat:=Fk 8 (s^^^b.toNat)
def Ey(s:Nat)(l:List UInt8):Nat:=l.foldl Mt s
def Wp(l:List UInt8):Nat:=4294967295^^^Ey 4294967295 l
theorem MF{s:Nat}(h:s<4294967296):Ec s<4294967296:=by
 unfold Ec
 split
 ·exact Nat.xor_lt_two_pow (n:=32) (by omega) (by omega)
 omega
theorem Q4(k:Nat){s:Nat}(h:s<4294967296):Fk k s<4294967296:=by
 induction k generalizing s with
 |zero=>exact h
 |succ k a=>exact a (MF h)
theorem S6{s:Nat}(h:s<4294967296)(b:UInt8):Mt s b<4294967296:=by
 have:=b.toNat_lt
 exact Q4 8 (Nat.xor_lt_two_pow (n:=32) (by omega) (by omega))
theorem UH(l:List UInt8){s:Nat}(h:s<4294967296):Ey s l<4294967296:=by
 unfold Ey
 induction l generalizing s with
 |nil=>exact h
 |cons b l a=>exact a (S6 h b)
theorem S7(l:List UInt8):Wp l<4294967296:=Nat.xor_lt_two_pow (n:=32) (by omega) (UH l (by omega))
theorem J4(s:Nat)(a b:List UInt8):Ey s (a++b)=Ey (Ey s a) b:=List.foldl_append
def zs(n:Nat):List UInt8:=List.replicate n 0
theorem XX(n:Nat):(zs n).length=n:=by simp[zs]
def Dp(no b:Nat)(a:List UInt8):List UInt8:=UInt8.ofNat b::0::(BF a.length 2++BF no 4)
def EW(a:List UInt8):List UInt8:=a++zs (244-a.length)
def AF(no b:Nat)(a:List UInt8):List UInt8:=Dp no b a++(BF (Wp (Dp no b a++EW a)) 4++EW a)
theorem JW(no b:Nat)(a:List UInt8):(Dp no b a).length=8:=by simp[Dp,AB]
theorem N3{a:List UInt8}(h:a.length≤244):(EW a).length=244:=by simp[EW,zs];omega
theorem Hw(no b:Nat){a:List UInt8}(h:a.length≤244):(AF no b a).length=256:=by simp[AF,JW,N3 h,AB]
def CQ(no a:Int)(b:List UInt8):List UInt8×Int:=
 if no<0∨1048576≤no∨a<1∨9<a then ([],1) else
 if 244<b.length then ([],10) else (AF no.toNat a.toNat b,0)
def BM(no:Int)(b:List UInt8):Int×List UInt8×Int:=
 if no<0∨1048576≤no then (0,[],1) else
 if b.length≠256 then (0,[],3) else
 if EI ((b.drop 8).take 4)≠Wp (b.take 8++b.drop 12) then (0,[],5) else
 let a:=EI (b.take 1)
 let n:=EI ((b.drop 2).take 2)
 if (b.drop 1).take 1≠ [0]∨a<1∨9<a∨244<n∨(EI ((b.drop 4).take 4):Int)≠no then (0,[],4) else
 if (b.drop (12+n)).any (· !=0) then (0,[],4) else
 (a,(b.drop 12).take n,0)
theorem Qd(no b:Nat){a:List UInt8}(h:a.length≤244):
 (AF no b a).take 8=Dp no b a∧((AF no b a).drop 8).take 4=BF (Wp (Dp no b a++EW a)) 4∧(AF no b a).drop 12=EW a:=by
 have d:=JW no b a
 have c:=AB (Wp (Dp no b a++EW a)) 4
 unfold AF
 refine ⟨?_,?_,?_⟩
 ·rw[List.take_append_of_le_length (by omega),List.take_of_length_le (by omega)]
 ·rw[List.drop_append_of_le_length (by omega),List.drop_of_length_le (by omega),List.nil_append,List.take_append_of_le_length (by omega),List.take_of_length_le (by omega)]
 rw[←List.append_assoc,List.drop_append_of_le_length (by simp;omega),List.drop_of_length_le (by simp;omega),List.nil_append]
theorem Pn{no b:Nat}{a:List UInt8}(t:no<1048576)(s:1≤b∧b≤9)(hb:a.length≤244):BM no (AF no b a)=((b:Int),a,0):=by
 obtain ⟨c,g,e⟩:=Qd no b hb
 have d:=Hw no b hb
 have k:=S7 (Dp no b a++EW a)
 obtain ⟨P,f⟩: ∃P,AF no b a=P:=⟨_,rfl⟩
 rw[f] at c g e d
 have o:P.take 1= [UInt8.ofNat b]:=by
  have:P.take 1=(P.take 8).take 1:=by rw[List.take_take];rfl
  rw[this,c];rfl
 have p:(P.drop 1).take 1= [0]:=by
  have:(P.drop 1).take 1=((P.take 8).drop 1).take 1:=by rw[List.drop_take,List.take_take];rfl
  rw[this,c];rfl
 have q:(P.drop 2).take 2=BF a.length 2:=by
  have:(P.drop 2).take 2=((P.take 8).drop 2).take 2:=by rw[List.drop_take,List.take_take];rfl
  rw[this,c]
  show (BF a.length 2++BF no 4).take 2=_
  rw[List.take_append_of_le_length (by rw[AB];omega),List.take_of_length_le (by rw[AB];omega)]
 have r:(P.drop 4).take 4=BF no 4:=by
  have:(P.drop 4).take 4=((P.take 8).drop 4).take 4:=by rw[List.drop_take,List.take_take];rfl
  rw[this,c]
  show ((BF a.length 2++BF no 4).drop 2).take 4=_
  rw[List.drop_append_of_le_length (by rw[AB];omega),List.drop_of_length_le (by rw[AB];omega),List.nil_append,List.take_of_length_le (by rw[AB];omega)]
 have l:EI [UInt8.ofNat b]=b:=by simp[EI,UInt8.toNat_ofNat'];omega
 have m:EI (BF a.length 2)=a.length:=E3 _ _ (by omega)
 have n:EI (BF no 4)=no:=E3 _ _ (by omega)
 have i:P.drop (12+a.length)=zs (244-a.length):=by
  rw[←List.drop_drop,e]
  unfold EW
  rw[List.drop_append_of_le_length (Nat.le_refl _),List.drop_of_length_le (Nat.le_refl _),List.nil_append]
 have j:(P.drop 12).take a.length=a:=by
  rw[e]
  unfold EW
  rw[List.take_append_of_le_length (Nat.le_refl _),List.take_of_length_le (Nat.le_refl _)]
 rw[f]
 unfold BM
 rw[if_neg (by omega),if_neg (by omega),c,g,e,E3 _ _ (by omega),if_neg (by simp)]
 simp only[o,p,q,r,l,m,n]
 rw[if_neg (by simp;omega),i,if_neg (by simp[zs]),←e,j]
structure As where
 src:Int
 pos:Int
 len:Int
 lines:Int
deriving DecidableEq
structure Kd where
 Ay:Int
 bytes:Int
 lines:Int
 A7:Int
deriving DecidableEq
structure Nd where
 leaf:Bool
 Ao:List As
 kids:List Kd
deriving DecidableEq
def Ob:Nd:=⟨false,[],[]⟩
def Ai(x:As):Bool:=
 decide ((x.src=0∨x.src=1)∧0≤x.pos∧x.pos≤16777216∧1≤x.len∧x.len≤16777216-x.pos∧x.len≤1048576∧(-1≤x.lines∧x.lines≤x.len)∧(x.src=1∨x.lines= -1))
def AE(k:Kd):Bool:=
 decide (1≤k.Ay∧k.Ay<1048576∧1≤k.bytes∧k.bytes≤1048576∧(-1≤k.lines∧k.lines≤k.bytes)∧1≤k.A7∧k.A7≤k.bytes)
def Ab(l:List As):Int:=(l.map (·.len)).sum
def BZ(l:List Kd):Int:=(l.map (·.bytes)).sum
def BB(l:List Kd):Int:=(l.map (·.A7)).sum
def may(n:Nd):Bool:=
 if n.Ao.any (fun x=>!n.leaf||!Ai x) then false else
 if n.kids.any (fun k=>n.leaf||!AE k) then false else
 let many:=if n.leaf then n.Ao.length else n.kids.length
 let least:=if n.leaf then 1 else 2
 decide (least≤many∧many≤12∧Ab n.Ao+BZ n.kids≤1048576∧BB n.kids≤1024)
def n4(n:Int):Nat:=if n= -1 then 4294967295 else n.toNat
def i4(n:Nat):Int:=if n=4294967295 then-1 else n
theorem MR{n:Int}(a: -1≤n)(b:n<4294967295):i4 (n4 n)=n:=by
 unfold i4 n4
 split
 ·rename_i h;rw[if_pos rfl,h]
 rw[if_neg (by omega)];omega
theorem Gm{n:Int}(a:n<4294967295):n4 n<256^4:=by unfold n4;split<;>omega
def eb(x:As):List UInt8:=BF x.src.toNat 1++(BF (n4 x.pos) 4++(BF (n4 x.len) 4++BF (n4 x.lines) 4))
def kb(k:Kd):List UInt8:=BF (n4 k.Ay) 4++(BF (n4 k.bytes) 4++(BF (n4 k.lines) 4++BF (n4 k.A7) 4))
theorem MG(x:As):(eb x).length=13:=by simp[eb,AB]
theorem MX(k:Kd):(kb k).length=16:=by simp[kb,AB]
def CU(n:Nd):Int×List UInt8×Int:=
 if may n=false then (0,[],1) else
 if n.leaf then (1,BF n.Ao.length 1++n.Ao.flatMap eb,0) else (2,BF n.kids.length 1++n.kids.flatMap kb,0)
def ue(b:List UInt8):As:=⟨EI (b.take 1),i4 (EI ((b.drop 1).take 4)),i4 (EI ((b.drop 5).take 4)),i4 (EI ((b.drop 9).take 4))⟩
def uk(b:List UInt8):Kd:=⟨i4 (EI (b.take 4)),i4 (EI ((b.drop 4).take 4)),i4 (EI ((b.drop 8).take 4)),i4 (EI ((b.drop 12).take 4))⟩
def IY:Nat→List UInt8→List As
 |0,_=> []
 |n+1,b=>ue (b.take 13)::IY n (b.drop 13)
def IZ:Nat→List UInt8→List Kd
 |0,_=> []
 |n+1,b=>uk (b.take 16)::IZ n (b.drop 16)
def Fy(a:Int)(c:List UInt8):Nd×Int:=
 match c with
 | []=>(Ob,4)
 | b :: rest =>
  if a≠1∧a≠2 then (Ob,4) else
  if rest.length≠b.toNat*(if a=1 then 13 else 16) then (Ob,4) else
  let n:Nd:=if a=1 then ⟨true,IY b.toNat rest,[]⟩ else ⟨false,[],IZ b.toNat rest⟩
  if may n then (n,0) else (Ob,4)
def EE(a b:Int):Int:=if b<0∨a<0 then-1 else a+b
def Bl(n:Nd):Int×Int×Int:=
 if may n then
  (Ab n.Ao+BZ n.kids,(n.kids.map (·.lines)).foldl EE ((n.Ao.map (·.lines)).foldl EE 0),n.Ao.length+BB n.kids)
 else (0,0,0)
theorem Mj{a b:List UInt8}{n:Nat}(h:a.length=n):(a++b).take n=a:=by subst h;simp
theorem LQ{a b:List UInt8}{n:Nat}(h:a.length=n):(a++b).drop n=b:=by subst h;simp
theorem j0{x:As}(h:Ai x=true):ue (eb x)=x:=by
 unfold Ai at h
 simp only[decide_eq_true_eq] at h
 obtain ⟨e,f,g,i,j,k,l,m⟩:=h
 have c:(eb x).take 1=BF x.src.toNat 1:=Mj (AB _ _)
 have a:(eb x).drop 1=BF (n4 x.pos) 4++(BF (n4 x.len) 4++BF (n4 x.lines) 4):=LQ (AB _ _)
 have b:(eb x).drop 5=BF (n4 x.len) 4++BF (n4 x.lines) 4:=by rw[show 5=1+4 from rfl,←List.drop_drop,a,LQ (AB _ _)]
 have d:(eb x).drop 9=BF (n4 x.lines) 4:=by rw[show 9=5+4 from rfl,←List.drop_drop,b,LQ (AB _ _)]
 unfold ue
 rw[c,a,b,d,Mj (AB _ _),Mj (AB _ _),List.take_of_length_le (by rw[AB];omega),E3 _ _ (by omega),E3 _ _ (Gm (by omega)),E3 _ _ (Gm (by omega)),E3 _ _ (Gm (by omega)),MR (by omega) (by omega),MR (by omega) (by omega),MR (by omega) (by omega)]
 cases x
 simp only[As.mk.injEq,and_true]
 simp only at e
 omega
theorem j4{k:Kd}(h:AE k=true):uk (kb k)=k:=by
 unfold AE at h
 simp only[decide_eq_true_eq] at h
 obtain ⟨e,f,g,i,j,l,m⟩:=h
 have c:(kb k).take 4=BF (n4 k.Ay) 4:=Mj (AB _ _)
 have a:(kb k).drop 4=BF (n4 k.bytes) 4++(BF (n4 k.lines) 4++BF (n4 k.A7) 4):=LQ (AB _ _)
 have b:(kb k).drop 8=BF (n4 k.lines) 4++BF (n4 k.A7) 4:=by rw[show 8=4+4 from rfl,←List.drop_drop,a,LQ (AB _ _)]
 have d:(kb k).drop 12=BF (n4 k.A7) 4:=by rw[show 12=8+4 from rfl,←List.drop_drop,b,LQ (AB _ _)]
 unfold uk
 rw[c,a,b,d,Mj (AB _ _),Mj (AB _ _),List.take_of_length_le (by rw[AB];omega),E3 _ _ (Gm (by omega)),E3 _ _ (Gm (by omega)),E3 _ _ (Gm (by omega)),E3 _ _ (Gm (by omega)),MR (by omega) (by omega),MR (by omega) (by omega),MR (by omega) (by omega),MR (by omega) (by omega)]
theorem Zb{l:List As}(h: ∀x∈l,Ai x=true):IY l.length (l.flatMap eb)=l:=by
 induction l with
 |nil=>rfl
 | cons x l a =>
  rw[List.length_cons,List.flatMap_cons]
  show ue ((eb x++l.flatMap eb).take 13)::IY l.length ((eb x++l.flatMap eb).drop 13)=_
  rw[Mj (MG x),LQ (MG x),j0 (h x (by simp)),a fun y hy=>h y (by simp[hy])]
theorem Zd{l:List Kd}(h: ∀x∈l,AE x=true):IZ l.length (l.flatMap kb)=l:=by
 induction l with
 |nil=>rfl
 | cons x l a =>
  rw[List.length_cons,List.flatMap_cons]
  show uk ((kb x++l.flatMap kb).take 16)::IZ l.length ((kb x++l.flatMap kb).drop 16)=_
  rw[Mj (MX x),LQ (MX x),j4 (h x (by simp)),a fun y hy=>h y (by simp[hy])]
theorem Ix{α:Type}{f:α→List UInt8}{c:Nat}(a: ∀x,(f x).length=c)(l:List α):(l.flatMap f).length=l.length*c:=by
 induction l with
 |nil=>simp
 |cons x l b=>rw[List.flatMap_cons,List.length_append,a,b,List.length_cons,Nat.add_mul];omega
theorem GK{n:Nd}(h:may n=true)(hl:n.leaf=true):n.kids= []∧(∀x∈n.Ao,Ai x=true)∧1≤n.Ao.length∧n.Ao.length≤12∧Ab n.Ao≤1048576:=by
 unfold may at h
 by_cases b:n.Ao.any (fun x=>!n.leaf||!Ai x)=true
 · rw[if_pos b] at h;cases h
 rw[if_neg b] at h
 by_cases c:n.kids.any (fun k=>n.leaf||!AE k)=true
 · rw[if_pos c] at h;cases h
 rw[if_neg c,hl] at h
 simp only[if_true,decide_eq_true_eq] at h
 have a:n.kids= []:=by
  cases a:n.kids with
  |nil=>rfl
  |cons k l=>exfalso;apply c;rw[a,hl];simp
 rw[a] at h
 refine ⟨a,?_,h.1,h.2.1,?_⟩
 · intro x hx
   cases hm:Ai x with
   |true=>rfl
   |false=>exfalso;apply b;rw[List.any_eq_true];exact ⟨x,hx,by simp[hm]⟩
 have:=h.2.2.1
 simp[BZ] at this
 exact this
theorem CJ{n:Nd}(h:may n=true)(hl:n.leaf=false):n.Ao= []∧(∀x∈n.kids,AE x=true)∧2≤n.kids.length∧n.kids.length≤12∧BZ n.kids≤1048576∧BB n.kids≤1024:=by
 unfold may at h
 by_cases b:n.Ao.any (fun x=>!n.leaf||!Ai x)=true
 · rw[if_pos b] at h;cases h
 rw[if_neg b] at h
 by_cases c:n.kids.any (fun k=>n.leaf||!AE k)=true
 · rw[if_pos c] at h;cases h
 rw[if_neg c,hl] at h
 simp only[Bool.false_eq_true,if_false,decide_eq_true_eq] at h
 have a:n.Ao= []:=by
  cases a:n.Ao with
  |nil=>rfl
  |cons k l=>exfalso;apply b;rw[a,hl];simp
 rw[a] at h
 refine ⟨a,?_,h.1,h.2.1,?_,h.2.2.2⟩
 · intro x hx
   cases hm:AE x with
   |true=>rfl
   |false=>exfalso;apply c;rw[List.any_eq_true];exact ⟨x,hx,by simp[hm]⟩
 have:=h.2.2.1
 simp[Ab] at this
 exact this
theorem KL{n:Nd}(h:may n=true): ∃(a:Nat)(b:List UInt8),CU n=((a:Int),b,0)∧(a=1∨a=2)∧b.length≤244∧Fy a b=(n,0):=by
 cases hl:n.leaf with
 | true =>
  obtain ⟨g,f,i,e,_⟩:=GK h hl
  refine ⟨1,BF n.Ao.length 1++n.Ao.flatMap eb,?_,.inl rfl,?_,?_⟩
  ·unfold CU;rw[if_neg (by simp[h]),if_pos hl];rfl
  ·rw[List.length_append,AB,Ix MG];omega
  show (if (1:Int)≠1∧(1:Int)≠2 then (Ob,4) else if (BF (n.Ao.length/256) 0++n.Ao.flatMap eb).length≠(UInt8.ofNat n.Ao.length).toNat*13 then (Ob,4) else _)=_
  have e0:(UInt8.ofNat n.Ao.length).toNat=n.Ao.length:=by rw[UInt8.toNat_ofNat'];omega
  have c:BF (n.Ao.length/256) 0++n.Ao.flatMap eb=n.Ao.flatMap eb:=rfl
  rw[if_neg (by simp),e0,c,if_neg (by rw[Ix MG];simp)]
  have d:(⟨true,IY n.Ao.length (n.Ao.flatMap eb),[]⟩:Nd)=n:=by rw[Zb f,←hl,←g]
  show (if may ⟨true,IY n.Ao.length (n.Ao.flatMap eb),[]⟩=true then ((⟨true,IY n.Ao.length (n.Ao.flatMap eb),[]⟩:Nd),(0:Int)) else (Ob,4))=_
  rw[d,if_pos h]
 | false =>
  obtain ⟨g,f,i,e,_⟩:=CJ h hl
  refine ⟨2,BF n.kids.length 1++n.kids.flatMap kb,?_,.inr rfl,?_,?_⟩
  ·unfold CU;rw[if_neg (by simp[h]),if_neg (by simp[hl])];rfl
  ·rw[List.length_append,AB,Ix MX];omega
  show (if (2:Int)≠1∧(2:Int)≠2 then (Ob,4) else if (BF (n.kids.length/256) 0++n.kids.flatMap kb).length≠(UInt8.ofNat n.kids.length).toNat*16 then (Ob,4) else _)=_
  have e0:(UInt8.ofNat n.kids.length).toNat=n.kids.length:=by rw[UInt8.toNat_ofNat'];omega
  have c:BF (n.kids.length/256) 0++n.kids.flatMap kb=n.kids.flatMap kb:=rfl
  rw[if_neg (by simp),e0,c,if_neg (by rw[Ix MX];simp)]
  have d:(⟨false,[],IZ n.kids.length (n.kids.flatMap kb)⟩:Nd)=n:=by rw[Zd f,←hl,←g]
  show (if may ⟨false,[],IZ n.kids.length (n.kids.flatMap kb)⟩=true then ((⟨false,[],IZ n.kids.length (n.kids.flatMap kb)⟩:Nd),(0:Int)) else (Ob,4))=_
  rw[d,if_pos h]
structure Sp where
 A5:Int
 used:List Int
 waiting:List Int
 taken:List Int
namespace Sp
def new(r:Int):Sp:=⟨r,[],[],[]⟩
def busy(s:Sp)(no:Int):Bool:=s.used.contains no||s.waiting.contains no
def least(s:Sp):Nat→Int→Option Int
 |0,_=>none
 |k+1,no=>if s.busy no then least s k (no+1) else some no
def free(s:Sp):Option Int:=s.least (1048576-s.A5).toNat s.A5
def take(s:Sp):(Int×Int)×Sp:=
 match s.free with
 |none=>((0,9),s)
 |some no=>((no,0), { s with used:=s.used++ [no],taken:=s.taken++ [no] })
def mark(s:Sp):Int:=s.taken.length
def since(s:Sp)(m:Nat):List Int:=(s.taken.drop m).filter fun no=>s.used.contains no
def back(s:Sp)(m:Nat):Sp:= { s with used:=s.used.filter fun no=>!(s.taken.drop m).contains no,taken:=s.taken.take m }
end Sp
theorem Sp.EO{s:Sp} : ∀{k:Nat}{no x:Int},s.least k no=some x→no≤x∧x<no+k∧s.busy x=false∧ ∀y,no≤y→y<x→s.busy y=true
 |0,_,_,h=>by cases h
 | k + 1, no, x, h => by
  unfold Sp.least at h
  cases hb:s.busy no with
  | true =>
   rw[hb,if_pos rfl] at h
   obtain ⟨f,g,b,c⟩:=Sp.EO h
   refine ⟨by omega,by omega,b,fun y d a=>?_⟩
   by_cases e:y=no
   ·rw[e];exact hb
   exact c y (by omega) a
  | false =>
   rw[hb,if_neg (by simp)] at h
   cases h
   exact ⟨by omega,by omega,hb,fun y d a=>by omega⟩
def BD:List As→Bool
 |l=>l.all Ai&&decide (Ab l≤1048576)
def meets(a b:As):Bool:=decide (a.src=b.src∧a.pos+a.len=b.pos)
def glue(a b:As):As:= { a with len:=a.len+b.len,lines:=if a.lines<0∨b.lines<0 then-1 else a.lines+b.lines }
def A6(out:List As)(x:As):List As:=
 match out.getLast? with
 |none=> [x]
 |some a=>if meets a x then out.dropLast++ [glue a x] else out++ [x]
def join(l:List As):List As:=l.foldl A6 []
def part(x:As)(a b:Int):List As:=
 if b≤a then [] else
 if 0<a∨b<x.len then [{ x with pos:=x.pos+a,len:=b-a,lines:=if x.lines≠0 then-1 else 0 }] else [x]
theorem Ak(a b:List As):Ab (a++b)=Ab a+Ab b:=by simp[Ab]
theorem Fe(out:List As)(x:As):Ab (A6 out x)=Ab out+x.len:=by
 unfold A6
 cases h:out.getLast? with
 | none =>
  have:out= []:=List.getLast?_eq_none_iff.1 h
  subst this
  simp[Ab]
 | some a =>
  have e:out=out.dropLast++ [a]:=by
   have:=List.getLast?_eq_some_iff.1 h
   obtain ⟨ys,rfl⟩:=this
   simp
  simp only
  split
  · conv=>rhs;rw[e]
    rw[Ak,Ak]
    simp[Ab,glue]
    omega
  rw[Ak];simp[Ab]
theorem Q8(l:List As):Ab (join l)=Ab l:=by
 unfold join
 have h: ∀(l out:List As),Ab (l.foldl A6 out)=Ab out+Ab l:=by
  intro l
  induction l with
  |nil=>intro out;simp[Ab]
  | cons x l a =>
   intro out
   rw[List.foldl_cons,a,Fe]
   have:Ab (x::l)=x.len+Ab l:=by simp[Ab]
   omega
 rw[h]
 simp[Ab]
