/- censusSound holds for every input. No condition. (part 11) -/
import Derived.WalkKit
set_option linter.all false
namespace Go.Tr
def Bz:Nat→Nat→List UInt8
 |_,0=> []
 |n,w+1=>UInt8.ofNat n::Bz (n/256) w
def BX:List UInt8→Nat
 | []=>0
 |b::l=>b.toNat+256*BX l
theorem AF(n w:Nat):(Bz n w).length=w:=by induction w generalizing n with
 |zero=>rfl
 |succ w a=>simp[Bz,a]
theorem EY(n w:Nat)(h:n<256^w):BX (Bz n w)=n:=by induction w generalizing n with
 |zero=>simp at h;subst h;rfl
 | succ w a =>
  show (UInt8.ofNat n).toNat+256*BX (Bz (n/256) w)=n
  grind [UInt8.toNat_ofNat']
theorem Sb(l:List UInt8):BX l<256^l.length:=by induction l with
 |nil=>simp[BX]
 | cons b l a =>
  have:=b.toNat_lt
  grind [BX,List.length_cons,Nat.pow_succ]
theorem RZ(l:List UInt8):Bz (BX l) l.length=l:=by induction l with
 |nil=>rfl
 | cons b l c =>
  have hb:=b.toNat_lt
  simp only[BX,List.length_cons,Bz]
  have a:(b.toNat+256*BX l)/256=BX l:=by omega
  simp_all
def Db(s:Nat):Nat:=if s%2=1 then (s/2)^^^3988292384 else s/2
def Dm:Nat→Nat→Nat
 |0,s=>s
 |k+1,s=>Dm k (Db s)
def Lo(s:Nat)(b:UInt8):Nat:=Dm 8 (s^^^b.toNat)
def DX(s:Nat)(l:List UInt8):Nat:=l.foldl Lo s
def Qy(l:List UInt8):Nat:=4294967295^^^DX 4294967295 l
theorem KA{s:Nat}(h:s<4294967296):Db s<4294967296:=by
 unfold Db
 split
 ·exact Nat.xor_lt_two_pow (n:=32) (by omega) (by omega)
 omega
theorem Nb(k:Nat){s:Nat}(h:s<4294967296):Dm k s<4294967296:=by induction k generalizing s with
 |zero=>exact h
 |succ k a=>exact a (KA h)
theorem VQ{s:Nat}(h:s<4294967296)(b:UInt8):Lo s b<4294967296:=by
 have:=b.toNat_lt
 exact Nb 8 (Nat.xor_lt_two_pow (n:=32) (by omega) (by omega))
theorem Y0(l:List UInt8){s:Nat}(h:s<4294967296):DX s l<4294967296:=by induction l generalizing s with
 |nil=>exact h
 |cons b l a=>exact a (VQ h b)
theorem O3(l:List UInt8):Qy l<4294967296:=Nat.xor_lt_two_pow (n:=32) (by omega) (Y0 l (by omega))
theorem Kx(s:Nat)(a b:List UInt8):DX s (a++b)=DX (DX s a) b:=List.foldl_append
def zs(n:Nat):List UInt8:=List.replicate n 0
theorem cV(n:Nat):(zs n).length=n:=by simp[zs]
def CA(no kind:Nat)(body:List UInt8):List UInt8:=UInt8.ofNat kind::0::(Bz body.length 2++Bz no 4)
def Du(body:List UInt8):List UInt8:=body++zs (244-body.length)
def AV(no kind:Nat)(body:List UInt8):List UInt8:=CA no kind body++(Bz (Qy (CA no kind body++Du body)) 4++Du body)
theorem IE(no kind:Nat)(body:List UInt8):(CA no kind body).length=8:=by simp[CA,AF]
theorem KP{body:List UInt8}(h:body.length≤244):(Du body).length=244:=by simp[Du,zs];omega
theorem IF(no kind:Nat){body:List UInt8}(h:body.length≤244):(AV no kind body).length=256:=by simp[AV,IE,KP h,AF]
def Bw(no kind:Int)(body:List UInt8):List UInt8×Int:=
 if no<0∨1048576≤no∨kind<1∨9<kind then ([],1) else
 if 244<body.length then ([],10) else (AV no.toNat kind.toNat body,0)
def AO(no:Int)(b:List UInt8):Int×List UInt8×Int:=
 if no<0∨1048576≤no then (0,[],1) else
 if b.length≠256 then (0,[],3) else
 if BX ((b.drop 8).take 4)≠Qy (b.take 8++b.drop 12) then (0,[],5) else
 let kind:=BX (b.take 1)
 let n:=BX ((b.drop 2).take 2)
 if (b.drop 1).take 1≠ [0]∨kind<1∨9<kind∨244<n∨(BX ((b.drop 4).take 4):Int)≠no then (0,[],4) else
 if (b.drop (12+n)).any (· !=0) then (0,[],4) else
 (kind,(b.drop 12).take n,0)
theorem Sx(no kind:Nat){body:List UInt8}(h:body.length≤244):
 (AV no kind body).take 8=CA no kind body∧((AV no kind body).drop 8).take 4=Bz (Qy (CA no kind body++Du body)) 4∧(AV no kind body).drop 12=Du body:=by
 have b:=IE no kind body
 have a:=AF (Qy (CA no kind body++Du body)) 4
 unfold AV
 grind
theorem Rg{no kind:Nat}{body:List UInt8}(r:no<1048576)(q:1≤kind∧kind≤9)(hb:body.length≤244):AO no (AV no kind body)=((kind:Int),body,0):=by
 obtain ⟨a,e,c⟩:=Sx no kind hb
 have b:=IF no kind hb
 have i:=O3 (CA no kind body++Du body)
 obtain ⟨P,d⟩: ∃P,AV no kind body=P:=⟨_,rfl⟩
 rw[d] at a e c b
 have m:P.take 1= [UInt8.ofNat kind]:=by
  have:P.take 1=(P.take 8).take 1:=by rw[List.take_take];rfl
  rw[this,a];rfl
 have n:(P.drop 1).take 1= [0]:=by
  have:(P.drop 1).take 1=((P.take 8).drop 1).take 1:=by rw[List.drop_take,List.take_take];rfl
  rw[this,a];rfl
 have o:(P.drop 2).take 2=Bz body.length 2:=by
  have:(P.drop 2).take 2=((P.take 8).drop 2).take 2:=by rw[List.drop_take,List.take_take];rfl
  rw[this,a]
  show (Bz body.length 2++Bz no 4).take 2=_
  rw[List.take_append_of_le_length (by rw[AF];omega),List.take_of_length_le (by rw[AF];omega)]
 have p:(P.drop 4).take 4=Bz no 4:=by
  have:(P.drop 4).take 4=((P.take 8).drop 4).take 4:=by rw[List.drop_take,List.take_take];rfl
  rw[this,a]
  show ((Bz body.length 2++Bz no 4).drop 2).take 4=_
  rw[List.drop_append_of_le_length (by rw[AF];omega),List.drop_of_length_le (by rw[AF];omega),List.nil_append,List.take_of_length_le (by rw[AF];omega)]
 have j:BX [UInt8.ofNat kind]=kind:=by simp[BX,UInt8.toNat_ofNat'];omega
 have k:BX (Bz body.length 2)=body.length:=EY _ _ (by omega)
 have l:BX (Bz no 4)=no:=EY _ _ (by omega)
 have f:P.drop (12+body.length)=zs (244-body.length):=by
  rw[←List.drop_drop,c]
  unfold Du
  rw[List.drop_append_of_le_length (Nat.le_refl _),List.drop_of_length_le (Nat.le_refl _),List.nil_append]
 have g:(P.drop 12).take body.length=body:=by
  rw[c]
  unfold Du
  rw[List.take_append_of_le_length (Nat.le_refl _),List.take_of_length_le (Nat.le_refl _)]
 rw[d]
 unfold AO
 rw[if_neg (by omega),if_neg (by omega),a,e,c,EY _ _ (by omega),if_neg (by simp)]
 simp only[m,n,o,p,j,k,l]
 rw[if_neg (by simp;omega),f,if_neg (by simp[zs]),←c,g]
structure Av where
 src:Int
 pos:Int
 len:Int
 lines:Int
deriving DecidableEq
structure Kd where
 Au:Int
 bytes:Int
 lines:Int
 AA:Int
deriving DecidableEq
structure Nd where
 leaf:Bool
 Ag:List Av
 kids:List Kd
deriving DecidableEq
def I9:Nd:=⟨false,[],[]⟩
def Ah(x:Av):Bool:=
 decide ((x.src=0∨x.src=1)∧0≤x.pos∧x.pos≤16777216∧1≤x.len∧x.len≤16777216-x.pos∧x.len≤1048576∧(-1≤x.lines∧x.lines≤x.len)∧(x.src=1∨x.lines= -1))
def AE(k:Kd):Bool:=
 decide (1≤k.Au∧k.Au<1048576∧1≤k.bytes∧k.bytes≤1048576∧(-1≤k.lines∧k.lines≤k.bytes)∧1≤k.AA∧k.AA≤k.bytes)
def Aa(l:List Av):Int:=(l.map (·.len)).sum
def Bc(l:List Kd):Int:=(l.map (·.bytes)).sum
def Bj(l:List Kd):Int:=(l.map (·.AA)).sum
def may(n:Nd):Bool:=
 if n.Ag.any (fun x=>!n.leaf||!Ah x) then false else
 if n.kids.any (fun k=>n.leaf||!AE k) then false else
 let many:=if n.leaf then n.Ag.length else n.kids.length
 let least:=if n.leaf then 1 else 2
 decide (least≤many∧many≤12∧Aa n.Ag+Bc n.kids≤1048576∧Bj n.kids≤1024)
def n4(n:Int):Nat:=if n= -1 then 4294967295 else n.toNat
def i4(n:Nat):Int:=if n=4294967295 then-1 else n
theorem OI{n:Int}(h1: -1≤n)(a:n<4294967295):i4 (n4 n)=n:=by
 unfold i4 n4
 grind
theorem GI{n:Int}(a:n<4294967295):n4 n<256^4:=by unfold n4;split<;>omega
def eb(x:Av):List UInt8:=Bz x.src.toNat 1++(Bz (n4 x.pos) 4++(Bz (n4 x.len) 4++Bz (n4 x.lines) 4))
def kb(k:Kd):List UInt8:=Bz (n4 k.Au) 4++(Bz (n4 k.bytes) 4++(Bz (n4 k.lines) 4++Bz (n4 k.AA) 4))
theorem O4(x:Av):(eb x).length=13:=by simp[eb,AF]
theorem OP(k:Kd):(kb k).length=16:=by simp[kb,AF]
def Di(n:Nd):Int×List UInt8×Int:=
 if may n=false then (0,[],1) else
 if n.leaf then (1,Bz n.Ag.length 1++n.Ag.flatMap eb,0) else (2,Bz n.kids.length 1++n.kids.flatMap kb,0)
def ue(b:List UInt8):Av:=⟨BX (b.take 1),i4 (BX ((b.drop 1).take 4)),i4 (BX ((b.drop 5).take 4)),i4 (BX ((b.drop 9).take 4))⟩
def uk(b:List UInt8):Kd:=⟨i4 (BX (b.take 4)),i4 (BX ((b.drop 4).take 4)),i4 (BX ((b.drop 8).take 4)),i4 (BX ((b.drop 12).take 4))⟩
def Gy:Nat→List UInt8→List Av
 |0,_=> []
 |n+1,b=>ue (b.take 13)::Gy n (b.drop 13)
def Gz:Nat→List UInt8→List Kd
 |0,_=> []
 |n+1,b=>uk (b.take 16)::Gz n (b.drop 16)
def DN(kind:Int)(body:List UInt8):Nd×Int:=
 match body with
 | []=>(I9,4)
 | b :: rest =>
  if kind≠1∧kind≠2 then (I9,4) else
  if rest.length≠b.toNat*(if kind=1 then 13 else 16) then (I9,4) else
  let n:Nd:=if kind=1 then ⟨true,Gy b.toNat rest,[]⟩ else ⟨false,[],Gz b.toNat rest⟩
  if may n then (n,0) else (I9,4)
def DT(a b:Int):Int:=if b<0∨a<0 then-1 else a+b
def AZ(n:Nd):Int×Int×Int:=
 if may n then
  (Aa n.Ag+Bc n.kids,(n.kids.map (·.lines)).foldl DT ((n.Ag.map (·.lines)).foldl DT 0),n.Ag.length+Bj n.kids)
 else (0,0,0)
theorem NL{a b:List UInt8}{n:Nat}(h:a.length=n):(a++b).take n=a:=by subst h;simp
theorem Nc{a b:List UInt8}{n:Nat}(h:a.length=n):(a++b).drop n=b:=by subst h;simp
theorem kZ{x:Av}(h:Ah x=true):ue (eb x)=x:=by
 unfold Ah at h
 simp only[decide_eq_true_eq] at h
 have c:(eb x).take 1=Bz x.src.toNat 1:=NL (AF _ _)
 have a:(eb x).drop 1=Bz (n4 x.pos) 4++(Bz (n4 x.len) 4++Bz (n4 x.lines) 4):=Nc (AF _ _)
 have b:(eb x).drop 5=Bz (n4 x.len) 4++Bz (n4 x.lines) 4:=by rw[show 5=1+4 from rfl,←List.drop_drop,a,Nc (AF _ _)]
 have d:(eb x).drop 9=Bz (n4 x.lines) 4:=by rw[show 9=5+4 from rfl,←List.drop_drop,b,Nc (AF _ _)]
 unfold ue
 rw[c,a,b,d,NL (AF _ _),NL (AF _ _),List.take_of_length_le (by rw[AF];omega),EY _ _ (by omega),EY _ _ (GI (by omega)),EY _ _ (GI (by omega)),EY _ _ (GI (by omega)),OI (by omega) (by omega),OI (by omega) (by omega),OI (by omega) (by omega)]
 cases x
 grind
theorem lB{k:Kd}(h:AE k=true):uk (kb k)=k:=by
 unfold AE at h
 simp only[decide_eq_true_eq] at h
 have c:(kb k).take 4=Bz (n4 k.Au) 4:=NL (AF _ _)
 have a:(kb k).drop 4=Bz (n4 k.bytes) 4++(Bz (n4 k.lines) 4++Bz (n4 k.AA) 4):=Nc (AF _ _)
 have b:(kb k).drop 8=Bz (n4 k.lines) 4++Bz (n4 k.AA) 4:=by rw[show 8=4+4 from rfl,←List.drop_drop,a,Nc (AF _ _)]
 have d:(kb k).drop 12=Bz (n4 k.AA) 4:=by rw[show 12=8+4 from rfl,←List.drop_drop,b,Nc (AF _ _)]
 unfold uk
 rw[c,a,b,d,NL (AF _ _),NL (AF _ _),List.take_of_length_le (by rw[AF];omega),EY _ _ (GI (by omega)),EY _ _ (GI (by omega)),EY _ _ (GI (by omega)),EY _ _ (GI (by omega)),OI (by omega) (by omega),OI (by omega) (by omega),OI (by omega) (by omega),OI (by omega) (by omega)]
theorem fX{l:List Av}(h: ∀x∈l,Ah x=true):Gy l.length (l.flatMap eb)=l:=by induction l with
 |nil=>rfl
 | cons x l a =>
  show ue ((eb x++l.flatMap eb).take 13)::Gy l.length ((eb x++l.flatMap eb).drop 13)=_
  rw[NL (O4 x),Nc (O4 x),kZ (h x (by simp)),a fun y hy=>h y (by simp[hy])]
theorem fY{l:List Kd}(h: ∀x∈l,AE x=true):Gz l.length (l.flatMap kb)=l:=by induction l with
 |nil=>rfl
 | cons x l a =>
  show uk ((kb x++l.flatMap kb).take 16)::Gz l.length ((kb x++l.flatMap kb).drop 16)=_
  rw[NL (OP x),Nc (OP x),lB (h x (by simp)),a fun y hy=>h y (by simp[hy])]
theorem Jw{α:Type}{f:α→List UInt8}{c:Nat}(a: ∀x,(f x).length=c)(l:List α):(l.flatMap f).length=l.length*c:=by induction l with
 |nil=>simp
 |cons x l b=>rw[List.flatMap_cons,List.length_append,a,b,List.length_cons,Nat.add_mul];omega
theorem BS{n:Nd}(h:may n=true)(hl:n.leaf=true):n.kids= []∧(∀x∈n.Ag,Ah x=true)∧1≤n.Ag.length∧n.Ag.length≤12∧Aa n.Ag≤1048576:=by
 unfold may at h
 by_cases h1:n.Ag.any (fun x=>!n.leaf||!Ah x)=true
 · rw[if_pos h1] at h;cases h
 rw[if_neg h1] at h
 by_cases b:n.kids.any (fun k=>n.leaf||!AE k)=true
 · rw[if_pos b] at h;cases h
 rw[if_neg b,hl] at h
 simp only[if_true,decide_eq_true_eq] at h
 have a:n.kids= []:=by
  cases a:n.kids with
  |nil=>rfl
  |cons k l=>exfalso;apply b;rw[a,hl];simp
 rw[a] at h
 refine ⟨a,?_,h.1,h.2.1,?_⟩
 · intro x hx
   cases hm:Ah x with
   |true=>rfl
   |false=>exfalso;apply h1;rw[List.any_eq_true];exact ⟨x,hx,by simp[hm]⟩
 have:=h.2.2.1
 simp[Bc] at this
 exact this
theorem B7{n:Nd}(h:may n=true)(hl:n.leaf=false):n.Ag= []∧(∀x∈n.kids,AE x=true)∧2≤n.kids.length∧n.kids.length≤12∧Bc n.kids≤1048576∧Bj n.kids≤1024:=by
 unfold may at h
 by_cases h1:n.Ag.any (fun x=>!n.leaf||!Ah x)=true
 · simp_all
 rw[if_neg h1] at h
 by_cases b:n.kids.any (fun k=>n.leaf||!AE k)=true
 · grind
 rw[if_neg b,hl] at h
 simp only[Bool.false_eq_true,if_false,decide_eq_true_eq] at h
 have a:n.Ag= []:=by cases a:n.Ag with
  |nil=>rfl
  |cons k l=>exfalso;apply h1;rw[a,hl];simp
 refine ⟨a,?_,h.1,h.2.1,?_,h.2.2.2⟩
 · simp_all
 simp_all[Aa]
theorem Sr{n:Nd}(h:may n=true): ∃(kind:Nat)(body:List UInt8),Di n=((kind:Int),body,0)∧(kind=1∨kind=2)∧body.length≤244∧DN kind body=(n,0):=by
 cases hl:n.leaf with
 | true =>
  obtain ⟨e,d,h1,c,_⟩:=BS h hl
  refine ⟨1,Bz n.Ag.length 1++n.Ag.flatMap eb,?_,.inl rfl,?_,?_⟩
  ·unfold Di;rw[if_neg (by simp[h]),if_pos hl];rfl
  ·rw[List.length_append,AF,Jw O4];omega
  show (if (1:Int)≠1∧(1:Int)≠2 then (I9,4) else if (Bz (n.Ag.length/256) 0++n.Ag.flatMap eb).length≠(UInt8.ofNat n.Ag.length).toNat*13 then (I9,4) else _)=_
  have e0:(UInt8.ofNat n.Ag.length).toNat=n.Ag.length:=by rw[UInt8.toNat_ofNat'];omega
  have a:Bz (n.Ag.length/256) 0++n.Ag.flatMap eb=n.Ag.flatMap eb:=rfl
  rw[if_neg (by simp),e0,a,if_neg (by rw[Jw O4];simp)]
  have b:(⟨true,Gy n.Ag.length (n.Ag.flatMap eb),[]⟩:Nd)=n:=by rw[fX d,←hl,←e]
  show (if may ⟨true,Gy n.Ag.length (n.Ag.flatMap eb),[]⟩=true then ((⟨true,Gy n.Ag.length (n.Ag.flatMap eb),[]⟩:Nd),(0:Int)) else (I9,4))=_
  rw[b,if_pos h]
 | false =>
  obtain ⟨e,d,h1,c,_⟩:=B7 h hl
  refine ⟨2,Bz n.kids.length 1++n.kids.flatMap kb,?_,.inr rfl,?_,?_⟩
  ·unfold Di;rw[if_neg (by simp[h]),if_neg (by simp[hl])];rfl
  ·rw[List.length_append,AF,Jw OP];omega
  show (if (2:Int)≠1∧(2:Int)≠2 then (I9,4) else if (Bz (n.kids.length/256) 0++n.kids.flatMap kb).length≠(UInt8.ofNat n.kids.length).toNat*16 then (I9,4) else _)=_
  have e0:(UInt8.ofNat n.kids.length).toNat=n.kids.length:=by rw[UInt8.toNat_ofNat'];omega
  have a:Bz (n.kids.length/256) 0++n.kids.flatMap kb=n.kids.flatMap kb:=rfl
  rw[if_neg (by simp),e0,a,if_neg (by rw[Jw OP];simp)]
  have b:(⟨false,[],Gz n.kids.length (n.kids.flatMap kb)⟩:Nd)=n:=by rw[fY d,←hl,←e]
  show (if may ⟨false,[],Gz n.kids.length (n.kids.flatMap kb)⟩=true then ((⟨false,[],Gz n.kids.length (n.kids.flatMap kb)⟩:Nd),(0:Int)) else (I9,4))=_
  rw[b,if_pos h]
structure Sp where
 AX:Int
 used:List Int
 waiting:List Int
 taken:List Int
namespace Sp
def new(r:Int):Sp:=⟨r,[],[],[]⟩
def busy(s:Sp)(no:Int):Bool:=s.used.contains no||s.waiting.contains no
def least(s:Sp):Nat→Int→Option Int
 |0,_=>none
 |k+1,no=>if s.busy no then least s k (no+1) else some no
def free(s:Sp):Option Int:=s.least (1048576-s.AX).toNat s.AX
def take(s:Sp):(Int×Int)×Sp:=
 match s.free with
 |none=>((0,9),s)
 |some no=>((no,0), { s with used:=s.used++ [no],taken:=s.taken++ [no] })
def mark(s:Sp):Int:=s.taken.length
def since(s:Sp)(m:Nat):List Int:=(s.taken.drop m).filter fun no=>s.used.contains no
def back(s:Sp)(m:Nat):Sp:= { s with used:=s.used.filter fun no=>!(s.taken.drop m).contains no,taken:=s.taken.take m }
end Sp
theorem Sp.I4{s:Sp} : ∀{k:Nat}{no x:Int},s.least k no=some x→no≤x∧x<no+k∧s.busy x=false∧ ∀y,no≤y→y<x→s.busy y=true
 |0,_,_,h=>by cases h
 | k + 1, no, x, h => by
  unfold Sp.least at h
  cases hb:s.busy no with
  | true =>
   rw[hb,if_pos rfl] at h
   obtain ⟨h1,f,b,c⟩:=Sp.I4 h
   refine ⟨by omega,by omega,b,fun y d a=>?_⟩
   by_cases e:y=no
   ·rw[e];exact hb
   exact c y (by omega) a
  | false =>
   rw[hb,if_neg (by simp)] at h
   cases h
   exact ⟨by omega,by omega,hb,fun y d a=>by omega⟩
def Bk:List Av→Bool
 |l=>l.all Ah&&decide (Aa l≤1048576)
def meets(a b:Av):Bool:=decide (a.src=b.src∧a.pos+a.len=b.pos)
def glue(a b:Av):Av:= { a with len:=a.len+b.len,lines:=if a.lines<0∨b.lines<0 then-1 else a.lines+b.lines }
def A8(out:List Av)(x:Av):List Av:=
 match out.getLast? with
 |none=> [x]
 |some a=>if meets a x then out.dropLast++ [glue a x] else out++ [x]
def join(l:List Av):List Av:=l.foldl A8 []
def part(x:Av)(a b:Int):List Av:=
 if b≤a then [] else
 if 0<a∨b<x.len then [{ x with pos:=x.pos+a,len:=b-a,lines:=if x.lines≠0 then-1 else 0 }] else [x]
theorem Ao(a b:List Av):Aa (a++b)=Aa a+Aa b:=by simp[Aa]
theorem Fx(out:List Av)(x:Av):Aa (A8 out x)=Aa out+x.len:=by
 unfold A8
 cases h:out.getLast? with
 | none =>
  have:out= []:=List.getLast?_eq_none_iff.1 h
  subst this
  simp[Aa]
 | some a =>
  have e:out=out.dropLast++ [a]:=by
   have:=List.getLast?_eq_some_iff.1 h
   obtain ⟨ys,rfl⟩:=this
   simp
  simp only
  split
  · conv=>rhs;rw[e]
    rw[Ao,Ao]
    simp[Aa,glue]
    omega
  rw[Ao];simp[Aa]
theorem Js(l:List Av):Aa (join l)=Aa l:=by
 unfold join
 have h: ∀(l out:List Av),Aa (l.foldl A8 out)=Aa out+Aa l:=by
  intro l
  induction l with
  |nil=>intro out;simp[Aa]
  | cons x l a =>
   intro out
   rw[List.foldl_cons,a,Fx]
   have:Aa (x::l)=x.len+Aa l:=by simp[Aa]
   omega
 rw[h]
 simp[Aa]
