/- treeShape holds for every input. No condition. (part 6) -/
import Derived.WalkKit
set_option linter.all false
namespace Go.Tr
def Bu:Nat→Nat→List UInt8
 |_,0=> []
 |n,w+1=>UInt8.ofNat n::Bu (n/256) w
def BZ:List UInt8→Nat
 | []=>0
 |b::l=>b.toNat+256*BZ l
theorem AE(n w:Nat):(Bu n w).length=w:=by induction w generalizing n with
 |zero=>rfl
 |succ w a=>simp[Bu,a]
theorem EF(n w:Nat)(h:n<256^w):BZ (Bu n w)=n:=by induction w generalizing n with
 |zero=>simp at h;subst h;rfl
 | succ w a =>
  show (UInt8.ofNat n).toNat+256*BZ (Bu (n/256) w)=n
  grind [UInt8.toNat_ofNat']
theorem Rf(l:List UInt8):BZ l<256^l.length:=by induction l with
 |nil=>simp[BZ]
 | cons b l a =>
  have:=b.toNat_lt
  grind [BZ,List.length_cons,Nat.pow_succ]
theorem Rc(l:List UInt8):Bu (BZ l) l.length=l:=by induction l with
 |nil=>rfl
 | cons b l c =>
  have hb:=b.toNat_lt
  simp only[BZ,List.length_cons,Bu]
  have a:(b.toNat+256*BZ l)/256=BZ l:=by omega
  simp_all
def CW(s:Nat):Nat:=if s%2=1 then (s/2)^^^3988292384 else s/2
def Di:Nat→Nat→Nat
 |0,s=>s
 |k+1,s=>Di k (CW s)
def KJ(s:Nat)(b:UInt8):Nat:=Di 8 (s^^^b.toNat)
def DH(s:Nat)(l:List UInt8):Nat:=l.foldl KJ s
def Pq(l:List UInt8):Nat:=4294967295^^^DH 4294967295 l
theorem Ki{s:Nat}(h:s<4294967296):CW s<4294967296:=by
 unfold CW
 split
 ·exact Nat.xor_lt_two_pow (n:=32) (by omega) (by omega)
 omega
theorem Mz(k:Nat){s:Nat}(h:s<4294967296):Di k s<4294967296:=by induction k generalizing s with
 |zero=>exact h
 |succ k a=>exact a (Ki h)
theorem UJ{s:Nat}(h:s<4294967296)(b:UInt8):KJ s b<4294967296:=by
 have:=b.toNat_lt
 exact Mz 8 (Nat.xor_lt_two_pow (n:=32) (by omega) (by omega))
theorem Xi(l:List UInt8){s:Nat}(h:s<4294967296):DH s l<4294967296:=by induction l generalizing s with
 |nil=>exact h
 |cons b l a=>exact a (UJ h b)
theorem NH(l:List UInt8):Pq l<4294967296:=Nat.xor_lt_two_pow (n:=32) (by omega) (Xi l (by omega))
theorem Ka(s:Nat)(a b:List UInt8):DH s (a++b)=DH (DH s a) b:=List.foldl_append
def zs(n:Nat):List UInt8:=List.replicate n 0
theorem Z'(n:Nat):(zs n).length=n:=by simp[zs]
def CC(no kind:Nat)(body:List UInt8):List UInt8:=UInt8.ofNat kind::0::(Bu body.length 2++Bu no 4)
def Dl(body:List UInt8):List UInt8:=body++zs (244-body.length)
def AU(no kind:Nat)(body:List UInt8):List UInt8:=CC no kind body++(Bu (Pq (CC no kind body++Dl body)) 4++Dl body)
theorem Iq(no kind:Nat)(body:List UInt8):(CC no kind body).length=8:=by simp[CC,AE]
theorem Kv{body:List UInt8}(h:body.length≤244):(Dl body).length=244:=by simp[Dl,zs];omega
theorem Ir(no kind:Nat){body:List UInt8}(h:body.length≤244):(AU no kind body).length=256:=by simp[AU,Iq,Kv h,AE]
def Bt(no kind:Int)(body:List UInt8):List UInt8×Int:=
 if no<0∨1048576≤no∨kind<1∨9<kind then ([],1) else
 if 244<body.length then ([],10) else (AU no.toNat kind.toNat body,0)
def AK(no:Int)(b:List UInt8):Int×List UInt8×Int:=
 if no<0∨1048576≤no then (0,[],1) else
 if b.length≠256 then (0,[],3) else
 if BZ ((b.drop 8).take 4)≠Pq (b.take 8++b.drop 12) then (0,[],5) else
 let kind:=BZ (b.take 1)
 let n:=BZ ((b.drop 2).take 2)
 if (b.drop 1).take 1≠ [0]∨kind<1∨9<kind∨244<n∨(BZ ((b.drop 4).take 4):Int)≠no then (0,[],4) else
 if (b.drop (12+n)).any (· !=0) then (0,[],4) else
 (kind,(b.drop 12).take n,0)
theorem R3(no kind:Nat){body:List UInt8}(h:body.length≤244):
 (AU no kind body).take 8=CC no kind body∧((AU no kind body).drop 8).take 4=Bu (Pq (CC no kind body++Dl body)) 4∧(AU no kind body).drop 12=Dl body:=by
 have b:=Iq no kind body
 have a:=AE (Pq (CC no kind body++Dl body)) 4
 unfold AU
 grind
theorem Qt{no kind:Nat}{body:List UInt8}(r:no<1048576)(q:1≤kind∧kind≤9)(hb:body.length≤244):AK no (AU no kind body)=((kind:Int),body,0):=by
 obtain ⟨a,e,c⟩:=R3 no kind hb
 have b:=Ir no kind hb
 have i:=NH (CC no kind body++Dl body)
 obtain ⟨P,d⟩: ∃P,AU no kind body=P:=⟨_,rfl⟩
 rw[d] at a e c b
 have m:P.take 1= [UInt8.ofNat kind]:=by
  have:P.take 1=(P.take 8).take 1:=by rw[List.take_take];rfl
  rw[this,a];rfl
 have n:(P.drop 1).take 1= [0]:=by
  have:(P.drop 1).take 1=((P.take 8).drop 1).take 1:=by rw[List.drop_take,List.take_take];rfl
  rw[this,a];rfl
 have o:(P.drop 2).take 2=Bu body.length 2:=by
  have:(P.drop 2).take 2=((P.take 8).drop 2).take 2:=by rw[List.drop_take,List.take_take];rfl
  rw[this,a]
  show (Bu body.length 2++Bu no 4).take 2=_
  rw[List.take_append_of_le_length (by rw[AE];omega),List.take_of_length_le (by rw[AE];omega)]
 have p:(P.drop 4).take 4=Bu no 4:=by
  have:(P.drop 4).take 4=((P.take 8).drop 4).take 4:=by rw[List.drop_take,List.take_take];rfl
  rw[this,a]
  show ((Bu body.length 2++Bu no 4).drop 2).take 4=_
  rw[List.drop_append_of_le_length (by rw[AE];omega),List.drop_of_length_le (by rw[AE];omega),List.nil_append,List.take_of_length_le (by rw[AE];omega)]
 have j:BZ [UInt8.ofNat kind]=kind:=by simp[BZ,UInt8.toNat_ofNat'];omega
 have k:BZ (Bu body.length 2)=body.length:=EF _ _ (by omega)
 have l:BZ (Bu no 4)=no:=EF _ _ (by omega)
 have f:P.drop (12+body.length)=zs (244-body.length):=by
  rw[←List.drop_drop,c]
  unfold Dl
  rw[List.drop_append_of_le_length (Nat.le_refl _),List.drop_of_length_le (Nat.le_refl _),List.nil_append]
 have g:(P.drop 12).take body.length=body:=by
  rw[c]
  unfold Dl
  rw[List.take_append_of_le_length (Nat.le_refl _),List.take_of_length_le (Nat.le_refl _)]
 rw[d]
 unfold AK
 rw[if_neg (by omega),if_neg (by omega),a,e,c,EF _ _ (by omega),if_neg (by simp)]
 simp only[m,n,o,p,j,k,l]
 rw[if_neg (by simp;omega),f,if_neg (by simp[zs]),←c,g]
structure Au where
 src:Int
 pos:Int
 len:Int
 lines:Int
deriving DecidableEq
structure Kd where
 As:Int
 bytes:Int
 lines:Int
 A4:Int
deriving DecidableEq
structure Nd where
 leaf:Bool
 Ag:List Au
 kids:List Kd
deriving DecidableEq
def GP:Nd:=⟨false,[],[]⟩
def Ah(x:Au):Bool:=
 decide ((x.src=0∨x.src=1)∧0≤x.pos∧x.pos≤16777216∧1≤x.len∧x.len≤16777216-x.pos∧x.len≤1048576∧(-1≤x.lines∧x.lines≤x.len)∧(x.src=1∨x.lines= -1))
def AA(k:Kd):Bool:=
 decide (1≤k.As∧k.As<1048576∧1≤k.bytes∧k.bytes≤1048576∧(-1≤k.lines∧k.lines≤k.bytes)∧1≤k.A4∧k.A4≤k.bytes)
def Aa(l:List Au):Int:=(l.map (·.len)).sum
def B7(l:List Kd):Int:=(l.map (·.bytes)).sum
def Be(l:List Kd):Int:=(l.map (·.A4)).sum
def may(n:Nd):Bool:=
 if n.Ag.any (fun x=>!n.leaf||!Ah x) then false else
 if n.kids.any (fun k=>n.leaf||!AA k) then false else
 let many:=if n.leaf then n.Ag.length else n.kids.length
 let least:=if n.leaf then 1 else 2
 decide (least≤many∧many≤12∧Aa n.Ag+B7 n.kids≤1048576∧Be n.kids≤1024)
def n4(n:Int):Nat:=if n= -1 then 4294967295 else n.toNat
def i4(n:Nat):Int:=if n=4294967295 then-1 else n
theorem NU{n:Int}(h1: -1≤n)(a:n<4294967295):i4 (n4 n)=n:=by
 unfold i4 n4
 grind
theorem Gy{n:Int}(a:n<4294967295):n4 n<256^4:=by unfold n4;split<;>omega
def eb(x:Au):List UInt8:=Bu x.src.toNat 1++(Bu (n4 x.pos) 4++(Bu (n4 x.len) 4++Bu (n4 x.lines) 4))
def kb(k:Kd):List UInt8:=Bu (n4 k.As) 4++(Bu (n4 k.bytes) 4++(Bu (n4 k.lines) 4++Bu (n4 k.A4) 4))
theorem NI(x:Au):(eb x).length=13:=by simp[eb,AE]
theorem Ob(k:Kd):(kb k).length=16:=by simp[kb,AE]
def Dc(n:Nd):Int×List UInt8×Int:=
 if may n=false then (0,[],1) else
 if n.leaf then (1,Bu n.Ag.length 1++n.Ag.flatMap eb,0) else (2,Bu n.kids.length 1++n.kids.flatMap kb,0)
def ue(b:List UInt8):Au:=⟨BZ (b.take 1),i4 (BZ ((b.drop 1).take 4)),i4 (BZ ((b.drop 5).take 4)),i4 (BZ ((b.drop 9).take 4))⟩
def uk(b:List UInt8):Kd:=⟨i4 (BZ (b.take 4)),i4 (BZ ((b.drop 4).take 4)),i4 (BZ ((b.drop 8).take 4)),i4 (BZ ((b.drop 12).take 4))⟩
def FA:Nat→List UInt8→List Au
 |0,_=> []
 |n+1,b=>ue (b.take 13)::FA n (b.drop 13)
def FB:Nat→List UInt8→List Kd
 |0,_=> []
 |n+1,b=>uk (b.take 16)::FB n (b.drop 16)
def CL(kind:Int)(body:List UInt8):Nd×Int:=
 match body with
 | []=>(GP,4)
 | b :: rest =>
  if kind≠1∧kind≠2 then (GP,4) else
  if rest.length≠b.toNat*(if kind=1 then 13 else 16) then (GP,4) else
  let n:Nd:=if kind=1 then ⟨true,FA b.toNat rest,[]⟩ else ⟨false,[],FB b.toNat rest⟩
  if may n then (n,0) else (GP,4)
def Ed(a b:Int):Int:=if b<0∨a<0 then-1 else a+b
def AS(n:Nd):Int×Int×Int:=
 if may n then
  (Aa n.Ag+B7 n.kids,(n.kids.map (·.lines)).foldl Ed ((n.Ag.map (·.lines)).foldl Ed 0),n.Ag.length+Be n.kids)
 else (0,0,0)
theorem MM{a b:List UInt8}{n:Nat}(h:a.length=n):(a++b).take n=a:=by subst h;simp
theorem M0{a b:List UInt8}{n:Nat}(h:a.length=n):(a++b).drop n=b:=by subst h;simp
theorem fB{x:Au}(h:Ah x=true):ue (eb x)=x:=by
 unfold Ah at h
 simp only[decide_eq_true_eq] at h
 have c:(eb x).take 1=Bu x.src.toNat 1:=MM (AE _ _)
 have a:(eb x).drop 1=Bu (n4 x.pos) 4++(Bu (n4 x.len) 4++Bu (n4 x.lines) 4):=M0 (AE _ _)
 have b:(eb x).drop 5=Bu (n4 x.len) 4++Bu (n4 x.lines) 4:=by rw[show 5=1+4 from rfl,←List.drop_drop,a,M0 (AE _ _)]
 have d:(eb x).drop 9=Bu (n4 x.lines) 4:=by rw[show 9=5+4 from rfl,←List.drop_drop,b,M0 (AE _ _)]
 unfold ue
 rw[c,a,b,d,MM (AE _ _),MM (AE _ _),List.take_of_length_le (by rw[AE];omega),EF _ _ (by omega),EF _ _ (Gy (by omega)),EF _ _ (Gy (by omega)),EF _ _ (Gy (by omega)),NU (by omega) (by omega),NU (by omega) (by omega),NU (by omega) (by omega)]
 cases x
 grind
theorem fD{k:Kd}(h:AA k=true):uk (kb k)=k:=by
 unfold AA at h
 simp only[decide_eq_true_eq] at h
 have c:(kb k).take 4=Bu (n4 k.As) 4:=MM (AE _ _)
 have a:(kb k).drop 4=Bu (n4 k.bytes) 4++(Bu (n4 k.lines) 4++Bu (n4 k.A4) 4):=M0 (AE _ _)
 have b:(kb k).drop 8=Bu (n4 k.lines) 4++Bu (n4 k.A4) 4:=by rw[show 8=4+4 from rfl,←List.drop_drop,a,M0 (AE _ _)]
 have d:(kb k).drop 12=Bu (n4 k.A4) 4:=by rw[show 12=8+4 from rfl,←List.drop_drop,b,M0 (AE _ _)]
 unfold uk
 rw[c,a,b,d,MM (AE _ _),MM (AE _ _),List.take_of_length_le (by rw[AE];omega),EF _ _ (Gy (by omega)),EF _ _ (Gy (by omega)),EF _ _ (Gy (by omega)),EF _ _ (Gy (by omega)),NU (by omega) (by omega),NU (by omega) (by omega),NU (by omega) (by omega),NU (by omega) (by omega)]
theorem bM{l:List Au}(h: ∀x∈l,Ah x=true):FA l.length (l.flatMap eb)=l:=by induction l with
 |nil=>rfl
 | cons x l a =>
  show ue ((eb x++l.flatMap eb).take 13)::FA l.length ((eb x++l.flatMap eb).drop 13)=_
  rw[MM (NI x),M0 (NI x),fB (h x (by simp)),a fun y hy=>h y (by simp[hy])]
theorem bN{l:List Kd}(h: ∀x∈l,AA x=true):FB l.length (l.flatMap kb)=l:=by induction l with
 |nil=>rfl
 | cons x l a =>
  show uk ((kb x++l.flatMap kb).take 16)::FB l.length ((kb x++l.flatMap kb).drop 16)=_
  rw[MM (Ob x),M0 (Ob x),fD (h x (by simp)),a fun y hy=>h y (by simp[hy])]
theorem IW{α:Type}{f:α→List UInt8}{c:Nat}(a: ∀x,(f x).length=c)(l:List α):(l.flatMap f).length=l.length*c:=by induction l with
 |nil=>simp
 |cons x l b=>rw[List.flatMap_cons,List.length_append,a,b,List.length_cons,Nat.add_mul];omega
theorem Cm{n:Nd}(h:may n=true)(hl:n.leaf=true):n.kids= []∧(∀x∈n.Ag,Ah x=true)∧1≤n.Ag.length∧n.Ag.length≤12∧Aa n.Ag≤1048576:=by
 unfold may at h
 by_cases h1:n.Ag.any (fun x=>!n.leaf||!Ah x)=true
 · rw[if_pos h1] at h;cases h
 rw[if_neg h1] at h
 by_cases b:n.kids.any (fun k=>n.leaf||!AA k)=true
 · rw[if_pos b] at h;cases h
 rw[if_neg b,hl] at h
 simp only[if_true,decide_eq_true_eq] at h
 have a:n.kids= []:=by
  cases a:n.kids with
  |nil=>rfl
  |cons k l=>exfalso;apply b;rw[a,hl];simp
 rw[a] at h
 refine ⟨a,?_,h.1,h.2.1,?_⟩
 · intro x hx
   cases hm:Ah x with
   |true=>rfl
   |false=>exfalso;apply h1;rw[List.any_eq_true];exact ⟨x,hx,by simp[hm]⟩
 have:=h.2.2.1
 simp[B7] at this
 exact this
theorem BB{n:Nd}(h:may n=true)(hl:n.leaf=false):n.Ag= []∧(∀x∈n.kids,AA x=true)∧2≤n.kids.length∧n.kids.length≤12∧B7 n.kids≤1048576∧Be n.kids≤1024:=by
 unfold may at h
 by_cases h1:n.Ag.any (fun x=>!n.leaf||!Ah x)=true
 · simp_all
 rw[if_neg h1] at h
 by_cases b:n.kids.any (fun k=>n.leaf||!AA k)=true
 · grind
 rw[if_neg b,hl] at h
 simp only[Bool.false_eq_true,if_false,decide_eq_true_eq] at h
 have a:n.Ag= []:=by cases a:n.Ag with
  |nil=>rfl
  |cons k l=>exfalso;apply h1;rw[a,hl];simp
 refine ⟨a,?_,h.1,h.2.1,?_,h.2.2.2⟩
 · simp_all
 simp_all[Aa]
theorem Rs{n:Nd}(h:may n=true): ∃(kind:Nat)(body:List UInt8),Dc n=((kind:Int),body,0)∧(kind=1∨kind=2)∧body.length≤244∧CL kind body=(n,0):=by
 cases hl:n.leaf with
 | true =>
  obtain ⟨e,d,h1,c,_⟩:=Cm h hl
  refine ⟨1,Bu n.Ag.length 1++n.Ag.flatMap eb,?_,.inl rfl,?_,?_⟩
  ·unfold Dc;rw[if_neg (by simp[h]),if_pos hl];rfl
  ·rw[List.length_append,AE,IW NI];omega
  show (if (1:Int)≠1∧(1:Int)≠2 then (GP,4) else if (Bu (n.Ag.length/256) 0++n.Ag.flatMap eb).length≠(UInt8.ofNat n.Ag.length).toNat*13 then (GP,4) else _)=_
  have e0:(UInt8.ofNat n.Ag.length).toNat=n.Ag.length:=by rw[UInt8.toNat_ofNat'];omega
  have a:Bu (n.Ag.length/256) 0++n.Ag.flatMap eb=n.Ag.flatMap eb:=rfl
  rw[if_neg (by simp),e0,a,if_neg (by rw[IW NI];simp)]
  have b:(⟨true,FA n.Ag.length (n.Ag.flatMap eb),[]⟩:Nd)=n:=by rw[bM d,←hl,←e]
  show (if may ⟨true,FA n.Ag.length (n.Ag.flatMap eb),[]⟩=true then ((⟨true,FA n.Ag.length (n.Ag.flatMap eb),[]⟩:Nd),(0:Int)) else (GP,4))=_
  rw[b,if_pos h]
 | false =>
  obtain ⟨e,d,h1,c,_⟩:=BB h hl
  refine ⟨2,Bu n.kids.length 1++n.kids.flatMap kb,?_,.inr rfl,?_,?_⟩
  ·unfold Dc;rw[if_neg (by simp[h]),if_neg (by simp[hl])];rfl
  ·rw[List.length_append,AE,IW Ob];omega
  show (if (2:Int)≠1∧(2:Int)≠2 then (GP,4) else if (Bu (n.kids.length/256) 0++n.kids.flatMap kb).length≠(UInt8.ofNat n.kids.length).toNat*16 then (GP,4) else _)=_
  have e0:(UInt8.ofNat n.kids.length).toNat=n.kids.length:=by rw[UInt8.toNat_ofNat'];omega
  have a:Bu (n.kids.length/256) 0++n.kids.flatMap kb=n.kids.flatMap kb:=rfl
  rw[if_neg (by simp),e0,a,if_neg (by rw[IW Ob];simp)]
  have b:(⟨false,[],FB n.kids.length (n.kids.flatMap kb)⟩:Nd)=n:=by rw[bN d,←hl,←e]
  show (if may ⟨false,[],FB n.kids.length (n.kids.flatMap kb)⟩=true then ((⟨false,[],FB n.kids.length (n.kids.flatMap kb)⟩:Nd),(0:Int)) else (GP,4))=_
  rw[b,if_pos h]
structure Sp where
 AO:Int
 used:List Int
 waiting:List Int
 taken:List Int
namespace Sp
def new(r:Int):Sp:=⟨r,[],[],[]⟩
def busy(s:Sp)(no:Int):Bool:=s.used.contains no||s.waiting.contains no
def least(s:Sp):Nat→Int→Option Int
 |0,_=>none
 |k+1,no=>if s.busy no then least s k (no+1) else some no
def free(s:Sp):Option Int:=s.least (1048576-s.AO).toNat s.AO
def take(s:Sp):(Int×Int)×Sp:=
 match s.free with
 |none=>((0,9),s)
 |some no=>((no,0), { s with used:=s.used++ [no],taken:=s.taken++ [no] })
def mark(s:Sp):Int:=s.taken.length
def since(s:Sp)(m:Nat):List Int:=(s.taken.drop m).filter fun no=>s.used.contains no
def back(s:Sp)(m:Nat):Sp:= { s with used:=s.used.filter fun no=>!(s.taken.drop m).contains no,taken:=s.taken.take m }
end Sp
theorem Sp.Ih{s:Sp} : ∀{k:Nat}{no x:Int},s.least k no=some x→no≤x∧x<no+k∧s.busy x=false∧ ∀y,no≤y→y<x→s.busy y=true
 |0,_,_,h=>by cases h
 | k + 1, no, x, h => by
  unfold Sp.least at h
  cases hb:s.busy no with
  | true =>
   rw[hb,if_pos rfl] at h
   obtain ⟨h1,f,b,c⟩:=Sp.Ih h
   refine ⟨by omega,by omega,b,fun y d a=>?_⟩
   by_cases e:y=no
   ·rw[e];exact hb
   exact c y (by omega) a
  | false =>
   rw[hb,if_neg (by simp)] at h
   cases h
   exact ⟨by omega,by omega,hb,fun y d a=>by omega⟩
def Bh:List Au→Bool
 |l=>l.all Ah&&decide (Aa l≤1048576)
def meets(a b:Au):Bool:=decide (a.src=b.src∧a.pos+a.len=b.pos)
def glue(a b:Au):Au:= { a with len:=a.len+b.len,lines:=if a.lines<0∨b.lines<0 then-1 else a.lines+b.lines }
def A5(out:List Au)(x:Au):List Au:=
 match out.getLast? with
 |none=> [x]
 |some a=>if meets a x then out.dropLast++ [glue a x] else out++ [x]
def join(l:List Au):List Au:=l.foldl A5 []
def part(x:Au)(a b:Int):List Au:=
 if b≤a then [] else
 if 0<a∨b<x.len then [{ x with pos:=x.pos+a,len:=b-a,lines:=if x.lines≠0 then-1 else 0 }] else [x]
theorem Ao(a b:List Au):Aa (a++b)=Aa a+Aa b:=by simp[Aa]
theorem Fk(out:List Au)(x:Au):Aa (A5 out x)=Aa out+x.len:=by
 unfold A5
 cases h:out.getLast? with
 | none =>
  have:out= []:=List.getLast?_eq_none_iff.1 h
  subst this
  simp[Aa]
 | some a =>
  have e:out=out.dropLast++ [a]:=by
   have:=List.getLast?_eq_some_iff.1 h
   obtain ⟨ys,rfl⟩:=this
   simp
  simp only
  split
  · conv=>rhs;rw[e]
    rw[Ao,Ao]
    simp[Aa,glue]
    omega
  rw[Ao];simp[Aa]
theorem IM(l:List Au):Aa (join l)=Aa l:=by
 unfold join
 have h: ∀(l out:List Au),Aa (l.foldl A5 out)=Aa out+Aa l:=by
  intro l
  induction l with
  |nil=>intro out;simp[Aa]
  | cons x l a =>
   intro out
   rw[List.foldl_cons,a,Fk]
   have:Aa (x::l)=x.len+Aa l:=by simp[Aa]
   omega
 rw[h]
 simp[Aa]
