/- treeShape holds for every input. No condition. (part 3) -/
import Derived.WalkKit
set_option linter.all false
namespace Go.Dk
structure Fl where
 now:List UInt8
 safe:List UInt8
 sure:Bool
structure Pc where
 nm:ByteArray
 pos:Nat
 b:Option (List UInt8)
structure Dk where
 room:Int
 changes:Int
 left:Int
 GQ:Bool
 down:Bool
 files:List (ByteArray×Fl)
 BM:List Pc
def EC(nm:ByteArray):List (ByteArray×Fl)→Option Fl
 | []=>none
 |p::l=>if nm=p.1 then some p.2 else EC nm l
def DW(nm:ByteArray)(f:Fl):List (ByteArray×Fl)→List (ByteArray×Fl)
 | []=> [(nm,f)]
 |p::l=>if nm=p.1 then (nm,f)::l else p::DW nm f l
def named(s:ByteArray):Bool:=decide (1≤s.size)&&decide (s.size≤16)&&s.data.toList.all fun c=>decide (97≤c.toNat)&&decide (c.toNat≤122)
def sum(fs:List (ByteArray×Fl)):Nat:=(fs.map fun p=>p.2.now.length).sum
def Fv(f:Option Fl):Nat:=(f.map fun x=>x.now.length).getD 0
namespace Dk
def new(room:Int):Dk:=⟨room,0,0,false,false,[],[]⟩
def get(d:Dk)(nm:ByteArray):Option Fl:=EC nm d.files
def may(d:Dk)(nm:ByteArray)(a:Bool):Int:=
 if named nm=false then 1 else if d.down then 8 else if a&&(d.get nm).isNone then 6 else 0
def fits(d:Dk)(f:Option Fl)(size:Int):Int:=
 if f.isNone&&decide (16≤d.files.length) then 11 else
 if decide ((Fv f:Int)<size)&&decide (d.room<(sum d.files:Int)-Fv f+size) then 7 else 0
def stop(d:Dk):Bool:=d.GQ&&d.left==0
def BW(d:Dk):Dk:= { d with left:=d.left-1,changes:=d.changes+1 }
def settled(d:Dk)(nm:ByteArray):Dk:= { d with BM:=d.BM.filter fun p=>p.nm !=nm }
def put(d:Dk)(nm:ByteArray)(f:Fl):Dk:= { d with files:=DW nm f d.files }
end Dk
def laid(a:List UInt8)(at_:Nat)(b:List UInt8):List UInt8:=
 (a++List.replicate (at_+b.length-a.length) 0).take at_++b++a.drop (at_+b.length)
theorem CX(a:List UInt8)(k:Nat)(b:List UInt8):(laid a k b).length=max a.length (k+b.length):=by grind [laid]
def part(k n:Nat):Nat:=min n (64-k%64)
theorem Jk{k n:Nat}(h:0<n):0<part k n∧part k n≤n∧part k n≤64:=by unfold part;omega
def F6(nm:ByteArray)(k:Nat)(b:List UInt8):List Pc:=
 if h:b.length=0 then [] else ⟨nm,k,some (b.take (part k b.length))⟩::F6 nm (k+part k b.length) (b.drop (part k b.length))
termination_by b.length
decreasing_by have:=Jk (k:=k) (n:=b.length) (by omega);simp;omega
theorem Jz(nm:ByteArray)(k:Nat):F6 nm k []= []:=by rw[F6];simp
theorem Mm(nm:ByteArray)(k:Nat)(b:List UInt8)(h:0<b.length):F6 nm k b=⟨nm,k,some (b.take (part k b.length))⟩::F6 nm (k+part k b.length) (b.drop (part k b.length)):=by grind [F6]
theorem OI(nm:ByteArray): ∀(n k:Nat)(b:List UInt8),b.length≤n→(F6 nm k b).length≤b.length
 |0,k,b,h=>by simp_all[Jz]
 | n + 1, k, b, h => by
  by_cases hb:0<b.length
  ·rw[Mm nm k b hb]
   have hp:=Jk (k:=k) hb
   have:=OI nm n (k+part k b.length) (b.drop (part k b.length)) (by simp;omega)
   grind
  simp_all[Jz]
theorem Jy(nm:ByteArray): ∀(n k:Nat)(b:List UInt8),b.length≤n→ ∀p∈F6 nm k b,p.nm=nm∧ ∃l,p.b=some l∧p.pos+l.length≤k+b.length∧k≤p.pos
 |0,k,b,h=>by simp_all[Jz]
 | n + 1, k, b, h => by
  by_cases hb:0<b.length
  ·rw[Mm nm k b hb]
   have hp:=Jk (k:=k) hb
   have:=Jy nm n (k+part k b.length) (b.drop (part k b.length)) (by simp;omega)
   grind
  simp_all[Jz]
namespace Dk
def KF:Fl:=⟨[],[],false⟩
def written(d:Dk)(nm:ByteArray)(k:Nat)(b:List UInt8):Dk:=
 let f:=(d.get nm).getD KF
 { d.BW.put nm { f with now:=laid f.now k b } with BM:=d.BM++F6 nm k b }
def write(d:Dk)(nm:ByteArray)(k:Int)(b:List UInt8):Int×Dk:=
 if d.may nm false≠0 then (d.may nm false,d) else
 if k<0∨(Fv (d.get nm):Int)<k then (2,d) else
 if b.length=0 then (0,d) else
 if d.fits (d.get nm) (max (Fv (d.get nm)) (k+b.length))≠0 then (d.fits (d.get nm) (max (Fv (d.get nm)) (k+b.length)),d) else
 if d.stop then (8, { d with down:=true }) else
 (0,d.written nm k.toNat b)
def cut(d:Dk)(nm:ByteArray)(n:Int):Int×Dk:=
 if d.may nm true≠0 then (d.may nm true,d) else
 if n<0∨(Fv (d.get nm):Int)<n then (2,d) else
 if d.stop then (8, { d with down:=true }) else
 let f:=(d.get nm).getD KF
 (0, { d.BW.put nm { f with now:=f.now.take n.toNat } with BM:=d.BM++ [⟨nm,n.toNat,none⟩] })
def sync(d:Dk)(nm:ByteArray):Int×Dk:=
 if d.may nm true≠0 then (d.may nm true,d) else
 if d.stop then (8, { d with down:=true }) else
 let f:=(d.get nm).getD KF
 (0,(d.BW.put nm { f with safe:=f.now,sure:=true }).settled nm)
def read(d:Dk)(nm:ByteArray)(k n:Int):Int×List UInt8:=
 if d.may nm true≠0 then (d.may nm true,[]) else
 let f:=(d.get nm).getD KF
 if k<0∨n<0∨(f.now.length:Int)<k∨(f.now.length:Int)-k<n then (2,[]) else
 (0,(f.now.drop k.toNat).take n.toNat)
def size(d:Dk)(nm:ByteArray):Int:=if d.may nm true≠0 then-1 else ((d.get nm).getD KF).now.length
end Dk
def gA(a:List Int)(i:Nat):Bool:=match a[i%a.length]? with
 |none=>false
 |some z=>z%2==1
def ofName(nm:ByteArray)(ps:List Pc):List Pc:=ps.filter fun p=>p.nm==nm
def Pn:Nat:=1099511627776
structure Ok (m:Nat) (d:Dk):Prop where
 nd:(d.files.map (·.1)).Nodup
 room:0≤d.room∧d.room≤Pn
 left: -(m:Int)≤d.left∧d.left≤9223372036854775807
 changes:0≤d.changes∧d.changes≤m
 BM:d.BM.length≤m
 nf:d.files.length≤16
 sz: ∀p∈d.files,p.2.now.length≤Pn∧p.2.safe.length≤Pn
 pc: ∀p∈d.BM,p.pos+(p.b.getD []).length≤Pn
 pn: ∀p∈d.BM,(d.get p.nm).isSome=true
