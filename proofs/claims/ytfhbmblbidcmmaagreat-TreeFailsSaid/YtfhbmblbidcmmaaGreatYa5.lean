/- treeFails holds for every input. No condition. (part 5) -/
import Derived.WalkKit
set_option linter.all false
namespace Go.Dk
structure Fl where
 now:List UInt8
 safe:List UInt8
 sure:Bool
structure Pc where
 nm:ByteArray
 pos:Nat
 b:Option (List UInt8)
structure Dk where
 room:Int
 changes:Int
 left:Int
 D5:Bool
 down:Bool
 files:List (ByteArray×Fl)
 AO:List Pc
def Cb(nm:ByteArray):List (ByteArray×Fl)→Option Fl
 | []=>none
 |p::l=>if nm=p.1 then some p.2 else Cb nm l
def Dj(nm:ByteArray)(f:Fl):List (ByteArray×Fl)→List (ByteArray×Fl)
 | []=> [(nm,f)]
 |p::l=>if nm=p.1 then (nm,f)::l else p::Dj nm f l
def named(s:ByteArray):Bool:=decide (1≤s.size)&&decide (s.size≤16)&&s.data.toList.all fun c=>decide (97≤c.toNat)&&decide (c.toNat≤122)
def sum(fs:List (ByteArray×Fl)):Nat:=(fs.map fun p=>p.2.now.length).sum
def EN(f:Option Fl):Nat:=(f.map fun x=>x.now.length).getD 0
namespace Dk
def new(room:Int):Dk:=⟨room,0,0,false,false,[],[]⟩
def get(d:Dk)(nm:ByteArray):Option Fl:=Cb nm d.files
def may(d:Dk)(nm:ByteArray)(a:Bool):Int:=
 if named nm=false then 1 else if d.down then 8 else if a&&(d.get nm).isNone then 6 else 0
def fits(d:Dk)(f:Option Fl)(size:Int):Int:=
 if f.isNone&&decide (16≤d.files.length) then 11 else
 if decide ((EN f:Int)<size)&&decide (d.room<(sum d.files:Int)-EN f+size) then 7 else 0
def stop(d:Dk):Bool:=d.D5&&d.left==0
def Bz(d:Dk):Dk:= { d with left:=d.left-1,changes:=d.changes+1 }
def settled(d:Dk)(nm:ByteArray):Dk:= { d with AO:=d.AO.filter fun p=>p.nm !=nm }
def put(d:Dk)(nm:ByteArray)(f:Fl):Dk:= { d with files:=Dj nm f d.files }
end Dk
def laid(a:List UInt8)(at_:Nat)(b:List UInt8):List UInt8:=
 (a++List.replicate (at_+b.length-a.length) 0).take at_++b++a.drop (at_+b.length)
theorem C8(a:List UInt8)(k:Nat)(b:List UInt8):(laid a k b).length=max a.length (k+b.length):=by
 simp[laid];omega
def part(k n:Nat):Nat:=min n (64-k%64)
theorem IB{k n:Nat}(h:0<n):0<part k n∧part k n≤n∧part k n≤64:=by unfold part;omega
def Fz(nm:ByteArray)(k:Nat)(b:List UInt8):List Pc:=
 if h:b.length=0 then [] else ⟨nm,k,some (b.take (part k b.length))⟩::Fz nm (k+part k b.length) (b.drop (part k b.length))
termination_by b.length
decreasing_by have:=IB (k:=k) (n:=b.length) (by omega);simp;omega
theorem IU(nm:ByteArray)(k:Nat):Fz nm k []= []:=by rw[Fz];simp
theorem LI(nm:ByteArray)(k:Nat)(b:List UInt8)(h:0<b.length):Fz nm k b=⟨nm,k,some (b.take (part k b.length))⟩::Fz nm (k+part k b.length) (b.drop (part k b.length)):=by
 rw[Fz];rw[dif_neg (by omega)]
theorem NL(nm:ByteArray): ∀(n k:Nat)(b:List UInt8),b.length≤n→(Fz nm k b).length≤b.length
 | 0, k, b, h => by
  have:b= []:=by cases b with|nil=>rfl|cons _ _=>simp at h
  subst this;rw[IU];simp
 | n + 1, k, b, h => by
  by_cases hb:0<b.length
  ·rw[LI nm k b hb]
   have hp:=IB (k:=k) hb
   have:=NL nm n (k+part k b.length) (b.drop (part k b.length)) (by simp;omega)
   simp at this⊢
   omega
  have:b= []:=by cases b with|nil=>rfl|cons _ _=>simp at hb
  subst this;rw[IU];simp
theorem IQ(nm:ByteArray): ∀(n k:Nat)(b:List UInt8),b.length≤n→ ∀p∈Fz nm k b,p.nm=nm∧ ∃l,p.b=some l∧p.pos+l.length≤k+b.length∧k≤p.pos
 | 0, k, b, h => by
  have:b= []:=by cases b with|nil=>rfl|cons _ _=>simp at h
  subst this;rw[IU];simp
 | n + 1, k, b, h => by
  by_cases hb:0<b.length
  ·rw[LI nm k b hb]
   have hp:=IB (k:=k) hb
   have:=IQ nm n (k+part k b.length) (b.drop (part k b.length)) (by simp;omega)
   intro p a
   rcases List.mem_cons.1 a with rfl|a
   ·exact ⟨rfl,_,rfl,by simp;omega,Nat.le_refl _⟩
   obtain ⟨c,l,d,e,f⟩:=this p a
   refine ⟨c,l,d,?_,by omega⟩
   simp at e;omega
  have:b= []:=by cases b with|nil=>rfl|cons _ _=>simp at hb
  subst this;rw[IU];simp
namespace Dk
def Io:Fl:=⟨[],[],false⟩
def load(d:Dk)(nm:ByteArray)(b:List UInt8):Int×Dk:=
 if named nm=false then (1,d) else
 if d.fits (d.get nm) b.length≠0 then (d.fits (d.get nm) b.length,d) else
 (0,(d.settled nm).put nm ⟨b,b,true⟩)
def written(d:Dk)(nm:ByteArray)(k:Nat)(b:List UInt8):Dk:=
 let f:=(d.get nm).getD Io
 { d.Bz.put nm { f with now:=laid f.now k b } with AO:=d.AO++Fz nm k b }
def write(d:Dk)(nm:ByteArray)(k:Int)(b:List UInt8):Int×Dk:=
 if d.may nm false≠0 then (d.may nm false,d) else
 if k<0∨(EN (d.get nm):Int)<k then (2,d) else
 if b.length=0 then (0,d) else
 if d.fits (d.get nm) (max (EN (d.get nm)) (k+b.length))≠0 then (d.fits (d.get nm) (max (EN (d.get nm)) (k+b.length)),d) else
 if d.stop then (8, { d with down:=true }) else
 (0,d.written nm k.toNat b)
def cut(d:Dk)(nm:ByteArray)(n:Int):Int×Dk:=
 if d.may nm true≠0 then (d.may nm true,d) else
 if n<0∨(EN (d.get nm):Int)<n then (2,d) else
 if d.stop then (8, { d with down:=true }) else
 let f:=(d.get nm).getD Io
 (0, { d.Bz.put nm { f with now:=f.now.take n.toNat } with AO:=d.AO++ [⟨nm,n.toNat,none⟩] })
def sync(d:Dk)(nm:ByteArray):Int×Dk:=
 if d.may nm true≠0 then (d.may nm true,d) else
 if d.stop then (8, { d with down:=true }) else
 let f:=(d.get nm).getD Io
 (0,(d.Bz.put nm { f with safe:=f.now,sure:=true }).settled nm)
def read(d:Dk)(nm:ByteArray)(k n:Int):Int×List UInt8:=
 if d.may nm true≠0 then (d.may nm true,[]) else
 let f:=(d.get nm).getD Io
 if k<0∨n<0∨(f.now.length:Int)<k∨(f.now.length:Int)-k<n then (2,[]) else
 (0,(f.now.drop k.toNat).take n.toNat)
def size(d:Dk)(nm:ByteArray):Int:=if d.may nm true≠0 then-1 else ((d.get nm).getD Io).now.length
def free(d:Dk):Int:=max 0 (d.room-sum d.files)
def arm(d:Dk)(n:Int):Int×Dk:=if n<0 then (1,d) else (0, { d with D5:=true,left:=n })
end Dk
def IE(a:List Int)(i:Nat):Bool:=match a[i%a.length]? with
 |none=>false
 |some z=>z%2==1
def DJ(a:List Int)(i:Nat):List Pc→List Pc
 | []=> []
 |p::l=>if IE a i then p::DJ a (i+1) l else DJ a (i+1) l
def Gu(b:List UInt8)(p:Pc):List UInt8:=match p.b with
 |none=>b.take p.pos
 |some x=>laid b p.pos x
def ofName(nm:ByteArray)(ps:List Pc):List Pc:=ps.filter fun p=>p.nm==nm
def crashed(ps:List Pc)(x:ByteArray×Fl):Option (ByteArray×Fl):=
 if x.2.sure||(ofName x.1 ps).any (fun p=>p.b.isSome) then
  some (x.1,⟨(ofName x.1 ps).foldl Gu x.2.safe,(ofName x.1 ps).foldl Gu x.2.safe,true⟩)
 else none
def Dk.J3(d:Dk)(a:List Int):Dk:=
 { d with files:=d.files.filterMap (crashed (DJ a 0 d.AO)),AO:= [],down:=false,D5:=false }
def Iq:Nat:=1099511627776
structure Ok (m:Nat) (d:Dk):Prop where
 nd:(d.files.map (·.1)).Nodup
 room:0≤d.room∧d.room≤Iq
 left: -(m:Int)≤d.left∧d.left≤9223372036854775807
 changes:0≤d.changes∧d.changes≤m
 AO:d.AO.length≤m
 nf:d.files.length≤16
 sz: ∀p∈d.files,p.2.now.length≤Iq∧p.2.safe.length≤Iq
 pc: ∀p∈d.AO,p.pos+(p.b.getD []).length≤Iq
 pn: ∀p∈d.AO,(d.get p.nm).isSome=true
