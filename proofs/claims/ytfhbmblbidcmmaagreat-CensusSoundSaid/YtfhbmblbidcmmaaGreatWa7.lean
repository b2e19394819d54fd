/- censusSound holds for every input. No condition. (part 7) -/
import Derived.Test.YtfhbmblbidcmmaaGreatWa3
import Derived.Test.YtfhbmblbidcmmaaGreatWa6
set_option linter.all false
namespace Go.Proofs.YtfhbmblbidcmmaaGreat
open Go.Dk
abbrev SY:=List (Int×List UInt8)
def BI(k:Int):SY→Option (List UInt8)
 | []=>none
 |p::l=>if k=p.1 then some p.2 else BI k l
def Ee(k:Int)(b:List UInt8):SY→SY
 | []=> [(k,b)]
 |p::l=>if k=p.1 then (k,b)::l else p::Ee k b l
def Gl(k:Int):SY→SY
 | []=> []
 |p::l=>if k=p.1 then l else p::Gl k l
structure Ck where
 nm:ByteArray
 cap:Int
 reads:Int
 d:Dk
 its:List It
 CV:SY
namespace Ck
def CD(s:Ck)(no:Int):Bool:=(BJ s.its).contains no
def Au(s:Ck)(no:Int):List UInt8:=(BI no s.CV).getD []
def B4(s:Ck)(no:Int):Int×Ck:=
 if (s.d.write s.nm (no*256) (s.Au no)).1=0 then (0, { s with d:=(s.d.write s.nm (no*256) (s.Au no)).2,its:=Bu s.its no false })
 else ((s.d.write s.nm (no*256) (s.Au no)).1, { s with d:=(s.d.write s.nm (no*256) (s.Au no)).2 })
def pad(s:Ck)(no:Int):Int×Dk:=s.d.write s.nm (max 0 (s.d.size s.nm)) (List.replicate (no*256-max 0 (s.d.size s.nm)).toNat 0)
def write(s:Ck)(no:Int):Int×Ck:=
 if s.CD no=false then (0,s) else
 if max 0 (s.d.size s.nm)<no*256 then
  if (s.pad no).1=0 then B4 { s with d:=(s.pad no).2 } no else ((s.pad no).1, { s with d:=(s.pad no).2 })
 else s.B4 no
def release(s:Ck)(no:Int):Int×Ck:=
 if (s.write no).1=0 then (0, { (s.write no).2 with its:=if DB (s.write no).2.its no then Gk (s.write no).2.its no else (s.write no).2.its,CV:=Gl no (s.write no).2.CV })
 else s.write no
def room(s:Ck):Int×Ck:=
 if (s.CV.length:Int)<s.cap then (0,s) else
 match NQ s.its with
 |none=>(9,s)
 |some n=>s.release n.key
def take(s:Ck)(no:Int)(b:List UInt8):Int×Ck:=
 if s.room.1=0 then (0, { s.room.2 with its:=s.room.2.its++ [⟨no,0,false⟩],CV:=Ee no b s.room.2.CV })
 else s.room
def get(s:Ck)(no:Int):Int×List UInt8×Ck:=
 if no<0∨1048576≤no then (1,[],s) else
 if Bx s.its no then (0,s.Au no, { s with its:=Fe s.its no }) else
 let r:=s.d.read s.nm (no*256) 256
 if r.1=0 then
  if (s.take no r.2).1=0 then (0,r.2, { (s.take no r.2).2 with reads:=(s.take no r.2).2.reads+1 }) else ((s.take no r.2).1,[],(s.take no r.2).2)
 else (if r.1=2 then 6 else r.1,[],s)
def put(s:Ck)(no:Int)(b:List UInt8):Int×Ck:=
 if no<0∨1048576≤no∨b.length≠256 then (1,s) else
 if Bx s.its no then (0, { s with its:=Bu (Fe s.its no) no true,CV:=Ee no b s.CV }) else
 if (s.take no b).1=0 then (0, { (s.take no b).2 with its:=Bu (s.take no b).2.its no true }) else s.take no b
def writes:List Int→Ck→Int×Ck
 | [],s=>(0,s)
 |k::l,s=>if (s.write k).1=0 then writes l (s.write k).2 else s.write k
def flush(s:Ck):Int×Ck:=
 let r:=writes (BJ s.its) s
 if r.1=0 then
  ((if (r.2.d.sync r.2.nm).1=6 then 0 else (r.2.d.sync r.2.nm).1), { r.2 with d:=(r.2.d.sync r.2.nm).2 })
 else r
end Ck
structure Bm (m:Nat) (s:Ck):Prop where
 Mi:Ey s.its
 nd:(s.CV.map (·.1)).Nodup
 same: ∀k,Bx s.its k=(BI k s.CV).isSome
 len:s.CV.length=s.its.length
 Au: ∀p∈s.CV,p.2.length=256∧0≤p.1∧p.1<1048576
 cap:1≤s.cap∧s.cap≤4096
 most:(s.its.length:Int)≤s.cap
 dk:Ok m s.d
 nm:Dk.named s.nm=true
 reads:0≤s.reads∧s.reads≤m
