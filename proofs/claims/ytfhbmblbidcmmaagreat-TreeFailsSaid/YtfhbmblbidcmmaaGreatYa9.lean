/- treeFails holds for every input. No condition. (part 9) -/
import Derived.Test.YtfhbmblbidcmmaaGreatYa4
import Derived.Test.YtfhbmblbidcmmaaGreatYa8
set_option linter.all false
namespace Go.Proofs.YtfhbmblbidcmmaaGreat
open Go.Dk
abbrev Qu:=List (Int×List UInt8)
def AP(k:Int):Qu→Option (List UInt8)
 | []=>none
 |p::l=>if k=p.1 then some p.2 else AP k l
def Cg(k:Int)(b:List UInt8):Qu→Qu
 | []=> [(k,b)]
 |p::l=>if k=p.1 then (k,b)::l else p::Cg k b l
def EV(k:Int):Qu→Qu
 | []=> []
 |p::l=>if k=p.1 then l else p::EV k l
structure Ck where
 nm:ByteArray
 cap:Int
 reads:Int
 d:Dk
 its:List It
 BU:Qu
namespace Ck
def Ca(s:Ck)(no:Int):Bool:=(BC s.its).contains no
def Ay(s:Ck)(no:Int):List UInt8:=(AP no s.BU).getD []
def Bn(s:Ck)(no:Int):Int×Ck:=
 if (s.d.write s.nm (no*256) (s.Ay no)).1=0 then (0, { s with d:=(s.d.write s.nm (no*256) (s.Ay no)).2,its:=AU s.its no false })
 else ((s.d.write s.nm (no*256) (s.Ay no)).1, { s with d:=(s.d.write s.nm (no*256) (s.Ay no)).2 })
def pad(s:Ck)(no:Int):Int×Dk:=s.d.write s.nm (max 0 (s.d.size s.nm)) (List.replicate (no*256-max 0 (s.d.size s.nm)).toNat 0)
def write(s:Ck)(no:Int):Int×Ck:=
 if s.Ca no=false then (0,s) else
 if max 0 (s.d.size s.nm)<no*256 then
  if (s.pad no).1=0 then Bn { s with d:=(s.pad no).2 } no else ((s.pad no).1, { s with d:=(s.pad no).2 })
 else s.Bn no
def release(s:Ck)(no:Int):Int×Ck:=
 if (s.write no).1=0 then (0, { (s.write no).2 with its:=if Df (s.write no).2.its no then E5 (s.write no).2.its no else (s.write no).2.its,BU:=EV no (s.write no).2.BU })
 else s.write no
def room(s:Ck):Int×Ck:=
 if (s.BU.length:Int)<s.cap then (0,s) else
 match L8 s.its with
 |none=>(9,s)
 |some n=>s.release n.key
def take(s:Ck)(no:Int)(b:List UInt8):Int×Ck:=
 if s.room.1=0 then (0, { s.room.2 with its:=s.room.2.its++ [⟨no,0,false⟩],BU:=Cg no b s.room.2.BU })
 else s.room
def get(s:Ck)(no:Int):Int×List UInt8×Ck:=
 if no<0∨1048576≤no then (1,[],s) else
 if Bf s.its no then (0,s.Ay no, { s with its:=EC s.its no }) else
 let r:=s.d.read s.nm (no*256) 256
 if r.1=0 then
  if (s.take no r.2).1=0 then (0,r.2, { (s.take no r.2).2 with reads:=(s.take no r.2).2.reads+1 }) else ((s.take no r.2).1,[],(s.take no r.2).2)
 else (if r.1=2 then 6 else r.1,[],s)
def put(s:Ck)(no:Int)(b:List UInt8):Int×Ck:=
 if no<0∨1048576≤no∨b.length≠256 then (1,s) else
 if Bf s.its no then (0, { s with its:=AU (EC s.its no) no true,BU:=Cg no b s.BU }) else
 if (s.take no b).1=0 then (0, { (s.take no b).2 with its:=AU (s.take no b).2.its no true }) else s.take no b
def writes:List Int→Ck→Int×Ck
 | [],s=>(0,s)
 |k::l,s=>if (s.write k).1=0 then writes l (s.write k).2 else s.write k
def flush(s:Ck):Int×Ck:=
 let r:=writes (BC s.its) s
 if r.1=0 then
  ((if (r.2.d.sync r.2.nm).1=6 then 0 else (r.2.d.sync r.2.nm).1), { r.2 with d:=(r.2.d.sync r.2.nm).2 })
 else r
end Ck
structure Bi (m:Nat) (s:Ck):Prop where
 Lj:DP s.its
 nd:(s.BU.map (·.1)).Nodup
 same: ∀k,Bf s.its k=(AP k s.BU).isSome
 len:s.BU.length=s.its.length
 Ay: ∀p∈s.BU,p.2.length=256∧0≤p.1∧p.1<1048576
 cap:1≤s.cap∧s.cap≤4096
 most:(s.its.length:Int)≤s.cap
 dk:Ok m s.d
 nm:Dk.named s.nm=true
 reads:0≤s.reads∧s.reads≤m
