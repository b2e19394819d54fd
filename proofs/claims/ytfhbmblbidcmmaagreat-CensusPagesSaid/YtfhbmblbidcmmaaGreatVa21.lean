/- censusPages holds for every input. No condition. (part 21) -/
import Derived.Test.YtfhbmblbidcmmaaGreatVa12
import Derived.Test.YtfhbmblbidcmmaaGreatVa19
import Derived.Test.YtfhbmblbidcmmaaGreatVa20
set_option linter.all false
namespace Go.Proofs.YtfhbmblbidcmmaaGreat
open Go.RowKit Go.Sl Go.Dk Go.Tr
structure TS where
 ck:Ck
 sp:Sp
 ops:Nat
def BG:Nat:=134217700
structure NP (s:TS):Prop where
 ck: ∃m,Bn m s.ck
 num:dU s.ops s.ck
 ops:s.ops≤BG+3
 res:0≤s.sp.Ba∧s.sp.Ba≤1048576
 taken:s.sp.taken.length≤s.ops
theorem NP.ok{s:TS}(h:NP s):Bn 137438953472 s.ck:=by
 obtain ⟨m,hm⟩:=h.ck
 exact h.num.ok hm (by have:=h.ops;unfold BG at this;omega)
def Un(no:Int):M TS (Int×List UInt8):=fun s=>
 if s.ops<BG then .ok ((s.ck.get no).1,(s.ck.get no).2.1) ⟨(s.ck.get no).2.2,s.sp,s.ops+2⟩ else .bad
def Zq(no:Int)(b:List UInt8):M TS Int:=fun s=> .ok (s.ck.put no b).1 ⟨(s.ck.put no b).2,s.sp,s.ops+1⟩
def IZ:M TS (Int×Int):=fun s=>if s.ops<BG then .ok s.sp.take.1 ⟨s.ck,s.sp.take.2,s.ops+1⟩ else .bad
def Fo(e:Int):M TS Unit:=if e=0 then M.pure () else M.fail e
def CR(no:Int)(b:List UInt8):Option Nd:=
 if (AP no b).2.2=0 then
  if (CQ (AP no b).1 (AP no b).2.1).2=0 then some (CQ (AP no b).1 (AP no b).2.1).1 else none
 else none
def Ah(no:Int):M TS Nd:=M.bind (Un no) fun r=>M.bind (Fo (if r.1=6∨r.1=1 then 13 else r.1)) fun _=>match CR no r.2 with
 |some n=>M.pure n
 |none=>M.fail 13
def Al(n:Nd):M TS Kd:=if (Dm n).2.2≠0 then M.fail 13 else
 M.bind IZ fun t=>M.bind (Fo (if t.2=9 then 7 else t.2)) fun _=>
 M.bind (Fo (Bz t.1 (Dm n).1 (Dm n).2.1).2) fun _=>
 M.bind (Zq t.1 (Bz t.1 (Dm n).1 (Dm n).2.1).1) fun e=>M.bind (Fo e) fun _=>
 M.pure ⟨t.1,(AR n).1,(AR n).2.1,(AR n).2.2⟩
abbrev Tn:TypeId:=172
abbrev dV:TypeId:=219
def PN(t C S D:Nat)(s:TS):Ab:=Sl.block t Tn [.pointer (some ⟨C,0,none⟩),.pointer (some ⟨S,0,none⟩)]*(AU C D s.ck*Cd S s.sp)
structure Th where
 t:Nat
 C:Nat
 S:Nat
 D:Nat
def Ad(h:Th)(s:TS):Ab:=dX (NP s)*PN h.t h.C h.S h.D s
theorem Sat.ZT{h:Th}{s:TS}{F:Ab}{w:World}(hs:Sat (Ad h s*F) w):NP s∧Sat (PN h.t h.C h.S h.D s*F) w:=by
 unfold Ad at hs
 rw[Ax] at hs
 exact hs.H3
theorem Sat.ZU{h:Th}{s:TS}{F:Ab}{w:World}(hi:NP s)(hs:Sat (PN h.t h.C h.S h.D s*F) w):Sat (Ad h s*F) w:=by
 unfold Ad
 rw[Ax]
 exact hs.LR hi
def CO(e:Int):List PanicEntry:= [{ v:= .iface dV (.agg #[.int .i64 e]),recovered:=false }]
def DT{α:Type}(h:Th)(G:Ab)(r:Fx TS α)(R:α→Value→Ab→Prop)(e:Ending)(b:World):Prop:=match r with
 | .ok a s=> ∃v B,e= .returned v∧R a v B∧Sat (Ad h s*(B*G)) b
 | .fault n s=>e= .panicked (CO n)∧Sat (Ad h s*G) b
 | .bad=>False
