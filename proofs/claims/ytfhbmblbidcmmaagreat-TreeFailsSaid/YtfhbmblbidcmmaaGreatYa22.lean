/- treeFails holds for every input. No condition. (part 22) -/
import Derived.Test.YtfhbmblbidcmmaaGreatYa13
import Derived.Test.YtfhbmblbidcmmaaGreatYa20
import Derived.Test.YtfhbmblbidcmmaaGreatYa21
set_option linter.all false
namespace Go.Proofs.YtfhbmblbidcmmaaGreat
open Go.RowKit Go.Sl Go.Dk Go.Tr
structure TS where
 ck:Ck
 sp:Sp
 ops:Nat
def Bu:Nat:=134217700
structure Gt (s:TS):Prop where
 ck: ∃m,Bi m s.ck
 num:XY s.ops s.ck
 ops:s.ops≤Bu+3
 res:0≤s.sp.A5∧s.sp.A5≤1048576
 taken:s.sp.taken.length≤s.ops
theorem Gt.ok{s:TS}(h:Gt s):Bi 137438953472 s.ck:=by
 obtain ⟨m,hm⟩:=h.ck
 exact h.num.ok hm (by have:=h.ops;unfold Bu at this;omega)
def Mo(no:Int):M TS (Int×List UInt8):=fun s=>
 if s.ops<Bu then .ok ((s.ck.get no).1,(s.ck.get no).2.1) ⟨(s.ck.get no).2.2,s.sp,s.ops+2⟩ else .bad
def QR(no:Int)(b:List UInt8):M TS Int:=fun s=> .ok (s.ck.put no b).1 ⟨(s.ck.put no b).2,s.sp,s.ops+1⟩
def F0:M TS (Int×Int):=fun s=>if s.ops<Bu then .ok s.sp.take.1 ⟨s.ck,s.sp.take.2,s.ops+1⟩ else .bad
def DQ(e:Int):M TS Unit:=if e=0 then M.pure () else M.fail e
def CV(no:Int)(b:List UInt8):Option Nd:=
 if (BM no b).2.2=0 then
  if (Fy (BM no b).1 (BM no b).2.1).2=0 then some (Fy (BM no b).1 (BM no b).2.1).1 else none
 else none
def Ah(no:Int):M TS Nd:=M.bind (Mo no) fun r=>M.bind (DQ (if r.1=6∨r.1=1 then 13 else r.1)) fun _=>match CV no r.2 with
 |some n=>M.pure n
 |none=>M.fail 13
def Ag(n:Nd):M TS Kd:=if (CU n).2.2≠0 then M.fail 13 else
 M.bind F0 fun t=>M.bind (DQ (if t.2=9 then 7 else t.2)) fun _=>
 M.bind (DQ (CQ t.1 (CU n).1 (CU n).2.1).2) fun _=>
 M.bind (QR t.1 (CQ t.1 (CU n).1 (CU n).2.1).1) fun e=>M.bind (DQ e) fun _=>
 M.pure ⟨t.1,(Bl n).1,(Bl n).2.1,(Bl n).2.2⟩
abbrev St:TypeId:=172
abbrev Yi:TypeId:=219
def NT(t C S D:Nat)(s:TS):Ac:=Sl.block t St [.pointer (some ⟨C,0,none⟩),.pointer (some ⟨S,0,none⟩)]*(AD C D s.ck*BA S s.sp)
structure Th where
 t:Nat
 C:Nat
 S:Nat
 D:Nat
def Ad(h:Th)(s:TS):Ac:=Yb (Gt s)*NT h.t h.C h.S h.D s
theorem Sat.LM{h:Th}{s:TS}{F:Ac}{w:World}(hs:Sat (Ad h s*F) w):Gt s∧Sat (NT h.t h.C h.S h.D s*F) w:=by
 unfold Ad at hs
 rw[Ar] at hs
 exact hs.Fp
theorem Sat.VL{h:Th}{s:TS}{F:Ac}{w:World}(hi:Gt s)(hs:Sat (NT h.t h.C h.S h.D s*F) w):Sat (Ad h s*F) w:=by
 unfold Ad
 rw[Ar]
 exact hs.KU hi
def D2(e:Int):List PanicEntry:= [{ v:= .iface Yi (.agg #[.int .i64 e]),recovered:=false }]
def D4{α:Type}(h:Th)(G:Ac)(r:DR TS α)(R:α→Value→Ac→Prop)(e:Ending)(b:World):Prop:=match r with
 | .ok a s=> ∃v B,e= .returned v∧R a v B∧Sat (Ad h s*(B*G)) b
 | .fault n s=>e= .panicked (D2 n)∧Sat (Ad h s*G) b
 | .bad=>False
