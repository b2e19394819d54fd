/- censusSound holds for every input. No condition. (part 18) -/
import Derived.Test.YtfhbmblbidcmmaaGreatWa9
import Derived.Test.YtfhbmblbidcmmaaGreatWa16
import Derived.Test.YtfhbmblbidcmmaaGreatWa17
set_option linter.all false
namespace Go.Proofs.YtfhbmblbidcmmaaGreat
open Go.RowKit Go.Sl Go.Dk Go.Tr
structure TS where
 ck:Ck
 sp:Sp
 ops:Nat
def BG:Nat:=134217700
structure NP (s:TS):Prop where
 ck: ∃m,Bm m s.ck
 num:cW s.ops s.ck
 ops:s.ops≤BG+3
 res:0≤s.sp.AX∧s.sp.AX≤1048576
 taken:s.sp.taken.length≤s.ops
theorem NP.ok{s:TS}(h:NP s):Bm 137438953472 s.ck:=by
 obtain ⟨m,hm⟩:=h.ck
 exact h.num.ok hm (by have:=h.ops;unfold BG at this;omega)
def Ue(no:Int):M TS (Int×List UInt8):=fun s=>
 if s.ops<BG then .ok ((s.ck.get no).1,(s.ck.get no).2.1) ⟨(s.ck.get no).2.2,s.sp,s.ops+2⟩ else .bad
def Zb(no:Int)(b:List UInt8):M TS Int:=fun s=> .ok (s.ck.put no b).1 ⟨(s.ck.put no b).2,s.sp,s.ops+1⟩
def Jg:M TS (Int×Int):=fun s=>if s.ops<BG then .ok s.sp.take.1 ⟨s.ck,s.sp.take.2,s.ops+1⟩ else .bad
def Fi(e:Int):M TS Unit:=if e=0 then M.pure () else M.fail e
def CU(no:Int)(b:List UInt8):Option Nd:=
 if (AO no b).2.2=0 then
  if (DN (AO no b).1 (AO no b).2.1).2=0 then some (DN (AO no b).1 (AO no b).2.1).1 else none
 else none
def Ak(no:Int):M TS Nd:=M.bind (Ue no) fun r=>M.bind (Fi (if r.1=6∨r.1=1 then 13 else r.1)) fun _=>match CU no r.2 with
 |some n=>M.pure n
 |none=>M.fail 13
def An(n:Nd):M TS Kd:=if (Di n).2.2≠0 then M.fail 13 else
 M.bind Jg fun t=>M.bind (Fi (if t.2=9 then 7 else t.2)) fun _=>
 M.bind (Fi (Bw t.1 (Di n).1 (Di n).2.1).2) fun _=>
 M.bind (Zb t.1 (Bw t.1 (Di n).1 (Di n).2.1).1) fun e=>M.bind (Fi e) fun _=>
 M.pure ⟨t.1,(AZ n).1,(AZ n).2.1,(AZ n).2.2⟩
abbrev Tg:TypeId:=172
abbrev cX:TypeId:=219
def PI(t C S D:Nat)(s:TS):Ab:=Sl.block t Tg [.pointer (some ⟨C,0,none⟩),.pointer (some ⟨S,0,none⟩)]*(Be C D s.ck*Cf S s.sp)
structure Th where
 t:Nat
 C:Nat
 S:Nat
 D:Nat
def Ad(h:Th)(s:TS):Ab:=cZ (NP s)*PI h.t h.C h.S h.D s
theorem Sat.ZD{h:Th}{s:TS}{F:Ab}{w:World}(hs:Sat (Ad h s*F) w):NP s∧Sat (PI h.t h.C h.S h.D s*F) w:=by
 unfold Ad at hs
 rw[Az] at hs
 exact hs.Ib
theorem Sat.ZE{h:Th}{s:TS}{F:Ab}{w:World}(hi:NP s)(hs:Sat (PI h.t h.C h.S h.D s*F) w):Sat (Ad h s*F) w:=by
 unfold Ad
 rw[Az]
 exact hs.LU hi
def CM(e:Int):List PanicEntry:= [{ v:= .iface cX (.agg #[.int .i64 e]),recovered:=false }]
def Et{α:Type}(h:Th)(G:Ab)(r:Fu TS α)(R:α→Value→Ab→Prop)(e:Ending)(b:World):Prop:=match r with
 | .ok a s=> ∃v B,e= .returned v∧R a v B∧Sat (Ad h s*(B*G)) b
 | .fault n s=>e= .panicked (CM n)∧Sat (Ad h s*G) b
 | .bad=>False
