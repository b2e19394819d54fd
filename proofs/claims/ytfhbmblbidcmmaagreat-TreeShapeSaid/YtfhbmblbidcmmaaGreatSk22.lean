/- treeShape holds for every input. No condition. (part 22) -/
import Derived.Test.YtfhbmblbidcmmaaGreatSk16
import Derived.Test.YtfhbmblbidcmmaaGreatSk20
import Derived.Test.YtfhbmblbidcmmaaGreatSk21
set_option linter.all false
namespace Go.Proofs.YtfhbmblbidcmmaaGreat
open Go.RowKit Go.Sl Go.Dk Go.Tr
structure TS where
 ck:Ck
 sp:Sp
 ops:Nat
def B8:Nat:=134217700
structure Pa (s:TS):Prop where
 ck: ∃m,Bf m s.ck
 num:f' s.ops s.ck
 ops:s.ops≤B8+3
 res:0≤s.sp.AO∧s.sp.AO≤1048576
 taken:s.sp.taken.length≤s.ops
theorem Pa.ok{s:TS}(h:Pa s):Bf 137438953472 s.ck:=by
 obtain ⟨m,hm⟩:=h.ck
 exact h.num.ok hm (by have:=h.ops;unfold B8 at this;omega)
def Rk(no:Int):M TS (Int×List UInt8):=fun s=>
 if s.ops<B8 then .ok ((s.ck.get no).1,(s.ck.get no).2.1) ⟨(s.ck.get no).2.2,s.sp,s.ops+2⟩ else .bad
def XE(no:Int)(b:List UInt8):M TS Int:=fun s=> .ok (s.ck.put no b).1 ⟨(s.ck.put no b).2,s.sp,s.ops+1⟩
def IA:M TS (Int×Int):=fun s=>if s.ops<B8 then .ok s.sp.take.1 ⟨s.ck,s.sp.take.2,s.ops+1⟩ else .bad
def EU(e:Int):M TS Unit:=if e=0 then M.pure () else M.fail e
def CR(no:Int)(b:List UInt8):Option Nd:=
 if (AK no b).2.2=0 then
  if (CL (AK no b).1 (AK no b).2.1).2=0 then some (CL (AK no b).1 (AK no b).2.1).1 else none
 else none
def Ai(no:Int):M TS Nd:=M.bind (Rk no) fun r=>M.bind (EU (if r.1=6∨r.1=1 then 13 else r.1)) fun _=>match CR no r.2 with
 |some n=>M.pure n
 |none=>M.fail 13
def Ak(n:Nd):M TS Kd:=if (Dc n).2.2≠0 then M.fail 13 else
 M.bind IA fun t=>M.bind (EU (if t.2=9 then 7 else t.2)) fun _=>
 M.bind (EU (Bt t.1 (Dc n).1 (Dc n).2.1).2) fun _=>
 M.bind (XE t.1 (Bt t.1 (Dc n).1 (Dc n).2.1).1) fun e=>M.bind (EU e) fun _=>
 M.pure ⟨t.1,(AS n).1,(AS n).2.1,(AS n).2.2⟩
abbrev Sd:TypeId:=172
abbrev Y8:TypeId:=219
def OS(t C S D:Nat)(s:TS):Ac:=Sl.block t Sd [.pointer (some ⟨C,0,none⟩),.pointer (some ⟨S,0,none⟩)]*(AN C D s.ck*BQ S s.sp)
structure Th where
 t:Nat
 C:Nat
 S:Nat
 D:Nat
def Ae(h:Th)(s:TS):Ac:=i6 (Pa s)*OS h.t h.C h.S h.D s
theorem Sat.Yp{h:Th}{s:TS}{F:Ac}{w:World}(hs:Sat (Ae h s*F) w):Pa s∧Sat (OS h.t h.C h.S h.D s*F) w:=by
 unfold Ae at hs
 rw[Az] at hs
 exact hs.Ho
theorem Sat.Yq{h:Th}{s:TS}{F:Ac}{w:World}(hi:Pa s)(hs:Sat (OS h.t h.C h.S h.D s*F) w):Sat (Ae h s*F) w:=by
 unfold Ae
 rw[Az]
 exact hs.Lv hi
def C1(e:Int):List PanicEntry:= [{ v:= .iface Y8 (.agg #[.int .i64 e]),recovered:=false }]
def DE{α:Type}(h:Th)(G:Ac)(r:EX TS α)(R:α→Value→Ac→Prop)(e:Ending)(b:World):Prop:=match r with
 | .ok a s=> ∃v B,e= .returned v∧R a v B∧Sat (Ae h s*(B*G)) b
 | .fault n s=>e= .panicked (C1 n)∧Sat (Ae h s*G) b
 | .bad=>False
