/- censusSound holds for every input. No condition. (part 27) -/
import Derived.Test.YtfhbmblbidcmmaaGreatWa15
import Derived.Handy
set_option linter.all false
set_option maxRecDepth 100000
namespace Go.Sl
theorem JH{P:Program}{t e bytes:Nat}{i:TypeInfo}{z:Value}(E:C8 P t e 1 bytes i z)(u v:TypeId)
 {g e' n c lo:Nat} {xs:List Value} {x:Value} {l:List UInt8} {F:Ab} {w:World} (hs:Sat (Sl.block g e' xs*F) w) (hx:NV w x l) (h1:l.length≤n) (y:lo+n≤xs.length):
 ∃f,(Builtin.copy_ #[t,u] v #[.slice (some ⟨g,lo,none⟩) n c,x]).run P w= .ok (.int .i64 l.length) f∧Sat (Sl.block g e' (xs.take lo++A4 l++xs.drop (lo+l.length))*F) f:=by
 have q:=hx.src (P:=P)
 have p:(Builtin.lenOf x).run P w= .ok l.length w:=by simpa[World.drewN] using q.len 0
 have o:(Builtin.firstCells 1 l.length x).run P w= .ok (A4 l).toArray w:=by simpa[World.drewN] using q.cells 0
 have m:(sizeOf e).run P w= .ok 1 w:=by simp[sizeOf,typeInfo,E.info,E.size]
 have b:Nat.min l.length n=l.length:=Nat.min_eq_left (by omega)
 have a:xs=xs.take lo++((xs.drop lo).take l.length++xs.drop (lo+l.length)):=by
  rw[←List.drop_drop,List.take_append_drop,List.take_append_drop]
 have k:Sat (Sl.cells g (lo+0) ((xs.drop lo).take l.length)*(Ev g e' xs.length*(Sl.cells g 0 (xs.take lo)*(Sl.cells g (lo+l.length) (xs.drop (lo+l.length))*F)))) w:=by
  refine hs.eq ?_
  unfold Sl.block
  conv=>lhs;arg 1;arg 2;rw[a]
  rw[Cl,Cl]
  have j:(xs.take lo).length=lo:=by simp;omega
  have d:((xs.drop lo).take l.length).length=l.length:=by simp;omega
  rw[j,d]
  simp only[Nat.zero_add,Nat.add_zero]
  ac_rfl
 obtain ⟨f,r1,s⟩:=DR (P:=P) (A4 l) ((xs.drop lo).take l.length) 0 _ w k (by rw[Cc];simp;omega) (RL l)
 refine ⟨f,?_,?_⟩
 · unfold Builtin.copy_
   simp[underlying,E.NU,m,p,b,o,r1,goInt]
 refine s.eq ?_
 unfold Sl.block
 have j:(xs.take lo++A4 l++xs.drop (lo+l.length)).length=xs.length:=by simp only[List.length_append,List.length_take,List.length_drop,Cc];omega
 rw[j,Cl,Cl]
 have d:(xs.take lo).length=lo:=by simp;omega
 have r:(xs.take lo++A4 l).length=lo+l.length:=by rw[List.length_append,d,Cc]
 rw[d,r]
 simp only[Nat.zero_add,Nat.add_zero]
 ac_rfl
end Go.Sl
namespace Go.Proofs.YtfhbmblbidcmmaaGreat
open Go.RowKit Go.Sl Go.Dk Go.Tr
theorem W0(g e' lo n c m a:Nat)(xs:List Value)(F:Ab)(w:World)(hs:Sat (Sl.block g e' xs*F) w)(h1:1≤a)(p:a≤4)(hm:m<256^a)(q:a≤n)(o:lo+n≤xs.length):
 Calls Tryz.prog 234 #[.slice (some ⟨g,lo,none⟩) n c,.int .i64 m,.int .i64 a] w fun e r=>e= .returned (.tuple #[])∧Sat (Sl.block g e' (xs.take lo++A4 (Bz m a)++xs.drop (lo+a))*F) r:=by
 obtain ⟨i0,E⟩:=Dp
 have j:=Nq m a _ w hs h1 (by omega) hm (by have:(256:Nat)^a≤256^4:=Nat.pow_le_pow_right (by omega) p;omega)
 have hl:(Bz m a).length=a:=AF _ _
 go_enter Tryz.func234,Tryz.ntmps234
 go_wp2_with fail
 refine j.mono ?_
 rintro e d ⟨f,c3,rfl,k⟩
 haveI:=k.i
 obtain ⟨s,r1,b⟩:=JH E 26 3 (c:=c) (w:=d) (Ae (w:=d) (Sl.block g e' xs)) (Reads.rw (e:=TB) (v:= .slice f a c3) (l:=Bz m a) _ d (Ae (w:=d) (rw TB 1 (.slice f a c3) (A4 (Bz m a))))) (by omega) o
 rw[hl] at r1 b
 go_wp2
 go_end0
 exact ⟨rfl,Sat.Dx (B:=rw TB 1 (.slice f a c3) (A4 (Bz m a))) (b.eq (by ac_rfl))⟩
theorem KM(g e' lo n c m a:Nat)(l:List UInt8)(F:Ab)(w:World)(hs:Sat (Sl.block g e' (A4 l)*F) w)(h1:1≤a)(i:a≤4)(hm:m<256^a)(b:a≤n)(f:lo+n≤l.length):
 Calls Tryz.prog 234 #[.slice (some ⟨g,lo,none⟩) n c,.int .i64 m,.int .i64 a] w fun e d=>e= .returned (.tuple #[])∧Sat (Sl.block g e' (A4 (l.take lo++Bz m a++l.drop (lo+a)))*F) d:=by
 refine (W0 g e' lo n c m a (A4 l) F w hs h1 i hm b (by rw[Cc];exact f)).mono ?_
 rintro e d ⟨rfl,h⟩
 rw[←Oz,←Oy,←BL,←BL] at h
 exact ⟨rfl,h⟩
theorem UQ{b e lo n c:Nat}{l:List UInt8}(h:lo+n≤l.length)(hm:l.length≤maxLen)(d:c=l.length-lo)(f:lo<l.length):Reads (Sl.block b e (A4 l)) (.slice (some ⟨b,lo,none⟩) n c) ((l.drop lo).take n):=by
 intro F w hs
 have:=(Reads.RJ (b:=b) (e:=e) hm F w hs).cut lo (lo+n) (by omega) h
 rw[show lo+n-lo=n by omega] at this
 have a:AH (some ⟨b,0,none⟩) l.length lo 1=some ⟨b,lo,none⟩:=by
  have:l.length≠lo:=by omega
  simp[AH,this,Addr.add]
  omega
 rw[a] at this
 rw[d]
 exact this
theorem Uy(no kind:Nat)(body:List UInt8)(v:Value)(B F:Ab)(w:World)(V:Reads B v body)(hs:Sat (B*F) w)(h1:no<1048576)(h2:1≤kind)(h3:kind≤9)(hl:body.length≤244):
 Calls Tryz.prog 194 #[.int .i64 no,.int .i64 kind,v] w fun e q=> ∃g,e= .returned (.tuple #[.slice (some ⟨g,0,none⟩) 256 256,.int .i64 0])∧Sat (Sl.block g 346 (A4 (AV no kind body))*(B*F)) q:=by
 obtain ⟨i0,E⟩:=Dp
 obtain ⟨va,vc,rfl,a4,a5⟩:=(V F w hs).len
 haveI:=hs.i
 have g1: ¬(no:Int)<0:=by omega
 have g2: ¬(1048576:Int)≤no:=by omega
 have g3: ¬(kind:Int)<1:=by omega
 have g4: ¬(9:Int)<kind:=by omega
 have g5: ¬(244:Int)<body.length:=by omega
 go_enter Tryz.func194,Tryz.ntmps194
 go_upto_region 7 with (fail)
 obtain ⟨P,I⟩:=Aq w.heap.size
 have W:Tryz.zeroCells346=(A4 (zs 256)).toArray:=by kernel_rfl
 have u:(Value.int .u8 (kind:Int))=bv (UInt8.ofNat kind):=by unfold bv;rw[show (UInt8.ofNat kind).toNat=kind by simp[UInt8.toNat_ofNat'];omega]
 have j:Sat (Sl.block P 346 (A4 (UInt8.ofNat kind::zs 255))*(B*F)) (w.alloc (.cells (Tryz.zeroCells346.setIfInBounds 0 (.int .u8 kind)) 346)):=by
  have:=hs.alloc (Tryz.zeroCells346.setIfInBounds 0 (.int .u8 kind)) 346
  rw[I] at this
  refine this.eq ?_
  rw[W,u]
  congr 1
 rw[I]
 generalize w.alloc (.cells (Tryz.zeroCells346.setIfInBounds 0 (.int .u8 kind)) 346)=w1 at j⊢
 clear hs this W u I
 haveI:=j.i
 have Q:=KM P 346 2 2 254 body.length 2 _ _ w1 j (by omega) (by omega) (by omega) (by omega) (by simp[zs])
 have T:(UInt8.ofNat kind::zs 255).take 2++Bz body.length 2++(UInt8.ofNat kind::zs 255).drop (2+2)=UInt8.ofNat kind::0::(Bz body.length 2++zs 252):=by simp[zs,List.replicate]
 rw[T] at Q
 clear T
 go_wp2_with fail
 refine Q.mono ?_
 rintro e w2 ⟨rfl,p⟩
 clear Q j
 haveI:=p.i
 have R:=KM P 346 4 4 252 no 4 _ _ w2 p (by omega) (by omega) (by omega) (by omega) (by simp[zs,AF])
 have U:(UInt8.ofNat kind::0::(Bz body.length 2++zs 252)).take 4++Bz no 4++(UInt8.ofNat kind::0::(Bz body.length 2++zs 252)).drop (4+4)=CA no kind body++zs 248:=by
  have L:=AF body.length 2
  obtain ⟨a,b,J⟩: ∃a b,Bz body.length 2= [a,b]:=by
   match h:Bz body.length 2,L with
   | [a,b],_=>exact ⟨a,b,rfl⟩
  unfold CA
  rw[J]
  simp[zs,List.replicate]
 rw[U] at R
 clear U
 go_wp2_with fail
 refine R.mono ?_
 rintro e H ⟨rfl,M⟩
 clear R p
 haveI:=M.i
 have d:(CA no kind body).length=8:=IE no kind body
 obtain ⟨w4,r1,k⟩:=JH E 26 3 (g:=P) (lo:=12) (n:=244) (c:=244) (x:= .slice va body.length vc) (l:=body) (w:=H) (Ae (w:=H) (Sl.block P 346 (A4 (CA no kind body++zs 248)))) (V _ H (Ae (w:=H) B)) hl (by rw[Cc,List.length_append,d,cV];omega)
 have D:(A4 (CA no kind body++zs 248)).take 12++A4 body++(A4 (CA no kind body++zs 248)).drop (12+body.length)=A4 (CA no kind body++(zs 4++Du body)):=by
  rw[←Oz,←Oy,←BL,←BL]
  congr 1
  have Z:(CA no kind body++zs 248).take 12=CA no kind body++zs 4:=by
   rw[List.take_append,d,List.take_of_length_le (by omega)]
   simp[zs]
  have a2:(CA no kind body++zs 248).drop (12+body.length)=zs (244-body.length):=by
   rw[List.drop_append,d,List.drop_of_length_le (by omega),List.nil_append]
   unfold zs
   rw[List.drop_replicate]
   congr 1
   omega
  rw[Z,a2]
  unfold Du
  simp
 rw[D] at k
 clear D
 obtain ⟨head,o⟩:=Aq (CA no kind body)
 obtain ⟨tail,m⟩:=Aq (Du body)
 have z:tail.length=244:=by rw[←m];exact KP hl
 rw[o] at k d
 rw[m] at k
 have y:(head++(zs 4++tail)).length=256:=by rw[List.length_append,List.length_append,d,z,cV]
 have s:Reads (Sl.block P 346 (A4 (head++(zs 4++tail)))) (.slice (some ⟨P,0,none⟩) 8 256) head:=by
  have:=UQ (b:=P) (e:=346) (lo:=0) (n:=8) (c:=256) (l:=head++(zs 4++tail)) (by omega) (by rw[y];unfold maxLen;omega) (by omega) (by omega)
  rwa [List.drop_zero,List.take_append_of_le_length (by omega),List.take_of_length_le (by omega)] at this
 have t:Reads (Sl.block P 346 (A4 (head++(zs 4++tail)))) (.slice (some ⟨P,12,none⟩) 244 244) tail:=by
  have:=UQ (b:=P) (e:=346) (lo:=12) (n:=244) (c:=244) (l:=head++(zs 4++tail)) (by omega) (by rw[y];unfold maxLen;omega) (by omega) (by omega)
  have e:(head++(zs 4++tail)).drop 12=tail:=by rw[List.drop_append,List.drop_of_length_le (by omega),d,List.drop_append,List.drop_of_length_le (by simp[zs])];simp[zs]
  rw[e,List.take_of_length_le (by omega)] at this
  exact this
 have K:Qy (head++tail)<4294967296:=O3 _
 obtain ⟨r,f⟩:=Aq (Qy (head++tail))
 rw[f] at K
 have X:Aside (∀g e G w,Sat (Sl.block g e [.slice (some ⟨P,0,none⟩) 8 256,.slice (some ⟨P,12,none⟩) 244 244]*(Sl.block P 346 (A4 (head++(zs 4++tail)))*G)) w→Calls Tryz.prog 183 #[.slice (some ⟨g,0,none⟩) 2 2] w fun e q=>e= .returned (.int .u32 r)∧w=q):=(fun g e G w h=>(Qz _ [head,tail] w (aS s t h)).mono fun e q h=>by
  have D: [head,tail].flatten=head++tail:=by simp
  rw[D,f] at h
  exact h: ∀g e G w,_)
 have Y:Aside (∀G w,Sat (Sl.block P 346 (A4 (head++(zs 4++tail)))*G) w→Calls Tryz.prog 234 #[.slice (some ⟨P,8,none⟩) 4 248,.int .i64 r,.int .i64 4] w fun e q=>e= .returned (.tuple #[])∧Sat (Sl.block P 346 (A4 (AV no kind body))*G) q):=(fun G w h=>(KM P 346 8 4 248 r 4 _ G w h (by omega) (by omega) (by omega) (by omega) (by omega)).mono fun e q h=>by
  have e4:(head++(zs 4++tail)).take 8++Bz r 4++(head++(zs 4++tail)).drop (8+4)=AV no kind body:=by
   rw[List.take_append_of_le_length (by omega),List.take_of_length_le (by omega),List.drop_append,List.drop_of_length_le (by omega),d,List.drop_append,List.drop_of_length_le (by simp[zs])]
   unfold AV
   rw[o,m,f]
   simp[zs]
  rw[e4] at h
  exact h: ∀G w,_)
 clear o m s t f
 haveI:=k.i
 have hw1:IntKind.i64.wrap (r:Int)=r:=IntWalk.i64_in _ (by omega)
 go_upto_region 10 with (fail)
 go_region_law first
  |(go_simp;go_at_call 183;refine Calls.mono (X.out _ 26 _ _ (Bh _ _)) ?_;rintro e w5 ⟨rfl,rfl⟩)
  |(go_simp;go_at_call 234;refine Calls.mono (Y.out _ _ (by exact Ae _)) ?_;rintro e w6 ⟨rfl,O⟩;haveI:=O.i)
 all_goals
  go_wp2
  go_ret2
  exact ⟨P,rfl,AD _ B F⟩
