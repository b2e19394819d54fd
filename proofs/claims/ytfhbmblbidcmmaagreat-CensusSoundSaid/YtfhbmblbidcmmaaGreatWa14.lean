/- censusSound holds for every input. No condition. (part 14) -/
import Derived.Test.YtfhbmblbidcmmaaGreatWa13
import Derived.Test.YtfhbmblbidcmmaaGreatWa10
import Derived.Deep.DeepCutAuto
set_option linter.all false
set_option maxHeartbeats 1600000
namespace Go.Proofs.YtfhbmblbidcmmaaGreat
open Go.RowKit Go.Sl Go.Dk Go.Tr
attribute [go_sem] Go.Sl.Ac Go.Sl.I0
theorem iX(n w i:Nat)(h:i<w):(Bz n w)[i]?=some (UInt8.ofNat (n/256^i)):=by
 induction w generalizing n i with
 |zero=>omega
 | succ w a =>
  cases i with
  |zero=>simp[Bz]
  | succ i =>
   show (Bz (n/256) w)[i]?=_
   rw[a _ _ (by omega),Nat.div_div_eq_div_mul,Nat.pow_succ,Nat.mul_comm]
theorem Ug(n:Nat):madeCells (Value.int .u8 0).cells n=(A4 (List.replicate n 0)).toArray:=by
 apply Array.ext
 ·simp[madeCells,A4]
 intro i h1 a
 have e:(Value.int .u8 0).cells= #[Value.int .u8 0]:=rfl
 simp[madeCells,A4,bv,e,Nat.mod_one]
theorem Zh(n:Nat)(a:n≤1099511627776)(w:World):(Instr.makeSlice 26 (.int .i64 n) (.int .i64 n)).run Tryz.prog w= .ok (.slice (some ⟨w.heap.size,0,none⟩) n n) (w.alloc (.cells (A4 (List.replicate n 0)).toArray TB)):=by
 obtain ⟨i,E⟩:=Dp
 have h:=run_make (P:=Tryz.prog) w 26 TB i (.int .u8 0) E.NU E.info E.zero .i64 .i64 n n (by omega) (by omega) (by rw[E.bytes];omega) (by omega)
 rw[E.size,Nat.mul_one,Int.toNat_natCast,Ug] at h
 exact h
theorem p6(n w i:Nat)(h:i<w):((Bz n w).take i++zs (w-i)).set i (UInt8.ofNat (n/256^i))=(Bz n w).take (i+1)++zs (w-(i+1)):=by
 have h1:w-i=(w-(i+1))+1:=by omega
 have a:((Bz n w).take i).length=i:=by simp[AF];omega
 rw[h1,AB (iX n w i h),List.set_append_right _ _ (by omega),a,Nat.sub_self]
 show ((Bz n w).take i++((0:UInt8)::List.replicate (w-(i+1)) 0).set 0 (UInt8.ofNat (n/256^i)))=_
 rw[List.set_cons_zero,List.append_assoc]
 rfl
theorem o8(n i:Nat):((UInt8.ofNat (n/256^i)).toNat:Int)=(n:Int)/2^(8*i)%256:=by
 have e:(256:Nat)^i=2^(8*i):=by rw[Nat.pow_mul]
 rw[UInt8.toNat_ofNat',e,Int.natCast_emod,Int.natCast_ediv,Int.natCast_pow]
 rfl
theorem Nq(n w:Nat)(F:Ab)(p:World)(hs:Sat F p)(h1:1≤w)(G:w≤8)(u:n<256^w)(z:n≤9223372036854775807):
 Calls Tryz.prog 255 #[.int .i64 n,.int .i64 w] p fun e B=> ∃a c,e= .returned (.tuple #[.slice a w c,.int .i64 0])∧Sat (rw TB 1 (.slice a w c) (A4 (Bz n w))*F) B:=by
 have x:=Zh w (by omega)
 have hw1: ¬(w:Int)<1:=by omega
 have hw8: ¬(8:Int)<w:=by omega
 have r:(n:Int)/2^(8*w)=0:=by
  rw[Int.ediv_eq_zero_of_lt (by omega)]
  have e:(256:Nat)^w=2^(8*w):=by rw[Nat.pow_mul]
  rw[e] at u
  exact_mod_cast u
 have o:=bS (n:=w) (List.replicate w 0) (by simp) (by omega) hs
 have j:Sat (rw TB 1 (.slice (some ⟨p.heap.size,0,none⟩) w w) (A4 ((Bz n w).take 0++zs (w-0)))*F) _:=o
 obtain ⟨g,v⟩:=Aq p.heap.size
 rw[v] at j
 clear o
 go_enter Tryz.func255,Tryz.ntmps255
 go_upto_region 3 with (fail)
 go_cut [27] (fun s D=>s= .bool false∧p=D)
 case first=>
  by_cases l:(w:Int)<8
  · go_wp2_with fail
    go_meet
    exact ⟨rfl,rfl⟩
  go_wp2_with fail
  go_meet
  exact ⟨rfl,rfl⟩
 obtain ⟨rfl,rfl⟩:=hcut
 clear r
 go_wp2_with fail
 go_loopg [32] w (fun gk t wr=> ∃i:Nat,t= .int .i64 i∧i≤w∧Aside (gk=w-i)∧Sat (rw TB 1 (.slice (some ⟨g,0,none⟩) w w) (A4 ((Bz n w).take i++zs (w-i)))*F) wr)
 case atStart=>exact ⟨0,rfl,by omega,rfl,j⟩
 clear j
 obtain ⟨i,rfl,hi,A,f⟩:=hrel
 by_cases l:i<w
 · have m:(i:Int)<w:=by omega
   have k:Aside ((A4 ((Bz n w).take i++zs (w-i))).set i (.int .u8 ((n:Int)/2^(8*i)%256))=A4 ((Bz n w).take (i+1)++zs (w-(i+1)))):=(by rw[←o8,dR,p6 n w i l]:_=_)
   obtain ⟨d,b⟩:=Aq ((Bz n w).take i++zs (w-i))
   have q:d.length=w:=by rw[←b];simp[AF,zs];omega
   rw[b] at f k
   obtain ⟨y,hy⟩: ∃y,d[i]?=some y:=⟨d[i]'(by omega),by simp⟩
   haveI:At (A4 d) i (.int .u8 y.toNat):=⟨by unfold A4;rw[List.getElem?_map,hy];rfl⟩
   haveI:=f.i
   clear b q hy
   go_wp2
   go_roundg (w-(i+1))
   case measure=>have:=A.out;omega
   refine ⟨i+1,by go_num,by omega,rfl,?_⟩
   rw[←k.out]
   exact ES
 have m: ¬(i:Int)<w:=by omega
 obtain rfl:i=w:=by omega
 have e:(Bz n i).take i++zs (i-i)=Bz n i:=by rw[List.take_of_length_le (by rw[AF];omega),Nat.sub_self];simp[zs]
 rw[e] at f
 clear e A
 go_wp2
 go_ret2
 exact ⟨some ⟨g,0,none⟩,i,rfl,f⟩
theorem eO{b:List UInt8}{j:Nat}{x:UInt8}(h:b[j]?=some x):BX (b.drop j)=x.toNat+256*BX (b.drop (j+1)):=by
 obtain ⟨a,rfl⟩:=List.getElem?_eq_some_iff.1 h
 rw[List.drop_eq_getElem_cons a]
 rfl
theorem nS(a:Nat)(x:UInt8)(h:a<36028797018963968):bits .or .i64 ((a:Int)*256) (x.toNat:Int)=((x.toNat+256*a:Nat):Int):=by
 have hx:=x.toNat_lt
 show IntKind.i64.wrap (((BitVec.ofInt 64 ((a:Int)*256)|||BitVec.ofInt 64 (x.toNat:Int)).toNat:Nat):Int)=_
 have c:(BitVec.ofInt 64 ((a:Int)*256)).toNat=a*256:=by rw[BitVec.toNat_ofInt];omega
 have d:(BitVec.ofInt 64 (x.toNat:Int)).toNat=x.toNat:=by rw[BitVec.toNat_ofInt];omega
 rw[BitVec.toNat_or,c,d]
 have e:a*256|||x.toNat=x.toNat+256*a:=by
  have:=Nat.two_pow_add_eq_or_of_lt (i:=8) (b:=x.toNat) (by omega) a
  rw[show (2:Nat)^8=256 from rfl] at this
  rw[Nat.mul_comm a 256,←this];omega
 rw[e]
 exact IntWalk.i64_in _ (by omega)
theorem QK(v:Value)(b:List UInt8)(c:World)(hb:NV c v b)(h1:1≤b.length)(G:b.length≤7):
 Calls Tryz.prog 182 #[v] c fun e w=>e= .returned (.tuple #[.int .i64 (BX b:Nat),.int .i64 0])∧c=w:=by
 obtain ⟨J,K,rfl,_,_⟩:=hb.len
 have z: ¬(b.length:Int)<1:=by omega
 have B: ¬(8:Int)<b.length:=by omega
 have D:((b.length:Int)==8)=false:=by rw[beq_eq_false_iff_ne];omega
 have k:=As hb
 clear hb
 go_enter Tryz.func182,Tryz.ntmps182
 go_wp2
 go_loopg [4,5] b.length (fun gk t u wr=> ∃(j n:Nat),t= .int .i64 n∧u= .int .i64 ((j:Int)-1)∧j≤b.length∧n<256^(b.length-j)∧Aside (gk=j∧n=BX (b.drop j))∧c=wr)
 case atStart=>exact ⟨b.length,0,rfl,rfl,by omega,by simp,⟨rfl,by simp[BX]⟩,rfl⟩
 obtain ⟨j,n,rfl,rfl,I,p,A,rfl⟩:=hrel
 by_cases h0:j=0
 · subst h0
   have l:Aside (n=BX b):=(by have:=A.out.2;simpa using this:_=_)
   go_wp2
   go_ret2
   exact ⟨by rw[l.out];rfl,rfl⟩
 obtain ⟨i,rfl⟩: ∃i,j=i+1:=⟨j-1,by omega⟩
 have d:i<b.length:=by omega
 obtain ⟨x,hx⟩: ∃x,b[i]?=some x:=⟨b[i],by simp[d]⟩
 obtain ⟨y,o,rfl,H⟩:=k.out.at hx
 have s:=x.toNat_lt
 have q:n<281474976710656:=by
  have m:b.length-(i+1)≤6:=by omega
  have:=Nat.pow_le_pow_right (n:=256) (by omega) m
  omega
 have r:=nS n x (by omega)
 have f:Aside (BX (b.drop i)=x.toNat+256*n∧x.toNat+256*n<256^(b.length-i)):=⟨by rw[eO hx,←A.out.2],by
  have e:b.length-i=(b.length-(i+1))+1:=by omega
  rw[e,Nat.pow_succ];omega⟩
 have a:((i+1:Nat):Int)-1=(i:Int):=by omega
 have g:(i:Int)<b.length:=by omega
 rw[a]
 clear a hx h0 p
 go_wp2
 go_roundg i
 case measure=>have:=A.out.1;omega
 case rel=>exact ⟨i,x.toNat+256*n,by go_num,rfl,by omega,f.out.2,⟨rfl,f.out.1.symm⟩,rfl⟩
abbrev mW:TypeId:=344
def EN(R:Nat)(v:Value)(n:Nat):Ab:=Ev R mW 2*(Sl.cell R 0 v*Sl.cell R 1 (.int .i64 n))
instance(R:Nat)(v:Value)(n:Nat):El (EN R v n) R 0 v:=by unfold EN;infer_instance
instance(R:Nat)(v:Value)(n:Nat):El (EN R v n) R 1 (.int .i64 n):=by unfold EN;infer_instance
def Ex(R:Nat)(a:Option Addr)(c:Nat)(l:List UInt8)(n:Nat):Ab:=EN R (.slice a l.length c) n*rw TB 1 (.slice a l.length c) (A4 l)
theorem MJ(R:Nat)(a:Option Addr)(c:Nat)(l:List UInt8)(p n:Nat)(F:Ab)(w:World)(hs:Sat (Ex R a c l p*F) w)(hp:p≤l.length)(hl:l.length≤1099511627776)(h:p+n≤l.length):
 Calls Tryz.prog 232 #[.pointer (some ⟨R,0,none⟩),.int .i64 n] w fun e b=>e= .returned (.tuple #[.slice (AH a c p 1) n (c-p),.int .i64 0])∧Sat (Ex R a c l p*F) b:=by
 obtain ⟨i0,E⟩:=Dp
 have d:Sat (EN R (.slice a l.length c) p*(rw TB 1 (.slice a l.length c) (A4 l)*F)) w:=hs.eq (by unfold Ex;ac_rfl)
 obtain ⟨_,k,g⟩:=jK (d.take (rw TB 1 (.slice a l.length c) (A4 l)))
 have hcut:=DL (P:=Tryz.prog) E (a:=a) (n:=l.length) (c:=c) p (p+n) (by omega) (by omega)
 have f:p+n-p=n:=by omega
 rw[Int.natCast_add,f] at hcut
 have m: ¬(l.length:Int)-p<n:=by omega
 have j:decide ((l.length:Int)-p<n)=false:=by simp;omega
 haveI:=d.i
 clear hs f
 go_enter Tryz.func232,Tryz.ntmps232
 go_upto_region 3 with (fail)
 have hw1:=Bb ((l.length:Int)-p) (by omega)
 have hw2:=Bb ((p:Int)+n) (by omega)
 go_region_held3 (fun b=>b.cell? ⟨R,0,none⟩=some (.slice a l.length c)∧b.cell? ⟨R,1,none⟩=some (.int .i64 p)) (first|exact ⟨Ac _ _ _,Ac _ _ _⟩) (first|(fail))
 all_goals
  go_upto_region 5 with (fail)
  go_region_held3 (fun b=>b.cell? ⟨R,0,none⟩=some (.slice a l.length c)∧b.cell? ⟨R,1,none⟩=some (.int .i64 p)) (first|exact ⟨Ac _ _ _,Ac _ _ _⟩) (first|(fail))
  all_goals
   clear hw1 hw2
   go_wp2
   go_ret2
   exact ⟨rfl,Ap (by unfold Ex;ac_rfl)⟩
theorem Z2(R:Nat)(a:Option Addr)(c:Nat)(l:List UInt8)(p n:Nat)(F:Ab)(w:World)(hs:Sat (Ex R a c l p*F) w)(hp:p≤l.length)(hl:l.length≤1099511627776)(h:l.length<p+n)(g:n≤1099511627776):
 Calls Tryz.prog 232 #[.pointer (some ⟨R,0,none⟩),.int .i64 n] w fun e b=>e= .returned (.tuple #[.slice none 0 0,.int .i64 3])∧Sat (Ex R a c l p*F) b:=by
 have d:Sat (EN R (.slice a l.length c) p*(rw TB 1 (.slice a l.length c) (A4 l)*F)) w:=hs.eq (by unfold Ex;ac_rfl)
 have f:(l.length:Int)-p<n:=by omega
 haveI:=d.i
 clear hs
 go_enter Tryz.func232,Tryz.ntmps232
 go_upto_region 3 with (fail)
 have hw1:=Bb ((l.length:Int)-p) (by omega)
 go_region_held3 (fun b=>b.cell? ⟨R,0,none⟩=some (.slice a l.length c)∧b.cell? ⟨R,1,none⟩=some (.int .i64 p)) (first|exact ⟨Ac _ _ _,Ac _ _ _⟩) (first|(fail))
 all_goals
  clear hw1
  go_wp2
  go_ret2
  exact ⟨rfl,Ap (by unfold Ex;ac_rfl)⟩
instance(R:Nat)(v:Value)(n m:Nat):VD (EN R v n) R 1 (.int .i64 m) (EN R v m):=by unfold EN;infer_instance
instance(R:Nat)(v:Value)(n a b:Nat):VD (EN R v n) R 1 (.int .i64 ((a:Int)+(b:Int))) (EN R v (a+b)):=by rw[←Int.natCast_add];infer_instance
theorem KW{a:Option Addr}{c:Nat}{l:List UInt8}(p n:Nat)(h:p+n≤l.length):Reads (rw TB 1 (.slice a l.length c) (A4 l)) (.slice (AH a c p 1) n (c-p)) ((l.drop p).take n):=by
 intro F w hs
 have:=(Reads.rw F w hs).cut p (p+n) (by omega) (by omega)
 rw[show p+n-p=n by omega] at this
 exact this
theorem Ef(R:Nat)(a:Option Addr)(c:Nat)(l:List UInt8)(p n:Nat)(F:Ab)(w:World)(hs:Sat (Ex R a c l p*F) w)(hl:l.length≤1099511627776)(h:p+n≤l.length)(h1:1≤n)(u:n≤7):
 Calls Tryz.prog 185 #[.pointer (some ⟨R,0,none⟩),.int .i64 n] w fun e b=>e= .returned (.tuple #[.int .i64 (BX ((l.drop p).take n):Nat),.int .i64 0])∧Sat (Ex R a c l (p+n)*F) b:=by
 have f:=MJ R a c l p n F w hs (by omega) hl h
 have s: ¬(n:Int)<1:=by omega
 have t: ¬(8:Int)<n:=by omega
 have g:((l.drop p).take n).length=n:=by simp;omega
 have m:Aside (∀b,Sat (Ex R a c l p*F) b→Calls Tryz.prog 182 #[.slice (AH a c p 1) n (c-p)] b fun e k=>e= .returned (.tuple #[.int .i64 (BX ((l.drop p).take n):Nat),.int .i64 0])∧b=k):=fun b q=>QK _ _ b (KW p n h (EN R (.slice a l.length c) p*F) b (q.eq (by unfold Ex;ac_rfl))) (by omega) (by omega)
 obtain ⟨z,o⟩:=Aq (BX ((l.drop p).take n))
 rw[o] at m⊢
 clear o g hs
 go_enter Tryz.func185,Tryz.ntmps185
 go_wp2_with fail
 refine f.mono ?_
 rintro e r ⟨rfl,d⟩
 clear f
 go_wp2_with fail
 refine (m.out _ d).mono ?_
 rintro e v ⟨rfl,rfl⟩
 have j:Sat (EN R (.slice a l.length c) p*(rw TB 1 (.slice a l.length c) (A4 l)*F)) r:=d.eq (by unfold Ex;ac_rfl)
 haveI:=j.i
 clear d
 go_wp2
 go_ret2
 exact ⟨rfl,Ap (by unfold Ex;ac_rfl)⟩
theorem bM(R:Nat)(a:Option Addr)(c:Nat)(l:List UInt8)(p n:Nat)(F:Ab)(w:World)(hs:Sat (Ex R a c l p*F) w)(hp:p≤l.length)(hl:l.length≤1099511627776)(h:l.length<p+n)(h1:1≤n)(j:n≤7):
 Calls Tryz.prog 185 #[.pointer (some ⟨R,0,none⟩),.int .i64 n] w fun e f=>e= .returned (.tuple #[.int .i64 0,.int .i64 3])∧Sat (Ex R a c l p*F) f:=by
 have b:=Z2 R a c l p n F w hs hp hl h (by omega)
 have g: ¬(n:Int)<1:=by omega
 have i: ¬(8:Int)<n:=by omega
 clear hs
 go_enter Tryz.func185,Tryz.ntmps185
 go_wp2_with fail
 refine b.mono ?_
 rintro e k ⟨rfl,d⟩
 clear b
 go_wp2
 go_ret2
 exact ⟨rfl,d⟩
theorem Ro(R:Nat)(a:Option Addr)(c:Nat)(l:List UInt8)(p n:Nat)(F:Ab)(w:World)(hs:Sat (Ex R a c l p*F) w)(hl:l.length≤1099511627776)(h:p+n≤l.length):
 Calls Tryz.prog 187 #[.pointer (some ⟨R,0,none⟩),.int .i64 n] w fun e u=> ∃b d,e= .returned (.tuple #[.slice b n d,.int .i64 0])∧Sat (rw TB 1 (.slice b n d) (A4 ((l.drop p).take n))*(Ex R a c l (p+n)*F)) u:=by
 obtain ⟨i0,E⟩:=Dp
 have g:=MJ R a c l p n F w hs (by omega) hl h
 have o:((l.drop p).take n).length=n:=by simp;omega
 clear hs
 go_enter Tryz.func187,Tryz.ntmps187
 go_wp2_with fail
 refine g.mono ?_
 rintro e r ⟨rfl,j⟩
 clear g
 have q:Sat (EN R (.slice a l.length c) p*(rw TB 1 (.slice a l.length c) (A4 l)*F)) r:=j.eq (by unfold Ex;ac_rfl)
 haveI:=q.i
 clear j
 have s:=KW (a:=a) (c:=c) p n h
 go_upto_region 5 with (fail)
 have k:Sat (EN R (.slice a l.length c) (p+n)*(rw TB 1 (.slice a l.length c) (A4 l)*F)) (r.setCell ⟨R,1,none⟩ (.int .i64 ((p:Int)+(n:Int)))):=ES
 generalize r.setCell ⟨R,1,none⟩ (.int .i64 ((p:Int)+(n:Int)))=w3 at k⊢
 haveI:=k.i
 go_wp2_with (at_builtin;refine Af E rfl (.tmp 25) (.tmp 26) rfl rfl rfl (LZ (b:=w3.heap.size) (e:=TB)) (Reads.NT s o) (by unfold maxLen;omega) (by omega) ?_;intro t c2 v m f;clear f;simp only[Nat.zero_add,List.nil_append] at m⊢)
 go_ret2
 exact ⟨t,c2,rfl,m.eq (by unfold Ex;ac_rfl)⟩
theorem IK(R:Nat)(a:Option Addr)(c:Nat)(l:List UInt8)(p:Nat)(F:Ab)(w:World)(hs:Sat (Ex R a c l p*F) w)(hp:p≤l.length)(hl:l.length≤1099511627776):
 Calls Tryz.prog 188 #[.pointer (some ⟨R,0,none⟩)] w fun e b=>e= .returned (.int .i64 (l.length-p:Nat))∧Sat (Ex R a c l p*F) b:=by
 have d:Sat (EN R (.slice a l.length c) p*(rw TB 1 (.slice a l.length c) (A4 l)*F)) w:=hs.eq (by unfold Ex;ac_rfl)
 haveI:=d.i
 clear hs
 go_enter Tryz.func188,Tryz.ntmps188
 go_upto_region 3 with (fail)
 have hw1:=Bb ((l.length:Int)-p) (by omega)
 go_region_held3 (fun b=>b.cell? ⟨R,0,none⟩=some (.slice a l.length c)∧b.cell? ⟨R,1,none⟩=some (.int .i64 p)) (first|exact ⟨Ac _ _ _,Ac _ _ _⟩) (first|(fail))
 all_goals
  clear hw1
  go_wp2
  go_ret
  exact ⟨by rw[show ((l.length-p:Nat):Int)=(l.length:Int)-p by omega];rfl,Ap (by unfold Ex;ac_rfl)⟩
theorem Hq(v:Value)(l:List UInt8)(B F:Ab)(w:World)(k:Reads B v l)(hs:Sat (B*F) w)(hl:l.length≤1099511627776):
 Calls Tryz.prog 184 #[v] w fun e m=> ∃R a c,e= .returned (.pointer (some ⟨R,0,none⟩))∧Sat (Ex R a c l 0*(B*F)) m:=by
 obtain ⟨i0,E⟩:=Dp
 obtain ⟨o,p,rfl,_,_⟩:=(k F w hs).len
 haveI:=hs.i
 go_enter Tryz.func184,Tryz.ntmps184
 go_wp2_with (at_builtin;refine Af E rfl (.tmp 3) (.tmp 4) rfl rfl rfl (LZ (b:=w.heap.size) (e:=TB)) (Reads.NT k rfl) (by unfold maxLen;omega) (by omega) ?_;intro j c2 n f d;clear d;simp only[Nat.zero_add,List.nil_append] at f⊢)
 go_ret
 have g:=f.alloc #[.slice j l.length c2,.int .i64 0] mW
 refine ⟨n.heap.size,j,c2,rfl,g.eq ?_⟩
 unfold Ex EN
 simp only[block,Sl.cells,Bg,List.length_cons,List.length_nil,Nat.zero_add,Nat.reduceAdd]
 ac_rfl
theorem P4(R:Nat)(a:Option Addr)(c:Nat)(l:List UInt8)(p n:Nat)(F:Ab)(w:World)(hs:Sat (Ex R a c l p*F) w)(hl:l.length≤1099511627776)(h:p+n≤l.length):
 Calls Tryz.prog 186 #[.pointer (some ⟨R,0,none⟩),.int .i64 n] w fun e s=>e= .returned (.int .i64 (if ((l.drop p).take n).any (· !=0) then 4 else 0))∧Sat (Ex R a c l (if ((l.drop p).take n).any (· !=0) then p else p+n)*F) s:=by
 have r:=MJ R a c l p n F w hs (by omega) hl h
 have m:((l.drop p).take n).length=n:=by simp;omega
 obtain ⟨z,J⟩:=Aq ((l.drop p).take n)
 have u:Aside (∀s,Sat (Ex R a c l p*F) s→NV s (.slice (AH a c p 1) n (c-p)) z):=fun s P=>by
  rw[←J]
  exact KW p n h (EN R (.slice a l.length c) p*F) s (P.eq (by unfold Ex;ac_rfl))
 rw[J] at m⊢
 obtain ⟨U,f⟩:=Aq (AH a c p 1)
 rw[f] at r u
 obtain ⟨L,k⟩: ∃q:Bool,z.any (· !=0)=q:=⟨_,rfl⟩
 rw[k]
 have K:=As k
 have v:=As m
 clear hs J m f k
 go_enter Tryz.func186,Tryz.ntmps186
 go_wp2_with fail
 refine r.mono ?_
 rintro e B ⟨rfl,d⟩
 clear r
 go_wp2_with fail
 go_loopg [20] n (fun g t wr=> ∃j:Nat,t= .int .i64 j∧j≤n∧Aside (g=n-j∧(z.take j).any (· !=0)=false)∧B=wr)
 case atStart=>exact ⟨0,rfl,by omega,⟨rfl,by simp⟩,rfl⟩
 obtain ⟨j,rfl,V,A,rfl⟩:=hrel
 by_cases H:j<n
 · have y:(j:Int)<n:=by omega
   obtain ⟨x,hx⟩: ∃x,z[j]?=some x:=⟨z[j]'(by rw[v.out];exact H),by simp⟩
   obtain ⟨b,o,rfl,D⟩:=(u.out B d).at hx
   have T:=x.toNat_lt
   by_cases h0:x=0
   · subst h0
     have O:Aside ((z.take (j+1)).any (· !=0)=false):=(by rw[AB hx,List.any_append,A.out.2];simp:_=_)
     have G:B.cell? ⟨b,o+j,none⟩=some (.int .u8 0):=D
     clear hx D
     go_wp2
     go_roundg (n-(j+1))
     case measure=>have:=A.out.1;omega
     case rel=>exact ⟨j+1,by go_num,by omega,⟨rfl,O.out⟩,rfl⟩
   obtain rfl:L=true:=by rw[←K.out,List.any_eq_true];exact ⟨x,List.mem_of_getElem? hx,by simpa using h0⟩
   have G:B.cell? ⟨b,o+j,none⟩=some (.int .u8 x.toNat):=D
   have Q:((x.toNat:Int) !=0)=true:=by
    have:x.toNat≠0:=fun e=>h0 (UInt8.toNat_inj.1 e)
    simp;omega
   clear hx D h0
   go_wp2
   go_ret
   exact ⟨rfl,d⟩
 have y: ¬(j:Int)<n:=by omega
 obtain rfl:L=false:=by have M:=A.out.2;rw[List.take_of_length_le (by rw[v.out];omega)] at M;rw[←K.out];exact M
 have I:Sat (EN R (.slice a l.length c) p*(rw TB 1 (.slice a l.length c) (A4 l)*F)) B:=d.eq (by unfold Ex;ac_rfl)
 haveI:=I.i
 clear d A
 go_wp2
 go_ret
 refine ⟨rfl,Ap ?_⟩
 show _=Ex R a c l (p+n)*F
 unfold Ex
 ac_rfl
