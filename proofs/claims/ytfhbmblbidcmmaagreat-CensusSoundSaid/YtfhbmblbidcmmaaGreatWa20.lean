/- censusSound holds for every input. No condition. (part 20) -/
import Derived.Test.YtfhbmblbidcmmaaGreatWa15
set_option linter.all false
namespace Go.Proofs.YtfhbmblbidcmmaaGreat
open Go.RowKit Go.Sl Go.Dk Go.Tr
class kH (k j:Nat):Prop where
 out:k≠j
instance mZ(j:Nat):kH 0 (j+1):=⟨by omega⟩
instance nE(k:Nat):kH (k+1) 0:=⟨by omega⟩
instance nF(k j:Nat)[h:kH k j]:kH (k+1) (j+1):=⟨by have:=h.out;omega⟩
instance gF(vs:List Value)(k:Nat)(v u:Value)[h:At vs k u]:At (vs.set k v) k v:=⟨by
 have:=(List.getElem?_eq_some_iff.1 h.out).1
 rw[List.getElem?_set_self this]⟩
instance kB(vs:List Value)(k j:Nat)(v u:Value)[n:kH k j][h:At vs j u]:At (vs.set k v) j u:=⟨by rw[List.getElem?_set_ne n.out];exact h.out⟩
theorem Gc(R:Nat)(a:Option Addr)(c:Nat)(l:List UInt8)(p:Nat)(F:Ab)(w:World)(hs:Sat (Ex R a c l p*F) w)(hl:l.length≤1099511627776)(h:p+4≤l.length):
 Calls Tryz.prog 189 #[.pointer (some ⟨R,0,none⟩)] w fun e i=>e= .returned (.int .i64 (i4 (BX ((l.drop p).take 4))))∧Sat (Ex R a c l (p+4)*F) i:=by
 have d:=Ef R a c l p 4 F w hs hl h (by omega) (by omega)
 obtain ⟨n,g⟩:=Aq (BX ((l.drop p).take 4))
 rw[g] at d⊢
 by_cases f:n=4294967295
 ·subst f
  clear g
  go_enter Tryz.func189,Tryz.ntmps189
  go_wp2_with fail
  refine d.mono ?_
  rintro e i ⟨rfl,b⟩
  go_wp2
  go_ret
  exact ⟨rfl,b⟩
 have j:((n:Int)==4294967295)=false:=by simp;omega
 have hi:i4 n=n:=by unfold i4;rw[if_neg f]
 rw[hi]
 clear g hi f
 go_enter Tryz.func189,Tryz.ntmps189
 go_wp2_with fail
 refine d.mono ?_
 rintro e i ⟨rfl,b⟩
 go_wp2
 go_ret
 exact ⟨rfl,b⟩
theorem EW: ∃i,C8 Tryz.prog 29 AK 4 32 i (.agg #[.int .i64 0,.int .i64 0,.int .i64 0,.int .i64 0]):=Iu Tryz.underlying29 (by kernel_rfl) rfl (by omega)
theorem Mu: ∃i,C8 Tryz.prog 30 Lh 4 32 i (.agg #[.int .i64 0,.int .i64 0,.int .i64 0,.int .i64 0]):=Iu Tryz.underlying30 (by kernel_rfl) rfl (by omega)
theorem Vr(b:List UInt8): ∀i:Nat,Gy (i+1) b=Gy i b++ [ue ((b.drop (13*i)).take 13)]:=by
 intro i
 induction i generalizing b with
 |zero=>simp[Gy]
 | succ i a =>
  rw[Gy,a (b.drop 13),List.drop_drop]
  conv=>rhs;rw[Gy]
  rw[show 13+13*i=13*(i+1) by omega]
  rfl
theorem Vs(b:List UInt8): ∀i:Nat,Gz (i+1) b=Gz i b++ [uk ((b.drop (16*i)).take 16)]:=by
 intro i
 induction i generalizing b with
 |zero=>simp[Gz]
 | succ i a =>
  rw[Gz,a (b.drop 16),List.drop_drop]
  conv=>rhs;rw[Gz]
  rw[show 16+16*i=16*(i+1) by omega]
  rfl
theorem Yn(b:List UInt8): ∀i:Nat,(Gy i b).length=i:=by
 intro i
 induction i generalizing b with
 |zero=>rfl
 |succ i a=>rw[Gy,List.length_cons,a]
theorem Yo(b:List UInt8): ∀i:Nat,(Gz i b).length=i:=by
 intro i
 induction i generalizing b with
 |zero=>rfl
 |succ i a=>rw[Gz,List.length_cons,a]
theorem Il(l:List UInt8)(p j k n:Nat)(h:j+k≤n):(((l.drop p).take n).drop j).take k=(l.drop (p+j)).take k:=by
 rw[List.drop_take,List.take_take,List.drop_drop,Nat.min_eq_left (by omega)]
theorem kY(x:UInt8)(rest:List UInt8)(i:Nat):ue ((rest.drop (13*i)).take 13)=
 ⟨(BX (((x::rest).drop (1+13*i)).take 1):Nat),i4 (BX (((x::rest).drop (1+13*i+1)).take 4)),i4 (BX (((x::rest).drop (1+13*i+1+4)).take 4)),i4 (BX (((x::rest).drop (1+13*i+1+4+4)).take 4))⟩:=by
 have e: ∀j,(x::rest).drop (1+13*i+j)=rest.drop (13*i+j):=fun j=>by rw[show 1+13*i+j=13*i+j+1 by omega,List.drop_succ_cons]
 have e0:=e 0
 unfold ue
 rw[List.take_take,Il _ _ _ _ _ (by omega),Il _ _ _ _ _ (by omega),Il _ _ _ _ _ (by omega),show 1+13*i+1+4=1+13*i+5 by omega,show 1+13*i+5+4=1+13*i+9 by omega,e 1,e 5,e 9]
 simp only[Nat.add_zero] at e0
 rw[e0]
 rfl
theorem lA(x:UInt8)(rest:List UInt8)(i:Nat):uk ((rest.drop (16*i)).take 16)=
 ⟨i4 (BX (((x::rest).drop (1+16*i)).take 4)),i4 (BX (((x::rest).drop (1+16*i+4)).take 4)),i4 (BX (((x::rest).drop (1+16*i+4+4)).take 4)),i4 (BX (((x::rest).drop (1+16*i+4+4+4)).take 4))⟩:=by
 have e: ∀j,(x::rest).drop (1+16*i+j)=rest.drop (16*i+j):=fun j=>by rw[show 1+16*i+j=16*i+j+1 by omega,List.drop_succ_cons]
 have e0:=e 0
 unfold uk
 rw[List.take_take,Il _ _ _ _ _ (by omega),Il _ _ _ _ _ (by omega),Il _ _ _ _ _ (by omega),show 1+16*i+4+4=1+16*i+8 by omega,show 1+16*i+8+4=1+16*i+12 by omega,e 4,e 8,e 12]
 simp only[Nat.add_zero] at e0
 rw[e0]
 rfl
