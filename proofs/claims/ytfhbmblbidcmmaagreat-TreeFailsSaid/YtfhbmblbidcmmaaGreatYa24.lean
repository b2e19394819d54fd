/- treeFails holds for every input. No condition. (part 24) -/
import Derived.Test.YtfhbmblbidcmmaaGreatYa19
set_option linter.all false
namespace Go.Proofs.YtfhbmblbidcmmaaGreat
open Go.RowKit Go.Sl Go.Dk Go.Tr
class J' (k j:Nat):Prop where
 out:k≠j
instance r8(j:Nat):J' 0 (j+1):=⟨by omega⟩
instance r9(k:Nat):J' (k+1) 0:=⟨by omega⟩
instance x0(k j:Nat)[h:J' k j]:J' (k+1) (j+1):=⟨by have:=h.out;omega⟩
instance Zh(vs:List Value)(k:Nat)(v u:Value)[h:At vs k u]:At (vs.set k v) k v:=⟨by
 have:=(List.getElem?_eq_some_iff.1 h.out).1
 rw[List.getElem?_set_self this]⟩
instance C'(vs:List Value)(k j:Nat)(v u:Value)[n:J' k j][h:At vs j u]:At (vs.set k v) j u:=⟨by rw[List.getElem?_set_ne n.out];exact h.out⟩
theorem FO(R:Nat)(a:Option Addr)(c:Nat)(l:List UInt8)(p:Nat)(F:Ac)(w:World)(hs:Sat (DI R a c l p*F) w)(hl:l.length≤1099511627776)(h:p+4≤l.length):
 Calls Tryz.prog 189 #[.pointer (some ⟨R,0,none⟩)] w fun e i=>e= .returned (.int .i64 (i4 (EI ((l.drop p).take 4))))∧Sat (DI R a c l (p+4)*F) i:=by
 have d:=DF R a c l p 4 F w hs hl h (by omega) (by omega)
 obtain ⟨n,g⟩: ∃n,EI ((l.drop p).take 4)=n:=⟨_,rfl⟩
 rw[g] at d⊢
 by_cases f:n=4294967295
 ·subst f
  clear g
  go_enter Tryz.func189,Tryz.ntmps189
  go_wp2_with fail
  refine d.mono ?_
  rintro e i ⟨rfl,b⟩
  go_wp2
  go_ret
  exact ⟨rfl,b⟩
 have j:((n:Int)==4294967295)=false:=by simp;omega
 have hi:i4 n=n:=by unfold i4;rw[if_neg f]
 rw[hi]
 clear g hi f
 go_enter Tryz.func189,Tryz.ntmps189
 go_wp2_with fail
 refine d.mono ?_
 rintro e i ⟨rfl,b⟩
 go_wp2
 go_ret
 exact ⟨rfl,b⟩
theorem FK: ∃i,CF Tryz.prog 29 A9 4 32 i (.agg #[.int .i64 0,.int .i64 0,.int .i64 0,.int .i64 0]):=JG Tryz.underlying29 (by kernel_rfl) rfl (by omega)
theorem MH: ∃i,CF Tryz.prog 30 Oa 4 32 i (.agg #[.int .i64 0,.int .i64 0,.int .i64 0,.int .i64 0]):=JG Tryz.underlying30 (by kernel_rfl) rfl (by omega)
theorem XT(b:List UInt8): ∀i:Nat,IY (i+1) b=IY i b++ [ue ((b.drop (13*i)).take 13)]:=by
 intro i
 induction i generalizing b with
 |zero=>simp[IY]
 | succ i a =>
  rw[IY,a (b.drop 13),List.drop_drop]
  conv=>rhs;rw[IY]
  rw[show 13+13*i=13*(i+1) by omega]
  rfl
theorem XU(b:List UInt8): ∀i:Nat,IZ (i+1) b=IZ i b++ [uk ((b.drop (16*i)).take 16)]:=by
 intro i
 induction i generalizing b with
 |zero=>simp[IZ]
 | succ i a =>
  rw[IZ,a (b.drop 16),List.drop_drop]
  conv=>rhs;rw[IZ]
  rw[show 16+16*i=16*(i+1) by omega]
  rfl
theorem Zc(b:List UInt8): ∀i:Nat,(IY i b).length=i:=by
 intro i
 induction i generalizing b with
 |zero=>rfl
 |succ i a=>rw[IY,List.length_cons,a]
theorem Ze(b:List UInt8): ∀i:Nat,(IZ i b).length=i:=by
 intro i
 induction i generalizing b with
 |zero=>rfl
 |succ i a=>rw[IZ,List.length_cons,a]
theorem Hb(l:List UInt8)(p j k n:Nat)(h:j+k≤n):(((l.drop p).take n).drop j).take k=(l.drop (p+j)).take k:=by
 rw[List.drop_take,List.take_take,List.drop_drop,Nat.min_eq_left (by omega)]
theorem i'(x:UInt8)(rest:List UInt8)(i:Nat):ue ((rest.drop (13*i)).take 13)=
 ⟨(EI (((x::rest).drop (1+13*i)).take 1):Nat),i4 (EI (((x::rest).drop (1+13*i+1)).take 4)),i4 (EI (((x::rest).drop (1+13*i+1+4)).take 4)),i4 (EI (((x::rest).drop (1+13*i+1+4+4)).take 4))⟩:=by
 have e: ∀j,(x::rest).drop (1+13*i+j)=rest.drop (13*i+j):=fun j=>by rw[show 1+13*i+j=13*i+j+1 by omega,List.drop_succ_cons]
 have e0:=e 0
 unfold ue
 rw[List.take_take,Hb _ _ _ _ _ (by omega),Hb _ _ _ _ _ (by omega),Hb _ _ _ _ _ (by omega),show 1+13*i+1+4=1+13*i+5 by omega,show 1+13*i+5+4=1+13*i+9 by omega,e 1,e 5,e 9]
 simp only[Nat.add_zero] at e0
 rw[e0]
 rfl
theorem j3(x:UInt8)(rest:List UInt8)(i:Nat):uk ((rest.drop (16*i)).take 16)=
 ⟨i4 (EI (((x::rest).drop (1+16*i)).take 4)),i4 (EI (((x::rest).drop (1+16*i+4)).take 4)),i4 (EI (((x::rest).drop (1+16*i+4+4)).take 4)),i4 (EI (((x::rest).drop (1+16*i+4+4+4)).take 4))⟩:=by
 have e: ∀j,(x::rest).drop (1+16*i+j)=rest.drop (16*i+j):=fun j=>by rw[show 1+16*i+j=16*i+j+1 by omega,List.drop_succ_cons]
 have e0:=e 0
 unfold uk
 rw[List.take_take,Hb _ _ _ _ _ (by omega),Hb _ _ _ _ _ (by omega),Hb _ _ _ _ _ (by omega),show 1+16*i+4+4=1+16*i+8 by omega,show 1+16*i+8+4=1+16*i+12 by omega,e 4,e 8,e 12]
 simp only[Nat.add_zero] at e0
 rw[e0]
 rfl
