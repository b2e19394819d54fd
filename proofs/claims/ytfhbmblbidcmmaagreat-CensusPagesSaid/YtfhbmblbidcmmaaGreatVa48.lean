/- censusPages holds for every input. No condition. (part 48) -/
import Derived.Test.YtfhbmblbidcmmaaGreatVa14
set_option linter.all false
namespace Go.Tr
theorem jM(x:UInt8):BX [x]=x.toNat:=by simp[BX]
theorem Z4{no:Nat}{b:List UInt8}{k:Int}{body:List UInt8}(h:AP no b=(k,body,0)):1≤k∧k≤9∧AY no k.toNat body=b∧body.length≤244∧no<1048576∧k=BX (b.take 1)∧body=(b.drop 12).take (BX ((b.drop 2).take 2))∧BX ((b.drop 2).take 2)=body.length:=by
 unfold AP at h
 split at h
 · cases h
 rename_i h1
 split at h
 · cases h
 rename_i g
 split at h
 · cases h
 rename_i i
 simp only at h
 split at h
 · cases h
 rename_i j
 split at h
 · cases h
 rename_i m
 simp only[Prod.mk.injEq,and_true] at h
 obtain ⟨rfl,rfl⟩:=h
 simp only[not_or,ne_eq,Decidable.not_not] at g i j
 obtain ⟨r,B,D,G,H⟩:=j
 have o:BX ((b.drop 2).take 2)≤244:=by omega
 obtain ⟨n,f⟩: ∃n,BX ((b.drop 2).take 2)=n:=⟨_,rfl⟩
 rw[f] at o m⊢
 have a:((b.drop 12).take n).length=n:=by rw[List.length_take,List.length_drop];omega
 have w:b.take 1= [UInt8.ofNat (BX (b.take 1))]:=by
  cases b with
  |nil=>simp at g
  | cons x b =>
    show [x]= [UInt8.ofNat (BX [x])]
    rw[jM]
    simp
 have y:(b.drop 2).take 2=B3 n 2:=by
  have e:=Sg ((b.drop 2).take 2)
  rw[f,show ((b.drop 2).take 2).length=2 by rw[List.length_take,List.length_drop];omega] at e
  exact e.symm
 have z:(b.drop 4).take 4=B3 no 4:=by
  have e:=Sg ((b.drop 4).take 4)
  rw[show BX ((b.drop 4).take 4)=no by omega,show ((b.drop 4).take 4).length=4 by rw[List.length_take,List.length_drop];omega] at e
  exact e.symm
 have v:b.drop (12+n)=zs (244-n):=by
  have hl:(b.drop (12+n)).length=244-n:=by rw[List.length_drop];omega
  rw[←hl]
  unfold zs
  refine List.eq_replicate_iff.2 ⟨rfl,fun x hx=>?_⟩
  have s:(b.drop (12+n)).any (· !=0)=false:=by simpa using m
  have t:=List.any_eq_false.1 s x hx
  simpa using t
 have c:CA no (BX (b.take 1)) ((b.drop 12).take n)=b.take 8:=by
  unfold CA
  rw[a,←y,←z]
  have p:b.take 8=b.take 1++((b.drop 1).take 1++((b.drop 2).take 2++(b.drop 4).take 4)):=by
   rw[show (8:Nat)=1+(1+(2+4)) from rfl,List.take_add,List.take_add (l:=b.drop 1),List.take_add (l:=(b.drop 1).drop 1),List.drop_drop,List.drop_drop]
  rw[p,r]
  exact congrArg (· ++([0]++(List.take 2 (List.drop 2 b)++List.take 4 (List.drop 4 b)))) w.symm
 have d:Dz ((b.drop 12).take n)=b.drop 12:=by
  unfold Dz
  rw[a,←v,←List.drop_drop,List.take_append_drop]
 have u:B3 (Qh (b.take 8++b.drop 12)) 4=(b.drop 8).take 4:=by
  have e:=Sg ((b.drop 8).take 4)
  rw[i,show ((b.drop 8).take 4).length=4 by rw[List.length_take,List.length_drop];omega] at e
  exact e
 refine ⟨by omega,by omega,?_,by rw[a];exact o,by omega,rfl,rfl,a.symm⟩
 rw[Int.toNat_natCast]
 unfold AY
 rw[c,d,u]
 have q:b.drop 12=(b.drop 8).drop 4:=by rw[List.drop_drop]
 rw[q,List.take_append_drop,List.take_append_drop]
def F6(no:Int)(b:List UInt8):Int×List UInt8×Int:=
 if no<0∨1048576≤no then (0,[],1) else
 if b.length≠256 then (0,[],3) else
 if BX ((b.drop 8).take 4)≠Qh (b.take 8++b.drop 12) then (0,[],5) else
 if 244<BX ((b.drop 2).take 2) then (0,[],4) else
 if (Bz no (BX (b.take 1)) ((b.drop 12).take (BX ((b.drop 2).take 2)))).2≠0∨(Bz no (BX (b.take 1)) ((b.drop 12).take (BX ((b.drop 2).take 2)))).1≠b then (0,[],4) else
 (BX (b.take 1),(b.drop 12).take (BX ((b.drop 2).take 2)),0)
theorem WV(no:Int)(b:List UInt8):F6 no b=AP no b:=by
 by_cases h1:no<0∨1048576≤no
 · simp_all[F6,AP]
 by_cases n:b.length≠256
 · simp_all[F6,AP]
 by_cases o:BX ((b.drop 8).take 4)≠Qh (b.take 8++b.drop 12)
 · simp_all[F6,AP]
 obtain ⟨m,rfl⟩:=Int.eq_ofNat_of_zero_le (show 0≤no by omega)
 by_cases p:244<BX ((b.drop 2).take 2)
 · simp_all[F6,AP]
 have c:((b.drop 12).take (BX ((b.drop 2).take 2))).length≤244:=by rw[List.length_take];omega
 by_cases q:(BX (b.take 1):Int)<1∨9<(BX (b.take 1):Int)
 · have e:Bz (m:Int) (BX (b.take 1)) ((b.drop 12).take (BX ((b.drop 2).take 2)))=([],1):=by
    simp_all[Bz]
   unfold F6 AP
   grind
 have e:Bz (m:Int) (BX (b.take 1)) ((b.drop 12).take (BX ((b.drop 2).take 2)))=(AY m (BX (b.take 1)) ((b.drop 12).take (BX ((b.drop 2).take 2))),0):=by grind [Bz,Int.toNat_natCast]
 have f:F6 (m:Int) b=if AY m (BX (b.take 1)) ((b.drop 12).take (BX ((b.drop 2).take 2)))≠b then (0,[],4) else (((BX (b.take 1):Nat):Int),(b.drop 12).take (BX ((b.drop 2).take 2)),0):=by
  unfold F6
  grind
 rw[f]
 by_cases hp:AY m (BX (b.take 1)) ((b.drop 12).take (BX ((b.drop 2).take 2)))=b
 · rw[if_neg (by simpa using hp)]
   have a:=Rn (no:=m) (kind:=BX (b.take 1)) (body:=(b.drop 12).take (BX ((b.drop 2).take 2))) (by omega) (by omega) c
   simp_all
 rw[if_pos hp]
 have a: ¬ ∃k body,AP (m:Int) b=(k,body,0):=by
  rintro ⟨k,body,a⟩
  obtain ⟨_,_,d,_,_,j,l,_⟩:=Z4 a
  subst j
  rw[←l] at hp
  rw[Int.toNat_natCast] at d
  exact hp d
 unfold AP at a⊢
 rw[if_neg h1,if_neg n,if_neg o] at a⊢
 simp only at a⊢
 split
 · rfl
 rename_i g
 rw[if_neg g] at a
 split
 · rfl
 rename_i i
 rw[if_neg i] at a
 exact absurd ⟨_,_,rfl⟩ a
