/- treeShape holds for every input. No condition. (part 51) -/
import Derived.Test.YtfhbmblbidcmmaaGreatSk6
set_option linter.all false
namespace Go.Tr
theorem dH(x:UInt8):BZ [x]=x.toNat:=by simp[BZ]
theorem XR{no:Nat}{b:List UInt8}{k:Int}{body:List UInt8}(h:AK no b=(k,body,0)):1≤k∧k≤9∧AU no k.toNat body=b∧body.length≤244∧no<1048576∧k=BZ (b.take 1)∧body=(b.drop 12).take (BZ ((b.drop 2).take 2))∧BZ ((b.drop 2).take 2)=body.length:=by
 unfold AK at h
 split at h
 · cases h
 rename_i h1
 split at h
 · cases h
 rename_i g
 split at h
 · cases h
 rename_i i
 simp only at h
 split at h
 · cases h
 rename_i j
 split at h
 · cases h
 rename_i m
 simp only[Prod.mk.injEq,and_true] at h
 obtain ⟨rfl,rfl⟩:=h
 simp only[not_or,ne_eq,Decidable.not_not] at g i j
 obtain ⟨r,B,D,G,H⟩:=j
 have o:BZ ((b.drop 2).take 2)≤244:=by omega
 obtain ⟨n,f⟩: ∃n,BZ ((b.drop 2).take 2)=n:=⟨_,rfl⟩
 rw[f] at o m⊢
 have a:((b.drop 12).take n).length=n:=by rw[List.length_take,List.length_drop];omega
 have w:b.take 1= [UInt8.ofNat (BZ (b.take 1))]:=by
  cases b with
  |nil=>simp at g
  | cons x b =>
    show [x]= [UInt8.ofNat (BZ [x])]
    rw[dH]
    simp
 have y:(b.drop 2).take 2=Bu n 2:=by
  have e:=Rc ((b.drop 2).take 2)
  rw[f,show ((b.drop 2).take 2).length=2 by rw[List.length_take,List.length_drop];omega] at e
  exact e.symm
 have z:(b.drop 4).take 4=Bu no 4:=by
  have e:=Rc ((b.drop 4).take 4)
  rw[show BZ ((b.drop 4).take 4)=no by omega,show ((b.drop 4).take 4).length=4 by rw[List.length_take,List.length_drop];omega] at e
  exact e.symm
 have v:b.drop (12+n)=zs (244-n):=by
  have hl:(b.drop (12+n)).length=244-n:=by rw[List.length_drop];omega
  rw[←hl]
  unfold zs
  refine List.eq_replicate_iff.2 ⟨rfl,fun x hx=>?_⟩
  have s:(b.drop (12+n)).any (· !=0)=false:=by simpa using m
  have t:=List.any_eq_false.1 s x hx
  simpa using t
 have c:CC no (BZ (b.take 1)) ((b.drop 12).take n)=b.take 8:=by
  unfold CC
  rw[a,←y,←z]
  have p:b.take 8=b.take 1++((b.drop 1).take 1++((b.drop 2).take 2++(b.drop 4).take 4)):=by
   rw[show (8:Nat)=1+(1+(2+4)) from rfl,List.take_add,List.take_add (l:=b.drop 1),List.take_add (l:=(b.drop 1).drop 1),List.drop_drop,List.drop_drop]
  rw[p,r]
  exact congrArg (· ++([0]++(List.take 2 (List.drop 2 b)++List.take 4 (List.drop 4 b)))) w.symm
 have d:Dl ((b.drop 12).take n)=b.drop 12:=by
  unfold Dl
  rw[a,←v,←List.drop_drop,List.take_append_drop]
 have u:Bu (Pq (b.take 8++b.drop 12)) 4=(b.drop 8).take 4:=by
  have e:=Rc ((b.drop 8).take 4)
  rw[i,show ((b.drop 8).take 4).length=4 by rw[List.length_take,List.length_drop];omega] at e
  exact e
 refine ⟨by omega,by omega,?_,by rw[a];exact o,by omega,rfl,rfl,a.symm⟩
 rw[Int.toNat_natCast]
 unfold AU
 rw[c,d,u]
 have q:b.drop 12=(b.drop 8).drop 4:=by rw[List.drop_drop]
 rw[q,List.take_append_drop,List.take_append_drop]
def Fp(no:Int)(b:List UInt8):Int×List UInt8×Int:=
 if no<0∨1048576≤no then (0,[],1) else
 if b.length≠256 then (0,[],3) else
 if BZ ((b.drop 8).take 4)≠Pq (b.take 8++b.drop 12) then (0,[],5) else
 if 244<BZ ((b.drop 2).take 2) then (0,[],4) else
 if (Bt no (BZ (b.take 1)) ((b.drop 12).take (BZ ((b.drop 2).take 2)))).2≠0∨(Bt no (BZ (b.take 1)) ((b.drop 12).take (BZ ((b.drop 2).take 2)))).1≠b then (0,[],4) else
 (BZ (b.take 1),(b.drop 12).take (BZ ((b.drop 2).take 2)),0)
theorem V4(no:Int)(b:List UInt8):Fp no b=AK no b:=by
 by_cases h1:no<0∨1048576≤no
 · simp_all[Fp,AK]
 by_cases n:b.length≠256
 · simp_all[Fp,AK]
 by_cases o:BZ ((b.drop 8).take 4)≠Pq (b.take 8++b.drop 12)
 · simp_all[Fp,AK]
 obtain ⟨m,rfl⟩:=Int.eq_ofNat_of_zero_le (show 0≤no by omega)
 by_cases p:244<BZ ((b.drop 2).take 2)
 · simp_all[Fp,AK]
 have c:((b.drop 12).take (BZ ((b.drop 2).take 2))).length≤244:=by rw[List.length_take];omega
 by_cases q:(BZ (b.take 1):Int)<1∨9<(BZ (b.take 1):Int)
 · have e:Bt (m:Int) (BZ (b.take 1)) ((b.drop 12).take (BZ ((b.drop 2).take 2)))=([],1):=by
    simp_all[Bt]
   unfold Fp AK
   grind
 have e:Bt (m:Int) (BZ (b.take 1)) ((b.drop 12).take (BZ ((b.drop 2).take 2)))=(AU m (BZ (b.take 1)) ((b.drop 12).take (BZ ((b.drop 2).take 2))),0):=by grind [Bt,Int.toNat_natCast]
 have f:Fp (m:Int) b=if AU m (BZ (b.take 1)) ((b.drop 12).take (BZ ((b.drop 2).take 2)))≠b then (0,[],4) else (((BZ (b.take 1):Nat):Int),(b.drop 12).take (BZ ((b.drop 2).take 2)),0):=by
  unfold Fp
  grind
 rw[f]
 by_cases hp:AU m (BZ (b.take 1)) ((b.drop 12).take (BZ ((b.drop 2).take 2)))=b
 · rw[if_neg (by simpa using hp)]
   have a:=Qt (no:=m) (kind:=BZ (b.take 1)) (body:=(b.drop 12).take (BZ ((b.drop 2).take 2))) (by omega) (by omega) c
   simp_all
 rw[if_pos hp]
 have a: ¬ ∃k body,AK (m:Int) b=(k,body,0):=by
  rintro ⟨k,body,a⟩
  obtain ⟨_,_,d,_,_,j,l,_⟩:=XR a
  subst j
  rw[←l] at hp
  rw[Int.toNat_natCast] at d
  exact hp d
 unfold AK at a⊢
 rw[if_neg h1,if_neg n,if_neg o] at a⊢
 simp only at a⊢
 split
 · rfl
 rename_i g
 rw[if_neg g] at a
 split
 · rfl
 rename_i i
 rw[if_neg i] at a
 exact absurd ⟨_,_,rfl⟩ a
