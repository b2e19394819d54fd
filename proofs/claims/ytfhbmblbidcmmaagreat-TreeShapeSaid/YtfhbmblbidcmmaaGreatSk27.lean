/- treeShape holds for every input. No condition. (part 27) -/
import Derived.Test.YtfhbmblbidcmmaaGreatSk25
import Derived.Test.YtfhbmblbidcmmaaGreatSk26
set_option linter.all false
set_option maxRecDepth 100000
set_option maxHeartbeats 3200000
namespace Go.Tr
theorem Lr(no:Int)(b:List UInt8):(AK no b).2.1.length≤b.length:=by grind [AK,List.length_take,List.length_drop]
theorem Vl{kind:Int}{b:List UInt8}(h:(CL kind b).2=0):may (CL kind b).1=true:=by cases b with
 |nil=>simp[CL] at h
 |cons b rest=>grind [CL]
end Go.Tr
namespace Go.Proofs.YtfhbmblbidcmmaaGreat
open Go.RowKit Go.Sl Go.Dk Go.Tr
theorem Ku{no:Int}{b:List UInt8}{n:Nd}(h:CR no b=some n):may n=true:=by
 unfold CR at h
 split at h
 ·split at h
  ·rename_i h1
   cases h
   exact Vl h1
  grind
 grind
theorem f'.more{N M:Nat}{s:Ck}(h:f' N s)(k:N≤M):f' M s:=by
 obtain ⟨h1,b,c,d,a⟩:=h
 exact ⟨by omega,by omega,by omega,by omega,a⟩
theorem V7(s:Ck)(no:Int):(s.release no).2.nm=s.nm:=by
 unfold Ck.release
 split<;>exact (BX s no).1
theorem bB(s:Ck):s.room.2.nm=s.nm:=by
 unfold Ck.room
 split
 ·rfl
 split
 ·rfl
 exact V7 s _
theorem WS(s:Ck)(no:Int)(b:List UInt8):(s.take no b).2.nm=s.nm:=by
 unfold Ck.take
 split<;>exact bB s
theorem dB(s:Ck)(no:Int):(s.get no).2.2.nm=s.nm:=by
 unfold Ck.get
 split
 ·rfl
 split
 ·rfl
 simp only
 split
 ·split<;>exact WS s _ _
 rfl
theorem dQ(s:Ck)(no:Int)(b:List UInt8):(s.put no b).2.nm=s.nm:=by
 unfold Ck.put
 split
 ·rfl
 split
 ·rfl
 split<;>exact WS s _ _
theorem p9{m:Nat}{s:Ck}(ok:Bf m s)(no:Int):(s.get no).2.1.length≤256:=by
 unfold Ck.get
 split
 ·simp
 split
 ·exact Jj ok no
 simp only
 split
 ·rename_i h
  split
  ·have a:(s.d.read s.nm (no*256) ((256:Nat):Int)).1=0:=h
   show (s.d.read s.nm (no*256) ((256:Nat):Int)).2.length≤256
   rw[OD a]
   simp
  simp
 simp
theorem Pa.get{s:TS}(h:Pa s)(no:Int)(a:s.ops<B8):Pa ⟨(s.ck.get no).2.2,s.sp,s.ops+2⟩:=by
 obtain ⟨m,hm⟩:=h.ck
 exact ⟨⟨_,dC hm no⟩,((h.num.step (dB s.ck no) (US hm no).1 (US hm no).2).more (by show s.ops+1≤s.ops+2;omega)),by show s.ops+2≤_;omega,h.res,by have:=h.taken;show _≤s.ops+2;simp only;omega⟩
theorem Pa.put{s:TS}(h:Pa s)(no:Int)(b:List UInt8)(a:s.ops≤B8):Pa ⟨(s.ck.put no b).2,s.sp,s.ops+1⟩:=by
 obtain ⟨m,hm⟩:=h.ck
 exact ⟨⟨_,Md hm no b⟩,h.num.step (dQ s.ck no b) (Vx hm no b).1 (by have:=(Vx hm no b).2;show (s.ck.put no b).2.reads≤_;omega),by show s.ops+1≤_;omega,h.res,by have:=h.taken;show _≤s.ops+1;simp only;omega⟩
theorem Pa.take{s:TS}(h:Pa s)(b:s.ops<B8):Pa ⟨s.ck,s.sp.take.2,s.ops+1⟩:=by
 have a:s.sp.take.2.AO=s.sp.AO∧s.sp.take.2.taken.length≤s.sp.taken.length+1:=by grind [Sp.take]
 exact ⟨h.ck,h.num.more (by show _≤s.ops+1;omega),by show s.ops+1≤_;omega,by simp only;rw[a.1];exact h.res,by have:=h.taken;show _≤s.ops+1;simp only;omega⟩
theorem Ht{no:Int}{s:TS}(a:s.ops<B8):Ai no s=
 if (s.ck.get no).1=0 then (match CR no (s.ck.get no).2.1 with|some n=> .ok n ⟨(s.ck.get no).2.2,s.sp,s.ops+2⟩|none=> .fault 13 ⟨(s.ck.get no).2.2,s.sp,s.ops+2⟩)
 else .fault (if (s.ck.get no).1=6∨(s.ck.get no).1=1 then 13 else (s.ck.get no).1) ⟨(s.ck.get no).2.2,s.sp,s.ops+2⟩:=by
 unfold Ai M.bind Rk
 rw[if_pos a]
 simp only[EX.bind]
 by_cases h:(s.ck.get no).1=0
 ·rw[if_pos h,h]
  cases CR no (s.ck.get no).2.1<;>rfl
 rw[if_neg h]
 unfold EU
 rw[if_neg (by split<;>omega)]
 rfl
theorem DR{h:Th}{s:TS}{F:Ac}{w:World}(hs:Sat (Ae h s*F) w):Pa s∧Sat (AN h.C h.D s.ck*(BQ h.S s.sp*(Sl.block h.t Sd [.pointer (some ⟨h.C,0,none⟩),.pointer (some ⟨h.S,0,none⟩)]*F))) w:=by
 obtain ⟨hi,a⟩:=Sat.Yp hs
 grind [OS]
theorem Dp{h:Th}{s:TS}{F:Ac}{w:World}(hi:Pa s)(hs:Sat (AN h.C h.D s.ck*(BQ h.S s.sp*(Sl.block h.t Sd [.pointer (some ⟨h.C,0,none⟩),.pointer (some ⟨h.S,0,none⟩)]*F))) w):Sat (Ae h s*F) w:=
 Sat.Yq hi (hs.eq (by unfold OS;ac_rfl))
theorem Cw(h:Th)(s:TS)(no:Int)(F:Ac)(w:World)(hs:Sat (Ae h s*F) w)(hb:Ai no s≠ .bad):
 Calls Tryz.prog 129 #[.pointer (some ⟨h.t,0,none⟩),.int .i64 no] w (DE h F (Ai no s) fun n v B=>AG B v n∧may n=true):=by
 have ho:s.ops<B8:=by
  rcases Nat.lt_or_ge s.ops B8 with h|h
  · exact h
  refine absurd ?_ hb
  unfold Ai M.bind Rk
  rw[if_neg (by omega)]
  rfl
 obtain ⟨hi,u⟩:=DR hs
 have a:=fun F w q=>p8 h.C h.D s.ck 137438953472 no F w q hi.ok (by omega)
 have j:=p9 hi.ok no
 have X:=FK (hi.get no ho)
 rw[Ht ho]
 obtain ⟨⟨R,b,k2⟩,hr⟩:=Aq (s.ck.get no)
 rw[hr] at a j X⊢
 simp only at j X⊢
 obtain ⟨t2,O⟩:=Aq (⟨k2,s.sp,s.ops+2⟩:TS)
 have hk:t2.ck=k2∧t2.sp=s.sp:=by rw[←O];exact ⟨rfl,rfl⟩
 rw[O] at X⊢
 have Q:Aside (∀(G:Ac)(w:World),Sat (AN h.C h.D k2*(BQ h.S s.sp*(Sl.block h.t Sd [.pointer (some ⟨h.C,0,none⟩),.pointer (some ⟨h.S,0,none⟩)]*G))) w→Sat (Ae h t2*G) w):=fun G w o=>Dp X.out (by rw[hk.1,hk.2];exact o)
 haveI:=u.i
 clear hb hr O hk hi ho hs
 by_cases Z:R=6
 · subst Z
   rw[if_neg (by omega),if_pos (by omega)]
   have g:=IU 13 (by omega)
   go_enter Tryz.func129,Tryz.ntmps129
   go_wp2_with fail
   refine (a _ _ (Af (AN h.C h.D s.ck))).mono ?_
   rintro e V ⟨v,rfl,f⟩
   haveI:=f.i
   clear a u
   go_wp2_with fail
   refine (g _).mono ?_
   rintro e W ⟨rfl,rfl⟩
   refine ⟨rfl,?_⟩
   exact ⟨rfl,Q.out _ _ (ET _ _ _ _)⟩
 have g6:(R==6)=false:=by simp[Z]
 by_cases h1:R=1
 · subst h1
   rw[if_neg (by omega),if_pos (by omega)]
   have g:=IU 13 (by omega)
   go_enter Tryz.func129,Tryz.ntmps129
   go_wp2_with fail
   refine (a _ _ (Af (AN h.C h.D s.ck))).mono ?_
   rintro e V ⟨v,rfl,f⟩
   haveI:=f.i
   clear a u
   go_wp2_with fail
   refine (g _).mono ?_
   rintro e W ⟨rfl,rfl⟩
   refine ⟨rfl,?_⟩
   exact ⟨rfl,Q.out _ _ (ET _ _ _ _)⟩
 have g1:(R==1)=false:=by simp[h1]
 by_cases h0:R=0
 · subst h0
   rw[if_pos rfl]
   have g:=PH
   have d:=fun v F w (q:Sat (rw TB 1 v (A1 b)*F) w)=>Ry no v b _ F w Reads.rw q (by omega)
   have L:=Lr no b
   have c: ∀r,CR no b=r→r=(if (AK no b).2.2=0 then (if (CL (AK no b).1 (AK no b).2.1).2=0 then some (CL (AK no b).1 (AK no b).2.1).1 else none) else none):=fun r h=>by rw[←h];rfl
   have J:=fun n=>Ku (no:=no) (b:=b) (n:=n)
   obtain ⟨on,K⟩:=Aq (CR no b)
   have c:=c on K
   rw[K] at J⊢
   have a0:Aside (∀n,on=some n→may n=true):=fun n h=>J n h
   obtain ⟨⟨kind,body,pe⟩,hp⟩:=Aq (AK no b)
   rw[hp] at d c L
   simp only at d c L
   have I:body.length≤1099511627776:=by omega
   clear J K hp L j Z h1 g6 g1
   by_cases m:pe=0
   · subst m
     rw[if_pos rfl] at c
     have k:=fun v F w (q:Sat (rw TB 1 v (A1 body)*F) w)=>Vj kind body v _ F w Reads.rw q I
     obtain ⟨⟨nd,ne⟩,hn⟩:=Aq (CL kind body)
     rw[hn] at k c
     simp only at c
     clear hn I
     by_cases l:ne=0
     ·subst l
      rw[if_pos rfl] at c
      subst c
      have p:=FK k
      clear k
      go_enter Tryz.func129,Tryz.ntmps129
      go_wp2_with fail
      refine (a _ _ (Af (AN h.C h.D s.ck))).mono ?_
      rintro e V ⟨v,rfl,f⟩
      haveI:=f.i
      clear a u
      go_wp2_with fail
      refine (g _).mono ?_
      rintro e W ⟨rfl,rfl⟩
      go_wp2_with fail
      refine (d v _ _ (Af (rw TB 1 v (A1 b)))).mono ?_
      rintro e w3 ⟨Y,c3,rfl,P⟩
      haveI:=P.i
      clear d f g
      go_wp2_with fail
      refine (p.out _ _ _ (Af (rw TB 1 (.slice Y body.length c3) (A1 body)))).mono ?_
      rintro e w4 ⟨v',G,rfl,o,q4⟩
      haveI:=q4.i
      clear P
      obtain ⟨vE,vK,rfl,T,U⟩:=id o
      obtain ⟨aE,cE,rfl,x,y⟩:=T.v
      obtain ⟨aK,cK,rfl,z,H⟩:=U.v
      have HG:=FK o
      clear T U o x y z H
      go_wp2
      go_returns
      exact ⟨_,G,rfl,⟨HG.out,a0.out nd rfl⟩,Q.out _ _ (EE _ _ _ _ _)⟩
     have ag:(ne==0)=false:=by simp[l]
     rw[if_neg l] at c
     subst c
     have p:=FK k
     clear k l
     go_enter Tryz.func129,Tryz.ntmps129
     go_wp2_with fail
     refine (a _ _ (Af (AN h.C h.D s.ck))).mono ?_
     rintro e V ⟨v,rfl,f⟩
     haveI:=f.i
     clear a u
     go_wp2_with fail
     refine (g _).mono ?_
     rintro e W ⟨rfl,rfl⟩
     go_wp2_with fail
     refine (d v _ _ (Af (rw TB 1 v (A1 b)))).mono ?_
     rintro e w3 ⟨Y,c3,rfl,P⟩
     haveI:=P.i
     clear d f g
     go_wp2_with fail
     refine (p.out _ _ _ (Af (rw TB 1 (.slice Y body.length c3) (A1 body)))).mono ?_
     rintro e w4 ⟨v',G,rfl,o,q4⟩
     haveI:=q4.i
     clear P
     obtain ⟨vE,vK,rfl,T,U⟩:=id o
     obtain ⟨aE,cE,rfl,x,y⟩:=T.v
     obtain ⟨aK,cK,rfl,z,H⟩:=U.v
     clear T U o x y z H
     go_wp2
     refine ⟨rfl,?_⟩
     exact ⟨rfl,Q.out _ _ (ET _ _ _ _)⟩
   have ah:(pe==0)=false:=by simp[m]
   rw[if_neg m] at c
   subst c
   clear I m
   go_enter Tryz.func129,Tryz.ntmps129
   go_wp2_with fail
   refine (a _ _ (Af (AN h.C h.D s.ck))).mono ?_
   rintro e V ⟨v,rfl,f⟩
   haveI:=f.i
   clear a u
   go_wp2_with fail
   refine (g _).mono ?_
   rintro e W ⟨rfl,rfl⟩
   go_wp2_with fail
   refine (d v _ _ (Af (rw TB 1 v (A1 b)))).mono ?_
   rintro e w3 ⟨Y,c3,rfl,P⟩
   haveI:=P.i
   clear d f g
   go_wp2
   refine ⟨rfl,?_⟩
   exact ⟨rfl,Q.out _ _ (ET _ _ _ _)⟩
 rw[if_neg h0,if_neg (by omega)]
 have g:=IU R h0
 clear Z h1 h0
 go_enter Tryz.func129,Tryz.ntmps129
 go_wp2_with fail
 refine (a _ _ (Af (AN h.C h.D s.ck))).mono ?_
 rintro e V ⟨v,rfl,f⟩
 haveI:=f.i
 clear a u
 go_wp2_with fail
 refine (g _).mono ?_
 rintro e W ⟨rfl,rfl⟩
 refine ⟨rfl,?_⟩
 exact ⟨rfl,Q.out _ _ (ET _ _ _ _)⟩
end Go.Proofs.YtfhbmblbidcmmaaGreat
namespace Go.Sl
theorem Jv{P:Program}{t e bytes:Nat}{i:TypeInfo}{z:Value}(E:CJ P t e 1 bytes i z)(u v:TypeId)
 {g e' n c lo:Nat} {xs:List Value} {x:Value} {l:List UInt8} {F:Ac} {w:World} (hs:Sat (Sl.block g e' xs*F) w) (hx:Mr w x l) (h1:l.length≤n) (y:lo+n≤xs.length):
 ∃f,(Builtin.copy_ #[t,u] v #[.slice (some ⟨g,lo,none⟩) n c,x]).run P w= .ok (.int .i64 l.length) f∧Sat (Sl.block g e' (xs.take lo++A1 l++xs.drop (lo+l.length))*F) f:=by
 have q:=hx.src (P:=P)
 have p:(Builtin.lenOf x).run P w= .ok l.length w:=by simpa[World.drewN] using q.len 0
 have o:(Builtin.firstCells 1 l.length x).run P w= .ok (A1 l).toArray w:=by simpa[World.drewN] using q.cells 0
 have m:(sizeOf e).run P w= .ok 1 w:=by simp[sizeOf,typeInfo,E.info,E.size]
 have b:Nat.min l.length n=l.length:=Nat.min_eq_left (by omega)
 have a:xs=xs.take lo++((xs.drop lo).take l.length++xs.drop (lo+l.length)):=by
  rw[←List.drop_drop,List.take_append_drop,List.take_append_drop]
 have k:Sat (Sl.cells g (lo+0) ((xs.drop lo).take l.length)*(Ef g e' xs.length*(Sl.cells g 0 (xs.take lo)*(Sl.cells g (lo+l.length) (xs.drop (lo+l.length))*F)))) w:=by
  refine hs.eq ?_
  unfold Sl.block
  conv=>lhs;arg 1;arg 2;rw[a]
  rw[Ci,Ci]
  have j:(xs.take lo).length=lo:=by simp;omega
  have d:((xs.drop lo).take l.length).length=l.length:=by simp;omega
  rw[j,d]
  simp only[Nat.zero_add,Nat.add_zero]
  ac_rfl
 obtain ⟨f,r1,s⟩:=DD (P:=P) (A1 l) ((xs.drop lo).take l.length) 0 _ w k (by rw[Cr];simp;omega) (QT l)
 refine ⟨f,?_,?_⟩
 · unfold Builtin.copy_
   simp[underlying,E.Pd,m,p,b,o,r1,goInt]
 refine s.eq ?_
 unfold Sl.block
 have j:(xs.take lo++A1 l++xs.drop (lo+l.length)).length=xs.length:=by simp only[List.length_append,List.length_take,List.length_drop,Cr];omega
 rw[j,Ci,Ci]
 have d:(xs.take lo).length=lo:=by simp;omega
 have r:(xs.take lo++A1 l).length=lo+l.length:=by rw[List.length_append,d,Cr]
 rw[d,r]
 simp only[Nat.zero_add,Nat.add_zero]
 ac_rfl
end Go.Sl
namespace Go.Proofs.YtfhbmblbidcmmaaGreat
open Go.RowKit Go.Sl Go.Dk Go.Tr
theorem Vo(g e' lo n c m a:Nat)(xs:List Value)(F:Ac)(w:World)(hs:Sat (Sl.block g e' xs*F) w)(h1:1≤a)(p:a≤4)(hm:m<256^a)(q:a≤n)(o:lo+n≤xs.length):
 Calls Tryz.prog 234 #[.slice (some ⟨g,lo,none⟩) n c,.int .i64 m,.int .i64 a] w fun e r=>e= .returned (.tuple #[])∧Sat (Sl.block g e' (xs.take lo++A1 (Bu m a)++xs.drop (lo+a))*F) r:=by
 obtain ⟨i0,E⟩:=D2
 have j:=M8 m a _ w hs h1 (by omega) hm (by have:(256:Nat)^a≤256^4:=Nat.pow_le_pow_right (by omega) p;omega)
 have hl:(Bu m a).length=a:=AE _ _
 go_enter Tryz.func234,Tryz.ntmps234
 go_wp2_with fail
 refine j.mono ?_
 rintro e d ⟨f,c3,rfl,k⟩
 haveI:=k.i
 obtain ⟨s,r1,b⟩:=Jv E 26 3 (c:=c) (w:=d) (Af (w:=d) (Sl.block g e' xs)) (Reads.rw (e:=TB) (v:= .slice f a c3) (l:=Bu m a) _ d (Af (w:=d) (rw TB 1 (.slice f a c3) (A1 (Bu m a))))) (by omega) o
 rw[hl] at r1 b
 go_wp2
 go_end0
 exact ⟨rfl,Sat.Dq (B:=rw TB 1 (.slice f a c3) (A1 (Bu m a))) (b.eq (by ac_rfl))⟩
theorem Kr(g e' lo n c m a:Nat)(l:List UInt8)(F:Ac)(w:World)(hs:Sat (Sl.block g e' (A1 l)*F) w)(h1:1≤a)(i:a≤4)(hm:m<256^a)(b:a≤n)(f:lo+n≤l.length):
 Calls Tryz.prog 234 #[.slice (some ⟨g,lo,none⟩) n c,.int .i64 m,.int .i64 a] w fun e d=>e= .returned (.tuple #[])∧Sat (Sl.block g e' (A1 (l.take lo++Bu m a++l.drop (lo+a)))*F) d:=by
 refine (Vo g e' lo n c m a (A1 l) F w hs h1 i hm b (by rw[Cr];exact f)).mono ?_
 rintro e d ⟨rfl,h⟩
 rw[←N1,←Nz,←BH,←BH] at h
 exact ⟨rfl,h⟩
theorem TW{b e lo n c:Nat}{l:List UInt8}(h:lo+n≤l.length)(hm:l.length≤maxLen)(d:c=l.length-lo)(f:lo<l.length):Reads (Sl.block b e (A1 l)) (.slice (some ⟨b,lo,none⟩) n c) ((l.drop lo).take n):=by
 intro F w hs
 have:=(Reads.QS (b:=b) (e:=e) hm F w hs).cut lo (lo+n) (by omega) h
 rw[show lo+n-lo=n by omega] at this
 have a:AJ (some ⟨b,0,none⟩) l.length lo 1=some ⟨b,lo,none⟩:=by
  have:l.length≠lo:=by omega
  simp[AJ,this,Addr.add]
  omega
 rw[a] at this
 rw[d]
 exact this
theorem Tt(no kind:Nat)(body:List UInt8)(v:Value)(B F:Ac)(w:World)(V:Reads B v body)(hs:Sat (B*F) w)(h1:no<1048576)(h2:1≤kind)(h3:kind≤9)(hl:body.length≤244):
 Calls Tryz.prog 194 #[.int .i64 no,.int .i64 kind,v] w fun e q=> ∃g,e= .returned (.tuple #[.slice (some ⟨g,0,none⟩) 256 256,.int .i64 0])∧Sat (Sl.block g 346 (A1 (AU no kind body))*(B*F)) q:=by
 obtain ⟨i0,E⟩:=D2
 obtain ⟨va,vc,rfl,a4,a5⟩:=(V F w hs).len
 haveI:=hs.i
 have g1: ¬(no:Int)<0:=by omega
 have g2: ¬(1048576:Int)≤no:=by omega
 have g3: ¬(kind:Int)<1:=by omega
 have g4: ¬(9:Int)<kind:=by omega
 have g5: ¬(244:Int)<body.length:=by omega
 go_enter Tryz.func194,Tryz.ntmps194
 go_upto_region 7 with (fail)
 obtain ⟨P,I⟩:=Aq w.heap.size
 have W:Tryz.zeroCells346=(A1 (zs 256)).toArray:=by kernel_rfl
 have u:(Value.int .u8 (kind:Int))=bv (UInt8.ofNat kind):=by unfold bv;rw[show (UInt8.ofNat kind).toNat=kind by simp[UInt8.toNat_ofNat'];omega]
 have j:Sat (Sl.block P 346 (A1 (UInt8.ofNat kind::zs 255))*(B*F)) (w.alloc (.cells (Tryz.zeroCells346.setIfInBounds 0 (.int .u8 kind)) 346)):=by
  have:=hs.alloc (Tryz.zeroCells346.setIfInBounds 0 (.int .u8 kind)) 346
  rw[I] at this
  refine this.eq ?_
  rw[W,u]
  congr 1
 rw[I]
 generalize w.alloc (.cells (Tryz.zeroCells346.setIfInBounds 0 (.int .u8 kind)) 346)=w1 at j⊢
 clear hs this W u I
 haveI:=j.i
 have Q:=Kr P 346 2 2 254 body.length 2 _ _ w1 j (by omega) (by omega) (by omega) (by omega) (by simp[zs])
 have T:(UInt8.ofNat kind::zs 255).take 2++Bu body.length 2++(UInt8.ofNat kind::zs 255).drop (2+2)=UInt8.ofNat kind::0::(Bu body.length 2++zs 252):=by simp[zs,List.replicate]
 rw[T] at Q
 clear T
 go_wp2_with fail
 refine Q.mono ?_
 rintro e w2 ⟨rfl,p⟩
 clear Q j
 haveI:=p.i
 have R:=Kr P 346 4 4 252 no 4 _ _ w2 p (by omega) (by omega) (by omega) (by omega) (by simp[zs,AE])
 have U:(UInt8.ofNat kind::0::(Bu body.length 2++zs 252)).take 4++Bu no 4++(UInt8.ofNat kind::0::(Bu body.length 2++zs 252)).drop (4+4)=CC no kind body++zs 248:=by
  have L:=AE body.length 2
  obtain ⟨a,b,J⟩: ∃a b,Bu body.length 2= [a,b]:=by
   match h:Bu body.length 2,L with
   | [a,b],_=>exact ⟨a,b,rfl⟩
  unfold CC
  rw[J]
  simp[zs,List.replicate]
 rw[U] at R
 clear U
 go_wp2_with fail
 refine R.mono ?_
 rintro e H ⟨rfl,M⟩
 clear R p
 haveI:=M.i
 have d:(CC no kind body).length=8:=Iq no kind body
 obtain ⟨w4,r1,k⟩:=Jv E 26 3 (g:=P) (lo:=12) (n:=244) (c:=244) (x:= .slice va body.length vc) (l:=body) (w:=H) (Af (w:=H) (Sl.block P 346 (A1 (CC no kind body++zs 248)))) (V _ H (Af (w:=H) B)) hl (by rw[Cr,List.length_append,d,Z'];omega)
 have D:(A1 (CC no kind body++zs 248)).take 12++A1 body++(A1 (CC no kind body++zs 248)).drop (12+body.length)=A1 (CC no kind body++(zs 4++Dl body)):=by
  rw[←N1,←Nz,←BH,←BH]
  congr 1
  have Z:(CC no kind body++zs 248).take 12=CC no kind body++zs 4:=by
   rw[List.take_append,d,List.take_of_length_le (by omega)]
   simp[zs]
  have a2:(CC no kind body++zs 248).drop (12+body.length)=zs (244-body.length):=by
   rw[List.drop_append,d,List.drop_of_length_le (by omega),List.nil_append]
   unfold zs
   rw[List.drop_replicate]
   congr 1
   omega
  rw[Z,a2]
  unfold Dl
  simp
 rw[D] at k
 clear D
 obtain ⟨head,o⟩:=Aq (CC no kind body)
 obtain ⟨tail,m⟩:=Aq (Dl body)
 have z:tail.length=244:=by rw[←m];exact Kv hl
 rw[o] at k d
 rw[m] at k
 have y:(head++(zs 4++tail)).length=256:=by rw[List.length_append,List.length_append,d,z,Z']
 have s:Reads (Sl.block P 346 (A1 (head++(zs 4++tail)))) (.slice (some ⟨P,0,none⟩) 8 256) head:=by
  have:=TW (b:=P) (e:=346) (lo:=0) (n:=8) (c:=256) (l:=head++(zs 4++tail)) (by omega) (by rw[y];unfold maxLen;omega) (by omega) (by omega)
  rwa [List.drop_zero,List.take_append_of_le_length (by omega),List.take_of_length_le (by omega)] at this
 have t:Reads (Sl.block P 346 (A1 (head++(zs 4++tail)))) (.slice (some ⟨P,12,none⟩) 244 244) tail:=by
  have:=TW (b:=P) (e:=346) (lo:=12) (n:=244) (c:=244) (l:=head++(zs 4++tail)) (by omega) (by rw[y];unfold maxLen;omega) (by omega) (by omega)
  have e:(head++(zs 4++tail)).drop 12=tail:=by rw[List.drop_append,List.drop_of_length_le (by omega),d,List.drop_append,List.drop_of_length_le (by simp[zs])];simp[zs]
  rw[e,List.take_of_length_le (by omega)] at this
  exact this
 have K:Pq (head++tail)<4294967296:=NH _
 obtain ⟨r,f⟩:=Aq (Pq (head++tail))
 rw[f] at K
 have X:Aside (∀g e G w,Sat (Sl.block g e [.slice (some ⟨P,0,none⟩) 8 256,.slice (some ⟨P,12,none⟩) 244 244]*(Sl.block P 346 (A1 (head++(zs 4++tail)))*G)) w→Calls Tryz.prog 183 #[.slice (some ⟨g,0,none⟩) 2 2] w fun e q=>e= .returned (.int .u32 r)∧w=q):=(fun g e G w h=>(PC _ [head,tail] w (ZD s t h)).mono fun e q h=>by
  have D: [head,tail].flatten=head++tail:=by simp
  rw[D,f] at h
  exact h: ∀g e G w,_)
 have Y:Aside (∀G w,Sat (Sl.block P 346 (A1 (head++(zs 4++tail)))*G) w→Calls Tryz.prog 234 #[.slice (some ⟨P,8,none⟩) 4 248,.int .i64 r,.int .i64 4] w fun e q=>e= .returned (.tuple #[])∧Sat (Sl.block P 346 (A1 (AU no kind body))*G) q):=(fun G w h=>(Kr P 346 8 4 248 r 4 _ G w h (by omega) (by omega) (by omega) (by omega) (by omega)).mono fun e q h=>by
  have e4:(head++(zs 4++tail)).take 8++Bu r 4++(head++(zs 4++tail)).drop (8+4)=AU no kind body:=by
   rw[List.take_append_of_le_length (by omega),List.take_of_length_le (by omega),List.drop_append,List.drop_of_length_le (by omega),d,List.drop_append,List.drop_of_length_le (by simp[zs])]
   unfold AU
   rw[o,m,f]
   simp[zs]
  rw[e4] at h
  exact h: ∀G w,_)
 clear o m s t f
 haveI:=k.i
 have hw1:IntKind.i64.wrap (r:Int)=r:=IntWalk.i64_in _ (by omega)
 go_upto_region 10 with (fail)
 go_region_law first
  |(go_simp;go_at_call 183;refine Calls.mono (X.out _ 26 _ _ (AP _ _)) ?_;rintro e w5 ⟨rfl,rfl⟩)
  |(go_simp;go_at_call 234;refine Calls.mono (Y.out _ _ (by exact Af _)) ?_;rintro e w6 ⟨rfl,O⟩;haveI:=O.i)
 all_goals
  go_wp2
  go_ret2
  exact ⟨P,rfl,AD _ B F⟩
