/- treeFails holds for every input. No condition. (part 27) -/
import Derived.Test.YtfhbmblbidcmmaaGreatYa25
import Derived.Test.YtfhbmblbidcmmaaGreatYa26
set_option linter.all false
set_option maxRecDepth 100000
set_option maxHeartbeats 3200000
namespace Go.Tr
theorem Qc(no:Int)(b:List UInt8):(BM no b).2.1.length≤b.length:=by
 unfold BM
 split
 ·simp
 split
 ·simp
 split
 ·simp
 simp only
 split
 ·simp
 split
 ·simp
 simp only[List.length_take,List.length_drop]
 omega
theorem Ta{a:Int}{b:List UInt8}(h:(Fy a b).2=0):may (Fy a b).1=true:=by
 cases b with
 |nil=>simp[Fy] at h
 | cons b rest =>
  unfold Fy at h⊢
  simp only at h⊢
  by_cases d:a≠1∧a≠2
  ·rw[if_pos d] at h;simp at h
  rw[if_neg d] at h⊢
  by_cases e:rest.length≠b.toNat*(if a=1 then 13 else 16)
  ·rw[if_pos e] at h;simp at h
  rw[if_neg e] at h⊢
  generalize (if a=1 then (⟨true,IY b.toNat rest,[]⟩:Nd) else ⟨false,[],IZ b.toNat rest⟩)=n at h⊢
  by_cases c:may n=true
  ·rw[if_pos c];exact c
  rw[if_neg c] at h;simp at h
end Go.Tr
namespace Go.Proofs.YtfhbmblbidcmmaaGreat
open Go.RowKit Go.Sl Go.Dk Go.Tr
theorem Nw{no:Int}{b:List UInt8}{n:Nd}(h:CV no b=some n):may n=true:=by
 unfold CV at h
 split at h
 ·split at h
  ·rename_i a
   cases h
   exact Ta a
  cases h
 cases h
theorem XY.more{N M:Nat}{s:Ck}(h:XY N s)(k:N≤M):XY M s:=by
 obtain ⟨b,c,d,e,a⟩:=h
 exact ⟨by omega,by omega,by omega,by omega,a⟩
theorem Ts(s:Ck)(no:Int):(s.release no).2.nm=s.nm:=by
 unfold Ck.release
 split<;>exact (BT s no).1
theorem YS(s:Ck):s.room.2.nm=s.nm:=by
 unfold Ck.room
 split
 ·rfl
 split
 ·rfl
 exact Ts s _
theorem U7(s:Ck)(no:Int)(b:List UInt8):(s.take no b).2.nm=s.nm:=by
 unfold Ck.take
 split<;>exact YS s
theorem Z4(s:Ck)(no:Int):(s.get no).2.2.nm=s.nm:=by
 unfold Ck.get
 split
 ·rfl
 split
 ·rfl
 simp only
 split
 ·split<;>exact U7 s _ _
 rfl
theorem ZF(s:Ck)(no:Int)(b:List UInt8):(s.put no b).2.nm=s.nm:=by
 unfold Ck.put
 split
 ·rfl
 split
 ·rfl
 split<;>exact U7 s _ _
theorem Yz{m:Nat}{s:Ck}(ok:Bi m s)(no:Int):(s.get no).2.1.length≤256:=by
 unfold Ck.get
 split
 ·simp
 split
 ·exact IA ok no
 simp only
 split
 ·rename_i h
  split
  ·have a:(s.d.read s.nm (no*256) ((256:Nat):Int)).1=0:=h
   show (s.d.read s.nm (no*256) ((256:Nat):Int)).2.length≤256
   rw[NG a]
   omega
  simp
 simp
theorem Gt.get{s:TS}(h:Gt s)(no:Int)(a:s.ops<Bu):Gt ⟨(s.ck.get no).2.2,s.sp,s.ops+2⟩:=by
 obtain ⟨m,hm⟩:=h.ck
 exact ⟨⟨_,Z5 hm no⟩,((h.num.step (Z4 s.ck no) (ML hm no).1 (ML hm no).2).more (by show s.ops+1≤s.ops+2;omega)),by show s.ops+2≤_;omega,h.res,by have:=h.taken;show _≤s.ops+2;simp only;omega⟩
theorem Gt.put{s:TS}(h:Gt s)(no:Int)(b:List UInt8)(a:s.ops≤Bu):Gt ⟨(s.ck.put no b).2,s.sp,s.ops+1⟩:=by
 obtain ⟨m,hm⟩:=h.ck
 exact ⟨⟨_,LC hm no b⟩,h.num.step (ZF s.ck no b) (Qg hm no b).1 (by have:=(Qg hm no b).2;show (s.ck.put no b).2.reads≤_;omega),by show s.ops+1≤_;omega,h.res,by have:=h.taken;show _≤s.ops+1;simp only;omega⟩
theorem Gt.take{s:TS}(h:Gt s)(b:s.ops<Bu):Gt ⟨s.ck,s.sp.take.2,s.ops+1⟩:=by
 have a:s.sp.take.2.A5=s.sp.A5∧s.sp.take.2.taken.length≤s.sp.taken.length+1:=by
  unfold Sp.take
  split<;>simp
 exact ⟨h.ck,h.num.more (by show _≤s.ops+1;omega),by show s.ops+1≤_;omega,by simp only;rw[a.1];exact h.res,by have:=h.taken;show _≤s.ops+1;simp only;omega⟩
theorem FZ{no:Int}{s:TS}(a:s.ops<Bu):Ah no s=
 if (s.ck.get no).1=0 then (match CV no (s.ck.get no).2.1 with|some n=> .ok n ⟨(s.ck.get no).2.2,s.sp,s.ops+2⟩|none=> .fault 13 ⟨(s.ck.get no).2.2,s.sp,s.ops+2⟩)
 else .fault (if (s.ck.get no).1=6∨(s.ck.get no).1=1 then 13 else (s.ck.get no).1) ⟨(s.ck.get no).2.2,s.sp,s.ops+2⟩:=by
 unfold Ah M.bind Mo
 rw[if_pos a]
 simp only[DR.bind]
 by_cases h:(s.ck.get no).1=0
 ·rw[if_pos h,h]
  simp only[show¬((0:Int)=6∨(0:Int)=1) by omega,if_false]
  unfold DQ
  rw[if_pos rfl]
  simp only[M.pure]
  cases CV no (s.ck.get no).2.1<;>rfl
 rw[if_neg h]
 unfold DQ
 rw[if_neg (by split<;>omega)]
 rfl
theorem Ek{h:Th}{s:TS}{F:Ac}{w:World}(hs:Sat (Ad h s*F) w):Gt s∧Sat (AD h.C h.D s.ck*(BA h.S s.sp*(Sl.block h.t St [.pointer (some ⟨h.C,0,none⟩),.pointer (some ⟨h.S,0,none⟩)]*F))) w:=by
 obtain ⟨hi,a⟩:=Sat.LM hs
 exact ⟨hi,a.eq (by unfold NT;ac_rfl)⟩
theorem CM{h:Th}{s:TS}{F:Ac}{w:World}(hi:Gt s)(hs:Sat (AD h.C h.D s.ck*(BA h.S s.sp*(Sl.block h.t St [.pointer (some ⟨h.C,0,none⟩),.pointer (some ⟨h.S,0,none⟩)]*F))) w):Sat (Ad h s*F) w:=
 Sat.VL hi (hs.eq (by unfold NT;ac_rfl))
theorem C7(h:Th)(s:TS)(no:Int)(F:Ac)(w:World)(hs:Sat (Ad h s*F) w)(hb:Ah no s≠ .bad):
 Calls Tryz.prog 129 #[.pointer (some ⟨h.t,0,none⟩),.int .i64 no] w (D4 h F (Ah no s) fun n v B=>AN B v n∧may n=true):=by
 have ho:s.ops<Bu:=by
  rcases Nat.lt_or_ge s.ops Bu with h|h
  · exact h
  refine absurd ?_ hb
  unfold Ah M.bind Mo
  rw[if_neg (by omega)]
  rfl
 obtain ⟨hi,y⟩:=Ek hs
 have a:=fun F w q=>Yy h.C h.D s.ck 137438953472 no F w q hi.ok (by omega)
 have l:=Yz hi.ok no
 have Z:Aside (Gt ⟨(s.ck.get no).2.2,s.sp,s.ops+2⟩):=hi.get no ho
 rw[FZ ho]
 obtain ⟨⟨U,b,k2⟩,hr⟩: ∃r,s.ck.get no=r:=⟨_,rfl⟩
 rw[hr] at a l Z⊢
 simp only at l Z⊢
 obtain ⟨t2,Q⟩: ∃t,(⟨k2,s.sp,s.ops+2⟩:TS)=t:=⟨_,rfl⟩
 have hk:t2.ck=k2∧t2.sp=s.sp:=by rw[←Q];exact ⟨rfl,rfl⟩
 rw[Q] at Z⊢
 have T:Aside (∀(G:Ac)(w:World),Sat (AD h.C h.D k2*(BA h.S s.sp*(Sl.block h.t St [.pointer (some ⟨h.C,0,none⟩),.pointer (some ⟨h.S,0,none⟩)]*G))) w→Sat (Ad h t2*G) w):=fun G w u=>CM Z.out (by rw[hk.1,hk.2];exact u)
 haveI:=y.i
 clear hb hr Q hk hi ho hs
 by_cases h6:U=6
 · subst h6
   rw[if_neg (by omega),if_pos (by omega)]
   have k:=Iv 13 (by omega)
   go_enter Tryz.func129,Tryz.ntmps129
   go_wp2_with fail
   refine (a _ _ (Ae (AD h.C h.D s.ck))).mono ?_
   rintro e X ⟨v,rfl,j⟩
   haveI:=j.i
   clear a y
   go_wp2_with fail
   refine (k _).mono ?_
   rintro e Y ⟨rfl,rfl⟩
   refine ⟨rfl,?_⟩
   exact ⟨rfl,T.out _ _ (Dv _ _ _ _)⟩
 have g6:(U==6)=false:=by simp[h6]
 by_cases h1:U=1
 · subst h1
   rw[if_neg (by omega),if_pos (by omega)]
   have k:=Iv 13 (by omega)
   go_enter Tryz.func129,Tryz.ntmps129
   go_wp2_with fail
   refine (a _ _ (Ae (AD h.C h.D s.ck))).mono ?_
   rintro e X ⟨v,rfl,j⟩
   haveI:=j.i
   clear a y
   go_wp2_with fail
   refine (k _).mono ?_
   rintro e Y ⟨rfl,rfl⟩
   refine ⟨rfl,?_⟩
   exact ⟨rfl,T.out _ _ (Dv _ _ _ _)⟩
 have g1:(U==1)=false:=by simp[h1]
 by_cases h0:U=0
 · subst h0
   rw[if_pos rfl]
   have k:=OA
   have f:=fun v F w (q:Sat (rw TB 1 v (A4 b)*F) w)=>Qb no v b _ F w Reads.rw q (by omega)
   have P:=Qc no b
   have d: ∀r,CV no b=r→r=(if (BM no b).2.2=0 then (if (Fy (BM no b).1 (BM no b).2.1).2=0 then some (Fy (BM no b).1 (BM no b).2.1).1 else none) else none):=fun r h=>by rw[←h];rfl
   have L:=fun n=>Nw (no:=no) (b:=b) (n:=n)
   obtain ⟨on,O⟩: ∃r,CV no b=r:=⟨_,rfl⟩
   have d:=d on O
   rw[O] at L⊢
   have a6:Aside (∀n,on=some n→may n=true):=fun n h=>L n h
   obtain ⟨⟨g,c,pe⟩,hp⟩: ∃r,BM no b=r:=⟨_,rfl⟩
   rw[hp] at f d P
   simp only at f d P
   have K:c.length≤1099511627776:=by omega
   clear L O hp P l h6 h1 g6 g1
   by_cases p:pe=0
   · subst p
     rw[if_pos rfl] at d
     have m:=fun v F w (q:Sat (rw TB 1 v (A4 c)*F) w)=>SZ g c v _ F w Reads.rw q K
     obtain ⟨⟨nd,ne⟩,hn⟩: ∃r,Fy g c=r:=⟨_,rfl⟩
     rw[hn] at m d
     simp only at d
     clear hn K
     by_cases o:ne=0
     ·subst o
      rw[if_pos rfl] at d
      subst d
      have x:Aside (∀(v:Value)(F:Ac)(w:World),Sat (rw TB 1 v (A4 c)*F) w→Calls Tryz.prog 160 #[.int .i64 g,v] w (M7 (rw TB 1 v (A4 c)) F (nd,0))):=m
      clear m
      go_enter Tryz.func129,Tryz.ntmps129
      go_wp2_with fail
      refine (a _ _ (Ae (AD h.C h.D s.ck))).mono ?_
      rintro e X ⟨v,rfl,j⟩
      haveI:=j.i
      clear a y
      go_wp2_with fail
      refine (k _).mono ?_
      rintro e Y ⟨rfl,rfl⟩
      go_wp2_with fail
      refine (f v _ _ (Ae (rw TB 1 v (A4 b)))).mono ?_
      rintro e w3 ⟨a3,c3,rfl,R⟩
      haveI:=R.i
      clear f j k
      go_wp2_with fail
      refine (x.out _ _ _ (Ae (rw TB 1 (.slice a3 c.length c3) (A4 c)))).mono ?_
      rintro e w4 ⟨v',G,rfl,u,q4⟩
      haveI:=q4.i
      clear R
      obtain ⟨vE,vK,rfl,V,W⟩:=id u
      obtain ⟨aE,cE,rfl,z,H⟩:=V.v
      obtain ⟨aK,cK,rfl,I,J⟩:=W.v
      have HG:Aside (AN G (.agg #[.bool nd.leaf,.slice aE nd.Ao.length cE,.slice aK nd.kids.length cK]) nd):=u
      clear V W u z H I J
      go_wp2
      go_returns
      exact ⟨_,G,rfl,⟨HG.out,a6.out nd rfl⟩,T.out _ _ (BL _ _ _ _ _)⟩
     have an:(ne==0)=false:=by simp[o]
     rw[if_neg o] at d
     subst d
     have x:Aside (∀(v:Value)(F:Ac)(w:World),Sat (rw TB 1 v (A4 c)*F) w→Calls Tryz.prog 160 #[.int .i64 g,v] w (M7 (rw TB 1 v (A4 c)) F (nd,ne))):=m
     clear m o
     go_enter Tryz.func129,Tryz.ntmps129
     go_wp2_with fail
     refine (a _ _ (Ae (AD h.C h.D s.ck))).mono ?_
     rintro e X ⟨v,rfl,j⟩
     haveI:=j.i
     clear a y
     go_wp2_with fail
     refine (k _).mono ?_
     rintro e Y ⟨rfl,rfl⟩
     go_wp2_with fail
     refine (f v _ _ (Ae (rw TB 1 v (A4 b)))).mono ?_
     rintro e w3 ⟨a3,c3,rfl,R⟩
     haveI:=R.i
     clear f j k
     go_wp2_with fail
     refine (x.out _ _ _ (Ae (rw TB 1 (.slice a3 c.length c3) (A4 c)))).mono ?_
     rintro e w4 ⟨v',G,rfl,u,q4⟩
     haveI:=q4.i
     clear R
     obtain ⟨vE,vK,rfl,V,W⟩:=id u
     obtain ⟨aE,cE,rfl,z,H⟩:=V.v
     obtain ⟨aK,cK,rfl,I,J⟩:=W.v
     clear V W u z H I J
     go_wp2
     refine ⟨rfl,?_⟩
     exact ⟨rfl,T.out _ _ (Dv _ _ _ _)⟩
   have ao:(pe==0)=false:=by simp[p]
   rw[if_neg p] at d
   subst d
   clear K p
   go_enter Tryz.func129,Tryz.ntmps129
   go_wp2_with fail
   refine (a _ _ (Ae (AD h.C h.D s.ck))).mono ?_
   rintro e X ⟨v,rfl,j⟩
   haveI:=j.i
   clear a y
   go_wp2_with fail
   refine (k _).mono ?_
   rintro e Y ⟨rfl,rfl⟩
   go_wp2_with fail
   refine (f v _ _ (Ae (rw TB 1 v (A4 b)))).mono ?_
   rintro e w3 ⟨a3,c3,rfl,R⟩
   haveI:=R.i
   clear f j k
   go_wp2
   refine ⟨rfl,?_⟩
   exact ⟨rfl,T.out _ _ (Dv _ _ _ _)⟩
 rw[if_neg h0,if_neg (by omega)]
 have k:=Iv U h0
 clear h6 h1 h0
 go_enter Tryz.func129,Tryz.ntmps129
 go_wp2_with fail
 refine (a _ _ (Ae (AD h.C h.D s.ck))).mono ?_
 rintro e X ⟨v,rfl,j⟩
 haveI:=j.i
 clear a y
 go_wp2_with fail
 refine (k _).mono ?_
 rintro e Y ⟨rfl,rfl⟩
 refine ⟨rfl,?_⟩
 exact ⟨rfl,T.out _ _ (Dv _ _ _ _)⟩
end Go.Proofs.YtfhbmblbidcmmaaGreat
namespace Go.Sl
theorem IM{P:Program}{t e bytes:Nat}{i:TypeInfo}{z:Value}(E:CF P t e 1 bytes i z)(u v:TypeId)
 {g e' n c lo:Nat} {xs:List Value} {x:Value} {l:List UInt8} {F:Ac} {w:World} (hs:Sat (Sl.block g e' xs*F) w) (hx:Oc w x l) (y:l.length≤n) (B:lo+n≤xs.length):
 ∃f,(Builtin.copy_ #[t,u] v #[.slice (some ⟨g,lo,none⟩) n c,x]).run P w= .ok (.int .i64 l.length) f∧Sat (Sl.block g e' (xs.take lo++A4 l++xs.drop (lo+l.length))*F) f:=by
 have q:=hx.src (P:=P)
 have p:(Builtin.lenOf x).run P w= .ok l.length w:=by simpa[World.drewN] using q.len 0
 have o:(Builtin.firstCells 1 l.length x).run P w= .ok (A4 l).toArray w:=by simpa[World.drewN] using q.cells 0
 have m:(sizeOf e).run P w= .ok 1 w:=by simp[sizeOf,typeInfo,E.info,E.size]
 have b:Nat.min l.length n=l.length:=Nat.min_eq_left (by omega)
 have a:xs=xs.take lo++((xs.drop lo).take l.length++xs.drop (lo+l.length)):=by
  rw[←List.drop_drop,List.take_append_drop,List.take_append_drop]
 have k:Sat (Sl.cells g (lo+0) ((xs.drop lo).take l.length)*(Dl g e' xs.length*(Sl.cells g 0 (xs.take lo)*(Sl.cells g (lo+l.length) (xs.drop (lo+l.length))*F)))) w:=by
  refine hs.eq ?_
  unfold Sl.block
  conv=>lhs;arg 1;arg 2;rw[a]
  rw[BV,BV]
  have j:(xs.take lo).length=lo:=by simp;omega
  have d:((xs.drop lo).take l.length).length=l.length:=by simp;omega
  rw[j,d]
  simp only[Nat.zero_add,Nat.add_zero]
  ac_rfl
 obtain ⟨f,r1,s⟩:=D7 (P:=P) (A4 l) ((xs.drop lo).take l.length) 0 _ w k (by rw[Cj];simp;omega) (PI l)
 refine ⟨f,?_,?_⟩
 · unfold Builtin.copy_
   simp[underlying,E.NV,m,p,b,o,r1,goInt]
 refine s.eq ?_
 unfold Sl.block
 have j:(xs.take lo++A4 l++xs.drop (lo+l.length)).length=xs.length:=by simp only[List.length_append,List.length_take,List.length_drop,Cj];omega
 rw[j,BV,BV]
 have d:(xs.take lo).length=lo:=by simp;omega
 have r:(xs.take lo++A4 l).length=lo+l.length:=by rw[List.length_append,d,Cj]
 rw[d,r]
 simp only[Nat.zero_add,Nat.add_zero]
 ac_rfl
end Go.Sl
namespace Go.Proofs.YtfhbmblbidcmmaaGreat
open Go.RowKit Go.Sl Go.Dk Go.Tr
theorem Tf(g e' lo n c m a:Nat)(xs:List Value)(F:Ac)(w:World)(hs:Sat (Sl.block g e' xs*F) w)(p:1≤a)(r:a≤4)(hm:m<256^a)(s:a≤n)(q:lo+n≤xs.length):
 Calls Tryz.prog 234 #[.slice (some ⟨g,lo,none⟩) n c,.int .i64 m,.int .i64 a] w fun e t=>e= .returned (.tuple #[])∧Sat (Sl.block g e' (xs.take lo++A4 (BF m a)++xs.drop (lo+a))*F) t:=by
 obtain ⟨i0,E⟩:=Ez
 have k:=LW m a _ w hs p (by omega) hm (by have:(256:Nat)^a≤256^4:=Nat.pow_le_pow_right (by omega) r;omega)
 have hl:(BF m a).length=a:=AB _ _
 go_enter Tryz.func234,Tryz.ntmps234
 go_wp2_with fail
 refine k.mono ?_
 rintro e d ⟨f,j,rfl,o⟩
 haveI:=o.i
 obtain ⟨u,r1,b⟩:=IM E 26 3 (c:=c) (w:=d) (Ae (w:=d) (Sl.block g e' xs)) (Reads.rw (e:=TB) (v:= .slice f a j) (l:=BF m a) _ d (Ae (w:=d) (rw TB 1 (.slice f a j) (A4 (BF m a))))) (by omega) q
 rw[hl] at r1 b
 go_wp2
 go_end0
 exact ⟨rfl,Sat.CR (B:=rw TB 1 (.slice f a j) (A4 (BF m a))) (b.eq (by ac_rfl))⟩
theorem JT(g e' lo n c m a:Nat)(l:List UInt8)(F:Ac)(w:World)(hs:Sat (Sl.block g e' (A4 l)*F) w)(f:1≤a)(j:a≤4)(hm:m<256^a)(b:a≤n)(i:lo+n≤l.length):
 Calls Tryz.prog 234 #[.slice (some ⟨g,lo,none⟩) n c,.int .i64 m,.int .i64 a] w fun e d=>e= .returned (.tuple #[])∧Sat (Sl.block g e' (A4 (l.take lo++BF m a++l.drop (lo+a)))*F) d:=by
 refine (Tf g e' lo n c m a (A4 l) F w hs f j hm b (by rw[Cj];exact i)).mono ?_
 rintro e d ⟨rfl,h⟩
 rw[←Ks,←ME,←Di,←Di] at h
 exact ⟨rfl,h⟩
theorem RI{b e lo n c:Nat}{l:List UInt8}(h:lo+n≤l.length)(hm:l.length≤maxLen)(d:c=l.length-lo)(f:lo<l.length):Reads (Sl.block b e (A4 l)) (.slice (some ⟨b,lo,none⟩) n c) ((l.drop lo).take n):=by
 intro F w hs
 have:=(Reads.MC (b:=b) (e:=e) hm F w hs).cut lo (lo+n) (by omega) h
 rw[show lo+n-lo=n by omega] at this
 have a:BP (some ⟨b,0,none⟩) l.length lo 1=some ⟨b,lo,none⟩:=by
  have:l.length≠lo:=by omega
  simp[BP,this,Addr.add]
  omega
 rw[a] at this
 rw[d]
 exact this
theorem Rx(no f:Nat)(d:List UInt8)(v:Value)(B F:Ac)(w:World)(X:Reads B v d)(hs:Sat (B*F) w)(h1:no<1048576)(h2:1≤f)(h3:f≤9)(hl:d.length≤244):
 Calls Tryz.prog 194 #[.int .i64 no,.int .i64 f,v] w fun e s=> ∃g,e= .returned (.tuple #[.slice (some ⟨g,0,none⟩) 256 256,.int .i64 0])∧Sat (Sl.block g 346 (A4 (AF no f d))*(B*F)) s:=by
 obtain ⟨i0,E⟩:=Ez
 obtain ⟨va,vc,rfl,a6,a7⟩:=(X F w hs).len
 haveI:=hs.i
 have g1: ¬(no:Int)<0:=by omega
 have g2: ¬(1048576:Int)≤no:=by omega
 have g3: ¬(f:Int)<1:=by omega
 have g4: ¬(9:Int)<f:=by omega
 have g5: ¬(244:Int)<d.length:=by omega
 go_enter Tryz.func194,Tryz.ntmps194
 go_upto_region 7 with (fail)
 obtain ⟨P,K⟩: ∃P,w.heap.size=P:=⟨_,rfl⟩
 have Y:Tryz.zeroCells346=(A4 (zs 256)).toArray:=by kernel_rfl
 have z:(Value.int .u8 (f:Int))=bv (UInt8.ofNat f):=by unfold bv;rw[show (UInt8.ofNat f).toNat=f by simp[UInt8.toNat_ofNat'];omega]
 have m:Sat (Sl.block P 346 (A4 (UInt8.ofNat f::zs 255))*(B*F)) (w.alloc (.cells (Tryz.zeroCells346.setIfInBounds 0 (.int .u8 f)) 346)):=by
  have:=hs.alloc (Tryz.zeroCells346.setIfInBounds 0 (.int .u8 f)) 346
  rw[K] at this
  refine this.eq ?_
  rw[Y,z]
  congr 1
 rw[K]
 generalize w.alloc (.cells (Tryz.zeroCells346.setIfInBounds 0 (.int .u8 f)) 346)=w1 at m⊢
 clear hs this Y z K
 haveI:=m.i
 have T:=JT P 346 2 2 254 d.length 2 _ _ w1 m (by omega) (by omega) (by omega) (by omega) (by simp[zs])
 have V:(UInt8.ofNat f::zs 255).take 2++BF d.length 2++(UInt8.ofNat f::zs 255).drop (2+2)=UInt8.ofNat f::0::(BF d.length 2++zs 252):=by simp[zs,List.replicate]
 rw[V] at T
 clear V
 go_wp2_with fail
 refine T.mono ?_
 rintro e w2 ⟨rfl,r⟩
 clear T m
 haveI:=r.i
 have U:=JT P 346 4 4 252 no 4 _ _ w2 r (by omega) (by omega) (by omega) (by omega) (by simp[zs,AB])
 have W:(UInt8.ofNat f::0::(BF d.length 2++zs 252)).take 4++BF no 4++(UInt8.ofNat f::0::(BF d.length 2++zs 252)).drop (4+4)=Dp no f d++zs 248:=by
  have O:=AB d.length 2
  obtain ⟨a,b,L⟩: ∃a b,BF d.length 2= [a,b]:=by
   match h:BF d.length 2,O with
   | [a,b],_=>exact ⟨a,b,rfl⟩
  unfold Dp
  rw[L]
  simp[zs,List.replicate]
 rw[W] at U
 clear W
 go_wp2_with fail
 refine U.mono ?_
 rintro e J ⟨rfl,Q⟩
 clear U r
 haveI:=Q.i
 have j:(Dp no f d).length=8:=JW no f d
 obtain ⟨w4,r1,o⟩:=IM E 26 3 (g:=P) (lo:=12) (n:=244) (c:=244) (x:= .slice va d.length vc) (l:=d) (w:=J) (Ae (w:=J) (Sl.block P 346 (A4 (Dp no f d++zs 248)))) (X _ J (Ae (w:=J) B)) hl (by rw[Cj,List.length_append,j,XX];omega)
 have I:(A4 (Dp no f d++zs 248)).take 12++A4 d++(A4 (Dp no f d++zs 248)).drop (12+d.length)=A4 (Dp no f d++(zs 4++EW d)):=by
  rw[←Ks,←ME,←Di,←Di]
  congr 1
  have a1:(Dp no f d++zs 248).take 12=Dp no f d++zs 4:=by
   rw[List.take_append,j,List.take_of_length_le (by omega)]
   simp[zs]
  have a2:(Dp no f d++zs 248).drop (12+d.length)=zs (244-d.length):=by
   rw[List.drop_append,j,List.drop_of_length_le (by omega),List.nil_append]
   unfold zs
   rw[List.drop_replicate]
   congr 1
   omega
  rw[a1,a2]
  unfold EW
  simp
 rw[I] at o
 clear I
 obtain ⟨head,q⟩: ∃x,Dp no f d=x:=⟨_,rfl⟩
 obtain ⟨tail,p⟩: ∃x,EW d=x:=⟨_,rfl⟩
 have H:tail.length=244:=by rw[←p];exact N3 hl
 rw[q] at o j
 rw[p] at o
 have D:(head++(zs 4++tail)).length=256:=by rw[List.length_append,List.length_append,j,H,XX]
 have u:Reads (Sl.block P 346 (A4 (head++(zs 4++tail)))) (.slice (some ⟨P,0,none⟩) 8 256) head:=by
  have:=RI (b:=P) (e:=346) (lo:=0) (n:=8) (c:=256) (l:=head++(zs 4++tail)) (by omega) (by rw[D];unfold maxLen;omega) (by omega) (by omega)
  rwa [List.drop_zero,List.take_append_of_le_length (by omega),List.take_of_length_le (by omega)] at this
 have y:Reads (Sl.block P 346 (A4 (head++(zs 4++tail)))) (.slice (some ⟨P,12,none⟩) 244 244) tail:=by
  have:=RI (b:=P) (e:=346) (lo:=12) (n:=244) (c:=244) (l:=head++(zs 4++tail)) (by omega) (by rw[D];unfold maxLen;omega) (by omega) (by omega)
  have e:(head++(zs 4++tail)).drop 12=tail:=by rw[List.drop_append,List.drop_of_length_le (by omega),j,List.drop_append,List.drop_of_length_le (by simp[zs])];simp[zs]
  rw[e,List.take_of_length_le (by omega)] at this
  exact this
 have M:Wp (head++tail)<4294967296:=S7 _
 obtain ⟨t,k⟩: ∃x,Wp (head++tail)=x:=⟨_,rfl⟩
 rw[k] at M
 have Z:Aside (∀g e G w,Sat (Sl.block g e [.slice (some ⟨P,0,none⟩) 8 256,.slice (some ⟨P,12,none⟩) 244 244]*(Sl.block P 346 (A4 (head++(zs 4++tail)))*G)) w→Calls Tryz.prog 183 #[.slice (some ⟨g,0,none⟩) 2 2] w fun e s=>e= .returned (.int .u32 t)∧w=s):=(fun g e G w h=>(O6 _ [head,tail] w (Xo u y h)).mono fun e s h=>by
  have I: [head,tail].flatten=head++tail:=by simp
  rw[I,k] at h
  exact h: ∀g e G w,_)
 have HN:Aside (∀G w,Sat (Sl.block P 346 (A4 (head++(zs 4++tail)))*G) w→Calls Tryz.prog 234 #[.slice (some ⟨P,8,none⟩) 4 248,.int .i64 t,.int .i64 4] w fun e s=>e= .returned (.tuple #[])∧Sat (Sl.block P 346 (A4 (AF no f d))*G) s):=(fun G w h=>(JT P 346 8 4 248 t 4 _ G w h (by omega) (by omega) (by omega) (by omega) (by omega)).mono fun e s h=>by
  have e4:(head++(zs 4++tail)).take 8++BF t 4++(head++(zs 4++tail)).drop (8+4)=AF no f d:=by
   rw[List.take_append_of_le_length (by omega),List.take_of_length_le (by omega),List.drop_append,List.drop_of_length_le (by omega),j,List.drop_append,List.drop_of_length_le (by simp[zs])]
   unfold AF
   rw[q,p,k]
   simp[zs]
  rw[e4] at h
  exact h: ∀G w,_)
 clear q p u y k
 haveI:=o.i
 have a8:IntKind.i64.wrap (t:Int)=t:=IntWalk.i64_in _ (by omega)
 go_upto_region 10 with (fail)
 go_region_law first
  |(go_simp;go_at_call 183;refine Calls.mono (Z.out _ 26 _ _ (AY _ _)) ?_;rintro e w5 ⟨rfl,rfl⟩)
  |(go_simp;go_at_call 234;refine Calls.mono (HN.out _ _ (by exact Ae _)) ?_;rintro e w6 ⟨rfl,R⟩;haveI:=R.i)
 all_goals
  go_wp2
  go_ret2
  exact ⟨P,rfl,AR _ B F⟩
