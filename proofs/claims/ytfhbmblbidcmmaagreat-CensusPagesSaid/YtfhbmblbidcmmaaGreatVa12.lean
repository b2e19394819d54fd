/- censusPages holds for every input. No condition. (part 12) -/
import Derived.Test.YtfhbmblbidcmmaaGreatVa10
import Derived.Test.YtfhbmblbidcmmaaGreatVa11
set_option linter.all false
set_option maxRecDepth 100000
set_option maxHeartbeats 1000000
namespace Go.Proofs.YtfhbmblbidcmmaaGreat
open Go.RowKit Go.Sl Go.Dk
open Go.PW (A8)
attribute [local go_sem] L3 Wq WJ Wa
theorem Vc(C D:Nat)(s:Ck)(m:Nat)(no:Int)(F:Ab)(w:World)(hs:Sat (AU C D s*F) w)(ok:Bn m s)(hm:m≤549755813888)(l:DD s.its no=true):
 Calls Tryz.prog 253 #[.pointer (some ⟨C,0,none⟩),.int .i64 no] w fun e P=>e= .returned (.int .i64 (s.release no).1)∧Sat (AU C D (s.release no).2*F) P:=by
 obtain ⟨L,PM,ps,hp,hs⟩:=Sat.Ch hs
 obtain ⟨b,hb,hl,h0,h1⟩:=ok.key (E2 l)
 have f:=VD C L D PM ps s m no F w hs hp ok hm h0 h1
 have c:=FD ok (E2 l)
 obtain ⟨Q,z,K,B,G⟩:=BW s no
 have g:Aside (s.release no=if (s.write no).1=0 then (0, { (s.write no).2 with its:=if DD (s.write no).2.its no then Gq (s.write no).2.its no else (s.write no).2.its,CS:=Gr no (s.write no).2.CS }) else s.write no):=rfl
 obtain ⟨s1,j⟩:=Aq ((s.write no).2)
 obtain ⟨t,n⟩:=Aq ((s.write no).1)
 have o:s.write no=(t,s1):=by rw[←j,←n]
 rw[o] at f c g
 rw[j,←hp] at B
 rw[j] at G
 have k:DD s1.its no=true:=by
  rcases G with e|e
  · rw[e];exact l
  rw[e,Io];exact l
 simp only at f c g
 rw[if_pos k] at g
 have Ew:=fun F w h=>gY L s1.cap s1.its no F w h c.Mi
 rw[k,if_pos rfl] at Ew
 have r:Aside (BP ps=s1.CS∧BH no s.CS=some b):=⟨B.symm,hb⟩
 have R:=Ek c.Mi
 clear j n o Q z K B G c hs hl l k
 by_cases y:t=0
 · subst y
   rw[if_pos rfl] at g
   rw[g.out]
   clear g
   rcases Hy ps no with ⟨l1,p,l2,rfl,rfl,u⟩|x
   · obtain ⟨_,_,_,I,J⟩:=Hz (l2:=l2) u
     have H:Aside (BP (l1++l2)=Gr p.key s1.CS∧FP p.key ((l1++p::l2).map Ju)=(l1++l2).map Ju):=⟨by rw[←r.out.1];exact I.symm,J⟩
     clear I J hp hb
     go_enter Tryz.func253,Tryz.ntmps253
     go_wp2_with fail
     refine f.mono ?_
     rintro e z ⟨rfl,a⟩
     unfold BF at a
     haveI:=a.i
     have q:=Ek Ew
     clear f Ew
     go_wp2_with fail
     refine D1 (q.out _ _ (Ae (C6 L s1.cap s1.its))) fun K M _=>?_
     clear a
     go_wp2
     go_ret
     refine ⟨rfl,?_⟩
     refine Sat.AW (L:=L) (PM:=PM) (ps:=l1++l2) H.out.1 ?_
     refine A4 (C:=rw TB 1 p.v (A0 p.b)) ?_
     rw[H.out.2,CG,show AX (p::l2)=rw TB 1 p.v (A0 p.b)*AX l2 from rfl]
     show _=coreC C L D PM s1*(C6 L s1.cap (Gq s1.its p.key)*(Bk D s1.d*(mp A8 PM ((l1++l2).map Ju)*AX (l1++l2))))*F*rw TB 1 p.v (A0 p.b)
     rw[CG]
     ac_rfl
   have:=r.out.2
   rw[←hp,(Kb x).1] at this
   cases this
 rw[if_neg y] at g
 rw[g.out]
 clear g
 have O:(t==0)=false:=by simpa using y
 go_enter Tryz.func253,Tryz.ntmps253
 go_wp2_with fail
 refine f.mono ?_
 rintro e z ⟨rfl,a⟩
 go_wp2
 go_ret
 exact ⟨rfl,Sat.AW r.out.1 a⟩
theorem cW(C D:Nat)(s:Ck)(m:Nat)(F:Ab)(w:World)(hs:Sat (AU C D s*F) w)(ok:Bn m s)(hm:m≤549755813888):
 Calls Tryz.prog 229 #[.pointer (some ⟨C,0,none⟩)] w fun e r=>e= .returned (.int .i64 s.room.1)∧Sat (AU C D s.room.2*F) r:=by
 obtain ⟨L,PM,ps,hp,f⟩:=Sat.Ch hs
 have c:ps.length=s.CS.length:=by rw[←hp];simp[BP]
 have d:=ok.len
 have p:=ok.cap
 have l:=ok.most
 unfold BF at f
 by_cases b:(ps.length:Int)<s.cap
 ·have e:s.room=(0,s):=by unfold Ck.room;rw[if_pos (by rw[←c];exact b)]
  rw[e]
  have j:=Ek hp
  haveI:=f.i
  clear e hs hp c d
  go_enter Tryz.func229,Tryz.ntmps229
  go_upto_region 1 with (fail)
  go_region
  all_goals
   go_wp2
   go_ret
   exact ⟨rfl,Sat.AW j.out (Av (by unfold BF;rfl))⟩
 have q:decide ((ps.length:Int)<s.cap)=false:=by simpa using b
 cases g:NR s.its with
 | none =>
  have e:s.room=(9,s):=by unfold Ck.room;rw[if_neg (by rw[←c];exact b),g]
  rw[e]
  have a:=fun F w h=>Yk L s.cap s.its F w h
  rw[g] at a
  have j:=Ek hp
  have k:=Ek a
  haveI:=f.i
  clear e hs hp c d b a g
  go_enter Tryz.func229,Tryz.ntmps229
  go_upto_region 1 with (fail)
  go_region
  all_goals
   go_wp2_with fail
   refine (k.out _ _ (Ae (C6 L s.cap s.its))).mono ?_
   rintro e t ⟨rfl,rfl⟩
   go_wp2
   go_ret
   exact ⟨rfl,Sat.AW j.out (Av (by unfold BF;rfl))⟩
 | some n =>
  have e:s.room=s.release n.key:=by unfold Ck.room;rw[if_neg (by rw[←c];exact b),g]
  rw[e]
  have a:=fun F w h=>Yk L s.cap s.its F w h
  rw[g] at a
  have j:Aside (BP ps=s.CS∧DD s.its n.key=true):=⟨hp,LH g⟩
  have k:=Ek a
  haveI:=f.i
  clear e hs hp c d b a g
  go_enter Tryz.func229,Tryz.ntmps229
  go_upto_region 1 with (fail)
  go_region
  all_goals
   go_wp2_with fail
   refine (k.out _ _ (Ae (C6 L s.cap s.its))).mono ?_
   rintro e t ⟨rfl,rfl⟩
   go_wp2_with fail
   refine (Vc C D s m n.key F _ (Sat.AW j.out.1 (Av (by unfold BF;rfl))) ok hm j.out.2).mono ?_
   rintro e u ⟨rfl,o⟩
   go_wp2
   go_ret
   exact ⟨rfl,o⟩
theorem V0(C D:Nat)(s:Ck)(m:Nat)(no:Int)(v:Value)(b:List UInt8)(B F:Ab)(w:World)(H:Reads B v b)(hs:Sat (AU C D s*(B*F)) w)(ok:Bn m s)(hm:m≤274877906944)(g:Bw s.its no=false)(hb:b.length=256):
 Calls Tryz.prog 181 #[.pointer (some ⟨C,0,none⟩),.int .i64 no,v] w fun e O=>e= .returned (.int .i64 (s.take no b).1)∧Sat (AU C D (s.take no b).2*(B*F)) O:=by
 obtain ⟨va,vc,rfl,M,X⟩:=(H _ _ (hs.take B)).len
 have f:=cW C D s m _ w hs ok (by omega)
 obtain ⟨r1,u,z,Q⟩:=LU ok
 have j:Aside (s.take no b=if s.room.1=0 then (0, { s.room.2 with its:=s.room.2.its++ [⟨no,0,false⟩],CS:=Ed no b s.room.2.CS }) else s.room):=rfl
 obtain ⟨s1,l⟩:=Aq s.room.2
 obtain ⟨G,k⟩:=Aq s.room.1
 have t:s.room=(G,s1):=by rw[←l,←k]
 rw[t] at f j
 simp only at f j
 rw[l] at r1 u z
 rw[k] at u
 clear l k t
 by_cases y:G=0
 ·subst y
  rw[if_pos rfl] at j
  rw[j.out]
  have J:=u rfl
  have c:Bw s1.its no=false:=by
   rw[Bool.eq_false_iff];intro V;rw[z no V] at g;cases g
  have q:(BH no s1.CS).isSome=false:=by rw[←r1.same];exact c
  have x:Aside (Ez s1.its∧Bw s1.its no=false∧(s1.its.length:Int)≠s1.cap∧(BH no s1.CS).isSome=false):=⟨r1.Mi,c,by omega,q⟩
  obtain ⟨i0,E⟩:=D3
  rw[hb] at M H
  rw[hb]
  have R:=Ek hb
  clear j r1 u z Q J c q hs g hb
  go_enter Tryz.func181,Tryz.ntmps181
  go_wp2_with fail
  refine f.mono ?_
  rintro e Z ⟨rfl,a⟩
  obtain ⟨L,PM,ps,hp,a⟩:=Sat.Ch a
  unfold BF at a
  have P:=Ek hp
  haveI:=a.i
  clear f hp
  go_wp2_with fail
  refine D1 (mN L s1.cap s1.its no _ _ (Ae (C6 L s1.cap s1.its)) x.out.1 x.out.2.1 x.out.2.2.1) fun w3 W _=>?_
  clear a
  go_upto_region 5 with (fail)
  go_region_held3 (fun O=>O.cell? ⟨C,4,none⟩=some (.map (some PM))) (first|exact Ac _ _ _) (first
   |(refine A5 E rfl (.tmp 24) (.tmp 25) rfl rfl rfl (LX (b:=w3.heap.size) (e:=TB)) (H.NT R.out) (by unfold maxLen;omega) (by omega) ?_;intro n c4 w4 r K;clear K;simp only[Nat.zero_add,List.nil_append] at r;haveI:=r.i))
  all_goals
   go_wp2
   go_ret
   refine ⟨rfl,?_⟩
   have o: ∀p∈ps,p.key≠no:=by
    rcases Hy ps no with ⟨l1,p,l2,rfl,rfl,I⟩|h
    · have:=x.out.2.2.2
      rw[←P.out,(Hz I).1] at this
      cases this
    exact h
   obtain ⟨_,_,T,U⟩:=Kb o
   refine Sat.AW (L:=L) (PM:=PM) (ps:=ps++ [⟨no,.slice n 256 c4,b⟩]) ?_ ?_
   · show _=Ed no b s1.CS
     rw[←P.out,T];simp[BP]
   refine Av ?_
   rw[U]
   show _=coreC C L D PM s1*(C6 L s1.cap (s1.its++ [⟨no,0,false⟩])*(Bk D s1.d*(mp A8 PM ((ps++ [(⟨no,.slice n 256 c4,b⟩:Pg)]).map Ju)*AX (ps++ [(⟨no,.slice n 256 c4,b⟩:Pg)]))))*(B*F)
   rw[CG,List.map_append,show AX [(⟨no,.slice n 256 c4,b⟩:Pg)]=rw TB 1 (.slice n 256 c4) (A0 b)*1 from rfl,Bm]
   show _=coreC C L D PM s1*(C6 L s1.cap (s1.its++ [⟨no,0,false⟩])*(Bk D s1.d*(mp A8 PM (ps.map Ju++ [(no,.slice n 256 c4)])*_)))*(B*F)
   ac_rfl
 rw[if_neg y] at j
 rw[j.out]
 have Y:(G !=0)=true:=by simpa using y
 clear j r1 u z Q hs g y
 go_enter Tryz.func181,Tryz.ntmps181
 go_wp2_with fail
 refine f.mono ?_
 rintro e Z ⟨rfl,a⟩
 go_wp2
 go_ret
 exact ⟨rfl,a⟩
theorem RC{its:List It}{no:Int}(c:Bw its no=false):Ff its no=its:=by
 unfold Ff Gq
 have h1:its.filter (fun n=>n.key==no)= []:=List.filter_eq_nil_iff.2 fun x hx=>by
  intro a
  have b:Bw its no=true:=Bs.2 (List.mem_map.2 ⟨x,hx,by simpa using a⟩)
  rw[c] at b;cases b
 have a:its.filter (fun n=>n.key !=no)=its:=List.filter_eq_self.2 fun x hx=>by
  simp
  intro a
  have b:Bw its no=true:=Bs.2 (List.mem_map.2 ⟨x,hx,a⟩)
  rw[c] at b;cases b
 rw[h1,a,List.append_nil]
theorem P8{d:Dk}{nm:ByteArray}{k:Int}{n:Nat}(h:(d.read nm k n).1=0):(d.read nm k n).2.length=n:=by
 unfold Dk.read at h⊢
 split at h
 ·rename_i h1;exact absurd h h1
 rename_i h1
 rw[if_neg h1]
 simp only at h⊢
 split at h
 ·cases h
 rename_i a
 rw[if_neg a]
 simp
 omega
def eB(C D:Nat)(F:Ab)(r:Int×List UInt8×Ck)(e:Ending)(a:World):Prop:=
 ∃v,e= .returned (.tuple #[v,.int .i64 r.1])∧Sat (rw TB 1 v (A0 r.2.1)*(AU C D r.2.2*F)) a
theorem eX(C D : Nat)(s : Ck)(m : Nat)(no : Int)(F : Ab)(w : World)(hs : Sat (AU C D s * F) w)(ok : Bn m s)(hm : m ≤ 274877906944) :
 Calls Tryz.prog 157 #[.pointer (some ⟨C,0,none⟩),.int .i64 no] w (eB C D F (s.get no)):=by
 by_cases hr:no<0∨1048576≤no
 ·have e:s.get no=(1,[],s):=by unfold Ck.get;rw[if_pos hr]
  rw[e]
  have a:Sat (rw TB 1 (.slice none 0 0) (A0 [])*(AU C D s*F)) w:=Sat.AE hs
  rcases hr with hr|hr
  · go_enter Tryz.func157,Tryz.ntmps157
    go_wp2
    go_ret2
    exact ⟨_,rfl,a⟩
  have az: ¬no<0:=by omega
  go_enter Tryz.func157,Tryz.ntmps157
  go_wp2
  go_ret2
  exact ⟨_,rfl,a⟩
 have ah:0≤no:=by omega
 have ai:no<1048576:=by omega
 obtain ⟨L,PM,ps,hp,c⟩:=Sat.Ch hs
 unfold BF at c
 have ae:s.nm.size≤9223372036854775807:=I4 ok.nm
 cases z:Bw s.its no with
 | true =>
  have e:s.get no=(0,s.Ap no, { s with its:=Ff s.its no }):=by unfold Ck.get;rw[if_neg hr,if_pos z]
  rw[e]
  obtain ⟨b,hb,V,_,_⟩:=ok.key z
  rcases Hy ps no with ⟨l1,p,l2,rfl,rfl,ad⟩|ag
  · obtain ⟨q1,q2,_⟩:=Hz (l2:=l2) ad
    rw[hp] at q1
    have T:p.b=b:=by rw[q1] at hb;exact Option.some.inj hb
    have Z:s.Ap p.key=p.b:=by unfold Ck.Ap;rw[q1];rfl
    have hR:AX (l1++p::l2)=rw TB 1 p.v (A0 p.b)*(AX l1*AX l2):=by rw[CG];show AX l1*(_*AX l2)=_;ac_rfl
    rw[hR] at c
    obtain ⟨va,vc,G,aj,b0⟩:=GM (c.take (rw TB 1 p.v (A0 p.b)))
    rw[T,V] at G aj
    have u:Aside (BP (l1++p::l2)=s.CS∧s.Ap p.key=p.b∧p.b.length=256∧AX (l1++p::l2)=rw TB 1 p.v (A0 p.b)*(AX l1*AX l2)∧p.v= .slice va 256 vc):=⟨hp,Z,by rw[T];exact V,hR,G⟩
    rw[G] at q2 c
    obtain ⟨ms,W⟩:=Aq ((l1++p::l2).map Ju)
    rw[W] at q2 c
    have a9:Aside ((l1++p::l2).map Ju=ms):=W
    clear W
    have q:=kK L s.cap s.its p.key _ w (c.take (C6 L s.cap s.its)) ok.Mi
    rw[z] at q
    obtain ⟨i0,E⟩:=D3
    haveI:=c.i
    clear e hr hs hp z hb q1 T V Z hR G
    go_enter Tryz.func157,Tryz.ntmps157
    go_wp2_with fail
    refine q.mono ?_
    rintro e w2 ⟨rfl,a⟩
    clear q c
    haveI:=a.i
    go_wp2_with (at_builtin;(refine Af E rfl (.tmp 24) (.tmp 30) rfl rfl rfl (LX (b:=w2.heap.size) (e:=TB)) (Reads.NT (B:=rw TB 1 (.slice va 256 vc) (A0 p.b)) (by have t:=Reads.rw (e:=TB) (v:= .slice va 256 vc) (l:=p.b);exact t) u.out.2.2.1) (by unfold maxLen;omega) (by omega) ?_;intro a4 c4 w4 f af;clear af;simp only[Nat.zero_add,List.nil_append] at f;haveI:=f.i))
    go_ret2
    refine ⟨_,rfl,?_⟩
    obtain ⟨g1,g2,g3,g4,g5⟩:=u.out
    show Sat (rw TB 1 _ (A0 (s.Ap p.key))*_) _
    rw[g2,BE]
    refine Sat.AW (L:=L) (PM:=PM) (ps:=l1++p::l2) g1 (f.eq ?_)
    show _=coreC C L D PM s*(C6 L s.cap (Ff s.its p.key)*(Bk D s.d*(mp A8 PM ((l1++p::l2).map Ju)*AX (l1++p::l2))))*_
    rw[g4,g5,a9.out]
    ac_rfl
  rw[←hp,(Kb ag).1] at hb
  cases hb
 | false =>
  have O:Aside (s.get no=if (s.d.read s.nm (no*256) 256).1=0 then (if (s.take no (s.d.read s.nm (no*256) 256).2).1=0 then (0,(s.d.read s.nm (no*256) 256).2, { (s.take no (s.d.read s.nm (no*256) 256).2).2 with reads:=(s.take no (s.d.read s.nm (no*256) 256).2).2.reads+1 }) else ((s.take no (s.d.read s.nm (no*256) 256).2).1,[],(s.take no (s.d.read s.nm (no*256) 256).2).2)) else (if (s.d.read s.nm (no*256) 256).1=2 then 6 else (s.d.read s.nm (no*256) 256).1,[],s)):=by
   show _=_
   unfold Ck.get;rw[if_neg hr,if_neg (by simp[z])]
  have o:=P8 (d:=s.d) (nm:=s.nm) (k:=no*256) (n:=256)
  obtain ⟨r,H⟩:=Aq (s.d.read s.nm (no*256) 256)
  have a0: ∀F w,Sat (Bk D s.d*F) w→Calls Tryz.prog 49 #[.pointer (some ⟨D,0,none⟩),.string s.nm,.int .i64 (no*256),.int .i64 256] w fun e j=> ∃v,e= .returned (.tuple #[v,.int .i64 r.1])∧Sat (rw TB 1 v (A0 r.2)*(Bk D s.d*F)) j:=by
   intro F w h
   have:=P7 D s.d s.nm (no*256) 256 F w h ae (fun p hp=>(ok.dk.sz p hp).1)
   rw[H] at this
   exact this
  have P:r.1=0→r.2.length=256:=by
   have:((256:Nat):Int)=256:=rfl
   rw[this,H] at o
   exact o
  rw[H] at O
  clear o H
  have q:=kK L s.cap s.its no _ w (c.take (C6 L s.cap s.its)) ok.Mi
  rw[z] at q
  have Q:Ff s.its no=s.its:=RC z
  rw[Q] at q
  have x:Aside (∀F w,Sat (Bk D s.d*F) w→Calls Tryz.prog 49 #[.pointer (some ⟨D,0,none⟩),.string s.nm,.int .i64 (no*256),.int .i64 256] w fun e j=> ∃v,e= .returned (.tuple #[v,.int .i64 r.1])∧Sat (rw TB 1 v (A0 r.2)*(Bk D s.d*F)) j):=a0
  have u:Aside (BP ps=s.CS∧Bw s.its no=false∧(r.1=0→r.2.length=256)):=⟨hp,z,P⟩
  obtain ⟨rc,M⟩:=r
  simp only at O x u
  haveI:=c.i
  clear a0 P z hr hs hp Q
  by_cases t:rc=0
  · subst t
    rw[if_pos rfl] at O
    rw[O.out]
    clear O
    have o:=u.out.2.2 rfl
    have I:=fun(v:Value)(F:Ab)(w:World)(h:Sat (AU C D s*(rw TB 1 v (A0 M)*F)) w)=>V0 C D s m no v M (rw TB 1 v (A0 M)) F w Reads.rw h ok hm u.out.2.1 o
    have J:=Ol ok u.out.2.1 ah ai o
    obtain ⟨⟨tc,ts⟩,a1⟩:=Aq (s.take no M)
    rw[a1] at I J⊢
    simp only at I J⊢
    have X:Aside (∀(v:Value)(F:Ab)(w:World),Sat (AU C D s*(rw TB 1 v (A0 M)*F)) w→Calls Tryz.prog 181 #[.pointer (some ⟨C,0,none⟩),.int .i64 no,v] w fun e j=>e= .returned (.int .i64 tc)∧Sat (AU C D ts*(rw TB 1 v (A0 M)*F)) j):=I
    have y:=J.reads
    have ap:ts.reads≤4611686018427387904:=by unfold U at y;omega
    have aq:=y.1
    clear I a1 J o y
    by_cases t:tc=0
    · subst t
      rw[if_pos rfl]
      go_enter Tryz.func157,Tryz.ntmps157
      go_wp2_with fail
      refine q.mono ?_
      rintro e w2 ⟨rfl,a⟩
      haveI:=a.i
      clear q c
      go_upto_region 5 with (fail)
      have hw1:=Bg (no*256) (by omega)
      go_region_held3 (fun j=>j.cell? ⟨C,1,none⟩=some (.pointer (some ⟨D,0,none⟩))∧j.cell? ⟨C,2,none⟩=some (.string s.nm)) (first|exact ⟨Ac _ _ _,Ac _ _ _⟩) (first
       |(go_at_call 49;refine (x.out _ _ (Ae (Bk D s.d))).mono ?_;rintro e w3 ⟨v,rfl,g⟩;haveI:=g.i))
      clear hw1 a
      all_goals
       go_wp2_with fail
       refine (X.out v F _ (Sat.AW (L:=L) (PM:=PM) (ps:=ps) u.out.1 (Av (by unfold BF;ac_rfl)))).mono ?_
       rintro e w4 ⟨rfl,f⟩
       obtain ⟨L4,R,K,Y,f⟩:=Sat.Ch f
       unfold BF at f
       have aa:Aside (BP K=ts.CS):=Y
       haveI:=f.i
       clear g Y
       go_wp2
       go_ret2
       refine ⟨_,rfl,?_⟩
       rw[BE]
       refine Sat.AW (L:=L4) (PM:=R) (ps:=K) aa.out ?_
       refine Av ?_
       show _=coreC C L4 D R { ts with reads:=ts.reads+1 } *(C6 L4 ts.cap ts.its*(Bk D ts.d*(mp A8 R (K.map Ju)*AX K)))*_
       ac_rfl
    rw[if_neg t]
    have a2:(tc==0)=false:=by simpa using t
    have ak:(tc !=0)=true:=by simpa using t
    clear t
    go_enter Tryz.func157,Tryz.ntmps157
    go_wp2_with fail
    refine q.mono ?_
    rintro e w2 ⟨rfl,a⟩
    haveI:=a.i
    clear q c
    go_upto_region 5 with (fail)
    have hw1:=Bg (no*256) (by omega)
    go_region_held3 (fun j=>j.cell? ⟨C,1,none⟩=some (.pointer (some ⟨D,0,none⟩))∧j.cell? ⟨C,2,none⟩=some (.string s.nm)) (first|exact ⟨Ac _ _ _,Ac _ _ _⟩) (first
     |(go_at_call 49;refine (x.out _ _ (Ae (Bk D s.d))).mono ?_;rintro e w3 ⟨v,rfl,g⟩;haveI:=g.i))
    clear hw1 a
    all_goals
     go_wp2_with fail
     refine (X.out v F _ (Sat.AW (L:=L) (PM:=PM) (ps:=ps) u.out.1 (Av (by unfold BF;ac_rfl)))).mono ?_
     rintro e w4 ⟨rfl,f⟩
     go_wp2
     go_ret2
     exact ⟨_,rfl,Sat.AE (f.drop (rw TB 1 v (A0 M)))⟩
  rw[if_neg t] at O
  have a2:(rc==0)=false:=by simpa using t
  have al:(rc !=0)=true:=by simpa using t
  rw[O.out]
  clear O
  by_cases h2:rc=2
  · subst h2
    rw[if_pos rfl]
    clear t a2 al
    go_enter Tryz.func157,Tryz.ntmps157
    go_wp2_with fail
    refine q.mono ?_
    rintro e w2 ⟨rfl,a⟩
    haveI:=a.i
    clear q c
    go_upto_region 5 with (fail)
    have hw1:=Bg (no*256) (by omega)
    go_region_held3 (fun j=>j.cell? ⟨C,1,none⟩=some (.pointer (some ⟨D,0,none⟩))∧j.cell? ⟨C,2,none⟩=some (.string s.nm)) (first|exact ⟨Ac _ _ _,Ac _ _ _⟩) (first
     |(go_at_call 49;refine (x.out _ _ (Ae (Bk D s.d))).mono ?_;rintro e w3 ⟨v,rfl,g⟩;haveI:=g.i))
    clear hw1 a
    all_goals
     go_wp2
     go_ret2
     refine ⟨_,rfl,Sat.AE (Sat.AW (L:=L) (PM:=PM) (ps:=ps) u.out.1 ?_)⟩
     refine A4 (C:=rw TB 1 v (A0 M)) ?_
     unfold BF
     ac_rfl
  rw[if_neg h2]
  have ak:(rc==2)=false:=by simpa using h2
  clear t h2
  go_enter Tryz.func157,Tryz.ntmps157
  go_wp2_with fail
  refine q.mono ?_
  rintro e w2 ⟨rfl,a⟩
  haveI:=a.i
  clear q c
  go_upto_region 5 with (fail)
  have hw1:=Bg (no*256) (by omega)
  go_region_held3 (fun j=>j.cell? ⟨C,1,none⟩=some (.pointer (some ⟨D,0,none⟩))∧j.cell? ⟨C,2,none⟩=some (.string s.nm)) (first|exact ⟨Ac _ _ _,Ac _ _ _⟩) (first
   |(go_at_call 49;refine (x.out _ _ (Ae (Bk D s.d))).mono ?_;rintro e w3 ⟨v,rfl,g⟩;haveI:=g.i))
  clear hw1 a
  all_goals
   go_wp2
   go_ret2
   refine ⟨_,rfl,Sat.AE (Sat.AW (L:=L) (PM:=PM) (ps:=ps) u.out.1 ?_)⟩
   refine A4 (C:=rw TB 1 v (A0 M)) ?_
   unfold BF
   ac_rfl
theorem fV(C D:Nat)(s:Ck)(m:Nat)(no:Int)(v:Value)(b:List UInt8)(B F:Ab)(w:World)(W:Reads B v b)(hs:Sat (AU C D s*(B*F)) w)(ok:Bn m s)(hm:m≤274877906944):
 Calls Tryz.prog 195 #[.pointer (some ⟨C,0,none⟩),.int .i64 no,v] w fun e w'=>e= .returned (.int .i64 (s.put no b).1)∧Sat (AU C D (s.put no b).2*(B*F)) w':=by
 obtain ⟨va,vc,rfl,a7,an⟩:=(W _ _ (hs.take B)).len
 by_cases hr:no<0∨1048576≤no∨b.length≠256
 ·have e:s.put no b=(1,s):=by unfold Ck.put;rw[if_pos hr]
  rw[e]
  by_cases h1:no<0
  · go_enter Tryz.func195,Tryz.ntmps195
    go_wp2
    go_ret
    exact ⟨rfl,hs⟩
  by_cases h2:1048576≤no
  · go_enter Tryz.func195,Tryz.ntmps195
    go_wp2
    go_ret
    exact ⟨rfl,hs⟩
  have h3:((b.length:Int) !=256)=true:=by simp;omega
  have am:(b.length !=256)=true:=by simp;omega
  have h4:no<1048576:=by omega
  have h5:0≤no:=by omega
  clear hr e h2 h1
  go_enter Tryz.func195,Tryz.ntmps195
  go_wp2
  go_ret
  exact ⟨rfl,hs⟩
 have a4:0≤no:=by omega
 have a5:no<1048576:=by omega
 have g:b.length=256:=by omega
 obtain ⟨L,PM,ps,hp,a⟩:=Sat.Ch hs
 unfold BF at a
 rw[g] at W a7
 rw[g]
 have Y:Aside (b.length=256):=g
 have j:=kK L s.cap s.its no _ w (a.take (C6 L s.cap s.its)) ok.Mi
 cases k:Bw s.its no with
 | true =>
  have e:s.put no b=(0, { s with its:=Bv (Ff s.its no) no true,CS:=Ed no b s.CS }):=by unfold Ck.put;rw[if_neg hr,if_pos k]
  rw[e]
  rw[k] at j
  obtain ⟨b0,hb,K,_,_⟩:=ok.key k
  have M:=bN ok.Mi no
  rcases Hy ps no with ⟨l1,p,l2,rfl,rfl,a2⟩|a3
  · obtain ⟨q1,q2,q3,_⟩:=Hz (l2:=l2) a2
    rw[hp] at q1
    have l:p.b.length=256:=by rw[q1] at hb;rw[Option.some.inj hb];exact K
    have hR: ∀q:Pg,AX (l1++q::l2)=rw TB 1 q.v (A0 q.b)*(AX l1*AX l2):=by intro q;rw[CG];show AX l1*(_*AX l2)=_;ac_rfl
    rw[hR] at a j
    rcases (a.take (rw TB 1 p.v (A0 p.b))).Cr with ⟨_,V,_⟩|⟨pg,n,pc,sp,H,V,g3,g4,g5,g6⟩
    ·have:=congrArg List.length V;rw[Ca,l] at this;cases this
    rw[Ca,l,Nat.mul_one] at V
    subst V
    rw[H] at q2 a j
    obtain ⟨ms,G⟩:=Aq ((l1++p::l2).map Ju)
    have x:Aside ((l1++ { p with b:=b } ::l2).map Ju=ms∧BP (l1++ { p with b:=b } ::l2)=Ed p.key b s.CS∧p.v= .slice (some ⟨pg,0,none⟩) 256 pc):=⟨by rw[←G];simp[Ju],by rw[←hp];exact (q3 b).symm,H⟩
    have y:Aside ((∀q:Pg,AX (l1++q::l2)=rw TB 1 q.v (A0 q.b)*(AX l1*AX l2))∧p.b.length=256∧Ez (Ff s.its p.key)∧Bw (Ff s.its p.key) p.key=true):=⟨hR,l,M,Bs.2 (Y0.2 (Bs.1 k))⟩
    rw[G] at q2 a j
    obtain ⟨i0,E⟩:=D3
    haveI:=a.i
    clear e hr hs hp k hb q1 q3 l g hR H G g3 g6 M
    go_enter Tryz.func195,Tryz.ntmps195
    go_wp2_with fail
    refine j.mono ?_
    rintro e w2 ⟨rfl,c⟩
    have U:=W _ _ (c.take B)
    obtain ⟨w3,Q,R⟩:=LW (P:=Tryz.prog) E 26 3 (lo:=0) (c.take (rw TB 1 (.slice (some ⟨pg,0,none⟩) 256 pc) (A0 p.b))) U (by rw[Y.out];omega)
    rw[Q8,Nat.sub_zero,Nat.sub_zero,Y.out] at Q
    rw[Y.out,List.take_zero,List.nil_append,List.drop_of_length_le (by rw[Ca,y.out.2.1];omega),List.append_nil] at R
    haveI:=c.i
    haveI:=R.i
    clear j a U
    go_wp2_with fail
    refine (aS L s.cap (Ff s.its p.key) p.key true _ _ (Ae (C6 L s.cap (Ff s.its p.key))) y.out.2.2.1).mono ?_
    rintro e w4 ⟨rfl,f⟩
    go_wp2
    go_ret
    refine ⟨rfl,Sat.AW (L:=L) (PM:=PM) (ps:=l1++ { p with b:=b } ::l2) x.out.2.1 (f.eq ?_)⟩
    show _=coreC C L D PM s*(C6 L s.cap (Bv (Ff s.its p.key) p.key true)*(Bk D s.d*(mp A8 PM ((l1++ { p with b:=b } ::l2).map Ju)*AX (l1++ { p with b:=b } ::l2))))*_
    rw[x.out.1,y.out.1]
    show _=coreC C L D PM s*(C6 L s.cap (Bv (Ff s.its p.key) p.key true)*(Bk D s.d*(mp A8 PM ms*(rw TB 1 p.v (A0 b)*_))))*_
    rw[x.out.2.2]
    ac_rfl
  rw[←hp,(Kb a3).1] at hb
  cases hb
 | false =>
  have HE:Aside (s.put no b=if (s.take no b).1=0 then (0, { (s.take no b).2 with its:=Bv (s.take no b).2.its no true }) else s.take no b):=by
   show _=_
   unfold Ck.put;rw[if_neg hr,if_neg (by simp[k])]
  rw[k] at j
  have u:Ff s.its no=s.its:=RC k
  rw[u] at j
  have o:=fun(F:Ab)(w:World)(h:Sat (AU C D s*(B*F)) w)=>V0 C D s m no (.slice va 256 vc) b B F w W h ok hm k g
  have r:=(Ol ok k a4 a5 g).Mi
  rw[HE.out]
  obtain ⟨⟨tc,ts⟩,T⟩:=Aq (s.take no b)
  rw[T] at o r⊢
  simp only at o r⊢
  have I:Aside (∀(F:Ab)(w:World),Sat (AU C D s*(B*F)) w→Calls Tryz.prog 181 #[.pointer (some ⟨C,0,none⟩),.int .i64 no,.slice va 256 vc] w fun e w'=>e= .returned (.int .i64 tc)∧Sat (AU C D ts*(B*F)) w'):=o
  have Z:Aside (BP ps=s.CS∧Ez ts.its):=⟨hp,r⟩
  haveI:=a.i
  clear o T r u k hr hs hp g HE
  by_cases X:tc=0
  · subst X
    rw[if_pos rfl]
    go_enter Tryz.func195,Tryz.ntmps195
    go_wp2_with fail
    refine j.mono ?_
    rintro e w2 ⟨rfl,c⟩
    clear j a
    go_wp2_with fail
    refine (I.out F _ (Sat.AW (L:=L) (PM:=PM) (ps:=ps) Z.out.1 (c.eq (by unfold BF;ac_rfl)))).mono ?_
    rintro e w4 ⟨rfl,f⟩
    obtain ⟨J,z,t,O,f⟩:=Sat.Ch f
    unfold BF at f
    have a0:Aside (BP t=ts.CS):=O
    haveI:=f.i
    clear c O
    go_wp2_with fail
    refine (aS J ts.cap ts.its no true _ _ (Ae (C6 J ts.cap ts.its)) Z.out.2).mono ?_
    rintro e w5 ⟨rfl,a6⟩
    go_wp2
    go_ret
    refine ⟨rfl,Sat.AW (L:=J) (PM:=z) (ps:=t) a0.out (a6.eq ?_)⟩
    show _=coreC C J D z ts*(C6 J ts.cap (Bv ts.its no true)*(Bk D ts.d*(mp A8 z (t.map Ju)*AX t)))*_
    ac_rfl
  rw[if_neg X]
  have ao:(tc !=0)=true:=by simpa using X
  clear X
  go_enter Tryz.func195,Tryz.ntmps195
  go_wp2_with fail
  refine j.mono ?_
  rintro e w2 ⟨rfl,c⟩
  clear j a
  go_wp2_with fail
  refine (I.out F _ (Sat.AW (L:=L) (PM:=PM) (ps:=ps) Z.out.1 (c.eq (by unfold BF;ac_rfl)))).mono ?_
  rintro e w4 ⟨rfl,f⟩
  go_wp2
  go_ret
  exact ⟨rfl,f⟩
theorem X2(C D:Nat)(s:Ck)(m:Nat)(no:Int)(F:Ab)(w:World)(hs:Sat (AU C D s*F) w)(ok:Bn m s)(hm:m≤549755813888)(h0:0≤no)(h1:no<1048576):
 Calls Tryz.prog 101 #[.pointer (some ⟨C,0,none⟩),.int .i64 no] w fun e b=>e= .returned (.int .i64 (s.write no).1)∧Sat (AU C D (s.write no).2*F) b:=by
 obtain ⟨L,PM,ps,hp,a⟩:=Sat.Ch hs
 refine (VD C L D PM ps s m no F w a hp ok hm h0 h1).mono ?_
 rintro e b ⟨c,d⟩
 exact ⟨c,Sat.AW (by rw[(BW s no).2.2.2.1];exact hp) d⟩
theorem Km(s:Ck)(no k:Int):Bw (s.write no).2.its k=Bw s.its k:=by
 rcases (BW s no).2.2.2.2 with e|e
 ·rw[e]
 rw[e,OE]
theorem YO(C D:Nat)(s:Ck)(m:Nat)(F:Ab)(w:World)(hs:Sat (AU C D s*F) w)(ok:Bn m s)(hm:m+s.its.length*U≤549755813888):
 Calls Tryz.prog 36 #[.pointer (some ⟨C,0,none⟩)] w fun e H=>e= .returned (.int .i64 s.flush.1)∧Sat (AU C D s.flush.2*F) H:=by
 obtain ⟨R,HR⟩: ∃R,Aside (Ck.writes (BI s.its) s=R):=⟨_,rfl⟩
 have M:Aside (s.flush=if R.1=0 then ((if (R.2.d.sync R.2.nm).1=6 then 0 else (R.2.d.sync R.2.nm).1), { R.2 with d:=(R.2.d.sync R.2.nm).2 }) else R):=by
  show _=_
  unfold Ck.flush;rw[HR.out]
 obtain ⟨Z,J⟩: ∃Z,Aside (s.flush=Z):=⟨_,rfl⟩
 rw[J.out]
 rw[J.out] at M
 clear J
 obtain ⟨L,PM,ps,hp,T⟩:=Sat.Ch hs
 unfold BF at T
 have a3:=Yd L s.cap s.its _ w (T.take (C6 L s.cap s.its)) ok.Mi
 have a6: ∀z∈BI s.its,Bw s.its z=true:=by
  intro z hz
  exact Q9 (s:=s) (by unfold Ck.CD;exact List.contains_iff_mem.2 hz)
 have Y:(BI s.its).length≤s.its.length:=by
  unfold BI Di
  rw[(List.mergeSort_perm _ _).length_eq,List.length_map]
  exact List.length_filter_le _ _
 obtain ⟨zs,u⟩:=Aq (BI s.its)
 rw[u] at a3 a6 Y HR
 have HP:Aside (BP ps=s.CS∧(∀z∈zs,Bw s.its z=true)∧Bn m s∧m+zs.length*U≤549755813888∧zs.length≤4096):=⟨hp,a6,ok,by have:=Nat.mul_le_mul_right U Y;omega,by have:=ok.Mi.len;omega⟩
 haveI:=T.i
 clear u a6 Y hs hp ok hm
 go_enter Tryz.func36,Tryz.ntmps36
 go_wp2_with fail
 refine a3.mono ?_
 rintro e w1 ⟨a,n,c,rfl,V⟩
 have hn:n=zs.length:=by have:=V.dA;simpa using this
 subst hn
 obtain ⟨R0,a2⟩:=Aq (rw 3 1 (.slice a zs.length c) (zs.map (Value.int .i64)))
 have hI: ∀F w,Sat (R0*F) w→Ints w (.slice a zs.length c) zs:=by intro F w h;rw[←a2] at h;exact Ints.Yg h
 have B:Sat (R0*(AU C D s*F)) w1:=by
  rw[a2] at V
  have h3:=Sat.AW (L:=L) (PM:=PM) (ps:=ps) (C:=C) (D:=D) (s:=s) (F:=R0*F) (w:=w1) HP.out.1 (V.eq (by unfold BF;ac_rfl))
  exact h3.eq (by ac_rfl)
 have HI:Aside (∀F w,Sat (R0*F) w→Ints w (.slice a zs.length c) zs):=hI
 have Y:zs.length≤4096:=HP.out.2.2.2.2
 clear a3 T V a2 hI
 go_wp2_with fail
 go_loopg [15] zs.length (fun k al wr=> ∃(j:Nat)(t:Ck),al= .int .i64 j∧j≤zs.length∧Aside (k=zs.length-j∧Ck.writes (zs.drop j) t=R∧Bn (m+j*U) t∧(∀z,Bw t.its z=Bw s.its z))∧Sat (R0*(AU C D t*F)) wr)
 case atStart=>exact ⟨0,s,rfl,by omega,⟨rfl,HR.out,by simpa using HP.out.2.2.1,fun _=>rfl⟩,B⟩
 clear B
 obtain ⟨j,t,rfl,hj,A,hs⟩:=hrel
 by_cases P:j<zs.length
 · have ac:(j:Int)<zs.length:=by omega
   obtain ⟨z,hz⟩: ∃z,zs[j]?=some z:=⟨zs[j],by simp[P]⟩
   obtain ⟨hk,r,p,l⟩:=A.out
   have X:Bw t.its z=true:=by rw[l];exact HP.out.2.1 z (List.mem_of_getElem? hz)
   obtain ⟨b0,_,_,a4,a5⟩:=p.key X
   have Q:m+j*U+U≤549755813888:=by
    have:=HP.out.2.2.2.1
    have h2:(j+1)*U≤zs.length*U:=Nat.mul_le_mul_right U P
    rw[Nat.add_mul] at h2
    omega
   have hw:=X2 C D t (m+j*U) z (R0*F) wr (hs.eq (by ac_rfl)) p (by omega) a4 a5
   have hw2:=FD p X
   have Ew:zs.drop j=z::zs.drop (j+1):=by
    rw[List.drop_eq_getElem_cons P]
    congr 1
    rw[List.getElem?_eq_getElem P] at hz;exact Option.some.inj hz
   rw[Ew] at r
   have f:(if (t.write z).1=0 then Ck.writes (zs.drop (j+1)) (t.write z).2 else t.write z)=R:=r
   have g: ∀y,Bw (t.write z).2.its y=Bw s.its y:=by
    intro y;rw[←l y,Km]
   obtain ⟨⟨K,rs⟩,x⟩:=Aq (t.write z)
   rw[x] at hw hw2 f g
   simp only at hw hw2 f g
   obtain ⟨b,o,rfl,hc⟩:=(HI.out _ _ hs).at hz
   have HK:Aside (gk=zs.length-j):=hk
   have HH:Aside (∀y,Bw rs.its y=Bw s.its y):=g
   have HO:Aside (Bn (m+(j+1)*U) rs):=hw2.more (by rw[Nat.add_mul];omega)
   by_cases u:K=0
   · subst u
     rw[if_pos rfl] at f
     have HW:Aside (Ck.writes (zs.drop (j+1)) rs=R):=f
     clear A hz hk r p l X a4 a5 Q hw2 Ew f g x
     go_wp2_with fail
     refine hw.mono ?_
     rintro e w3 ⟨rfl,B⟩
     clear hw hs hc
     go_wp2_with fail
     go_roundg (zs.length-(j+1))
     case measure=>have:=HK.out;omega
     case rel=>exact ⟨j+1,rs,by go_num,by omega,⟨rfl,HW.out,HO.out,HH.out⟩,B.eq (by ac_rfl)⟩
   rw[if_neg u] at f
   have b2:(K !=0)=true:=by simpa using u
   have HW:Aside (Z=(K,rs)):=by
    show _=_
    rw[M.out,←f,if_neg u]
   clear A hz hk r p l X a4 a5 Q hw2 Ew f g x u
   go_wp2_with fail
   refine hw.mono ?_
   rintro e w3 ⟨rfl,B⟩
   clear hw hs hc
   go_wp2
   go_ret
   rw[HW.out]
   exact ⟨rfl,(B.eq (BE _ _ _)).right⟩
 have ac: ¬(j:Int)<zs.length:=by omega
 obtain ⟨hk,r,p,l⟩:=A.out
 rw[List.drop_of_length_le (by omega)] at r
 have f:(0,t)=R:=r
 have J:Aside (Z=((if (t.d.sync t.nm).1=6 then 0 else (t.d.sync t.nm).1), { t with d:=(t.d.sync t.nm).2 })):=by
  show _=_
  rw[M.out,←f,if_pos rfl]
 have Q:m+j*U≤549755813888:=by
  have:=HP.out.2.2.2.1
  have h2:j*U≤zs.length*U:=Nat.mul_le_mul_right U hj
  omega
 have ak:t.nm.size≤9223372036854775807:=I4 p.nm
 have W:=fun F w h=>dH D t.d (m+j*U) t.nm F w h ak p.dk (by unfold Mn;omega)
 obtain ⟨⟨K,rd⟩,x⟩:=Aq (t.d.sync t.nm)
 rw[x] at W J
 simp only at W J
 have a1:Aside (∀(F:Ab)(w:World),Sat (Bk D t.d*F) w→Calls Tryz.prog 102 #[.pointer (some ⟨D,0,none⟩),.string t.nm] w fun e H=>e= .returned (.int .i64 K)∧Sat (Bk D rd*F) H):=W
 obtain ⟨L5,I,G,ad,ae⟩:=Sat.Ch (hs.right)
 unfold BF at ae
 have ag:Aside (BP G=t.CS):=ad
 haveI:=ae.i
 clear A hk r p l f Q W x M ad hs
 have v:Aside (∀w,Sat (Bk D rd*(coreC C L5 D I t*(C6 L5 t.cap t.its*(mp A8 I (G.map Ju)*AX G))*F)) w→Sat (AU C D { t with d:=rd } *F) w):=by
  intro w h
  refine Sat.AW (L:=L5) (PM:=I) (ps:=G) ag.out (h.eq ?_)
  show _=coreC C L5 D I t*(C6 L5 t.cap t.its*(Bk D rd*(mp A8 I (G.map Ju)*AX G)))*F
  ac_rfl
 by_cases h6:K=6
 · subst h6
   have O:Aside (Z=(0, { t with d:=rd })):=by show _=_;rw[J.out,if_pos rfl]
   clear J
   go_upto_region 10 with (fail)
   go_region_held3 (fun H=>H.cell? ⟨C,1,none⟩=some (.pointer (some ⟨D,0,none⟩))∧H.cell? ⟨C,2,none⟩=some (.string t.nm)) (first|exact ⟨Ac _ _ _,Ac _ _ _⟩) (first
    |(go_at_call 102;refine (a1.out _ _ (Ae (Bk D t.d))).mono ?_;rintro e w6 ⟨rfl,q⟩;haveI:=q.i))
   all_goals
    go_wp2
    go_ret
    rw[O.out]
    exact ⟨rfl,v.out _ (q.eq (by ac_rfl))⟩
 have O:Aside (Z=(K, { t with d:=rd })):=by show _=_;rw[J.out,if_neg h6]
 clear J
 have aj:(K !=6)=true:=by simpa using h6
 by_cases h0:K=0
 · subst h0
   clear h6 aj
   go_upto_region 10 with (fail)
   go_region_held3 (fun H=>H.cell? ⟨C,1,none⟩=some (.pointer (some ⟨D,0,none⟩))∧H.cell? ⟨C,2,none⟩=some (.string t.nm)) (first|exact ⟨Ac _ _ _,Ac _ _ _⟩) (first
    |(go_at_call 102;refine (a1.out _ _ (Ae (Bk D t.d))).mono ?_;rintro e w6 ⟨rfl,q⟩;haveI:=q.i))
   all_goals
    go_wp2
    go_ret
    rw[O.out]
    exact ⟨rfl,v.out _ (q.eq (by ac_rfl))⟩
 have ax:(K !=0)=true:=by simpa using h0
 clear h6 h0
 go_upto_region 10 with (fail)
 go_region_held3 (fun H=>H.cell? ⟨C,1,none⟩=some (.pointer (some ⟨D,0,none⟩))∧H.cell? ⟨C,2,none⟩=some (.string t.nm)) (first|exact ⟨Ac _ _ _,Ac _ _ _⟩) (first
  |(go_at_call 102;refine (a1.out _ _ (Ae (Bk D t.d))).mono ?_;rintro e w6 ⟨rfl,q⟩;haveI:=q.i))
 all_goals
  go_wp2
  go_ret
  rw[O.out]
  exact ⟨rfl,v.out _ (q.eq (by ac_rfl))⟩
def L1(s:ByteArray):Bool:=decide (1≤s.size)&&decide (s.size≤16)
theorem Po(s:ByteArray):Dk.named s=(s.data.toList.all GQ&&L1 s):=by
 unfold Dk.named L1 GQ
 rw[Bool.and_comm]
theorem W3(s:ByteArray)(w:World)(hs:s.size≤9223372036854775807):
 Calls Tryz.prog 111 #[.string s] w fun e l=>e= .returned (.bool (Dk.named s))∧w=l:=by
 obtain ⟨r,d⟩: ∃r,Aside (Dk.named s=r):=⟨_,rfl⟩
 rw[d.out]
 go_enter Tryz.func111,Tryz.ntmps111
 go_wp2
 go_loop [6] (fun i=> ∃k:Nat,k≤s.size∧i= .int .i64 k∧Aside ((s.data.toList.take k).all GQ=true)) (fun i=>s.size-(intOf i).toNat)
 case atStart=>exact ⟨0,Nat.zero_le _,rfl,by simp[Aside]⟩
 obtain ⟨k,m,rfl,A⟩:=hrel
 by_cases b:k<s.size
 · have hb:=s[k].toNat_lt
   by_cases c1:s[k].toNat<97
   · have a:Aside (r=false):=by
      have:=JZ b (show GQ s[k]=false by unfold GQ;simp;omega)
      show _=_
      rw[←d.out,Po,this];rfl
     go_wp2
     go_ret
     exact ⟨by rw[a.out];rfl,rfl⟩
   by_cases c2:122<s[k].toNat
   · have a:Aside (r=false):=by
      have:=JZ b (show GQ s[k]=false by unfold GQ;simp;omega)
      show _=_
      rw[←d.out,Po,this];rfl
     go_wp2
     go_ret
     exact ⟨by rw[a.out];rfl,rfl⟩
   have j:Aside ((s.data.toList.take (k+1)).all GQ=true):=by
    show _=true
    rw[Kt s k b,A.out]
    unfold GQ;simp;omega
   go_wp2
   go_round
   case rel=>exact ⟨k+1,by omega,by go_num,j⟩
   case measure=>simp[intOf];omega
 have a:Aside (r=L1 s):=by
  have:=A.out
  rw[List.take_of_length_le (by simp;omega)] at this
  show _=_
  rw[←d.out,Po,this];rfl
 clear A
 by_cases h1:1≤s.size
 · by_cases g:s.size≤16
   · have c:Aside (L1 s=true):=by show _=_;simp[L1,h1,g]
     have f:decide ((s.size:Int)≤16)=true:=by simp;omega
     go_wp2
     go_ret
     exact ⟨by rw[a.out,c.out];rfl,rfl⟩
   have c:Aside (L1 s=false):=by show _=_;simp[L1,g]
   have f:decide ((s.size:Int)≤16)=false:=by simp;omega
   go_wp2
   go_ret
   exact ⟨by rw[a.out,c.out];rfl,rfl⟩
 have c:Aside (L1 s=false):=by show _=_;simp[L1,h1]
 go_wp2
 go_ret
 exact ⟨by rw[a.out,c.out];rfl,rfl⟩
theorem bC(D:Nat)(d:Dk)(nm:ByteArray)(cap:Int)(F:Ab)(w:World)(hs:Sat (Bk D d*F) w)(l:Dk.named nm=true)(h1:1≤cap)(p:cap≤4096):
 Calls Tryz.prog 46 #[.pointer (some ⟨D,0,none⟩),.string nm,.int .i64 cap] w fun e m=> ∃C,e= .returned (.tuple #[.pointer (some ⟨C,0,none⟩),.int .i64 0])∧Sat (AU C D ⟨nm,cap,0,d,[],[]⟩*F) m:=by
 have c:=W3 nm w (I4 l)
 rw[l] at c
 have a:=fQ cap _ w hs h1 p
 have q:= @run_makeMap Tryz.prog
 go_enter Tryz.func46,Tryz.ntmps46
 go_wp2_with fail
 refine c.mono ?_
 rintro e m ⟨rfl,rfl⟩
 go_wp2_with fail
 refine a.mono ?_
 rintro e f ⟨L,M,rfl,g⟩
 have j:=Sat.Hq (its:= []) rfl g
 have k:=j.CX (.map #[] 0)
 have i:=k.alloc #[.pointer (some ⟨L,0,none⟩),.pointer (some ⟨D,0,none⟩),.string nm,.int .i64 cap,.map (some f.heap.size),.int .i64 0] TC
 have e:(f.alloc (.map #[] 0)).heap.size=f.heap.size+1:=by simp
 rw[e] at i
 have n:=Sat.Ep (kf:=A8) (ms:= []) (b:=f.heap.size) (o:= .map #[] 0) ⟨#[],0,rfl,rfl,by simp,by simp⟩ (i.take (raw f.heap.size _))
 clear j k i e hs g c a
 go_wp2
 go_ret2
 refine ⟨f.heap.size+1,rfl,?_⟩
 refine Sat.AW (L:=L) (PM:=f.heap.size) (ps:= []) rfl (n.eq ?_)
 unfold BF coreC
 simp only[block,Sl.cells,AX,List.map_nil,Aw,Bm,List.length_cons,List.length_nil,Nat.zero_add,Nat.reduceAdd]
 ac_rfl
theorem k9{m:Nat}{s:Ck}(ok:Bn m s)(k:Int):Bn m { s with its:=Ff s.its k } :=
 ⟨bN ok.Mi k,ok.nd,fun j=>by show Bw (Ff s.its k) j=_;rw[QK (fun _=>Y0)];exact ok.same j,by show _=(Ff s.its k).length;rw[(BO s.its k).length_eq];exact ok.len,ok.Ap,ok.cap,by show ((Ff s.its k).length:Int)≤_;rw[(BO s.its k).length_eq];exact ok.most,ok.dk,ok.nm,ok.reads⟩
theorem jH{m:Nat}{s:Ck}(ok:Bn m s)(no:Int):Bn (m+U) (s.get no).2.2:=by
 unfold Ck.get
 split
 ·exact ok.more (by omega)
 split
 ·exact (k9 ok no).more (by omega)
 rename_i hr e
 have b:Bw s.its no=false:=by simpa using e
 simp only
 split
 ·rename_i f
  have hl:(s.d.read s.nm (no*256) 256).2.length=256:=P8 (n:=256) f
  have a:=Ol ok b (by omega) (by omega) hl
  split
  ·exact ⟨a.Mi,a.nd,a.same,a.len,a.Ap,a.cap,a.most,a.dk,a.nm,by
    have c:(s.take no (s.d.read s.nm (no*256) 256).2).2.reads=s.reads:=Lf s no _
    have:=ok.reads
    show 0≤(s.take no (s.d.read s.nm (no*256) 256).2).2.reads+1∧(s.take no (s.d.read s.nm (no*256) 256).2).2.reads+1≤((m+U:Nat):Int)
    rw[c];unfold U;omega⟩
  exact a
 exact ok.more (by omega)
theorem MG{m:Nat}{s:Ck}(ok:Bn m s)(no:Int)(b:List UInt8):Bn (m+U) (s.put no b).2:=by
 unfold Ck.put
 split
 ·exact ok.more (by omega)
 split
 ·rename_i hr a
  have h1:=(k9 ok no).mark no true
  have hp:(BH no s.CS).isSome=true:=by rw[←ok.same];exact a
  refine Bn.more (m:=m) ⟨h1.Mi,?_,?_,?_,?_,h1.cap,h1.most,h1.dk,h1.nm,h1.reads⟩ (by omega)
  ·show ((Ed no b s.CS).map (·.1)).Nodup
   rw[ME,hp];exact ok.nd
  ·intro k
   show Bw (Bv (Ff s.its no) no true) k=(BH k (Ed no b s.CS)).isSome
   rw[h1.same k,Da]
   show (BH k s.CS).isSome=_
   split
   ·rename_i e;subst e;rw[hp];rfl
   rfl
  ·show (Ed no b s.CS).length=(Bv (Ff s.its no) no true).length
   rw[UH,hp]
   exact h1.len
  intro p d
  exact Rq (by omega) (by omega) (by omega) ok.Ap p d
 rename_i hr a
 have c:Bw s.its no=false:=by simpa using a
 have f:=Ol (b:=b) ok c (by omega) (by omega) (by omega)
 split
 ·exact f.mark no true
 exact f
theorem Ij: ∀(l:List Int){m:Nat}{s:Ck},Bn m s→(∀k∈l,Bw s.its k=true)→Bn (m+l.length*U) (Ck.writes l s).2∧(Ck.writes l s).2.nm=s.nm
 | [],m,s,ok,_=>⟨ok.more (by omega),rfl⟩
 | k :: l, m, s, ok, h => by
  have h1:=FD ok (h k (by simp))
  have e:(k::l).length*U=l.length*U+U:=by rw[List.length_cons,Nat.add_mul];omega
  unfold Ck.writes
  split
  ·obtain ⟨a,b⟩:=Ij l h1 fun j c=>by rw[Km];exact h j (by simp[c])
   exact ⟨a.more (by rw[e];omega),by rw[b];exact (BW s k).1⟩
  exact ⟨h1.more (by rw[e];omega),(BW s k).1⟩
theorem Pb(its:List It):(BI its).length≤its.length:=by
 unfold BI Di
 rw[(List.mergeSort_perm _ _).length_eq,List.length_map]
 exact List.length_filter_le _ _
theorem KL{its:List It}{z:Int} :z∈BI its↔ ∃n∈its,n.Jw=true∧n.key=z:=by
 unfold BI
 rw[MR,List.mem_map]
 constructor
 ·rintro ⟨n,h1,a⟩;exact ⟨n,(List.mem_filter.1 h1).1,(List.mem_filter.1 h1).2,a⟩
 rintro ⟨n,h1,a,b⟩;exact ⟨n,List.mem_filter.2 ⟨h1,a⟩,b⟩
theorem Fu{its:List It}{z:Int}(h:z∈BI its):Bw its z=true:=by
 obtain ⟨n,h1,_,a⟩:=KL.1 h
 exact Bs.2 (List.mem_map.2 ⟨n,h1,a⟩)
theorem TA{m:Nat}{s:Ck}(ok:Bn m s):Bn (m+s.its.length*U+1) s.flush.2:=by
 obtain ⟨h,c⟩:=Ij (BI s.its) ok fun k b=>Fu b
 have hl:=Nat.mul_le_mul_right U (Pb s.its)
 unfold Ck.flush
 simp only
 split
 ·have a:=fS h.dk (Ck.writes (BI s.its) s).2.nm
  exact h.eO (by omega) (E9 a (by omega))
 exact h.more (by omega)
end Go.Proofs.YtfhbmblbidcmmaaGreat
namespace Go.Proofs.YtfhbmblbidcmmaaGreat
open Go.Dk
def Ay(d:Dk)(nm:ByteArray):List UInt8:=((d.get nm).getD Dk.Jo).now
def QH(d:Dk)(nm:ByteArray):Bool:=((d.get nm).getD Dk.Jo).sure
def Gi(d:Dk)(nm:ByteArray):List UInt8:=((d.get nm).getD Dk.Jo).safe
theorem QQ{l b:List UInt8}{k p q:Nat}(hp:p+q≤l.length)(h:k+b.length≤p∨p+q≤k):((laid l k b).drop p).take q=(l.drop p).take q:=by
 apply List.ext_getElem?
 intro i
 by_cases hi:i<q
 ·rw[List.getElem?_take_of_lt hi,List.getElem?_take_of_lt hi,List.getElem?_drop,List.getElem?_drop]
  unfold laid
  rcases h with h|h
  ·have h1:((l++List.replicate (k+b.length-l.length) 0).take k).length=k:=by simp;omega
   grind
  have h1:((l++List.replicate (k+b.length-l.length) 0).take k).length=k:=by simp;omega
  grind
 grind
theorem XV{l b:List UInt8}{k:Nat} :((laid l k b).drop k).take b.length=b:=by
 unfold laid
 grind
def Je(d:Dk)(nm:ByteArray):Int:=(sum d.files:Int)-Fi (d.get nm)
theorem Vw(nm:ByteArray)(f:Fl): ∀l:List (ByteArray×Fl),(sum (D9 nm f l):Int)=sum l-Fi (D7 nm l)+f.now.length
 | []=>by simp[sum,D9,D7,Fi]
 | p :: l => by
  have e:=Vw nm f l
  have b:D9 nm f (p::l)=if nm=p.1 then (nm,f)::l else p::D9 nm f l:=rfl
  have c:D7 nm (p::l)=if nm=p.1 then some p.2 else D7 nm l:=rfl
  have a: ∀(q:ByteArray×Fl)(m:List (ByteArray×Fl)),sum (q::m)=q.2.now.length+sum m:=fun q m=>by simp[sum]
  rw[b,c]
  by_cases h:nm=p.1
  ·rw[if_pos h,if_pos h,a,a]
   have d:Fi (some p.2)=p.2.now.length:=rfl
   grind
  grind
theorem S3{d d':Dk}{nm:ByteArray}{f:Fl}(h:d'.files=D9 nm f d.files):Je d' nm=Je d nm:=by
 have h1:=Vw nm f d.files
 have a:Fi (d'.get nm)=f.now.length:=by
  unfold Dk.get
  rw[h,CK,if_pos rfl]
  rfl
 unfold Je
 rw[a,h,h1]
 simp[Dk.get]
structure Db (d:Dk) (nm:ByteArray):Prop where
 down:d.down=false
 Ge:d.Ge=false
 Aq:Dk.named nm=true
 nf:d.files.length+(if (d.get nm).isSome then 0 else 1)≤8
structure Wr (d:Dk) (nm:ByteArray) (k:Nat) (b:List UInt8) (d':Dk):Prop where
 le:k≤(Ay d nm).length
 ne:b.length≠0
 BU:Db d' nm
 now:Ay d' nm=laid (Ay d nm) k b
 safe:Gi d' nm=Gi d nm
 sure:QH d' nm=QH d nm
 BM:d'.BM=d.BM++FG nm k b
 room:d'.room=d.room
 other: ∀n,n≠nm→d'.get n=d.get n
 only:Je d' nm=Je d nm
 oB:(d'.get nm).isSome=true
theorem TQ(d:Dk)(nm:ByteArray):Fi (d.get nm)=(Ay d nm).length:=by
 unfold Fi Ay
 cases d.get nm<;>simp[Dk.Jo]
theorem T3{d:Dk}{nm:ByteArray}(g:Db d nm){k:Nat}{b:List UInt8}(c:k≤(Ay d nm).length)(hb:b.length≠0):
 (d.write nm k b=(7,d)∨((d.write nm k b).1=0∧Wr d nm k b (d.write nm k b).2))∧
 (Je d nm+((max (Ay d nm).length (k+b.length):Nat):Int)≤d.room→(d.write nm k b).1=0):=by
 have hm:=Su g.Aq g.down
 have o:=TQ d nm
 have j:d.stop=false:=by unfold Dk.stop;simp[g.Ge]
 have i: ¬(((d.get nm).isNone&&decide (16≤d.files.length))=true):=by
  have:=g.nf
  grind
 have e:d.write nm k b=if d.fits (d.get nm) (max (Fi (d.get nm)) (k+b.length))≠0 then (d.fits (d.get nm) (max (Fi (d.get nm)) (k+b.length)),d) else (0,d.written nm k b):=by
  unfold Dk.write
  grind
 have m:d.fits (d.get nm) (max (Fi (d.get nm)) (k+b.length))=0∨d.fits (d.get nm) (max (Fi (d.get nm)) (k+b.length))=7:=by grind [Dk.fits]
 have l:Wr d nm k b (d.written nm k b):=by
  have a:(d.written nm k b).get nm=some { (d.get nm).getD Dk.Jo with now:=laid ((d.get nm).getD Dk.Jo).now k b } :=by simp[Dk.get,Dk.written,Dk.put,CK]
  refine ⟨c,hb,⟨g.down,g.Ge,g.Aq,?_⟩,?_,?_,by (unfold QH;rw[a];rfl),rfl,rfl,?_,?_,by rw[a];rfl⟩
  · rw[a]
    show (D9 nm _ d.files).length+_≤8
    rw[Hh]
    have:=g.nf
    unfold Dk.get at this
    grind
  · simp[a,Ay]
  · simp[a,Gi]
  · intro n f
    unfold Dk.get Dk.written Dk.put
    rw[CK,if_neg f]
    rfl
  exact S3 rfl
 constructor
 · grind
 intro hr
 have h:d.fits (d.get nm) (max (Fi (d.get nm)) (k+b.length))=0:=by
  unfold Dk.fits
  unfold Je at hr
  grind
 simp_all
def BR(l:List UInt8)(k:Int)(b:List UInt8):Prop:=0≤k∧256*k.toNat+256≤l.length∧(l.drop (256*k.toNat)).take 256=b
theorem Wr.EY{d d':Dk}{nm:ByteArray}{k:Nat}{b:List UInt8}(h:Wr d nm k b d'){j:Int}{c:List UInt8}(f:BR (Ay d nm) j c)(e:k+b.length≤256*j.toNat∨256*j.toNat+256≤k):BR (Ay d' nm) j c:=by
 obtain ⟨h0,h1,a⟩:=f
 refine ⟨h0,?_,?_⟩
 ·grind [h.now,Dg]
 rw[h.now,QQ h1 e];exact a
theorem Wr.Ap{d d':Dk}{nm:ByteArray}{j:Int}{b:List UInt8}(h:Wr d nm (256*j.toNat) b d')(hb:b.length=256)(h0:0≤j):BR (Ay d' nm) j b:=by
 refine ⟨h0,?_,?_⟩
 ·rw[h.now,Dg,hb];omega
 rw[h.now]
 have:=XV (l:=Ay d nm) (b:=b) (k:=256*j.toNat)
 simp_all
theorem Kg{d:Dk}{nm:ByteArray}(g:Db d nm):max 0 (d.size nm)=((Ay d nm).length:Int):=by
 unfold Dk.size Ay
 by_cases h:(d.get nm).isSome=true
 ·obtain ⟨f,a⟩:=Option.isSome_iff_exists.1 h
  rw[if_neg (by rw[Fw g.Aq g.down a];simp)]
  rfl
 have b:d.get nm=none:=by simpa using h
 grind [Dk.Jo]
theorem JP{m:Nat}{s:Ck}(ok:Bn m s)(g:Db s.d s.nm){no:Int}{b:List UInt8}(w:s.CD no=true)(hb:BH no s.CS=some b):
 (∃a,(a=s.d∨ ∃n,Wr s.d s.nm (Ay s.d s.nm).length (List.replicate n 0) a∧(Ay s.d s.nm).length+n=256*no.toNat)∧Db a s.nm∧
   (s.write no=(7, { s with d:=a })∨ ∃j,Wr a s.nm (256*no.toNat) b j∧s.write no=(0, { s with d:=j,its:=Bv s.its no false })))∧
 (Je s.d s.nm+((max (Ay s.d s.nm).length (256*no.toNat+256):Nat):Int)≤s.d.room→(s.write no).1=0):=by
 obtain ⟨hl,h0,h1⟩:=ok.Ap _ (J0 hb)
 simp only at hl h0 h1
 have hp: ∀d,Ck.Ap { s with d:=d } no=b:=by intro d;unfold Ck.Ap;rw[hb];rfl
 have r:no*256=((256*no.toNat:Nat):Int):=by omega
 have f : ∀ a, Db a s.nm → 256 * no.toNat ≤ (Ay a s.nm).length →
  ((Ck.B7 { s with d := a } no = (7, { s with d := a }) ∨ ∃ j, Wr a s.nm (256 * no.toNat) b j ∧ Ck.B7 { s with d := a } no = (0, { s with d := j, its := Bv s.its no false })) ∧
   (Je a s.nm+((max (Ay a s.nm).length (256*no.toNat+256):Nat):Int)≤a.room→(Ck.B7 { s with d:=a } no).1=0)):=by
  intro a v q
  obtain ⟨hw,hr⟩:=T3 v (k:=256*no.toNat) (b:=b) q (by omega)
  have e:Ck.B7 { s with d:=a } no=if (a.write s.nm ((256*no.toNat:Nat):Int) b).1=0 then (0, { s with d:=(a.write s.nm ((256*no.toNat:Nat):Int) b).2,its:=Bv s.its no false }) else ((a.write s.nm ((256*no.toNat:Nat):Int) b).1, { s with d:=(a.write s.nm ((256*no.toNat:Nat):Int) b).2 }):=by
   unfold Ck.B7
   rw[hp a,←r]
  constructor
  · rcases hw with hw|⟨hw1,hw2⟩
    · left
      rw[e,hw,if_neg (by simp)]
    right
    exact ⟨_,hw2,by rw[e,if_pos hw1]⟩
  intro c
  have:=hr (by rw[hl];exact c)
  rw[e,if_pos this]
 have t:=Kg g
 have i:s.write no=if max 0 (s.d.size s.nm)<no*256 then (if (s.pad no).1=0 then Ck.B7 { s with d:=(s.pad no).2 } no else ((s.pad no).1, { s with d:=(s.pad no).2 })) else s.B7 no:=by
  unfold Ck.write
  rw[if_neg (by simp[w])]
 by_cases o:max 0 (s.d.size s.nm)<no*256
 · rw[if_pos o] at i
   have u:(Ay s.d s.nm).length<256*no.toNat:=by omega
   have l:s.pad no=s.d.write s.nm ((Ay s.d s.nm).length:Int) (List.replicate (256*no.toNat-(Ay s.d s.nm).length) 0):=by
    unfold Ck.pad
    rw[t]
    congr 2
    omega
   obtain ⟨hw,hr⟩:=T3 g (k:=(Ay s.d s.nm).length) (b:=List.replicate (256*no.toNat-(Ay s.d s.nm).length) 0) (Nat.le_refl _) (by rw[List.length_replicate];omega)
   rw[←l] at hw hr
   rcases hw with hw|⟨hw1,hw2⟩
   · refine ⟨⟨s.d,.inl rfl,g,.inl ?_⟩,fun c=>?_⟩
     · rw[i,hw,if_neg (by simp)]
     exfalso
     have:=hr (by rw[List.length_replicate];omega)
     rw[hw] at this;cases this
   rw[if_pos hw1] at i
   have p:(Ay (s.pad no).2 s.nm).length=256*no.toNat:=by rw[hw2.now,Dg,List.length_replicate];omega
   obtain ⟨s1,s2⟩:=f (s.pad no).2 hw2.BU (by omega)
   refine ⟨⟨(s.pad no).2,.inr ⟨_,hw2,by omega⟩,hw2.BU,?_⟩,fun c=>?_⟩
   · rw[i];exact s1
   rw[i];exact s2 (by rw[p,hw2.room,hw2.only];omega)
 rw[if_neg o] at i
 obtain ⟨s1,s2⟩:=f s.d g (by omega)
 refine ⟨⟨s.d,.inl rfl,g,?_⟩,fun c=>?_⟩
 · rw[i];exact s1
 rw[i];exact s2 c
def Has(s:Ck)(k:Int)(b:List UInt8):Prop:=BH k s.CS=some b∨(BH k s.CS=none∧BR (Ay s.d s.nm) k b)
structure Good (T:Nat) (s:Ck):Prop where
 BU:Db s.d s.nm
 pins: ∀n∈s.its,n.pins=0
 clean: ∀n∈s.its,n.Jw=false→ ∀b,BH n.key s.CS=some b→BR (Ay s.d s.nm) n.key b
 top:(Ay s.d s.nm).length≤256*T∧ ∀n∈s.its,n.key.toNat<T
def Roomy(T:Nat)(s:Ck):Prop:=Je s.d s.nm+((256*T:Nat):Int)≤s.d.room
structure Kept (P:Int→List UInt8→Prop) (s:Ck):Prop where
 le:(Gi s.d s.nm).length≤(Ay s.d s.nm).length
 safe: ∀k b,P k b→BR (Gi s.d s.nm) k b
 BM: ∀p∈s.d.BM,p.nm=s.nm→ ∃x,p.b=some x∧ ∀k b,P k b→p.pos+x.length≤256*k.toNat∨256*k.toNat+256≤p.pos
 CD: ∀n∈s.its,n.Jw=true→ ∀b,¬P n.key b
theorem Hd{s:Ck}{no:Int} :s.CD no=true↔ ∃n∈s.its,n.Jw=true∧n.key=no:=by
 unfold Ck.CD
 rw[List.contains_iff_mem]
 exact KL
theorem Sc: ∀{its:List It},(D5 its).Nodup→ ∀{a b:It},a∈its→b∈its→a.key=b.key→a=b
 | [],_,a,b,ha,_,_=>by simp at ha
 | x :: l, f, a, b, ha, hb, e => by
  unfold D5 at f
  rw[List.map_cons,List.nodup_cons] at f
  rcases List.mem_cons.1 ha with g|c
  ·grind
  rcases List.mem_cons.1 hb with i|d
  ·simp_all
  exact Sc f.2 c d e
theorem Kept.wr{P:Int→List UInt8→Prop}{s:Ck}(h:Kept P s){f e:Dk}{k:Nat}{b:List UInt8}(g:Kept P { s with d:=f })(hw:Wr f s.nm k b e)(i: ∀j c,P j c→k+b.length≤256*j.toNat∨256*j.toNat+256≤k):Kept P { s with d:=e } :=by
 refine ⟨?_,?_,?_,h.CD⟩
 ·show (Gi e s.nm).length≤(Ay e s.nm).length
  rw[hw.safe,hw.now,Dg]
  have:=g.le
  grind
 ·intro j c m
  rw[hw.safe]
  exact g.safe j c m
 intro p hp n
 have a:p∈f.BM++FG s.nm k b:=by rw[←hw.BM];exact hp
 rcases List.mem_append.1 a with a|a
 ·exact g.BM p a n
 obtain ⟨_,l,h1,o,q⟩:=JF s.nm b.length k b (Nat.le_refl _) p a
 grind
theorem Kept.marks{P:Int→List UInt8→Prop}{s:Ck}(h:Kept P s)(k:Int):Kept P { s with its:=Bv s.its k false } :=by
 refine ⟨h.le,h.safe,h.BM,?_⟩
 intro n c hm
 have a:=c
 obtain ⟨x,hx,rfl⟩:=List.mem_map.1 a
 by_cases b:x.key=k
 ·simp_all
 rw[if_neg b] at hm⊢
 exact h.CD x hx hm
structure Gd (T:Nat) (s:Ck) (no:Int) (e:Int) (s':Ck):Prop where
 code:e=0∨e=7
 Bo:Good T s'
 EY: ∀k b,k≠no→BR (Ay s.d s.nm) k b→BR (Ay s'.d s.nm) k b
 Ap:e=0→ ∀b,BH no s.CS=some b→BR (Ay s'.d s.nm) no b
 roomy:Roomy T s→e=0∧Roomy T s'
 kept: ∀P,Kept P s→Kept P s'
 inv: ∀Q:Dk→Prop,(∀d k b d',Q d→Wr d s.nm k b d'→Q d')→Q s.d→Q s'.d
 done:e=0→ ∀n∈s'.its,n.key=no→n.Jw=false
theorem IW{m T:Nat}{s:Ck}{no:Int}(ok:Bn m s)(g:Good T s)(hh:Bw s.its no=true):Gd T s no (s.write no).1 (s.write no).2:=by
 obtain ⟨b,hb,r,h0,h1⟩:=ok.key hh
 cases J:s.CD no with
 | false =>
  have e:s.write no=(0,s):=by unfold Ck.write;rw[if_pos J]
  rw[e]
  have I: ∀n∈s.its,n.key=no→n.Jw=false:=by
   intro n f o
   cases hm:n.Jw with
   |false=>rfl
   |true=>rw[Hd.2 ⟨n,f,hm,o⟩] at J;cases J
  refine ⟨.inl rfl,g,fun k b _ h=>h,fun _ b hb=>?_,fun h=>⟨rfl,h⟩,fun P h=>h,fun Q _ h=>h,fun _=>I⟩
  obtain ⟨n,f,o⟩:=List.mem_map.1 (Bs.1 hh)
  have:=g.clean n f (I n f o)
  simp_all
 | true =>
  obtain ⟨⟨H,t,V,y⟩,Y⟩:=JP ok g.BU J hb
  obtain ⟨nd,G,W,B⟩:=Hd.1 J
  have a1:no.toNat<T:=by have:=g.top.2 nd G;rw[B] at this;exact this
  have l: ∀k c,BR (Ay s.d s.nm) k c→BR (Ay H s.nm) k c:=by
   intro k c h
   rcases t with rfl|⟨n,hw,_⟩
   · omega
   exact hw.EY h (.inr h.2.1)
  have D:(Ay H s.nm).length≤256*T:=by
   rcases t with rfl|⟨n,hw,f⟩
   · exact g.top.1
   grind [hw.now,Dg,List.length_replicate]
  have w:Je H s.nm=Je s.d s.nm∧H.room=s.d.room:=by
   rcases t with rfl|⟨n,hw,f⟩
   · omega
   exact ⟨hw.only,hw.room⟩
  have v: ∀P,Kept P s→Kept P { s with d:=H } :=by
   intro P h
   rcases t with rfl|⟨n,hw,f⟩
   · omega
   refine Kept.wr h h hw fun j c R=> .inr ?_
   have:=(h.safe j c R).2.1
   have:=h.le
   omega
  have u: ∀Q:Dk→Prop,(∀d k b d',Q d→Wr d s.nm k b d'→Q d')→Q s.d→Q H:=by grind
  have a4: ∀n∈s.its,n.key=no→n=nd:=fun n f o=>Sc ok.Mi.nd f G (o.trans B.symm)
  have L:Roomy T s→(s.write no).1=0:=by grind [Roomy]
  rcases y with q|⟨O,hw2,q⟩
  · rw[q] at L⊢
    have M: ¬Roomy T s:=fun h=>by have:=L h;cases this
    refine ⟨.inr rfl,⟨V,g.pins,?_,⟨D,g.top.2⟩⟩,fun k c _ h=>l k c h,(fun h=>by cases h),fun h=>absurd h M,v,u,(fun h=>by cases h)⟩
    intro n f hm c q
    exact l _ _ (g.clean n f hm c q)
  rw[q]
  have p: ∀k c,k≠no→BR (Ay s.d s.nm) k c→BR (Ay O s.nm) k c:=by
   intro k c o h
   have h3:=l k c h
   refine hw2.EY h3 ?_
   rw[r]
   have:=h.1
   omega
  have K:=hw2.Ap r h0
  refine ⟨.inl rfl,⟨hw2.BU,?_,?_,?_,?_⟩,p,fun _ c q=>?_,fun h=>⟨rfl,?_⟩,?_,fun Q Z h=>Z _ _ _ _ (u Q Z h) hw2,?_⟩
  · intro n f
    have a:=f
    unfold Bv Tq at a
    obtain ⟨x,hx,rfl⟩:=List.mem_map.1 a
    have:=g.pins x hx
    split<;>exact this
  · intro n f hm c q
    have a:=f
    unfold Bv Tq at a
    obtain ⟨x,hx,rfl⟩:=List.mem_map.1 a
    have i:=q
    by_cases o:x.key=no
    · rw[if_pos o] at i⊢
      simp only at i⊢
      rw[o] at i⊢
      rw[hb] at i
      cases i
      exact K
    rw[if_neg o] at i hm⊢
    exact p _ _ o (g.clean x hx hm c i)
  · show (Ay O s.nm).length≤256*T
    rw[hw2.now,Dg,r];omega
  · intro n f
    have a:=f
    unfold Bv Tq at a
    obtain ⟨x,hx,rfl⟩:=List.mem_map.1 a
    have:=g.top.2 x hx
    split<;>exact this
  · rw[hb] at q;cases q;exact K
  · show Je O s.nm+_≤O.room
    rw[hw2.room,w.2,hw2.only,w.1];exact h
  · intro P h
    have h2:=Kept.wr h (v P h) hw2 (by
     intro j c R
     rw[r]
     have X:j≠no:=fun e=>by
      have:=h.CD nd G W c
      rw[B,←e] at this
      exact this R
     have:=(h.safe j c R).1
     rcases Int.lt_trichotomy j no with U|U|U
     · right;omega
     · exact absurd U X
     left;omega)
    exact Kept.marks h2 no
  intro _ n f o
  have a:=f
  unfold Bv Tq at a
  obtain ⟨x,hx,rfl⟩:=List.mem_map.1 a
  by_cases z:x.key=no
  · rw[if_pos z]
  rw[if_neg z] at o;exact absurd o z
structure Out (T:Nat) (s:Ck) (e:Int) (s':Ck):Prop where
 inv: ∀Q:Dk→Prop,(∀d k b d',Q d→Wr d s.nm k b d'→Q d')→Q s.d→Q s'.d
 code:e=0∨e=7
 Bo:Good T s'
 has: ∀k b,Has s k b→Has s' k b
 EY: ∀k b,Bw s.its k=false→BR (Ay s.d s.nm) k b→BR (Ay s'.d s.nm) k b
 roomy:Roomy T s→e=0∧Roomy T s'
 kept: ∀P,Kept P s→Kept P s'
 nm:s'.nm=s.nm
theorem Gd.out{m T:Nat}{s:Ck}{no:Int}(ok:Bn m s)(d:Bw s.its no=true)(h:Gd T s no (s.write no).1 (s.write no).2):Out T s (s.write no).1 (s.write no).2:=by
 obtain ⟨e,g,i,f,j⟩:=BW s no
 refine ⟨h.inv,h.code,h.Bo,?_,?_,h.roomy,h.kept,e⟩
 ·intro k b a
  unfold Has at a⊢
  rw[f,e]
  rcases a with a|⟨a,c⟩
  ·simp_all
  refine .inr ⟨a,h.EY k b ?_ c⟩
  rintro rfl
  rw[ok.same,a] at d;cases d
 intro k b a c
 refine h.EY k b ?_ c
 grind
theorem IG{m T:Nat}{s:Ck}{no:Int}(ok:Bn m s)(g:Good T s)(u:DD s.its no=true):Out T s (s.release no).1 (s.release no).2:=by
 have p:=E2 u
 have hw:=IW ok g p
 have a:=hw.out ok p
 have l:=FD ok p
 obtain ⟨w,G,H,I,B⟩:=BW s no
 have q:DD (s.write no).2.its no=true:=by
  rcases B with e|e
  · simp_all
  rw[e,Io];exact u
 unfold Ck.release
 by_cases v:(s.write no).1=0
 · rw [if_pos v]
   simp only[q,if_true]
   obtain ⟨D,y,_⟩:=ok.key p
   refine ⟨a.inv,.inl rfl,⟨a.Bo.BU,?_,?_,a.Bo.top.1,?_⟩,?_,a.EY,?_,?_,w⟩
   · intro n d;exact a.Bo.pins n (List.mem_filter.1 d).1
   · intro n d hm c z
     have t:n.key≠no:=by have:=(List.mem_filter.1 d).2;simpa using this
     have f:=z
     rw[Ga l.nd,if_neg t] at f
     exact a.Bo.clean n (List.mem_filter.1 d).1 hm c f
   · intro n d;exact a.Bo.top.2 n (List.mem_filter.1 d).1
   · intro k b i
     have r:=a.has k b i
     unfold Has
     rw[Ga l.nd]
     by_cases j:k=no
     ·subst j
      rw[if_pos rfl]
      refine .inr ⟨rfl,?_⟩
      rw[w]
      rcases i with i|⟨i,_⟩
      ·exact hw.Ap v b i
      simp_all
     rw[if_neg j];exact r
   · intro hr;exact ⟨rfl,(a.roomy hr).2⟩
   intro P x
   have o:=a.kept P x
   exact ⟨o.le,o.safe,o.BM,fun n d hm=>o.CD n (List.mem_filter.1 d).1 hm⟩
 simp_all
theorem Out.refl{T:Nat}{s:Ck}(g:Good T s):Out T s 0 s:=⟨fun Q _ h=>h,.inl rfl,g,fun k b h=>h,fun k b _ h=>h,fun h=>⟨rfl,h⟩,fun P h=>h,rfl⟩
theorem Ke{m T:Nat}{s:Ck}(ok:Bn m s)(g:Good T s):Out T s s.room.1 s.room.2:=by
 unfold Ck.room
 by_cases c:(s.CS.length:Int)<s.cap
 ·rw[if_pos c];exact Out.refl g
 rw[if_neg c]
 cases b:NR s.its with
 | none =>
  have h1:=ok.cap
  have e:=ok.len
  have d:0<s.its.length:=by omega
  obtain ⟨n,a⟩:=List.exists_mem_of_length_pos d
  have:=List.find?_eq_none.1 b n a
  simp[g.pins n a] at this
 |some n=>exact IG ok g (LH b)
theorem Oe{its:List It}{no:Int}{n:It}(h:n∈Bv its no true): ∃x∈its,n.key=x.key∧n.pins=x.pins∧(x.key=no→n.Jw=true)∧(x.key≠no→n.Jw=x.Jw):=by
 unfold Bv Tq at h
 grind
structure iS (T:Nat) (s:Ck) (no:Int) (c:List UInt8) (e:Int) (s':Ck):Prop where
 inv: ∀Q:Dk→Prop,(∀d k b d',Q d→Wr d s.nm k b d'→Q d')→Q s.d→Q s'.d
 code:e=0∨e=7
 Bo:Good T s'
 has: ∀k b,k≠no∨e=7→Has s k b→Has s' k b
 put:e=0→Has s' no c
 roomy:Roomy T s→e=0∧Roomy T s'
 kept: ∀P,(∀b,¬P no b)→Kept P s→Kept P s'
 nm:s'.nm=s.nm
theorem cM{m T : Nat}{s : Ck}{no : Int}{c : List UInt8}(ok : Bn m s)(g : Good T s)(h0 : 0 ≤ no)(h1 : no < 1048576)(B : no.toNat < T)(D : c.length = 256) : iS T s no c (s.put no c).1 (s.put no c).2 := by
 unfold Ck.put
 rw[if_neg (by omega)]
 cases G:Bw s.its no with
 | true =>
  rw[if_pos rfl]
  refine ⟨fun Q _ h=>h,.inl rfl,⟨g.BU,?_,?_,g.top.1,?_⟩,?_,fun _=> .inl ?_,fun h=>⟨rfl,h⟩,?_,rfl⟩
  ·intro n a
   obtain ⟨x,hx,_,q,_⟩:=Oe a
   rw[q];exact g.pins x ((BO s.its no).mem_iff.1 hx)
  ·intro n a hm b hb
   obtain ⟨x,hx,i,q,v,r⟩:=Oe a
   by_cases l:x.key=no
   · simp_all
   have j:=hb
   rw[Da,i,if_neg l] at j
   rw[i]
   exact g.clean x ((BO s.its no).mem_iff.1 hx) (by rw[←r l];exact hm) b j
  ·intro n a
   obtain ⟨x,hx,i,_⟩:=Oe a
   rw[i];exact g.top.2 x ((BO s.its no).mem_iff.1 hx)
  ·simp_all[Has,Da]
  ·simp[Da]
  intro P u l
  refine ⟨l.le,l.safe,l.BM,?_⟩
  intro n a hm b
  obtain ⟨x,hx,i,q,v,r⟩:=Oe a
  rw[i]
  by_cases t:x.key=no
  ·simp_all
  exact l.CD x ((BO s.its no).mem_iff.1 hx) (by rw[←r t];exact hm) b
 | false =>
  rw[if_neg (by simp)]
  have d:=Ke ok g
  obtain ⟨r1,H,I,J⟩:=LU ok
  unfold Ck.take
  by_cases p:s.room.1=0
  ·rw [if_pos p]
   simp only[if_true]
   have z:Bw s.room.2.its no=false:=by grind
   have f: ∀n,n∈Bv (s.room.2.its++ [⟨no,0,false⟩]) no true→(n.key=no∧n.Jw=true∧n.pins=0)∨n∈s.room.2.its∧n.key≠no:=by
    intro n a
    unfold Bv Tq at a
    rw[List.map_append] at a
    rcases List.mem_append.1 a with a|a
    · obtain ⟨x,hx,rfl⟩:=List.mem_map.1 a
      have o:x.key≠no:=fun e=>by
       have:Bw s.room.2.its no=true:=Bs.2 (List.mem_map.2 ⟨x,hx,e⟩)
       simp_all
      simp_all
    simp_all
   refine ⟨d.inv,.inl rfl,⟨d.Bo.BU,?_,?_,d.Bo.top.1,?_⟩,?_,fun _=> .inl ?_,fun h=>⟨rfl,(d.roomy h).2⟩,?_,d.nm⟩
   · intro n a
     rcases f n a with ⟨_,_,h⟩|⟨h,_⟩
     · omega
     exact d.Bo.pins n h
   · intro n a hm b hb
     rcases f n a with ⟨_,h,_⟩|⟨h,o⟩
     · simp_all
     have j:=hb
     rw[Da,if_neg o] at j
     exact d.Bo.clean n h hm b j
   · intro n a
     rcases f n a with ⟨h,_,_⟩|⟨h,_⟩
     · omega
     exact d.Bo.top.2 n h
   · intro k b l hs
     have y:k≠no:=l.resolve_right (fun e=>by cases e)
     have i:=d.has k b hs
     simp_all[Has,Da]
   · simp[Da]
   intro P u l
   have i:=d.kept P l
   refine ⟨i.le,i.safe,i.BM,?_⟩
   intro n a hm b
   rcases f n a with ⟨h,_,_⟩|⟨h,_⟩
   · rw[h];exact u b
   exact i.CD n h hm b
  rw[if_neg p,if_neg p]
  have w:=d.code.resolve_left p
  exact ⟨d.inv,.inr w,d.Bo,fun k b _ h=>d.has k b h,fun h=>absurd h p,d.roomy,fun P _ h=>d.kept P h,d.nm⟩
theorem Ln{d:Dk}{nm:ByteArray}(g:Db d nm){no:Int}(h0:0≤no):
 (256*no.toNat+256≤(Ay d nm).length∧d.read nm (no*256) 256=(0,((Ay d nm).drop (256*no.toNat)).take 256))∨
 ((Ay d nm).length<256*no.toNat+256∧((d.read nm (no*256) 256).1=2∨(d.read nm (no*256) 256).1=6)):=by
 cases a:d.get nm with
 | none =>
  right
  refine ⟨by unfold Ay;rw[a];simp[Dk.Jo],.inr ?_⟩
  unfold Dk.read
  have:=I3 g.Aq g.down a
  simp_all
 | some f =>
  have hm:=Fw (t:=true) g.Aq g.down a
  have b:Ay d nm=f.now:=by unfold Ay;rw[a];rfl
  unfold Dk.read
  grind
structure VI (T:Nat) (s:Ck) (no:Int) (e:Int) (c:List UInt8) (s':Ck):Prop where
 inv: ∀Q:Dk→Prop,(∀d k b d',Q d→Wr d s.nm k b d'→Q d')→Q s.d→Q s'.d
 code:e=0∨e=7∨e=6
 Bo:Good T s'
 has: ∀k b,Has s k b→Has s' k b
 lV: ∀b,Has s no b→e=7∨(e=0∧c=b)
 len:e=0→c.length=256
 none:e≠0→c= []
 oK:T≤no.toNat→e=6
 roomy:Roomy T s→e≠7∧Roomy T s'
 kept: ∀P,Kept P s→Kept P s'
 nm:s'.nm=s.nm
theorem Lw{m T:Nat}{s:Ck}{no:Int}(ok:Bn m s)(g:Good T s)(h0:0≤no)(h1:no<1048576):VI T s no (s.get no).1 (s.get no).2.1 (s.get no).2.2:=by
 unfold Ck.get
 rw[if_neg (by omega)]
 cases u:Bw s.its no with
 | true =>
  rw[if_pos rfl]
  obtain ⟨b,hb,hl,_⟩:=ok.key u
  have hp:s.Ap no=b:=by unfold Ck.Ap;rw[hb];rfl
  simp only[hp]
  refine ⟨fun Q _ h=>h,.inl rfl,⟨g.BU,?_,?_,g.top.1,?_⟩,fun k b h=>h,?_,fun _=>hl,fun h=>absurd rfl h,?_,fun h=>⟨by decide,h⟩,?_,rfl⟩
  · intro n a;exact g.pins n ((BO s.its no).mem_iff.1 a)
  · intro n a;exact g.clean n ((BO s.its no).mem_iff.1 a)
  · intro n a;exact g.top.2 n ((BO s.its no).mem_iff.1 a)
  · intro c j
    rcases j with j|⟨j,_⟩
    · simp_all
    simp_all
  · intro y
    obtain ⟨n,a,z⟩:=List.mem_map.1 (Bs.1 u)
    have:=g.top.2 n a
    omega
  intro P o
  exact ⟨o.le,o.safe,o.BM,fun n a=>o.CD n ((BO s.its no).mem_iff.1 a)⟩
 | false =>
  rw[if_neg (by simp)]
  have v:BH no s.CS=none:=by
   have:=ok.same no
   simp_all
  rcases Ln g.BU h0 with ⟨hl,hr⟩|⟨hl,hr⟩
  · simp only[hr]
    rw[if_pos trivial]
    obtain ⟨c,j⟩:=Aq (((Ay s.d s.nm).drop (256*no.toNat)).take 256)
    rw[j]
    have r:c.length=256:=by rw[←j];simp;omega
    have t:BR (Ay s.d s.nm) no c:=⟨h0,hl,j⟩
    have D:no.toNat<T:=by have:=g.top.1;omega
    have f:=Ke ok g
    obtain ⟨r1,H,I,J⟩:=LU ok
    have w: ∀b,Has s no b→c=b:=by
     intro b hb
     rcases hb with hb|⟨_,hb⟩
     · simp_all
     rw[←j];exact hb.2.2
    unfold Ck.take
    by_cases p:s.room.1=0
    · rw [if_pos p]
      simp only[if_true]
      have G:Bw s.room.2.its no=false:=by grind
      refine ⟨f.inv,.inl rfl,⟨f.Bo.BU,?_,?_,f.Bo.top.1,?_⟩,?_,fun b hb=> .inr ⟨rfl,w b hb⟩,fun _=>r,fun h=>absurd rfl h,fun y=>by omega,fun h=>⟨by decide,(f.roomy h).2⟩,?_,f.nm⟩
      · intro n a
        rcases List.mem_append.1 a with a|a
        ·exact f.Bo.pins n a
        simp_all
      · intro n a hm b hb
        have i:=hb
        rw[Da] at i
        rcases List.mem_append.1 a with a|a
        ·have l:n.key≠no:=fun e=>by
          have:Bw s.room.2.its no=true:=Bs.2 (List.mem_map.2 ⟨n,a,e⟩)
          simp_all
         rw[if_neg l] at i
         exact f.Bo.clean n a hm b i
        simp at a
        subst a
        simp only[if_true] at i
        cases i
        show BR (Ay s.room.2.d s.room.2.nm) no c
        rw[f.nm]
        exact f.EY no c u t
      · intro n a
        rcases List.mem_append.1 a with a|a
        ·exact f.Bo.top.2 n a
        simp_all
      · intro k b z
        have q:=f.has k b z
        grind [Has,Da]
      intro P o
      have q:=f.kept P o
      refine ⟨q.le,q.safe,q.BM,?_⟩
      intro n a hm b
      rcases List.mem_append.1 a with a|a
      · exact q.CD n a hm b
      simp at a;subst a;cases hm
    rw[if_neg p,if_neg p]
    have x:=f.code.resolve_left p
    refine ⟨f.inv,.inr (.inl x),f.Bo,f.has,fun b _=> .inl x,fun h=>absurd h p,fun _=>rfl,fun y=>by omega,fun h=>absurd (f.roomy h).1 p,f.kept,f.nm⟩
  simp only
  have l:(s.d.read s.nm (no*256) 256).1≠0:=by rcases hr with h|h<;>rw[h]<;>decide
  rw[if_neg l]
  have B:(if (s.d.read s.nm (no*256) 256).1=2 then 6 else (s.d.read s.nm (no*256) 256).1)=6:=by
   rcases hr with h|h
   · rw[if_pos h]
   rw[if_neg (by rw[h];decide),h]
  simp only[B]
  refine ⟨fun Q _ h=>h,.inr (.inr rfl),g,fun k b h=>h,?_,(fun h=>by cases h),fun _=>rfl,fun _=>rfl,fun h=>⟨by decide,h⟩,fun P h=>h,rfl⟩
  intro b hb
  rcases hb with hb|⟨_,hb⟩
  · rw[v] at hb;cases hb
  have:=hb.2.1;omega
structure RL (T:Nat) (s:Ck) (e:Int) (s':Ck):Prop where
 inv: ∀Q:Dk→Prop,(∀d k b d',Q d→Wr d s.nm k b d'→Q d')→Q s.d→Q s'.d
 code:e=0∨e=7
 Bo:Good T s'
 has: ∀k b,Has s k b→Has s' k b
 roomy:Roomy T s→e=0∧Roomy T s'
 kept: ∀P,Kept P s→Kept P s'
 nm:s'.nm=s.nm
theorem Out.e{T:Nat}{s s':Ck}{e:Int}(h:Out T s e s'):RL T s e s':=⟨h.inv,h.code,h.Bo,h.has,h.roomy,h.kept,h.nm⟩
theorem RL.refl{T:Nat}{s:Ck}(g:Good T s):RL T s 0 s:=(Out.refl g).e
theorem RL.trans{T:Nat}{s s1 s2:Ck}{d e:Int}(h:RL T s d s1)(a:RL T s1 e s2):RL T s e s2:=
 ⟨fun Q c hq=>a.inv Q (by rw[h.nm];exact c) (h.inv Q c hq),a.code,a.Bo,fun k b g=>a.has k b (h.has k b g),fun hr=>a.roomy (h.roomy hr).2,fun P f=>a.kept P (h.kept P f),a.nm.trans h.nm⟩
theorem NN: ∀(l:List Int){m T:Nat}{s:Ck},Bn m s→Good T s→(∀k∈l,Bw s.its k=true)→
 RL T s (Ck.writes l s).1 (Ck.writes l s).2∧((Ck.writes l s).1=0→ ∀n∈(Ck.writes l s).2.its,n.Jw=true→n.key∉l∧ ∃x∈s.its,x.key=n.key∧x.Jw=true)
 | [],m,T,s,ok,g,_=>⟨RL.refl g,fun _ n c hm=>⟨by simp,n,c,rfl,hm⟩⟩
 | k :: l, m, T, s, ok, g, h => by
  have b:=h k (by simp)
  have hw:=IW ok g b
  have h1:=(hw.out ok b).e
  unfold Ck.writes
  by_cases d:(s.write k).1=0
  ·rw[if_pos d]
   obtain ⟨f,i⟩:=NN l (FD ok b) h1.Bo fun j o=>by rw[Km];exact h j (by simp[o])
   refine ⟨h1.trans f,fun h0 n c hm=>?_⟩
   obtain ⟨r,x,hx,q,a⟩:=i h0 n c hm
   have p:x.key≠k:=fun e=>by rw[hw.done d x hx e] at a;cases a
   refine ⟨?_,?_⟩
   ·simp_all
   rcases (BW s k).2.2.2.2 with e|e
   ·simp_all
   rw[e] at hx
   unfold Bv Tq at hx
   grind
  simp_all
structure I' (T:Nat) (s:Ck) (e:Int) (s':Ck):Prop where
 code:e=0∨e=7
 Bo:Good T s'
 has: ∀k b,Has s k b→Has s' k b
 roomy:Roomy T s→e=0∧Roomy T s'
 EY:e=0→ ∀k b,Has s' k b→BR (Ay s'.d s'.nm) k b
 kept:e=0→Kept (fun k b=>BR (Ay s'.d s'.nm) k b) s'
 sure:e=0→ ∀f,s'.d.get s'.nm=some f→f.sure=true
 nm:s'.nm=s.nm
theorem O9{m T : Nat}{s : Ck}(ok : Bn m s)(g : Good T s) : I' T s s.flush.1 s.flush.2 := by
 obtain ⟨h1,z⟩:=NN (BI s.its) ok g fun k i=>Fu i
 have q:=(Ij (BI s.its) ok fun k i=>Fu i).1
 unfold Ck.flush
 simp only
 obtain ⟨⟨e,t⟩,hr⟩:=Aq (Ck.writes (BI s.its) s)
 rw[hr] at h1 z q⊢
 simp only at h1 z q⊢
 by_cases v:e=0
 ·subst v
  rw[if_pos rfl]
  have l: ∀n∈t.its,n.Jw=false:=by
   intro n o
   cases hm:n.Jw with
   |false=>rfl
   | true =>
     obtain ⟨B,x,hx,I,J⟩:=z rfl n o hm
     exact absurd (KL.2 ⟨x,hx,J,I⟩) B
  have Q:t.d.stop=false:=by unfold Dk.stop;simp[h1.Bo.BU.Ge]
  have a: ∀k b,Has t k b→BR (Ay t.d t.nm) k b:=by
   intro k b i
   rcases i with i|⟨_,i⟩
   · have L:Bw t.its k=true:=by rw[q.same,i];rfl
     obtain ⟨n,o,O⟩:=List.mem_map.1 (Bs.1 L)
     have:=h1.Bo.clean n o (l n o)
     simp_all
   omega
  cases r:t.d.get t.nm with
  | none =>
    have y:=I3 h1.Bo.BU.Aq h1.Bo.BU.down r
    have u:t.d.sync t.nm=(6,t.d):=by unfold Dk.sync;rw[if_pos (by rw[y];decide),y]
    rw[u]
    have M:Ay t.d t.nm= []:=by unfold Ay;rw[r];rfl
    refine ⟨.inl rfl,h1.Bo,h1.has,fun h=>⟨rfl,(h1.roomy h).2⟩,fun _=>a,fun _=>⟨?_,?_,?_,?_⟩,(fun _ f w=>by rw[r] at w;cases w),h1.nm⟩
    · simp[r,Dk.Jo,Gi]
    · intro k b i
      have:=i.2.1
      simp_all
    · intro p hp o
      have:=q.dk.pn p hp
      simp_all
    simp_all
  | some f =>
    have hm:=Fw (t:=true) h1.Bo.BU.Aq h1.Bo.BU.down r
    have u:t.d.sync t.nm=(0,(t.d.BV.put t.nm { f with safe:=f.now,sure:=true }).settled t.nm):=by
     unfold Dk.sync
     simp_all
    rw[u]
    have c:((t.d.BV.put t.nm { f with safe:=f.now,sure:=true }).settled t.nm).get t.nm=some { f with safe:=f.now,sure:=true } :=by simp[Dk.get,Dk.settled,Dk.put,CK]
    have j:Ay ((t.d.BV.put t.nm { f with safe:=f.now,sure:=true }).settled t.nm) t.nm=Ay t.d t.nm:=by simp[c,r,Ay]
    have H:Gi ((t.d.BV.put t.nm { f with safe:=f.now,sure:=true }).settled t.nm) t.nm=Ay t.d t.nm:=by simp[c,r,Gi,Ay]
    refine ⟨.inl rfl,⟨⟨h1.Bo.BU.down,h1.Bo.BU.Ge,h1.Bo.BU.Aq,?_⟩,h1.Bo.pins,?_,?_,h1.Bo.top.2⟩,?_,fun h=>⟨rfl,?_⟩,fun _=>?_,fun _=>⟨?_,?_,?_,?_⟩,(fun _ R w=>by rw[c] at w;cases w;rfl),h1.nm⟩
    · rw[c]
      show (D9 t.nm _ t.d.files).length+_≤8
      have B:(D7 t.nm t.d.files).isSome=true:=by
       have:t.d.get t.nm=D7 t.nm t.d.files:=rfl
       simp_all
      rw[Hh,if_pos B]
      have:=h1.Bo.BU.nf
      simp_all
    · intro n o hm b hb
      rw[j]
      exact h1.Bo.clean n o hm b hb
    · show (Ay ((t.d.BV.put t.nm { f with safe:=f.now,sure:=true }).settled t.nm) t.nm).length≤_
      rw[j];exact h1.Bo.top.1
    · intro k b i
      have:=h1.has k b i
      unfold Has at this⊢
      simp_all
    · have P:=(h1.roomy h).2
      unfold Roomy at P⊢
      show Je ((t.d.BV.put t.nm { f with safe:=f.now,sure:=true }).settled t.nm) t.nm+_≤t.d.room
      rw[S3 (d:=t.d) (d':=(t.d.BV.put t.nm { f with safe:=f.now,sure:=true }).settled t.nm) (f:= { f with safe:=f.now,sure:=true }) rfl]
      omega
    · intro k b i
      rw[j]
      refine a k b ?_
      unfold Has at i⊢
      simp_all
    · simp_all
    · simp_all
    · intro p hp o
      have G:=hp
      have:=(List.mem_filter.1 G).2
      have D:=o
      rw[D,Mo] at this
      simp_all
    simp_all
 rw[if_neg v]
 have K:=h1.code.resolve_left v
 exact ⟨.inr K,h1.Bo,h1.has,fun h=>absurd (h1.roomy h).1 v,fun h=>absurd h v,fun h=>absurd h v,fun h=>absurd h v,h1.nm⟩
structure Bp (a:Nat) (nm:ByteArray) (d d':Dk):Prop where
 changes:d'.changes≤d.changes+a
 left:d.left≤d'.left+a
 BM:d'.BM.length+(Ay d nm).length≤d.BM.length+(Ay d' nm).length+256*a
 len:(Ay d nm).length≤(Ay d' nm).length
 cap:(Ay d' nm).length≤max (Ay d nm).length 268435456
theorem Bp.MJ(nm:ByteArray)(d:Dk):Bp 0 nm d d:=⟨by omega,by omega,by omega,by omega,by omega⟩
theorem Bp.trans{a b:Nat}{nm:ByteArray}{d d' c:Dk}(h:Bp a nm d d')(k:Bp b nm d' c):Bp (a+b) nm d c:=by
 obtain ⟨h1,e,f,g,i⟩:=h
 obtain ⟨j,l,m,n,o⟩:=k
 exact ⟨by omega,by omega,by omega,by omega,by omega⟩
theorem Bp.more{a b:Nat}{nm:ByteArray}{d d':Dk}(h:Bp a nm d d')(k:a≤b):Bp b nm d d':=by
 obtain ⟨h1,c,e,f,g⟩:=h
 exact ⟨by omega,by omega,by omega,by omega,by omega⟩
theorem n0(d:Dk)(nm:ByteArray)(k:Int)(b:List UInt8)(h:b.length≤256∨k=(Ay d nm).length)(a:b.length=0∨k+b.length≤268435456):Bp 1 nm d (d.write nm k b).2:=by
 have same:Bp 1 nm d d:=(Bp.MJ nm d).more (by omega)
 unfold Dk.write
 split
 · omega
 split
 · omega
 rename_i g
 split
 · omega
 split
 · omega
 split
 · exact ⟨same.changes,same.left,same.BM,same.len,same.cap⟩
 have c:(d.written nm k.toNat b).get nm=some { (d.get nm).getD Dk.Jo with now:=laid ((d.get nm).getD Dk.Jo).now k.toNat b } :=by simp[Dk.get,Dk.written,Dk.put,CK]
 have i:Ay (d.written nm k.toNat b) nm=laid (Ay d nm) k.toNat b:=by unfold Ay;rw[c];rfl
 have hl:=Dg (Ay d nm) k.toNat b
 have hs:=PE nm b.length k.toNat b (Nat.le_refl _)
 have hp:(d.written nm k.toNat b).BM.length=d.BM.length+(FG nm k.toNat b).length:=by
  show (d.BM++FG nm k.toNat b).length=_
  simp
 have f:(d.written nm k.toNat b).changes=d.changes+1:=rfl
 have e:(d.written nm k.toNat b).left=d.left-1:=rfl
 refine ⟨?_,?_,?_,?_,?_⟩
 · simp_all
 · simp_all
 · grind
 · grind
 grind
theorem size_eq(d:Dk)(nm:ByteArray):max 0 (d.size nm)=((Ay d nm).length:Int)∨d.size nm= -1:=by grind [Dk.size,Ay]
theorem Jy{m:Nat}{s:Ck}(ok:Bn m s)(no:Int):(s.Ap no).length≤256:=by
 unfold Ck.Ap
 cases h:BH no s.CS with
 |none=>simp
 |some b=>have:=(ok.Ap _ (J0 h)).1;simp at this⊢;omega
theorem jS(s:Ck)(no:Int)(a:no≤1048576):Bp 1 s.nm s.d (s.pad no).2:=by
 unfold Ck.pad
 by_cases hm:s.d.may s.nm false=0
 ·refine n0 _ _ _ _ (.inr ?_) (by rw[List.length_replicate];omega)
  rcases size_eq s.d s.nm with h|h
  · omega
  rw[h]
  have:s.d.get s.nm=none:=by
   unfold Dk.size at h
   cases b:s.d.get s.nm with
   |none=>rfl
   | some f =>
     have:s.d.may s.nm true=0:=by
      unfold Dk.may at hm⊢
      simp_all
     omega
  unfold Ay
  rw[this]
  rfl
 have e:(s.d.write s.nm (max 0 (s.d.size s.nm)) (List.replicate (no*256-max 0 (s.d.size s.nm)).toNat 0)).2=s.d:=by simp_all[Dk.write]
 rw[e]
 exact (Bp.MJ _ _).more (by omega)
theorem C'{m:Nat}{s:Ck}(ok:Bn m s)(no:Int)(a:no<1048576):Bp 1 s.nm s.d (s.B7 no).2.d:=by
 have h:=n0 s.d s.nm (no*256) (s.Ap no) (.inl (Jy ok no)) (.inr (by have:=Jy ok no;omega))
 grind [Ck.B7]
theorem VB{m:Nat}{s:Ck}(ok:Bn m s)(no:Int)(a:no<1048576):Bp 2 s.nm s.d (s.write no).2.d:=by
 unfold Ck.write
 split
 ·exact (Bp.MJ _ _).more (by omega)
 split
 ·have hp:=jS s no (by omega)
  split
  ·have h:=n0 (s.pad no).2 s.nm (no*256) (s.Ap no) (.inl (Jy ok no)) (.inr (by have:=Jy ok no;omega))
   exact hp.trans (b:=1) (by unfold Ck.B7;split<;>exact h)
  exact hp.more (by omega)
 exact (C' ok no a).more (by omega)
theorem WW{m:Nat}{s:Ck}(ok:Bn m s)(no:Int)(a:no<1048576):Bp 2 s.nm s.d (s.release no).2.d:=by
 have h:=VB ok no a
 grind [Ck.release]
theorem gD{m:Nat}{s:Ck}(ok:Bn m s):Bp 2 s.nm s.d s.room.2.d:=by
 unfold Ck.room
 split
 ·exact (Bp.MJ _ _).more (by omega)
 split
 ·exact (Bp.MJ _ _).more (by omega)
 rename_i n a
 refine WW ok _ ?_
 obtain ⟨b,hb⟩:=ok.key (k:=n.key) (Bs.2 (List.mem_map.2 ⟨n,(Yj a).1,rfl⟩))
 omega
theorem Yv{m:Nat}{s:Ck}(ok:Bn m s)(no:Int)(b:List UInt8):Bp 2 s.nm s.d (s.take no b).2.d:=by
 have h:=gD ok
 grind [Ck.take]
theorem Wk{m:Nat}{s:Ck}(ok:Bn m s)(no:Int):Bp 2 s.nm s.d (s.get no).2.2.d∧(s.get no).2.2.reads≤s.reads+1:=by
 have same:Bp 2 s.nm s.d s.d:=(Bp.MJ _ _).more (by omega)
 unfold Ck.get
 split
 ·grind
 split
 ·grind
 simp only
 split
 ·have h:=Yv ok no (s.d.read s.nm (no*256) 256).2
  have hr:=Lf s no (s.d.read s.nm (no*256) 256).2
  grind
 grind
theorem WK{m:Nat}{s:Ck}(ok:Bn m s)(no:Int)(b:List UInt8):Bp 2 s.nm s.d (s.put no b).2.d∧(s.put no b).2.reads=s.reads:=by
 have same:Bp 2 s.nm s.d s.d:=(Bp.MJ _ _).more (by omega)
 unfold Ck.put
 split
 ·simp_all
 split
 ·simp_all
 have h:=Yv ok no b
 have hr:=Lf s no b
 grind
structure dU (N:Nat) (s:Ck):Prop where
 changes:s.d.changes≤2*N
 left: -(2*N:Int)≤s.d.left
 BM:s.d.BM.length≤512*N+(Ay s.d s.nm).length
 reads:s.reads≤N
 len:(Ay s.d s.nm).length≤268435456
theorem dU.ok{m N:Nat}{s:Ck}(ok:Bn m s)(h:dU N s)(B:N≤134217728):Bn 137438953472 s:=by
 obtain ⟨h1,w,x,y,z⟩:=h
 obtain ⟨k,l,n,o,p,q,r,t,u,a⟩:=ok
 obtain ⟨b,c,d,e,v,f,g,i,j⟩:=t
 exact ⟨k,l,n,o,p,q,r,⟨b,c,⟨by omega,d.2⟩,⟨e.1,by omega⟩,by omega,f,g,i,j⟩,u,⟨a.1,by omega⟩⟩
theorem dU.step{N:Nat}{s s':Ck}(h:dU N s)(a:s'.nm=s.nm)(hb:Bp 2 s.nm s.d s'.d)(hr:s'.reads≤s.reads+1):dU (N+1) s':=by
 obtain ⟨h1,g,i,j,k⟩:=h
 obtain ⟨b,b2,c,e,f⟩:=hb
 exact ⟨by omega,by omega,by rw[a];omega,by omega,by rw[a];omega⟩
