/- treeShape holds for every input. No condition. (part 16) -/
import Derived.Test.YtfhbmblbidcmmaaGreatSk14
import Derived.Test.YtfhbmblbidcmmaaGreatSk15
set_option linter.all false
set_option maxRecDepth 100000
set_option maxHeartbeats 1000000
namespace Go.Proofs.YtfhbmblbidcmmaaGreat
open Go.RowKit Go.Sl Go.Dk
open Go.QK (A8)
attribute [local go_sem] Lb Va Vw UK
theorem TX(C D:Nat)(s:Ck)(m:Nat)(no:Int)(F:Ac)(w:World)(hs:Sat (AN C D s*F) w)(ok:Bf m s)(hm:m≤549755813888)(l:D1 s.its no=true):
 Calls Tryz.prog 253 #[.pointer (some ⟨C,0,none⟩),.int .i64 no] w fun e P=>e= .returned (.int .i64 (s.release no).1)∧Sat (AN C D (s.release no).2*F) P:=by
 obtain ⟨L,PM,ps,hp,hs⟩:=Sat.Cu hs
 obtain ⟨b,hb,hl,h0,h1⟩:=ok.key (Ej l)
 have f:=U6 C L D PM ps s m no F w hs hp ok hm h0 h1
 have c:=F3 ok (Ej l)
 obtain ⟨Q,z,K,B,G⟩:=BX s no
 have g:Aside (s.release no=if (s.write no).1=0 then (0, { (s.write no).2 with its:=if D1 (s.write no).2.its no then Gc (s.write no).2.its no else (s.write no).2.its,CO:=Gd no (s.write no).2.CO }) else s.write no):=rfl
 obtain ⟨s1,j⟩:=Aq ((s.write no).2)
 obtain ⟨t,n⟩:=Aq ((s.write no).1)
 have o:s.write no=(t,s1):=by rw[←j,←n]
 rw[o] at f c g
 rw[j,←hp] at B
 rw[j] at G
 have k:D1 s1.its no=true:=by
  rcases G with e|e
  · rw[e];exact l
  rw[e,H0];exact l
 simp only at f c g
 rw[if_pos k] at g
 have Ef:=fun F w h=>bU L s1.cap s1.its no F w h c.LC
 rw[k,if_pos rfl] at Ef
 have r:Aside (BP ps=s1.CO∧BK no s.CO=some b):=⟨B.symm,hb⟩
 have R:=FK c.LC
 clear j n o Q z K B G c hs hl l k
 by_cases y:t=0
 · subst y
   rw[if_pos rfl] at g
   rw[g.out]
   clear g
   rcases Hk ps no with ⟨l1,p,l2,rfl,rfl,u⟩|x
   · obtain ⟨_,_,_,I,J⟩:=Hl (l2:=l2) u
     have H:Aside (BP (l1++l2)=Gd p.key s1.CO∧FG p.key ((l1++p::l2).map JE)=(l1++l2).map JE):=⟨by rw[←r.out.1];exact I.symm,J⟩
     clear I J hp hb
     go_enter Tryz.func253,Tryz.ntmps253
     go_wp2_with fail
     refine f.mono ?_
     rintro e z ⟨rfl,a⟩
     unfold BI at a
     haveI:=a.i
     have q:=FK Ef
     clear f Ef
     go_wp2_with fail
     refine De (q.out _ _ (Af (C8 L s1.cap s1.its))) fun K M _=>?_
     clear a
     go_wp2
     go_ret
     refine ⟨rfl,?_⟩
     refine Sat.AZ (L:=L) (PM:=PM) (ps:=l1++l2) H.out.1 ?_
     refine A6 (C:=rw TB 1 p.v (A1 p.b)) ?_
     rw[H.out.2,CE,show AV (p::l2)=rw TB 1 p.v (A1 p.b)*AV l2 from rfl]
     show _=coreC C L D PM s1*(C8 L s1.cap (Gc s1.its p.key)*(B6 D s1.d*(mp A8 PM ((l1++l2).map JE)*AV (l1++l2))))*F*rw TB 1 p.v (A1 p.b)
     rw[CE]
     ac_rfl
   have:=r.out.2
   rw[←hp,(JL x).1] at this
   cases this
 rw[if_neg y] at g
 rw[g.out]
 clear g
 have O:(t==0)=false:=by simpa using y
 go_enter Tryz.func253,Tryz.ntmps253
 go_wp2_with fail
 refine f.mono ?_
 rintro e z ⟨rfl,a⟩
 go_wp2
 go_ret
 exact ⟨rfl,Sat.AZ r.out.1 a⟩
theorem ZY(C D:Nat)(s:Ck)(m:Nat)(F:Ac)(w:World)(hs:Sat (AN C D s*F) w)(ok:Bf m s)(hm:m≤549755813888):
 Calls Tryz.prog 229 #[.pointer (some ⟨C,0,none⟩)] w fun e r=>e= .returned (.int .i64 s.room.1)∧Sat (AN C D s.room.2*F) r:=by
 obtain ⟨L,PM,ps,hp,f⟩:=Sat.Cu hs
 have c:ps.length=s.CO.length:=by rw[←hp];simp[BP]
 have d:=ok.len
 have p:=ok.cap
 have l:=ok.most
 unfold BI at f
 by_cases b:(ps.length:Int)<s.cap
 ·have e:s.room=(0,s):=by unfold Ck.room;rw[if_pos (by rw[←c];exact b)]
  rw[e]
  have j:=FK hp
  haveI:=f.i
  clear e hs hp c d
  go_enter Tryz.func229,Tryz.ntmps229
  go_upto_region 1 with (fail)
  go_region
  all_goals
   go_wp2
   go_ret
   exact ⟨rfl,Sat.AZ j.out (Av (by unfold BI;rfl))⟩
 have q:decide ((ps.length:Int)<s.cap)=false:=by simpa using b
 cases g:MQ s.its with
 | none =>
  have e:s.room=(9,s):=by unfold Ck.room;rw[if_neg (by rw[←c];exact b),g]
  rw[e]
  have a:=fun F w h=>WD L s.cap s.its F w h
  rw[g] at a
  have j:=FK hp
  have k:=FK a
  haveI:=f.i
  clear e hs hp c d b a g
  go_enter Tryz.func229,Tryz.ntmps229
  go_upto_region 1 with (fail)
  go_region
  all_goals
   go_wp2_with fail
   refine (k.out _ _ (Af (C8 L s.cap s.its))).mono ?_
   rintro e t ⟨rfl,rfl⟩
   go_wp2
   go_ret
   exact ⟨rfl,Sat.AZ j.out (Av (by unfold BI;rfl))⟩
 | some n =>
  have e:s.room=s.release n.key:=by unfold Ck.room;rw[if_neg (by rw[←c];exact b),g]
  rw[e]
  have a:=fun F w h=>WD L s.cap s.its F w h
  rw[g] at a
  have j:Aside (BP ps=s.CO∧D1 s.its n.key=true):=⟨hp,Ln g⟩
  have k:=FK a
  haveI:=f.i
  clear e hs hp c d b a g
  go_enter Tryz.func229,Tryz.ntmps229
  go_upto_region 1 with (fail)
  go_region
  all_goals
   go_wp2_with fail
   refine (k.out _ _ (Af (C8 L s.cap s.its))).mono ?_
   rintro e t ⟨rfl,rfl⟩
   go_wp2_with fail
   refine (TX C D s m n.key F _ (Sat.AZ j.out.1 (Av (by unfold BI;rfl))) ok hm j.out.2).mono ?_
   rintro e u ⟨rfl,o⟩
   go_wp2
   go_ret
   exact ⟨rfl,o⟩
theorem Uw(C D:Nat)(s:Ck)(m:Nat)(no:Int)(v:Value)(b:List UInt8)(B F:Ac)(w:World)(H:Reads B v b)(hs:Sat (AN C D s*(B*F)) w)(ok:Bf m s)(hm:m≤274877906944)(g:Bo s.its no=false)(hb:b.length=256):
 Calls Tryz.prog 181 #[.pointer (some ⟨C,0,none⟩),.int .i64 no,v] w fun e O=>e= .returned (.int .i64 (s.take no b).1)∧Sat (AN C D (s.take no b).2*(B*F)) O:=by
 obtain ⟨va,vc,rfl,M,X⟩:=(H _ _ (hs.take B)).len
 have f:=ZY C D s m _ w hs ok (by omega)
 obtain ⟨r1,u,z,Q⟩:=Ly ok
 have j:Aside (s.take no b=if s.room.1=0 then (0, { s.room.2 with its:=s.room.2.its++ [⟨no,0,false⟩],CO:=DL no b s.room.2.CO }) else s.room):=rfl
 obtain ⟨s1,l⟩:=Aq s.room.2
 obtain ⟨G,k⟩:=Aq s.room.1
 have t:s.room=(G,s1):=by rw[←l,←k]
 rw[t] at f j
 simp only at f j
 rw[l] at r1 u z
 rw[k] at u
 clear l k t
 by_cases y:G=0
 ·subst y
  rw[if_pos rfl] at j
  rw[j.out]
  have J:=u rfl
  have c:Bo s1.its no=false:=by
   rw[Bool.eq_false_iff];intro V;rw[z no V] at g;cases g
  have q:(BK no s1.CO).isSome=false:=by rw[←r1.same];exact c
  have x:Aside (Ei s1.its∧Bo s1.its no=false∧(s1.its.length:Int)≠s1.cap∧(BK no s1.CO).isSome=false):=⟨r1.LC,c,by omega,q⟩
  obtain ⟨i0,E⟩:=D2
  rw[hb] at M H
  rw[hb]
  have R:=FK hb
  clear j r1 u z Q J c q hs g hb
  go_enter Tryz.func181,Tryz.ntmps181
  go_wp2_with fail
  refine f.mono ?_
  rintro e Z ⟨rfl,a⟩
  obtain ⟨L,PM,ps,hp,a⟩:=Sat.Cu a
  unfold BI at a
  have P:=FK hp
  haveI:=a.i
  clear f hp
  go_wp2_with fail
  refine De (fU L s1.cap s1.its no _ _ (Af (C8 L s1.cap s1.its)) x.out.1 x.out.2.1 x.out.2.2.1) fun w3 W _=>?_
  clear a
  go_upto_region 5 with (fail)
  go_region_held3 (fun O=>O.cell? ⟨C,4,none⟩=some (.map (some PM))) (first|exact Ab _ _ _) (first
   |(refine B9 E rfl (.tmp 24) (.tmp 25) rfl rfl rfl (L1 (b:=w3.heap.size) (e:=TB)) (H.MT R.out) (by unfold maxLen;omega) (by omega) ?_;intro n c4 w4 r K;clear K;simp only[Nat.zero_add,List.nil_append] at r;haveI:=r.i))
  all_goals
   go_wp2
   go_ret
   refine ⟨rfl,?_⟩
   have o: ∀p∈ps,p.key≠no:=by
    rcases Hk ps no with ⟨l1,p,l2,rfl,rfl,I⟩|h
    · have:=x.out.2.2.2
      rw[←P.out,(Hl I).1] at this
      cases this
    exact h
   obtain ⟨_,_,T,U⟩:=JL o
   refine Sat.AZ (L:=L) (PM:=PM) (ps:=ps++ [⟨no,.slice n 256 c4,b⟩]) ?_ ?_
   · show _=DL no b s1.CO
     rw[←P.out,T];simp[BP]
   refine Av ?_
   rw[U]
   show _=coreC C L D PM s1*(C8 L s1.cap (s1.its++ [⟨no,0,false⟩])*(B6 D s1.d*(mp A8 PM ((ps++ [(⟨no,.slice n 256 c4,b⟩:Pg)]).map JE)*AV (ps++ [(⟨no,.slice n 256 c4,b⟩:Pg)]))))*(B*F)
   rw[CE,List.map_append,show AV [(⟨no,.slice n 256 c4,b⟩:Pg)]=rw TB 1 (.slice n 256 c4) (A1 b)*1 from rfl,Br]
   show _=coreC C L D PM s1*(C8 L s1.cap (s1.its++ [⟨no,0,false⟩])*(B6 D s1.d*(mp A8 PM (ps.map JE++ [(no,.slice n 256 c4)])*_)))*(B*F)
   ac_rfl
 rw[if_neg y] at j
 rw[j.out]
 have Y:(G !=0)=true:=by simpa using y
 clear j r1 u z Q hs g y
 go_enter Tryz.func181,Tryz.ntmps181
 go_wp2_with fail
 refine f.mono ?_
 rintro e Z ⟨rfl,a⟩
 go_wp2
 go_ret
 exact ⟨rfl,a⟩
theorem QF{its:List It}{no:Int}(c:Bo its no=false):EK its no=its:=by
 unfold EK Gc
 have h1:its.filter (fun n=>n.key==no)= []:=List.filter_eq_nil_iff.2 fun x hx=>by
  intro a
  have b:Bo its no=true:=Bj.2 (List.mem_map.2 ⟨x,hx,by simpa using a⟩)
  rw[c] at b;cases b
 have a:its.filter (fun n=>n.key !=no)=its:=List.filter_eq_self.2 fun x hx=>by
  simp
  intro a
  have b:Bo its no=true:=Bj.2 (List.mem_map.2 ⟨x,hx,a⟩)
  rw[c] at b;cases b
 rw[h1,a,List.append_nil]
theorem OD{d:Dk}{nm:ByteArray}{k:Int}{n:Nat}(h:(d.read nm k n).1=0):(d.read nm k n).2.length=n:=by
 unfold Dk.read at h⊢
 split at h
 ·rename_i h1;exact absurd h h1
 rename_i h1
 rw[if_neg h1]
 simp only at h⊢
 split at h
 ·cases h
 rename_i a
 rw[if_neg a]
 simp
 omega
def j0(C D:Nat)(F:Ac)(r:Int×List UInt8×Ck)(e:Ending)(a:World):Prop:=
 ∃v,e= .returned (.tuple #[v,.int .i64 r.1])∧Sat (rw TB 1 v (A1 r.2.1)*(AN C D r.2.2*F)) a
theorem p8(C D : Nat)(s : Ck)(m : Nat)(no : Int)(F : Ac)(w : World)(hs : Sat (AN C D s * F) w)(ok : Bf m s)(hm : m ≤ 274877906944) :
 Calls Tryz.prog 157 #[.pointer (some ⟨C,0,none⟩),.int .i64 no] w (j0 C D F (s.get no)):=by
 by_cases hr:no<0∨1048576≤no
 ·have e:s.get no=(1,[],s):=by unfold Ck.get;rw[if_pos hr]
  rw[e]
  have a:Sat (rw TB 1 (.slice none 0 0) (A1 [])*(AN C D s*F)) w:=Sat.AH hs
  rcases hr with hr|hr
  · go_enter Tryz.func157,Tryz.ntmps157
    go_wp2
    go_ret2
    exact ⟨_,rfl,a⟩
  have az: ¬no<0:=by omega
  go_enter Tryz.func157,Tryz.ntmps157
  go_wp2
  go_ret2
  exact ⟨_,rfl,a⟩
 have ah:0≤no:=by omega
 have ai:no<1048576:=by omega
 obtain ⟨L,PM,ps,hp,c⟩:=Sat.Cu hs
 unfold BI at c
 have ae:s.nm.size≤9223372036854775807:=Io ok.nm
 cases z:Bo s.its no with
 | true =>
  have e:s.get no=(0,s.As no, { s with its:=EK s.its no }):=by unfold Ck.get;rw[if_neg hr,if_pos z]
  rw[e]
  obtain ⟨b,hb,V,_,_⟩:=ok.key z
  rcases Hk ps no with ⟨l1,p,l2,rfl,rfl,ad⟩|ag
  · obtain ⟨q1,q2,_⟩:=Hl (l2:=l2) ad
    rw[hp] at q1
    have T:p.b=b:=by rw[q1] at hb;exact Option.some.inj hb
    have Z:s.As p.key=p.b:=by unfold Ck.As;rw[q1];rfl
    have hR:AV (l1++p::l2)=rw TB 1 p.v (A1 p.b)*(AV l1*AV l2):=by rw[CE];show AV l1*(_*AV l2)=_;ac_rfl
    rw[hR] at c
    obtain ⟨va,vc,G,aj,b0⟩:=G0 (c.take (rw TB 1 p.v (A1 p.b)))
    rw[T,V] at G aj
    have u:Aside (BP (l1++p::l2)=s.CO∧s.As p.key=p.b∧p.b.length=256∧AV (l1++p::l2)=rw TB 1 p.v (A1 p.b)*(AV l1*AV l2)∧p.v= .slice va 256 vc):=⟨hp,Z,by rw[T];exact V,hR,G⟩
    rw[G] at q2 c
    obtain ⟨ms,W⟩:=Aq ((l1++p::l2).map JE)
    rw[W] at q2 c
    have a9:Aside ((l1++p::l2).map JE=ms):=W
    clear W
    have q:=eF L s.cap s.its p.key _ w (c.take (C8 L s.cap s.its)) ok.LC
    rw[z] at q
    obtain ⟨i0,E⟩:=D2
    haveI:=c.i
    clear e hr hs hp z hb q1 T V Z hR G
    go_enter Tryz.func157,Tryz.ntmps157
    go_wp2_with fail
    refine q.mono ?_
    rintro e w2 ⟨rfl,a⟩
    clear q c
    haveI:=a.i
    go_wp2_with (at_builtin;(refine Ad E rfl (.tmp 24) (.tmp 30) rfl rfl rfl (L1 (b:=w2.heap.size) (e:=TB)) (Reads.MT (B:=rw TB 1 (.slice va 256 vc) (A1 p.b)) (by have t:=Reads.rw (e:=TB) (v:= .slice va 256 vc) (l:=p.b);exact t) u.out.2.2.1) (by unfold maxLen;omega) (by omega) ?_;intro a4 c4 w4 f af;clear af;simp only[Nat.zero_add,List.nil_append] at f;haveI:=f.i))
    go_ret2
    refine ⟨_,rfl,?_⟩
    obtain ⟨g1,g2,g3,g4,g5⟩:=u.out
    show Sat (rw TB 1 _ (A1 (s.As p.key))*_) _
    rw[g2,BC]
    refine Sat.AZ (L:=L) (PM:=PM) (ps:=l1++p::l2) g1 (f.eq ?_)
    show _=coreC C L D PM s*(C8 L s.cap (EK s.its p.key)*(B6 D s.d*(mp A8 PM ((l1++p::l2).map JE)*AV (l1++p::l2))))*_
    rw[g4,g5,a9.out]
    ac_rfl
  rw[←hp,(JL ag).1] at hb
  cases hb
 | false =>
  have O:Aside (s.get no=if (s.d.read s.nm (no*256) 256).1=0 then (if (s.take no (s.d.read s.nm (no*256) 256).2).1=0 then (0,(s.d.read s.nm (no*256) 256).2, { (s.take no (s.d.read s.nm (no*256) 256).2).2 with reads:=(s.take no (s.d.read s.nm (no*256) 256).2).2.reads+1 }) else ((s.take no (s.d.read s.nm (no*256) 256).2).1,[],(s.take no (s.d.read s.nm (no*256) 256).2).2)) else (if (s.d.read s.nm (no*256) 256).1=2 then 6 else (s.d.read s.nm (no*256) 256).1,[],s)):=by
   show _=_
   unfold Ck.get;rw[if_neg hr,if_neg (by simp[z])]
  have o:=OD (d:=s.d) (nm:=s.nm) (k:=no*256) (n:=256)
  obtain ⟨r,H⟩:=Aq (s.d.read s.nm (no*256) 256)
  have a0: ∀F w,Sat (B6 D s.d*F) w→Calls Tryz.prog 49 #[.pointer (some ⟨D,0,none⟩),.string s.nm,.int .i64 (no*256),.int .i64 256] w fun e j=> ∃v,e= .returned (.tuple #[v,.int .i64 r.1])∧Sat (rw TB 1 v (A1 r.2)*(B6 D s.d*F)) j:=by
   intro F w h
   have:=TU D s.d s.nm (no*256) 256 F w h ae (fun p hp=>(ok.dk.sz p hp).1)
   rw[H] at this
   exact this
  have P:r.1=0→r.2.length=256:=by
   have:((256:Nat):Int)=256:=rfl
   rw[this,H] at o
   exact o
  rw[H] at O
  clear o H
  have q:=eF L s.cap s.its no _ w (c.take (C8 L s.cap s.its)) ok.LC
  rw[z] at q
  have Q:EK s.its no=s.its:=QF z
  rw[Q] at q
  have x:Aside (∀F w,Sat (B6 D s.d*F) w→Calls Tryz.prog 49 #[.pointer (some ⟨D,0,none⟩),.string s.nm,.int .i64 (no*256),.int .i64 256] w fun e j=> ∃v,e= .returned (.tuple #[v,.int .i64 r.1])∧Sat (rw TB 1 v (A1 r.2)*(B6 D s.d*F)) j):=a0
  have u:Aside (BP ps=s.CO∧Bo s.its no=false∧(r.1=0→r.2.length=256)):=⟨hp,z,P⟩
  obtain ⟨rc,M⟩:=r
  simp only at O x u
  haveI:=c.i
  clear a0 P z hr hs hp Q
  by_cases t:rc=0
  · subst t
    rw[if_pos rfl] at O
    rw[O.out]
    clear O
    have o:=u.out.2.2 rfl
    have I:=fun(v:Value)(F:Ac)(w:World)(h:Sat (AN C D s*(rw TB 1 v (A1 M)*F)) w)=>Uw C D s m no v M (rw TB 1 v (A1 M)) F w Reads.rw h ok hm u.out.2.1 o
    have J:=Nk ok u.out.2.1 ah ai o
    obtain ⟨⟨tc,ts⟩,a1⟩:=Aq (s.take no M)
    rw[a1] at I J⊢
    simp only at I J⊢
    have X:Aside (∀(v:Value)(F:Ac)(w:World),Sat (AN C D s*(rw TB 1 v (A1 M)*F)) w→Calls Tryz.prog 181 #[.pointer (some ⟨C,0,none⟩),.int .i64 no,v] w fun e j=>e= .returned (.int .i64 tc)∧Sat (AN C D ts*(rw TB 1 v (A1 M)*F)) j):=I
    have y:=J.reads
    have ap:ts.reads≤4611686018427387904:=by unfold U at y;omega
    have aq:=y.1
    clear I a1 J o y
    by_cases t:tc=0
    · subst t
      rw[if_pos rfl]
      go_enter Tryz.func157,Tryz.ntmps157
      go_wp2_with fail
      refine q.mono ?_
      rintro e w2 ⟨rfl,a⟩
      haveI:=a.i
      clear q c
      go_upto_region 5 with (fail)
      have hw1:=Bc (no*256) (by omega)
      go_region_held3 (fun j=>j.cell? ⟨C,1,none⟩=some (.pointer (some ⟨D,0,none⟩))∧j.cell? ⟨C,2,none⟩=some (.string s.nm)) (first|exact ⟨Ab _ _ _,Ab _ _ _⟩) (first
       |(go_at_call 49;refine (x.out _ _ (Af (B6 D s.d))).mono ?_;rintro e w3 ⟨v,rfl,g⟩;haveI:=g.i))
      clear hw1 a
      all_goals
       go_wp2_with fail
       refine (X.out v F _ (Sat.AZ (L:=L) (PM:=PM) (ps:=ps) u.out.1 (Av (by unfold BI;ac_rfl)))).mono ?_
       rintro e w4 ⟨rfl,f⟩
       obtain ⟨L4,R,K,Y,f⟩:=Sat.Cu f
       unfold BI at f
       have aa:Aside (BP K=ts.CO):=Y
       haveI:=f.i
       clear g Y
       go_wp2
       go_ret2
       refine ⟨_,rfl,?_⟩
       rw[BC]
       refine Sat.AZ (L:=L4) (PM:=R) (ps:=K) aa.out ?_
       refine Av ?_
       show _=coreC C L4 D R { ts with reads:=ts.reads+1 } *(C8 L4 ts.cap ts.its*(B6 D ts.d*(mp A8 R (K.map JE)*AV K)))*_
       ac_rfl
    rw[if_neg t]
    have a2:(tc==0)=false:=by simpa using t
    have ak:(tc !=0)=true:=by simpa using t
    clear t
    go_enter Tryz.func157,Tryz.ntmps157
    go_wp2_with fail
    refine q.mono ?_
    rintro e w2 ⟨rfl,a⟩
    haveI:=a.i
    clear q c
    go_upto_region 5 with (fail)
    have hw1:=Bc (no*256) (by omega)
    go_region_held3 (fun j=>j.cell? ⟨C,1,none⟩=some (.pointer (some ⟨D,0,none⟩))∧j.cell? ⟨C,2,none⟩=some (.string s.nm)) (first|exact ⟨Ab _ _ _,Ab _ _ _⟩) (first
     |(go_at_call 49;refine (x.out _ _ (Af (B6 D s.d))).mono ?_;rintro e w3 ⟨v,rfl,g⟩;haveI:=g.i))
    clear hw1 a
    all_goals
     go_wp2_with fail
     refine (X.out v F _ (Sat.AZ (L:=L) (PM:=PM) (ps:=ps) u.out.1 (Av (by unfold BI;ac_rfl)))).mono ?_
     rintro e w4 ⟨rfl,f⟩
     go_wp2
     go_ret2
     exact ⟨_,rfl,Sat.AH (f.drop (rw TB 1 v (A1 M)))⟩
  rw[if_neg t] at O
  have a2:(rc==0)=false:=by simpa using t
  have al:(rc !=0)=true:=by simpa using t
  rw[O.out]
  clear O
  by_cases h2:rc=2
  · subst h2
    rw[if_pos rfl]
    clear t a2 al
    go_enter Tryz.func157,Tryz.ntmps157
    go_wp2_with fail
    refine q.mono ?_
    rintro e w2 ⟨rfl,a⟩
    haveI:=a.i
    clear q c
    go_upto_region 5 with (fail)
    have hw1:=Bc (no*256) (by omega)
    go_region_held3 (fun j=>j.cell? ⟨C,1,none⟩=some (.pointer (some ⟨D,0,none⟩))∧j.cell? ⟨C,2,none⟩=some (.string s.nm)) (first|exact ⟨Ab _ _ _,Ab _ _ _⟩) (first
     |(go_at_call 49;refine (x.out _ _ (Af (B6 D s.d))).mono ?_;rintro e w3 ⟨v,rfl,g⟩;haveI:=g.i))
    clear hw1 a
    all_goals
     go_wp2
     go_ret2
     refine ⟨_,rfl,Sat.AH (Sat.AZ (L:=L) (PM:=PM) (ps:=ps) u.out.1 ?_)⟩
     refine A6 (C:=rw TB 1 v (A1 M)) ?_
     unfold BI
     ac_rfl
  rw[if_neg h2]
  have ak:(rc==2)=false:=by simpa using h2
  clear t h2
  go_enter Tryz.func157,Tryz.ntmps157
  go_wp2_with fail
  refine q.mono ?_
  rintro e w2 ⟨rfl,a⟩
  haveI:=a.i
  clear q c
  go_upto_region 5 with (fail)
  have hw1:=Bc (no*256) (by omega)
  go_region_held3 (fun j=>j.cell? ⟨C,1,none⟩=some (.pointer (some ⟨D,0,none⟩))∧j.cell? ⟨C,2,none⟩=some (.string s.nm)) (first|exact ⟨Ab _ _ _,Ab _ _ _⟩) (first
   |(go_at_call 49;refine (x.out _ _ (Af (B6 D s.d))).mono ?_;rintro e w3 ⟨v,rfl,g⟩;haveI:=g.i))
  clear hw1 a
  all_goals
   go_wp2
   go_ret2
   refine ⟨_,rfl,Sat.AH (Sat.AZ (L:=L) (PM:=PM) (ps:=ps) u.out.1 ?_)⟩
   refine A6 (C:=rw TB 1 v (A1 M)) ?_
   unfold BI
   ac_rfl
theorem aQ(C D:Nat)(s:Ck)(m:Nat)(no:Int)(v:Value)(b:List UInt8)(B F:Ac)(w:World)(W:Reads B v b)(hs:Sat (AN C D s*(B*F)) w)(ok:Bf m s)(hm:m≤274877906944):
 Calls Tryz.prog 195 #[.pointer (some ⟨C,0,none⟩),.int .i64 no,v] w fun e w'=>e= .returned (.int .i64 (s.put no b).1)∧Sat (AN C D (s.put no b).2*(B*F)) w':=by
 obtain ⟨va,vc,rfl,a7,an⟩:=(W _ _ (hs.take B)).len
 by_cases hr:no<0∨1048576≤no∨b.length≠256
 ·have e:s.put no b=(1,s):=by unfold Ck.put;rw[if_pos hr]
  rw[e]
  by_cases h1:no<0
  · go_enter Tryz.func195,Tryz.ntmps195
    go_wp2
    go_ret
    exact ⟨rfl,hs⟩
  by_cases h2:1048576≤no
  · go_enter Tryz.func195,Tryz.ntmps195
    go_wp2
    go_ret
    exact ⟨rfl,hs⟩
  have h3:((b.length:Int) !=256)=true:=by simp;omega
  have am:(b.length !=256)=true:=by simp;omega
  have h4:no<1048576:=by omega
  have h5:0≤no:=by omega
  clear hr e h2 h1
  go_enter Tryz.func195,Tryz.ntmps195
  go_wp2
  go_ret
  exact ⟨rfl,hs⟩
 have a4:0≤no:=by omega
 have a5:no<1048576:=by omega
 have g:b.length=256:=by omega
 obtain ⟨L,PM,ps,hp,a⟩:=Sat.Cu hs
 unfold BI at a
 rw[g] at W a7
 rw[g]
 have Y:Aside (b.length=256):=g
 have j:=eF L s.cap s.its no _ w (a.take (C8 L s.cap s.its)) ok.LC
 cases k:Bo s.its no with
 | true =>
  have e:s.put no b=(0, { s with its:=Bm (EK s.its no) no true,CO:=DL no b s.CO }):=by unfold Ck.put;rw[if_neg hr,if_pos k]
  rw[e]
  rw[k] at j
  obtain ⟨b0,hb,K,_,_⟩:=ok.key k
  have M:=Z8 ok.LC no
  rcases Hk ps no with ⟨l1,p,l2,rfl,rfl,a2⟩|a3
  · obtain ⟨q1,q2,q3,_⟩:=Hl (l2:=l2) a2
    rw[hp] at q1
    have l:p.b.length=256:=by rw[q1] at hb;rw[Option.some.inj hb];exact K
    have hR: ∀q:Pg,AV (l1++q::l2)=rw TB 1 q.v (A1 q.b)*(AV l1*AV l2):=by intro q;rw[CE];show AV l1*(_*AV l2)=_;ac_rfl
    rw[hR] at a j
    rcases (a.take (rw TB 1 p.v (A1 p.b))).Cz with ⟨_,V,_⟩|⟨pg,n,pc,sp,H,V,g3,g4,g5,g6⟩
    ·have:=congrArg List.length V;rw[Cr,l] at this;cases this
    rw[Cr,l,Nat.mul_one] at V
    subst V
    rw[H] at q2 a j
    obtain ⟨ms,G⟩:=Aq ((l1++p::l2).map JE)
    have x:Aside ((l1++ { p with b:=b } ::l2).map JE=ms∧BP (l1++ { p with b:=b } ::l2)=DL p.key b s.CO∧p.v= .slice (some ⟨pg,0,none⟩) 256 pc):=⟨by rw[←G];simp[JE],by rw[←hp];exact (q3 b).symm,H⟩
    have y:Aside ((∀q:Pg,AV (l1++q::l2)=rw TB 1 q.v (A1 q.b)*(AV l1*AV l2))∧p.b.length=256∧Ei (EK s.its p.key)∧Bo (EK s.its p.key) p.key=true):=⟨hR,l,M,Bj.2 (WX.2 (Bj.1 k))⟩
    rw[G] at q2 a j
    obtain ⟨i0,E⟩:=D2
    haveI:=a.i
    clear e hr hs hp k hb q1 q3 l g hR H G g3 g6 M
    go_enter Tryz.func195,Tryz.ntmps195
    go_wp2_with fail
    refine j.mono ?_
    rintro e w2 ⟨rfl,c⟩
    have U:=W _ _ (c.take B)
    obtain ⟨w3,Q,R⟩:=L0 (P:=Tryz.prog) E 26 3 (lo:=0) (c.take (rw TB 1 (.slice (some ⟨pg,0,none⟩) 256 pc) (A1 p.b))) U (by rw[Y.out];omega)
    rw[PF,Nat.sub_zero,Nat.sub_zero,Y.out] at Q
    rw[Y.out,List.take_zero,List.nil_append,List.drop_of_length_le (by rw[Cr,y.out.2.1];omega),List.append_nil] at R
    haveI:=c.i
    haveI:=R.i
    clear j a U
    go_wp2_with fail
    refine (Zv L s.cap (EK s.its p.key) p.key true _ _ (Af (C8 L s.cap (EK s.its p.key))) y.out.2.2.1).mono ?_
    rintro e w4 ⟨rfl,f⟩
    go_wp2
    go_ret
    refine ⟨rfl,Sat.AZ (L:=L) (PM:=PM) (ps:=l1++ { p with b:=b } ::l2) x.out.2.1 (f.eq ?_)⟩
    show _=coreC C L D PM s*(C8 L s.cap (Bm (EK s.its p.key) p.key true)*(B6 D s.d*(mp A8 PM ((l1++ { p with b:=b } ::l2).map JE)*AV (l1++ { p with b:=b } ::l2))))*_
    rw[x.out.1,y.out.1]
    show _=coreC C L D PM s*(C8 L s.cap (Bm (EK s.its p.key) p.key true)*(B6 D s.d*(mp A8 PM ms*(rw TB 1 p.v (A1 b)*_))))*_
    rw[x.out.2.2]
    ac_rfl
  rw[←hp,(JL a3).1] at hb
  cases hb
 | false =>
  have HE:Aside (s.put no b=if (s.take no b).1=0 then (0, { (s.take no b).2 with its:=Bm (s.take no b).2.its no true }) else s.take no b):=by
   show _=_
   unfold Ck.put;rw[if_neg hr,if_neg (by simp[k])]
  rw[k] at j
  have u:EK s.its no=s.its:=QF k
  rw[u] at j
  have o:=fun(F:Ac)(w:World)(h:Sat (AN C D s*(B*F)) w)=>Uw C D s m no (.slice va 256 vc) b B F w W h ok hm k g
  have r:=(Nk ok k a4 a5 g).LC
  rw[HE.out]
  obtain ⟨⟨tc,ts⟩,T⟩:=Aq (s.take no b)
  rw[T] at o r⊢
  simp only at o r⊢
  have I:Aside (∀(F:Ac)(w:World),Sat (AN C D s*(B*F)) w→Calls Tryz.prog 181 #[.pointer (some ⟨C,0,none⟩),.int .i64 no,.slice va 256 vc] w fun e w'=>e= .returned (.int .i64 tc)∧Sat (AN C D ts*(B*F)) w'):=o
  have Z:Aside (BP ps=s.CO∧Ei ts.its):=⟨hp,r⟩
  haveI:=a.i
  clear o T r u k hr hs hp g HE
  by_cases X:tc=0
  · subst X
    rw[if_pos rfl]
    go_enter Tryz.func195,Tryz.ntmps195
    go_wp2_with fail
    refine j.mono ?_
    rintro e w2 ⟨rfl,c⟩
    clear j a
    go_wp2_with fail
    refine (I.out F _ (Sat.AZ (L:=L) (PM:=PM) (ps:=ps) Z.out.1 (c.eq (by unfold BI;ac_rfl)))).mono ?_
    rintro e w4 ⟨rfl,f⟩
    obtain ⟨J,z,t,O,f⟩:=Sat.Cu f
    unfold BI at f
    have a0:Aside (BP t=ts.CO):=O
    haveI:=f.i
    clear c O
    go_wp2_with fail
    refine (Zv J ts.cap ts.its no true _ _ (Af (C8 J ts.cap ts.its)) Z.out.2).mono ?_
    rintro e w5 ⟨rfl,a6⟩
    go_wp2
    go_ret
    refine ⟨rfl,Sat.AZ (L:=J) (PM:=z) (ps:=t) a0.out (a6.eq ?_)⟩
    show _=coreC C J D z ts*(C8 J ts.cap (Bm ts.its no true)*(B6 D ts.d*(mp A8 z (t.map JE)*AV t)))*_
    ac_rfl
  rw[if_neg X]
  have ao:(tc !=0)=true:=by simpa using X
  clear X
  go_enter Tryz.func195,Tryz.ntmps195
  go_wp2_with fail
  refine j.mono ?_
  rintro e w2 ⟨rfl,c⟩
  clear j a
  go_wp2_with fail
  refine (I.out F _ (Sat.AZ (L:=L) (PM:=PM) (ps:=ps) Z.out.1 (c.eq (by unfold BI;ac_rfl)))).mono ?_
  rintro e w4 ⟨rfl,f⟩
  go_wp2
  go_ret
  exact ⟨rfl,f⟩
theorem VZ(C D:Nat)(s:Ck)(m:Nat)(no:Int)(F:Ac)(w:World)(hs:Sat (AN C D s*F) w)(ok:Bf m s)(hm:m≤549755813888)(h0:0≤no)(h1:no<1048576):
 Calls Tryz.prog 101 #[.pointer (some ⟨C,0,none⟩),.int .i64 no] w fun e b=>e= .returned (.int .i64 (s.write no).1)∧Sat (AN C D (s.write no).2*F) b:=by
 obtain ⟨L,PM,ps,hp,a⟩:=Sat.Cu hs
 refine (U6 C L D PM ps s m no F w a hp ok hm h0 h1).mono ?_
 rintro e b ⟨c,d⟩
 exact ⟨c,Sat.AZ (by rw[(BX s no).2.2.2.1];exact hp) d⟩
theorem JT(s:Ck)(no k:Int):Bo (s.write no).2.its k=Bo s.its k:=by
 rcases (BX s no).2.2.2.2 with e|e
 ·rw[e]
 rw[e,NR]
theorem Xq(C D:Nat)(s:Ck)(m:Nat)(F:Ac)(w:World)(hs:Sat (AN C D s*F) w)(ok:Bf m s)(hm:m+s.its.length*U≤549755813888):
 Calls Tryz.prog 36 #[.pointer (some ⟨C,0,none⟩)] w fun e H=>e= .returned (.int .i64 s.flush.1)∧Sat (AN C D s.flush.2*F) H:=by
 obtain ⟨R,HR⟩: ∃R,Aside (Ck.writes (BE s.its) s=R):=⟨_,rfl⟩
 have M:Aside (s.flush=if R.1=0 then ((if (R.2.d.sync R.2.nm).1=6 then 0 else (R.2.d.sync R.2.nm).1), { R.2 with d:=(R.2.d.sync R.2.nm).2 }) else R):=by
  show _=_
  unfold Ck.flush;rw[HR.out]
 obtain ⟨Z,J⟩: ∃Z,Aside (s.flush=Z):=⟨_,rfl⟩
 rw[J.out]
 rw[J.out] at M
 clear J
 obtain ⟨L,PM,ps,hp,T⟩:=Sat.Cu hs
 unfold BI at T
 have a3:=W9 L s.cap s.its _ w (T.take (C8 L s.cap s.its)) ok.LC
 have a6: ∀z∈BE s.its,Bo s.its z=true:=by
  intro z hz
  exact PG (s:=s) (by unfold Ck.CD;exact List.contains_iff_mem.2 hz)
 have Y:(BE s.its).length≤s.its.length:=by
  unfold BE Em
  rw[(List.mergeSort_perm _ _).length_eq,List.length_map]
  exact List.length_filter_le _ _
 obtain ⟨zs,u⟩:=Aq (BE s.its)
 rw[u] at a3 a6 Y HR
 have HP:Aside (BP ps=s.CO∧(∀z∈zs,Bo s.its z=true)∧Bf m s∧m+zs.length*U≤549755813888∧zs.length≤4096):=⟨hp,a6,ok,by have:=Nat.mul_le_mul_right U Y;omega,by have:=ok.LC.len;omega⟩
 haveI:=T.i
 clear u a6 Y hs hp ok hm
 go_enter Tryz.func36,Tryz.ntmps36
 go_wp2_with fail
 refine a3.mono ?_
 rintro e w1 ⟨a,n,c,rfl,V⟩
 have hn:n=zs.length:=by have:=V.C';simpa using this
 subst hn
 obtain ⟨R0,a2⟩:=Aq (rw 3 1 (.slice a zs.length c) (zs.map (Value.int .i64)))
 have hI: ∀F w,Sat (R0*F) w→Ints w (.slice a zs.length c) zs:=by intro F w h;rw[←a2] at h;exact Ints.cJ h
 have B:Sat (R0*(AN C D s*F)) w1:=by
  rw[a2] at V
  have h3:=Sat.AZ (L:=L) (PM:=PM) (ps:=ps) (C:=C) (D:=D) (s:=s) (F:=R0*F) (w:=w1) HP.out.1 (V.eq (by unfold BI;ac_rfl))
  exact h3.eq (by ac_rfl)
 have HI:Aside (∀F w,Sat (R0*F) w→Ints w (.slice a zs.length c) zs):=hI
 have Y:zs.length≤4096:=HP.out.2.2.2.2
 clear a3 T V a2 hI
 go_wp2_with fail
 go_loopg [15] zs.length (fun k al wr=> ∃(j:Nat)(t:Ck),al= .int .i64 j∧j≤zs.length∧Aside (k=zs.length-j∧Ck.writes (zs.drop j) t=R∧Bf (m+j*U) t∧(∀z,Bo t.its z=Bo s.its z))∧Sat (R0*(AN C D t*F)) wr)
 case atStart=>exact ⟨0,s,rfl,by omega,⟨rfl,HR.out,by simpa using HP.out.2.2.1,fun _=>rfl⟩,B⟩
 clear B
 obtain ⟨j,t,rfl,hj,A,hs⟩:=hrel
 by_cases P:j<zs.length
 · have ac:(j:Int)<zs.length:=by omega
   obtain ⟨z,hz⟩: ∃z,zs[j]?=some z:=⟨zs[j],by simp[P]⟩
   obtain ⟨hk,r,p,l⟩:=A.out
   have X:Bo t.its z=true:=by rw[l];exact HP.out.2.1 z (List.mem_of_getElem? hz)
   obtain ⟨b0,_,_,a4,a5⟩:=p.key X
   have Q:m+j*U+U≤549755813888:=by
    have:=HP.out.2.2.2.1
    have h2:(j+1)*U≤zs.length*U:=Nat.mul_le_mul_right U P
    rw[Nat.add_mul] at h2
    omega
   have hw:=VZ C D t (m+j*U) z (R0*F) wr (hs.eq (by ac_rfl)) p (by omega) a4 a5
   have hw2:=F3 p X
   have Ef:zs.drop j=z::zs.drop (j+1):=by
    rw[List.drop_eq_getElem_cons P]
    congr 1
    rw[List.getElem?_eq_getElem P] at hz;exact Option.some.inj hz
   rw[Ef] at r
   have f:(if (t.write z).1=0 then Ck.writes (zs.drop (j+1)) (t.write z).2 else t.write z)=R:=r
   have g: ∀y,Bo (t.write z).2.its y=Bo s.its y:=by
    intro y;rw[←l y,JT]
   obtain ⟨⟨K,rs⟩,x⟩:=Aq (t.write z)
   rw[x] at hw hw2 f g
   simp only at hw hw2 f g
   obtain ⟨b,o,rfl,hc⟩:=(HI.out _ _ hs).at hz
   have HK:Aside (gk=zs.length-j):=hk
   have HH:Aside (∀y,Bo rs.its y=Bo s.its y):=g
   have HO:Aside (Bf (m+(j+1)*U) rs):=hw2.more (by rw[Nat.add_mul];omega)
   by_cases u:K=0
   · subst u
     rw[if_pos rfl] at f
     have HW:Aside (Ck.writes (zs.drop (j+1)) rs=R):=f
     clear A hz hk r p l X a4 a5 Q hw2 Ef f g x
     go_wp2_with fail
     refine hw.mono ?_
     rintro e w3 ⟨rfl,B⟩
     clear hw hs hc
     go_wp2_with fail
     go_roundg (zs.length-(j+1))
     case measure=>have:=HK.out;omega
     case rel=>exact ⟨j+1,rs,by go_num,by omega,⟨rfl,HW.out,HO.out,HH.out⟩,B.eq (by ac_rfl)⟩
   rw[if_neg u] at f
   have b2:(K !=0)=true:=by simpa using u
   have HW:Aside (Z=(K,rs)):=by
    show _=_
    rw[M.out,←f,if_neg u]
   clear A hz hk r p l X a4 a5 Q hw2 Ef f g x u
   go_wp2_with fail
   refine hw.mono ?_
   rintro e w3 ⟨rfl,B⟩
   clear hw hs hc
   go_wp2
   go_ret
   rw[HW.out]
   exact ⟨rfl,(B.eq (BC _ _ _)).right⟩
 have ac: ¬(j:Int)<zs.length:=by omega
 obtain ⟨hk,r,p,l⟩:=A.out
 rw[List.drop_of_length_le (by omega)] at r
 have f:(0,t)=R:=r
 have J:Aside (Z=((if (t.d.sync t.nm).1=6 then 0 else (t.d.sync t.nm).1), { t with d:=(t.d.sync t.nm).2 })):=by
  show _=_
  rw[M.out,←f,if_pos rfl]
 have Q:m+j*U≤549755813888:=by
  have:=HP.out.2.2.2.1
  have h2:j*U≤zs.length*U:=Nat.mul_le_mul_right U hj
  omega
 have ak:t.nm.size≤9223372036854775807:=Io p.nm
 have W:=fun F w h=>N' D t.d (m+j*U) t.nm F w h ak p.dk (by unfold Pn;omega)
 obtain ⟨⟨K,rd⟩,x⟩:=Aq (t.d.sync t.nm)
 rw[x] at W J
 simp only at W J
 have a1:Aside (∀(F:Ac)(w:World),Sat (B6 D t.d*F) w→Calls Tryz.prog 102 #[.pointer (some ⟨D,0,none⟩),.string t.nm] w fun e H=>e= .returned (.int .i64 K)∧Sat (B6 D rd*F) H):=W
 obtain ⟨L5,I,G,ad,ae⟩:=Sat.Cu (hs.right)
 unfold BI at ae
 have ag:Aside (BP G=t.CO):=ad
 haveI:=ae.i
 clear A hk r p l f Q W x M ad hs
 have v:Aside (∀w,Sat (B6 D rd*(coreC C L5 D I t*(C8 L5 t.cap t.its*(mp A8 I (G.map JE)*AV G))*F)) w→Sat (AN C D { t with d:=rd } *F) w):=by
  intro w h
  refine Sat.AZ (L:=L5) (PM:=I) (ps:=G) ag.out (h.eq ?_)
  show _=coreC C L5 D I t*(C8 L5 t.cap t.its*(B6 D rd*(mp A8 I (G.map JE)*AV G)))*F
  ac_rfl
 by_cases h6:K=6
 · subst h6
   have O:Aside (Z=(0, { t with d:=rd })):=by show _=_;rw[J.out,if_pos rfl]
   clear J
   go_upto_region 10 with (fail)
   go_region_held3 (fun H=>H.cell? ⟨C,1,none⟩=some (.pointer (some ⟨D,0,none⟩))∧H.cell? ⟨C,2,none⟩=some (.string t.nm)) (first|exact ⟨Ab _ _ _,Ab _ _ _⟩) (first
    |(go_at_call 102;refine (a1.out _ _ (Af (B6 D t.d))).mono ?_;rintro e w6 ⟨rfl,q⟩;haveI:=q.i))
   all_goals
    go_wp2
    go_ret
    rw[O.out]
    exact ⟨rfl,v.out _ (q.eq (by ac_rfl))⟩
 have O:Aside (Z=(K, { t with d:=rd })):=by show _=_;rw[J.out,if_neg h6]
 clear J
 have aj:(K !=6)=true:=by simpa using h6
 by_cases h0:K=0
 · subst h0
   clear h6 aj
   go_upto_region 10 with (fail)
   go_region_held3 (fun H=>H.cell? ⟨C,1,none⟩=some (.pointer (some ⟨D,0,none⟩))∧H.cell? ⟨C,2,none⟩=some (.string t.nm)) (first|exact ⟨Ab _ _ _,Ab _ _ _⟩) (first
    |(go_at_call 102;refine (a1.out _ _ (Af (B6 D t.d))).mono ?_;rintro e w6 ⟨rfl,q⟩;haveI:=q.i))
   all_goals
    go_wp2
    go_ret
    rw[O.out]
    exact ⟨rfl,v.out _ (q.eq (by ac_rfl))⟩
 have ax:(K !=0)=true:=by simpa using h0
 clear h6 h0
 go_upto_region 10 with (fail)
 go_region_held3 (fun H=>H.cell? ⟨C,1,none⟩=some (.pointer (some ⟨D,0,none⟩))∧H.cell? ⟨C,2,none⟩=some (.string t.nm)) (first|exact ⟨Ab _ _ _,Ab _ _ _⟩) (first
  |(go_at_call 102;refine (a1.out _ _ (Af (B6 D t.d))).mono ?_;rintro e w6 ⟨rfl,q⟩;haveI:=q.i))
 all_goals
  go_wp2
  go_ret
  rw[O.out]
  exact ⟨rfl,v.out _ (q.eq (by ac_rfl))⟩
def KZ(s:ByteArray):Bool:=decide (1≤s.size)&&decide (s.size≤16)
theorem Ox(s:ByteArray):Dk.named s=(s.data.toList.all GG&&KZ s):=by
 unfold Dk.named KZ GG
 rw[Bool.and_comm]
theorem Vi(s:ByteArray)(w:World)(hs:s.size≤9223372036854775807):
 Calls Tryz.prog 111 #[.string s] w fun e l=>e= .returned (.bool (Dk.named s))∧w=l:=by
 obtain ⟨r,d⟩: ∃r,Aside (Dk.named s=r):=⟨_,rfl⟩
 rw[d.out]
 go_enter Tryz.func111,Tryz.ntmps111
 go_wp2
 go_loop [6] (fun i=> ∃k:Nat,k≤s.size∧i= .int .i64 k∧Aside ((s.data.toList.take k).all GG=true)) (fun i=>s.size-(intOf i).toNat)
 case atStart=>exact ⟨0,Nat.zero_le _,rfl,by simp[Aside]⟩
 obtain ⟨k,m,rfl,A⟩:=hrel
 by_cases b:k<s.size
 · have hb:=s[k].toNat_lt
   by_cases c1:s[k].toNat<97
   · have a:Aside (r=false):=by
      have:=JI b (show GG s[k]=false by unfold GG;simp;omega)
      show _=_
      rw[←d.out,Ox,this];rfl
     go_wp2
     go_ret
     exact ⟨by rw[a.out];rfl,rfl⟩
   by_cases c2:122<s[k].toNat
   · have a:Aside (r=false):=by
      have:=JI b (show GG s[k]=false by unfold GG;simp;omega)
      show _=_
      rw[←d.out,Ox,this];rfl
     go_wp2
     go_ret
     exact ⟨by rw[a.out];rfl,rfl⟩
   have j:Aside ((s.data.toList.take (k+1)).all GG=true):=by
    show _=true
    rw[JZ s k b,A.out]
    unfold GG;simp;omega
   go_wp2
   go_round
   case rel=>exact ⟨k+1,by omega,by go_num,j⟩
   case measure=>simp[intOf];omega
 have a:Aside (r=KZ s):=by
  have:=A.out
  rw[List.take_of_length_le (by simp;omega)] at this
  show _=_
  rw[←d.out,Ox,this];rfl
 clear A
 by_cases h1:1≤s.size
 · by_cases g:s.size≤16
   · have c:Aside (KZ s=true):=by show _=_;simp[KZ,h1,g]
     have f:decide ((s.size:Int)≤16)=true:=by simp;omega
     go_wp2
     go_ret
     exact ⟨by rw[a.out,c.out];rfl,rfl⟩
   have c:Aside (KZ s=false):=by show _=_;simp[KZ,g]
   have f:decide ((s.size:Int)≤16)=false:=by simp;omega
   go_wp2
   go_ret
   exact ⟨by rw[a.out,c.out];rfl,rfl⟩
 have c:Aside (KZ s=false):=by show _=_;simp[KZ,h1]
 go_wp2
 go_ret
 exact ⟨by rw[a.out,c.out];rfl,rfl⟩
theorem Z2(D:Nat)(d:Dk)(nm:ByteArray)(cap:Int)(F:Ac)(w:World)(hs:Sat (B6 D d*F) w)(l:Dk.named nm=true)(h1:1≤cap)(p:cap≤4096):
 Calls Tryz.prog 46 #[.pointer (some ⟨D,0,none⟩),.string nm,.int .i64 cap] w fun e m=> ∃C,e= .returned (.tuple #[.pointer (some ⟨C,0,none⟩),.int .i64 0])∧Sat (AN C D ⟨nm,cap,0,d,[],[]⟩*F) m:=by
 have c:=Vi nm w (Io l)
 rw[l] at c
 have a:=aG cap _ w hs h1 p
 have q:= @run_makeMap Tryz.prog
 go_enter Tryz.func46,Tryz.ntmps46
 go_wp2_with fail
 refine c.mono ?_
 rintro e m ⟨rfl,rfl⟩
 go_wp2_with fail
 refine a.mono ?_
 rintro e f ⟨L,M,rfl,g⟩
 have j:=Sat.Hb (its:= []) rfl g
 have k:=j.Dh (.map #[] 0)
 have i:=k.alloc #[.pointer (some ⟨L,0,none⟩),.pointer (some ⟨D,0,none⟩),.string nm,.int .i64 cap,.map (some f.heap.size),.int .i64 0] TC
 have e:(f.alloc (.map #[] 0)).heap.size=f.heap.size+1:=by simp
 rw[e] at i
 have n:=Sat.Es (kf:=A8) (ms:= []) (b:=f.heap.size) (o:= .map #[] 0) ⟨#[],0,rfl,rfl,by simp,by simp⟩ (i.take (raw f.heap.size _))
 clear j k i e hs g c a
 go_wp2
 go_ret2
 refine ⟨f.heap.size+1,rfl,?_⟩
 refine Sat.AZ (L:=L) (PM:=f.heap.size) (ps:= []) rfl (n.eq ?_)
 unfold BI coreC
 simp only[block,Sl.cells,AV,List.map_nil,Aw,Br,List.length_cons,List.length_nil,Nat.zero_add,Nat.reduceAdd]
 ac_rfl
theorem YM{m:Nat}{s:Ck}(ok:Bf m s)(k:Int):Bf m { s with its:=EK s.its k } :=
 ⟨Z8 ok.LC k,ok.nd,fun j=>by show Bo (EK s.its k) j=_;rw[PU (fun _=>WX)];exact ok.same j,by show _=(EK s.its k).length;rw[(BL s.its k).length_eq];exact ok.len,ok.As,ok.cap,by show ((EK s.its k).length:Int)≤_;rw[(BL s.its k).length_eq];exact ok.most,ok.dk,ok.nm,ok.reads⟩
theorem dC{m:Nat}{s:Ck}(ok:Bf m s)(no:Int):Bf (m+U) (s.get no).2.2:=by
 unfold Ck.get
 split
 ·exact ok.more (by omega)
 split
 ·exact (YM ok no).more (by omega)
 rename_i hr e
 have b:Bo s.its no=false:=by simpa using e
 simp only
 split
 ·rename_i f
  have hl:(s.d.read s.nm (no*256) 256).2.length=256:=OD (n:=256) f
  have a:=Nk ok b (by omega) (by omega) hl
  split
  ·exact ⟨a.LC,a.nd,a.same,a.len,a.As,a.cap,a.most,a.dk,a.nm,by
    have c:(s.take no (s.d.read s.nm (no*256) 256).2).2.reads=s.reads:=KB s no _
    have:=ok.reads
    show 0≤(s.take no (s.d.read s.nm (no*256) 256).2).2.reads+1∧(s.take no (s.d.read s.nm (no*256) 256).2).2.reads+1≤((m+U:Nat):Int)
    rw[c];unfold U;omega⟩
  exact a
 exact ok.more (by omega)
theorem Md{m:Nat}{s:Ck}(ok:Bf m s)(no:Int)(b:List UInt8):Bf (m+U) (s.put no b).2:=by
 unfold Ck.put
 split
 ·exact ok.more (by omega)
 split
 ·rename_i hr a
  have h1:=(YM ok no).mark no true
  have hp:(BK no s.CO).isSome=true:=by rw[←ok.same];exact a
  refine Bf.more (m:=m) ⟨h1.LC,?_,?_,?_,?_,h1.cap,h1.most,h1.dk,h1.nm,h1.reads⟩ (by omega)
  ·show ((DL no b s.CO).map (·.1)).Nodup
   rw[Mb,hp];exact ok.nd
  ·intro k
   show Bo (Bm (EK s.its no) no true) k=(BK k (DL no b s.CO)).isSome
   rw[h1.same k,CU]
   show (BK k s.CO).isSome=_
   split
   ·rename_i e;subst e;rw[hp];rfl
   rfl
  ·show (DL no b s.CO).length=(Bm (EK s.its no) no true).length
   rw[T4,hp]
   exact h1.len
  intro p d
  exact Qw (by omega) (by omega) (by omega) ok.As p d
 rename_i hr a
 have c:Bo s.its no=false:=by simpa using a
 have f:=Nk (b:=b) ok c (by omega) (by omega) (by omega)
 split
 ·exact f.mark no true
 exact f
theorem Hw: ∀(l:List Int){m:Nat}{s:Ck},Bf m s→(∀k∈l,Bo s.its k=true)→Bf (m+l.length*U) (Ck.writes l s).2∧(Ck.writes l s).2.nm=s.nm
 | [],m,s,ok,_=>⟨ok.more (by omega),rfl⟩
 | k :: l, m, s, ok, h => by
  have h1:=F3 ok (h k (by simp))
  have e:(k::l).length*U=l.length*U+U:=by rw[List.length_cons,Nat.add_mul];omega
  unfold Ck.writes
  split
  ·obtain ⟨a,b⟩:=Hw l h1 fun j c=>by rw[JT];exact h j (by simp[c])
   exact ⟨a.more (by rw[e];omega),by rw[b];exact (BX s k).1⟩
  exact ⟨h1.more (by rw[e];omega),(BX s k).1⟩
theorem Om(its:List It):(BE its).length≤its.length:=by
 unfold BE Em
 rw[(List.mergeSort_perm _ _).length_eq,List.length_map]
 exact List.length_filter_le _ _
theorem Kq{its:List It}{z:Int} :z∈BE its↔ ∃n∈its,n.Jg=true∧n.key=z:=by
 unfold BE
 rw[QB,List.mem_map]
 constructor
 ·rintro ⟨n,h1,a⟩;exact ⟨n,(List.mem_filter.1 h1).1,(List.mem_filter.1 h1).2,a⟩
 rintro ⟨n,h1,a,b⟩;exact ⟨n,List.mem_filter.2 ⟨h1,a⟩,b⟩
theorem Ff{its:List It}{z:Int}(h:z∈BE its):Bo its z=true:=by
 obtain ⟨n,h1,_,a⟩:=Kq.1 h
 exact Bj.2 (List.mem_map.2 ⟨n,h1,a⟩)
theorem S4{m:Nat}{s:Ck}(ok:Bf m s):Bf (m+s.its.length*U+1) s.flush.2:=by
 obtain ⟨h,c⟩:=Hw (BE s.its) ok fun k b=>Ff b
 have hl:=Nat.mul_le_mul_right U (Om s.its)
 unfold Ck.flush
 simp only
 split
 ·have a:=aL h.dk (Ck.writes (BE s.its) s).2.nm
  exact h.n7 (by omega) (Et a (by omega))
 exact h.more (by omega)
end Go.Proofs.YtfhbmblbidcmmaaGreat
namespace Go.Proofs.YtfhbmblbidcmmaaGreat
open Go.Dk
def A0(d:Dk)(nm:ByteArray):List UInt8:=((d.get nm).getD Dk.KF).now
def PR(d:Dk)(nm:ByteArray):Bool:=((d.get nm).getD Dk.KF).sure
def FY(d:Dk)(nm:ByteArray):List UInt8:=((d.get nm).getD Dk.KF).safe
theorem Qa{l b:List UInt8}{k p q:Nat}(hp:p+q≤l.length)(h:k+b.length≤p∨p+q≤k):((laid l k b).drop p).take q=(l.drop p).take q:=by
 apply List.ext_getElem?
 intro i
 by_cases hi:i<q
 ·rw[List.getElem?_take_of_lt hi,List.getElem?_take_of_lt hi,List.getElem?_drop,List.getElem?_drop]
  unfold laid
  rcases h with h|h
  ·have h1:((l++List.replicate (k+b.length-l.length) 0).take k).length=k:=by simp;omega
   grind
  have h1:((l++List.replicate (k+b.length-l.length) 0).take k).length=k:=by simp;omega
  grind
 grind
theorem W4{l b:List UInt8}{k:Nat} :((laid l k b).drop k).take b.length=b:=by
 unfold laid
 grind
def Ji(d:Dk)(nm:ByteArray):Int:=(sum d.files:Int)-Fv (d.get nm)
theorem Ur(nm:ByteArray)(f:Fl): ∀l:List (ByteArray×Fl),(sum (DW nm f l):Int)=sum l-Fv (EC nm l)+f.now.length
 | []=>by simp[sum,DW,EC,Fv]
 | p :: l => by
  have e:=Ur nm f l
  have b:DW nm f (p::l)=if nm=p.1 then (nm,f)::l else p::DW nm f l:=rfl
  have c:EC nm (p::l)=if nm=p.1 then some p.2 else EC nm l:=rfl
  have a: ∀(q:ByteArray×Fl)(m:List (ByteArray×Fl)),sum (q::m)=q.2.now.length+sum m:=fun q m=>by simp[sum]
  rw[b,c]
  by_cases h:nm=p.1
  ·rw[if_pos h,if_pos h,a,a]
   have d:Fv (some p.2)=p.2.now.length:=rfl
   grind
  grind
theorem Rw{d d':Dk}{nm:ByteArray}{f:Fl}(h:d'.files=DW nm f d.files):Ji d' nm=Ji d nm:=by
 have h1:=Ur nm f d.files
 have a:Fv (d'.get nm)=f.now.length:=by
  unfold Dk.get
  rw[h,CH,if_pos rfl]
  rfl
 unfold Ji
 rw[a,h,h1]
 simp[Dk.get]
theorem aM{d:Dk}{nm:ByteArray}(h:d.files= []):Ji d nm=0:=by
 unfold Ji Dk.get
 rw[h]
 rfl
structure F4 (d:Dk) (nm:ByteArray):Prop where
 down:d.down=false
 GQ:d.GQ=false
 Aq:Dk.named nm=true
 nf:d.files.length+(if (d.get nm).isSome then 0 else 1)≤8
structure Wr (d:Dk) (nm:ByteArray) (k:Nat) (b:List UInt8) (d':Dk):Prop where
 le:k≤(A0 d nm).length
 ne:b.length≠0
 Cp:F4 d' nm
 now:A0 d' nm=laid (A0 d nm) k b
 safe:FY d' nm=FY d nm
 sure:PR d' nm=PR d nm
 BM:d'.BM=d.BM++F6 nm k b
 room:d'.room=d.room
 other: ∀n,n≠nm→d'.get n=d.get n
 only:Ji d' nm=Ji d nm
 gS:(d'.get nm).isSome=true
theorem S8(d:Dk)(nm:ByteArray):Fv (d.get nm)=(A0 d nm).length:=by
 unfold Fv A0
 cases d.get nm<;>simp[Dk.KF]
theorem Sv{d:Dk}{nm:ByteArray}(g:F4 d nm){k:Nat}{b:List UInt8}(c:k≤(A0 d nm).length)(hb:b.length≠0):
 (d.write nm k b=(7,d)∨((d.write nm k b).1=0∧Wr d nm k b (d.write nm k b).2))∧
 (Ji d nm+((max (A0 d nm).length (k+b.length):Nat):Int)≤d.room→(d.write nm k b).1=0):=by
 have hm:=Rn g.Aq g.down
 have o:=S8 d nm
 have j:d.stop=false:=by unfold Dk.stop;simp[g.GQ]
 have i: ¬(((d.get nm).isNone&&decide (16≤d.files.length))=true):=by
  have:=g.nf
  grind
 have e:d.write nm k b=if d.fits (d.get nm) (max (Fv (d.get nm)) (k+b.length))≠0 then (d.fits (d.get nm) (max (Fv (d.get nm)) (k+b.length)),d) else (0,d.written nm k b):=by
  unfold Dk.write
  grind
 have m:d.fits (d.get nm) (max (Fv (d.get nm)) (k+b.length))=0∨d.fits (d.get nm) (max (Fv (d.get nm)) (k+b.length))=7:=by grind [Dk.fits]
 have l:Wr d nm k b (d.written nm k b):=by
  have a:(d.written nm k b).get nm=some { (d.get nm).getD Dk.KF with now:=laid ((d.get nm).getD Dk.KF).now k b } :=by simp[Dk.get,Dk.written,Dk.put,CH]
  refine ⟨c,hb,⟨g.down,g.GQ,g.Aq,?_⟩,?_,?_,by (unfold PR;rw[a];rfl),rfl,rfl,?_,?_,by rw[a];rfl⟩
  · rw[a]
    show (DW nm _ d.files).length+_≤8
    rw[GW]
    have:=g.nf
    unfold Dk.get at this
    grind
  · simp[a,A0]
  · simp[a,FY]
  · intro n f
    unfold Dk.get Dk.written Dk.put
    rw[CH,if_neg f]
    rfl
  exact Rw rfl
 constructor
 · grind
 intro hr
 have h:d.fits (d.get nm) (max (Fv (d.get nm)) (k+b.length))=0:=by
  unfold Dk.fits
  unfold Ji at hr
  grind
 simp_all
def BU(l:List UInt8)(k:Int)(b:List UInt8):Prop:=0≤k∧256*k.toNat+256≤l.length∧(l.drop (256*k.toNat)).take 256=b
theorem Wr.ED{d d':Dk}{nm:ByteArray}{k:Nat}{b:List UInt8}(h:Wr d nm k b d'){j:Int}{c:List UInt8}(f:BU (A0 d nm) j c)(e:k+b.length≤256*j.toNat∨256*j.toNat+256≤k):BU (A0 d' nm) j c:=by
 obtain ⟨h0,h1,a⟩:=f
 refine ⟨h0,?_,?_⟩
 ·grind [h.now,CX]
 rw[h.now,Qa h1 e];exact a
theorem Wr.As{d d':Dk}{nm:ByteArray}{j:Int}{b:List UInt8}(h:Wr d nm (256*j.toNat) b d')(hb:b.length=256)(h0:0≤j):BU (A0 d' nm) j b:=by
 refine ⟨h0,?_,?_⟩
 ·rw[h.now,CX,hb];omega
 rw[h.now]
 have:=W4 (l:=A0 d nm) (b:=b) (k:=256*j.toNat)
 simp_all
theorem QA{d:Dk}{nm:ByteArray}(g:F4 d nm):max 0 (d.size nm)=((A0 d nm).length:Int):=by
 unfold Dk.size A0
 by_cases h:(d.get nm).isSome=true
 ·obtain ⟨f,a⟩:=Option.isSome_iff_exists.1 h
  rw[if_neg (by rw[Fh g.Aq g.down a];simp)]
  rfl
 have b:d.get nm=none:=by simpa using h
 grind [Dk.KF]
theorem J9{m:Nat}{s:Ck}(ok:Bf m s)(g:F4 s.d s.nm){no:Int}{b:List UInt8}(w:s.CD no=true)(hb:BK no s.CO=some b):
 (∃a,(a=s.d∨ ∃n,Wr s.d s.nm (A0 s.d s.nm).length (List.replicate n 0) a∧(A0 s.d s.nm).length+n=256*no.toNat)∧F4 a s.nm∧
   (s.write no=(7, { s with d:=a })∨ ∃j,Wr a s.nm (256*no.toNat) b j∧s.write no=(0, { s with d:=j,its:=Bm s.its no false })))∧
 (Ji s.d s.nm+((max (A0 s.d s.nm).length (256*no.toNat+256):Nat):Int)≤s.d.room→(s.write no).1=0):=by
 obtain ⟨hl,h0,h1⟩:=ok.As _ (Jl hb)
 simp only at hl h0 h1
 have hp: ∀d,Ck.As { s with d:=d } no=b:=by intro d;unfold Ck.As;rw[hb];rfl
 have r:no*256=((256*no.toNat:Nat):Int):=by omega
 have f : ∀ a, F4 a s.nm → 256 * no.toNat ≤ (A0 a s.nm).length →
  ((Ck.Bw { s with d := a } no = (7, { s with d := a }) ∨ ∃ j, Wr a s.nm (256 * no.toNat) b j ∧ Ck.Bw { s with d := a } no = (0, { s with d := j, its := Bm s.its no false })) ∧
   (Ji a s.nm+((max (A0 a s.nm).length (256*no.toNat+256):Nat):Int)≤a.room→(Ck.Bw { s with d:=a } no).1=0)):=by
  intro a v q
  obtain ⟨hw,hr⟩:=Sv v (k:=256*no.toNat) (b:=b) q (by omega)
  have e:Ck.Bw { s with d:=a } no=if (a.write s.nm ((256*no.toNat:Nat):Int) b).1=0 then (0, { s with d:=(a.write s.nm ((256*no.toNat:Nat):Int) b).2,its:=Bm s.its no false }) else ((a.write s.nm ((256*no.toNat:Nat):Int) b).1, { s with d:=(a.write s.nm ((256*no.toNat:Nat):Int) b).2 }):=by
   unfold Ck.Bw
   rw[hp a,←r]
  constructor
  · rcases hw with hw|⟨hw1,hw2⟩
    · left
      rw[e,hw,if_neg (by simp)]
    right
    exact ⟨_,hw2,by rw[e,if_pos hw1]⟩
  intro c
  have:=hr (by rw[hl];exact c)
  rw[e,if_pos this]
 have t:=QA g
 have i:s.write no=if max 0 (s.d.size s.nm)<no*256 then (if (s.pad no).1=0 then Ck.Bw { s with d:=(s.pad no).2 } no else ((s.pad no).1, { s with d:=(s.pad no).2 })) else s.Bw no:=by
  unfold Ck.write
  rw[if_neg (by simp[w])]
 by_cases o:max 0 (s.d.size s.nm)<no*256
 · rw[if_pos o] at i
   have u:(A0 s.d s.nm).length<256*no.toNat:=by omega
   have l:s.pad no=s.d.write s.nm ((A0 s.d s.nm).length:Int) (List.replicate (256*no.toNat-(A0 s.d s.nm).length) 0):=by
    unfold Ck.pad
    rw[t]
    congr 2
    omega
   obtain ⟨hw,hr⟩:=Sv g (k:=(A0 s.d s.nm).length) (b:=List.replicate (256*no.toNat-(A0 s.d s.nm).length) 0) (Nat.le_refl _) (by rw[List.length_replicate];omega)
   rw[←l] at hw hr
   rcases hw with hw|⟨hw1,hw2⟩
   · refine ⟨⟨s.d,.inl rfl,g,.inl ?_⟩,fun c=>?_⟩
     · rw[i,hw,if_neg (by simp)]
     exfalso
     have:=hr (by rw[List.length_replicate];omega)
     rw[hw] at this;cases this
   rw[if_pos hw1] at i
   have p:(A0 (s.pad no).2 s.nm).length=256*no.toNat:=by rw[hw2.now,CX,List.length_replicate];omega
   obtain ⟨s1,s2⟩:=f (s.pad no).2 hw2.Cp (by omega)
   refine ⟨⟨(s.pad no).2,.inr ⟨_,hw2,by omega⟩,hw2.Cp,?_⟩,fun c=>?_⟩
   · rw[i];exact s1
   rw[i];exact s2 (by rw[p,hw2.room,hw2.only];omega)
 rw[if_neg o] at i
 obtain ⟨s1,s2⟩:=f s.d g (by omega)
 refine ⟨⟨s.d,.inl rfl,g,?_⟩,fun c=>?_⟩
 · rw[i];exact s1
 rw[i];exact s2 c
def Has(s:Ck)(k:Int)(b:List UInt8):Prop:=BK k s.CO=some b∨(BK k s.CO=none∧BU (A0 s.d s.nm) k b)
structure Good (T:Nat) (s:Ck):Prop where
 Cp:F4 s.d s.nm
 pins: ∀n∈s.its,n.pins=0
 clean: ∀n∈s.its,n.Jg=false→ ∀b,BK n.key s.CO=some b→BU (A0 s.d s.nm) n.key b
 top:(A0 s.d s.nm).length≤256*T∧ ∀n∈s.its,n.key.toNat<T
def Roomy(T:Nat)(s:Ck):Prop:=Ji s.d s.nm+((256*T:Nat):Int)≤s.d.room
structure Kept (P:Int→List UInt8→Prop) (s:Ck):Prop where
 le:(FY s.d s.nm).length≤(A0 s.d s.nm).length
 safe: ∀k b,P k b→BU (FY s.d s.nm) k b
 BM: ∀p∈s.d.BM,p.nm=s.nm→ ∃x,p.b=some x∧ ∀k b,P k b→p.pos+x.length≤256*k.toNat∨256*k.toNat+256≤p.pos
 CD: ∀n∈s.its,n.Jg=true→ ∀b,¬P n.key b
theorem GS{s:Ck}{no:Int} :s.CD no=true↔ ∃n∈s.its,n.Jg=true∧n.key=no:=by
 unfold Ck.CD
 rw[List.contains_iff_mem]
 exact Kq
theorem QZ: ∀{its:List It},(Du its).Nodup→ ∀{a b:It},a∈its→b∈its→a.key=b.key→a=b
 | [],_,a,b,ha,_,_=>by simp at ha
 | x :: l, f, a, b, ha, hb, e => by
  unfold Du at f
  rw[List.map_cons,List.nodup_cons] at f
  rcases List.mem_cons.1 ha with g|c
  ·grind
  rcases List.mem_cons.1 hb with i|d
  ·simp_all
  exact QZ f.2 c d e
theorem Kept.wr{P:Int→List UInt8→Prop}{s:Ck}(h:Kept P s){f e:Dk}{k:Nat}{b:List UInt8}(g:Kept P { s with d:=f })(hw:Wr f s.nm k b e)(i: ∀j c,P j c→k+b.length≤256*j.toNat∨256*j.toNat+256≤k):Kept P { s with d:=e } :=by
 refine ⟨?_,?_,?_,h.CD⟩
 ·show (FY e s.nm).length≤(A0 e s.nm).length
  rw[hw.safe,hw.now,CX]
  have:=g.le
  grind
 ·intro j c m
  rw[hw.safe]
  exact g.safe j c m
 intro p hp n
 have a:p∈f.BM++F6 s.nm k b:=by rw[←hw.BM];exact hp
 rcases List.mem_append.1 a with a|a
 ·exact g.BM p a n
 obtain ⟨_,l,h1,o,q⟩:=Jy s.nm b.length k b (Nat.le_refl _) p a
 grind
theorem Kept.marks{P:Int→List UInt8→Prop}{s:Ck}(h:Kept P s)(k:Int):Kept P { s with its:=Bm s.its k false } :=by
 refine ⟨h.le,h.safe,h.BM,?_⟩
 intro n c hm
 have a:=c
 obtain ⟨x,hx,rfl⟩:=List.mem_map.1 a
 by_cases b:x.key=k
 ·simp_all
 rw[if_neg b] at hm⊢
 exact h.CD x hx hm
structure FU (T:Nat) (s:Ck) (no:Int) (e:Int) (s':Ck):Prop where
 code:e=0∨e=7
 Bk:Good T s'
 ED: ∀k b,k≠no→BU (A0 s.d s.nm) k b→BU (A0 s'.d s.nm) k b
 As:e=0→ ∀b,BK no s.CO=some b→BU (A0 s'.d s.nm) no b
 roomy:Roomy T s→e=0∧Roomy T s'
 kept: ∀P,Kept P s→Kept P s'
 inv: ∀Q:Dk→Prop,(∀d k b d',Q d→Wr d s.nm k b d'→Q d')→Q s.d→Q s'.d
 done:e=0→ ∀n∈s'.its,n.key=no→n.Jg=false
theorem I6{m T:Nat}{s:Ck}{no:Int}(ok:Bf m s)(g:Good T s)(hh:Bo s.its no=true):FU T s no (s.write no).1 (s.write no).2:=by
 obtain ⟨b,hb,r,h0,h1⟩:=ok.key hh
 cases J:s.CD no with
 | false =>
  have e:s.write no=(0,s):=by unfold Ck.write;rw[if_pos J]
  rw[e]
  have I: ∀n∈s.its,n.key=no→n.Jg=false:=by
   intro n f o
   cases hm:n.Jg with
   |false=>rfl
   |true=>rw[GS.2 ⟨n,f,hm,o⟩] at J;cases J
  refine ⟨.inl rfl,g,fun k b _ h=>h,fun _ b hb=>?_,fun h=>⟨rfl,h⟩,fun P h=>h,fun Q _ h=>h,fun _=>I⟩
  obtain ⟨n,f,o⟩:=List.mem_map.1 (Bj.1 hh)
  have:=g.clean n f (I n f o)
  simp_all
 | true =>
  obtain ⟨⟨H,t,V,y⟩,Y⟩:=J9 ok g.Cp J hb
  obtain ⟨nd,G,W,B⟩:=GS.1 J
  have a1:no.toNat<T:=by have:=g.top.2 nd G;rw[B] at this;exact this
  have l: ∀k c,BU (A0 s.d s.nm) k c→BU (A0 H s.nm) k c:=by
   intro k c h
   rcases t with rfl|⟨n,hw,_⟩
   · omega
   exact hw.ED h (.inr h.2.1)
  have D:(A0 H s.nm).length≤256*T:=by
   rcases t with rfl|⟨n,hw,f⟩
   · exact g.top.1
   grind [hw.now,CX,List.length_replicate]
  have w:Ji H s.nm=Ji s.d s.nm∧H.room=s.d.room:=by
   rcases t with rfl|⟨n,hw,f⟩
   · omega
   exact ⟨hw.only,hw.room⟩
  have v: ∀P,Kept P s→Kept P { s with d:=H } :=by
   intro P h
   rcases t with rfl|⟨n,hw,f⟩
   · omega
   refine Kept.wr h h hw fun j c R=> .inr ?_
   have:=(h.safe j c R).2.1
   have:=h.le
   omega
  have u: ∀Q:Dk→Prop,(∀d k b d',Q d→Wr d s.nm k b d'→Q d')→Q s.d→Q H:=by grind
  have a4: ∀n∈s.its,n.key=no→n=nd:=fun n f o=>QZ ok.LC.nd f G (o.trans B.symm)
  have L:Roomy T s→(s.write no).1=0:=by grind [Roomy]
  rcases y with q|⟨O,hw2,q⟩
  · rw[q] at L⊢
    have M: ¬Roomy T s:=fun h=>by have:=L h;cases this
    refine ⟨.inr rfl,⟨V,g.pins,?_,⟨D,g.top.2⟩⟩,fun k c _ h=>l k c h,(fun h=>by cases h),fun h=>absurd h M,v,u,(fun h=>by cases h)⟩
    intro n f hm c q
    exact l _ _ (g.clean n f hm c q)
  rw[q]
  have p: ∀k c,k≠no→BU (A0 s.d s.nm) k c→BU (A0 O s.nm) k c:=by
   intro k c o h
   have h3:=l k c h
   refine hw2.ED h3 ?_
   rw[r]
   have:=h.1
   omega
  have K:=hw2.As r h0
  refine ⟨.inl rfl,⟨hw2.Cp,?_,?_,?_,?_⟩,p,fun _ c q=>?_,fun h=>⟨rfl,?_⟩,?_,fun Q Z h=>Z _ _ _ _ (u Q Z h) hw2,?_⟩
  · intro n f
    have a:=f
    unfold Bm Sf at a
    obtain ⟨x,hx,rfl⟩:=List.mem_map.1 a
    have:=g.pins x hx
    split<;>exact this
  · intro n f hm c q
    have a:=f
    unfold Bm Sf at a
    obtain ⟨x,hx,rfl⟩:=List.mem_map.1 a
    have i:=q
    by_cases o:x.key=no
    · rw[if_pos o] at i⊢
      simp only at i⊢
      rw[o] at i⊢
      rw[hb] at i
      cases i
      exact K
    rw[if_neg o] at i hm⊢
    exact p _ _ o (g.clean x hx hm c i)
  · show (A0 O s.nm).length≤256*T
    rw[hw2.now,CX,r];omega
  · intro n f
    have a:=f
    unfold Bm Sf at a
    obtain ⟨x,hx,rfl⟩:=List.mem_map.1 a
    have:=g.top.2 x hx
    split<;>exact this
  · rw[hb] at q;cases q;exact K
  · show Ji O s.nm+_≤O.room
    rw[hw2.room,w.2,hw2.only,w.1];exact h
  · intro P h
    have h2:=Kept.wr h (v P h) hw2 (by
     intro j c R
     rw[r]
     have X:j≠no:=fun e=>by
      have:=h.CD nd G W c
      rw[B,←e] at this
      exact this R
     have:=(h.safe j c R).1
     rcases Int.lt_trichotomy j no with U|U|U
     · right;omega
     · exact absurd U X
     left;omega)
    exact Kept.marks h2 no
  intro _ n f o
  have a:=f
  unfold Bm Sf at a
  obtain ⟨x,hx,rfl⟩:=List.mem_map.1 a
  by_cases z:x.key=no
  · rw[if_pos z]
  rw[if_neg z] at o;exact absurd o z
structure Out (T:Nat) (s:Ck) (e:Int) (s':Ck):Prop where
 inv: ∀Q:Dk→Prop,(∀d k b d',Q d→Wr d s.nm k b d'→Q d')→Q s.d→Q s'.d
 code:e=0∨e=7
 Bk:Good T s'
 has: ∀k b,Has s k b→Has s' k b
 ED: ∀k b,Bo s.its k=false→BU (A0 s.d s.nm) k b→BU (A0 s'.d s.nm) k b
 roomy:Roomy T s→e=0∧Roomy T s'
 kept: ∀P,Kept P s→Kept P s'
 nm:s'.nm=s.nm
theorem FU.out{m T:Nat}{s:Ck}{no:Int}(ok:Bf m s)(d:Bo s.its no=true)(h:FU T s no (s.write no).1 (s.write no).2):Out T s (s.write no).1 (s.write no).2:=by
 obtain ⟨e,g,i,f,j⟩:=BX s no
 refine ⟨h.inv,h.code,h.Bk,?_,?_,h.roomy,h.kept,e⟩
 ·intro k b a
  unfold Has at a⊢
  rw[f,e]
  rcases a with a|⟨a,c⟩
  ·simp_all
  refine .inr ⟨a,h.ED k b ?_ c⟩
  rintro rfl
  rw[ok.same,a] at d;cases d
 intro k b a c
 refine h.ED k b ?_ c
 grind
theorem Iy{m T:Nat}{s:Ck}{no:Int}(ok:Bf m s)(g:Good T s)(u:D1 s.its no=true):Out T s (s.release no).1 (s.release no).2:=by
 have p:=Ej u
 have hw:=I6 ok g p
 have a:=hw.out ok p
 have l:=F3 ok p
 obtain ⟨w,G,H,I,B⟩:=BX s no
 have q:D1 (s.write no).2.its no=true:=by
  rcases B with e|e
  · simp_all
  rw[e,H0];exact u
 unfold Ck.release
 by_cases v:(s.write no).1=0
 · rw [if_pos v]
   simp only[q,if_true]
   obtain ⟨D,y,_⟩:=ok.key p
   refine ⟨a.inv,.inl rfl,⟨a.Bk.Cp,?_,?_,a.Bk.top.1,?_⟩,?_,a.ED,?_,?_,w⟩
   · intro n d;exact a.Bk.pins n (List.mem_filter.1 d).1
   · intro n d hm c z
     have t:n.key≠no:=by have:=(List.mem_filter.1 d).2;simpa using this
     have f:=z
     rw[FP l.nd,if_neg t] at f
     exact a.Bk.clean n (List.mem_filter.1 d).1 hm c f
   · intro n d;exact a.Bk.top.2 n (List.mem_filter.1 d).1
   · intro k b i
     have r:=a.has k b i
     unfold Has
     rw[FP l.nd]
     by_cases j:k=no
     ·subst j
      rw[if_pos rfl]
      refine .inr ⟨rfl,?_⟩
      rw[w]
      rcases i with i|⟨i,_⟩
      ·exact hw.As v b i
      simp_all
     rw[if_neg j];exact r
   · intro hr;exact ⟨rfl,(a.roomy hr).2⟩
   intro P x
   have o:=a.kept P x
   exact ⟨o.le,o.safe,o.BM,fun n d hm=>o.CD n (List.mem_filter.1 d).1 hm⟩
 simp_all
theorem Out.refl{T:Nat}{s:Ck}(g:Good T s):Out T s 0 s:=⟨fun Q _ h=>h,.inl rfl,g,fun k b h=>h,fun k b _ h=>h,fun h=>⟨rfl,h⟩,fun P h=>h,rfl⟩
theorem JN{m T:Nat}{s:Ck}(ok:Bf m s)(g:Good T s):Out T s s.room.1 s.room.2:=by
 unfold Ck.room
 by_cases c:(s.CO.length:Int)<s.cap
 ·rw[if_pos c];exact Out.refl g
 rw[if_neg c]
 cases b:MQ s.its with
 | none =>
  have h1:=ok.cap
  have e:=ok.len
  have d:0<s.its.length:=by omega
  obtain ⟨n,a⟩:=List.exists_mem_of_length_pos d
  have:=List.find?_eq_none.1 b n a
  simp[g.pins n a] at this
 |some n=>exact Iy ok g (Ln b)
theorem Nb{its:List It}{no:Int}{n:It}(h:n∈Bm its no true): ∃x∈its,n.key=x.key∧n.pins=x.pins∧(x.key=no→n.Jg=true)∧(x.key≠no→n.Jg=x.Jg):=by
 unfold Bm Sf at h
 grind
structure cU (T:Nat) (s:Ck) (no:Int) (c:List UInt8) (e:Int) (s':Ck):Prop where
 inv: ∀Q:Dk→Prop,(∀d k b d',Q d→Wr d s.nm k b d'→Q d')→Q s.d→Q s'.d
 code:e=0∨e=7
 Bk:Good T s'
 has: ∀k b,k≠no∨e=7→Has s k b→Has s' k b
 put:e=0→Has s' no c
 roomy:Roomy T s→e=0∧Roomy T s'
 kept: ∀P,(∀b,¬P no b)→Kept P s→Kept P s'
 nm:s'.nm=s.nm
theorem ZP{m T : Nat}{s : Ck}{no : Int}{c : List UInt8}(ok : Bf m s)(g : Good T s)(h0 : 0 ≤ no)(h1 : no < 1048576)(B : no.toNat < T)(D : c.length = 256) : cU T s no c (s.put no c).1 (s.put no c).2 := by
 unfold Ck.put
 rw[if_neg (by omega)]
 cases G:Bo s.its no with
 | true =>
  rw[if_pos rfl]
  refine ⟨fun Q _ h=>h,.inl rfl,⟨g.Cp,?_,?_,g.top.1,?_⟩,?_,fun _=> .inl ?_,fun h=>⟨rfl,h⟩,?_,rfl⟩
  ·intro n a
   obtain ⟨x,hx,_,q,_⟩:=Nb a
   rw[q];exact g.pins x ((BL s.its no).mem_iff.1 hx)
  ·intro n a hm b hb
   obtain ⟨x,hx,i,q,v,r⟩:=Nb a
   by_cases l:x.key=no
   · simp_all
   have j:=hb
   rw[CU,i,if_neg l] at j
   rw[i]
   exact g.clean x ((BL s.its no).mem_iff.1 hx) (by rw[←r l];exact hm) b j
  ·intro n a
   obtain ⟨x,hx,i,_⟩:=Nb a
   rw[i];exact g.top.2 x ((BL s.its no).mem_iff.1 hx)
  ·simp_all[Has,CU]
  ·simp[CU]
  intro P u l
  refine ⟨l.le,l.safe,l.BM,?_⟩
  intro n a hm b
  obtain ⟨x,hx,i,q,v,r⟩:=Nb a
  rw[i]
  by_cases t:x.key=no
  ·simp_all
  exact l.CD x ((BL s.its no).mem_iff.1 hx) (by rw[←r t];exact hm) b
 | false =>
  rw[if_neg (by simp)]
  have d:=JN ok g
  obtain ⟨r1,H,I,J⟩:=Ly ok
  unfold Ck.take
  by_cases p:s.room.1=0
  ·rw [if_pos p]
   simp only[if_true]
   have z:Bo s.room.2.its no=false:=by grind
   have f: ∀n,n∈Bm (s.room.2.its++ [⟨no,0,false⟩]) no true→(n.key=no∧n.Jg=true∧n.pins=0)∨n∈s.room.2.its∧n.key≠no:=by
    intro n a
    unfold Bm Sf at a
    rw[List.map_append] at a
    rcases List.mem_append.1 a with a|a
    · obtain ⟨x,hx,rfl⟩:=List.mem_map.1 a
      have o:x.key≠no:=fun e=>by
       have:Bo s.room.2.its no=true:=Bj.2 (List.mem_map.2 ⟨x,hx,e⟩)
       simp_all
      simp_all
    simp_all
   refine ⟨d.inv,.inl rfl,⟨d.Bk.Cp,?_,?_,d.Bk.top.1,?_⟩,?_,fun _=> .inl ?_,fun h=>⟨rfl,(d.roomy h).2⟩,?_,d.nm⟩
   · intro n a
     rcases f n a with ⟨_,_,h⟩|⟨h,_⟩
     · omega
     exact d.Bk.pins n h
   · intro n a hm b hb
     rcases f n a with ⟨_,h,_⟩|⟨h,o⟩
     · simp_all
     have j:=hb
     rw[CU,if_neg o] at j
     exact d.Bk.clean n h hm b j
   · intro n a
     rcases f n a with ⟨h,_,_⟩|⟨h,_⟩
     · omega
     exact d.Bk.top.2 n h
   · intro k b l hs
     have y:k≠no:=l.resolve_right (fun e=>by cases e)
     have i:=d.has k b hs
     simp_all[Has,CU]
   · simp[CU]
   intro P u l
   have i:=d.kept P l
   refine ⟨i.le,i.safe,i.BM,?_⟩
   intro n a hm b
   rcases f n a with ⟨h,_,_⟩|⟨h,_⟩
   · rw[h];exact u b
   exact i.CD n h hm b
  rw[if_neg p,if_neg p]
  have w:=d.code.resolve_left p
  exact ⟨d.inv,.inr w,d.Bk,fun k b _ h=>d.has k b h,fun h=>absurd h p,d.roomy,fun P _ h=>d.kept P h,d.nm⟩
theorem KK{d:Dk}{nm:ByteArray}(g:F4 d nm){no:Int}(h0:0≤no):
 (256*no.toNat+256≤(A0 d nm).length∧d.read nm (no*256) 256=(0,((A0 d nm).drop (256*no.toNat)).take 256))∨
 ((A0 d nm).length<256*no.toNat+256∧((d.read nm (no*256) 256).1=2∨(d.read nm (no*256) 256).1=6)):=by
 cases a:d.get nm with
 | none =>
  right
  refine ⟨by unfold A0;rw[a];simp[Dk.KF],.inr ?_⟩
  unfold Dk.read
  have:=Im g.Aq g.down a
  simp_all
 | some f =>
  have hm:=Fh (t:=true) g.Aq g.down a
  have b:A0 d nm=f.now:=by unfold A0;rw[a];rfl
  unfold Dk.read
  grind
structure UA (T:Nat) (s:Ck) (no:Int) (e:Int) (c:List UInt8) (s':Ck):Prop where
 inv: ∀Q:Dk→Prop,(∀d k b d',Q d→Wr d s.nm k b d'→Q d')→Q s.d→Q s'.d
 code:e=0∨e=7∨e=6
 Bk:Good T s'
 has: ∀k b,Has s k b→Has s' k b
 fJ: ∀b,Has s no b→e=7∨(e=0∧c=b)
 len:e=0→c.length=256
 none:e≠0→c= []
 gW:T≤no.toNat→e=6
 roomy:Roomy T s→e≠7∧Roomy T s'
 kept: ∀P,Kept P s→Kept P s'
 nm:s'.nm=s.nm
theorem KT{m T:Nat}{s:Ck}{no:Int}(ok:Bf m s)(g:Good T s)(h0:0≤no)(h1:no<1048576):UA T s no (s.get no).1 (s.get no).2.1 (s.get no).2.2:=by
 unfold Ck.get
 rw[if_neg (by omega)]
 cases u:Bo s.its no with
 | true =>
  rw[if_pos rfl]
  obtain ⟨b,hb,hl,_⟩:=ok.key u
  have hp:s.As no=b:=by unfold Ck.As;rw[hb];rfl
  simp only[hp]
  refine ⟨fun Q _ h=>h,.inl rfl,⟨g.Cp,?_,?_,g.top.1,?_⟩,fun k b h=>h,?_,fun _=>hl,fun h=>absurd rfl h,?_,fun h=>⟨by decide,h⟩,?_,rfl⟩
  · intro n a;exact g.pins n ((BL s.its no).mem_iff.1 a)
  · intro n a;exact g.clean n ((BL s.its no).mem_iff.1 a)
  · intro n a;exact g.top.2 n ((BL s.its no).mem_iff.1 a)
  · intro c j
    rcases j with j|⟨j,_⟩
    · simp_all
    simp_all
  · intro y
    obtain ⟨n,a,z⟩:=List.mem_map.1 (Bj.1 u)
    have:=g.top.2 n a
    omega
  intro P o
  exact ⟨o.le,o.safe,o.BM,fun n a=>o.CD n ((BL s.its no).mem_iff.1 a)⟩
 | false =>
  rw[if_neg (by simp)]
  have v:BK no s.CO=none:=by
   have:=ok.same no
   simp_all
  rcases KK g.Cp h0 with ⟨hl,hr⟩|⟨hl,hr⟩
  · simp only[hr]
    rw[if_pos trivial]
    obtain ⟨c,j⟩:=Aq (((A0 s.d s.nm).drop (256*no.toNat)).take 256)
    rw[j]
    have r:c.length=256:=by rw[←j];simp;omega
    have t:BU (A0 s.d s.nm) no c:=⟨h0,hl,j⟩
    have D:no.toNat<T:=by have:=g.top.1;omega
    have f:=JN ok g
    obtain ⟨r1,H,I,J⟩:=Ly ok
    have w: ∀b,Has s no b→c=b:=by
     intro b hb
     rcases hb with hb|⟨_,hb⟩
     · simp_all
     rw[←j];exact hb.2.2
    unfold Ck.take
    by_cases p:s.room.1=0
    · rw [if_pos p]
      simp only[if_true]
      have G:Bo s.room.2.its no=false:=by grind
      refine ⟨f.inv,.inl rfl,⟨f.Bk.Cp,?_,?_,f.Bk.top.1,?_⟩,?_,fun b hb=> .inr ⟨rfl,w b hb⟩,fun _=>r,fun h=>absurd rfl h,fun y=>by omega,fun h=>⟨by decide,(f.roomy h).2⟩,?_,f.nm⟩
      · intro n a
        rcases List.mem_append.1 a with a|a
        ·exact f.Bk.pins n a
        simp_all
      · intro n a hm b hb
        have i:=hb
        rw[CU] at i
        rcases List.mem_append.1 a with a|a
        ·have l:n.key≠no:=fun e=>by
          have:Bo s.room.2.its no=true:=Bj.2 (List.mem_map.2 ⟨n,a,e⟩)
          simp_all
         rw[if_neg l] at i
         exact f.Bk.clean n a hm b i
        simp at a
        subst a
        simp only[if_true] at i
        cases i
        show BU (A0 s.room.2.d s.room.2.nm) no c
        rw[f.nm]
        exact f.ED no c u t
      · intro n a
        rcases List.mem_append.1 a with a|a
        ·exact f.Bk.top.2 n a
        simp_all
      · intro k b z
        have q:=f.has k b z
        grind [Has,CU]
      intro P o
      have q:=f.kept P o
      refine ⟨q.le,q.safe,q.BM,?_⟩
      intro n a hm b
      rcases List.mem_append.1 a with a|a
      · exact q.CD n a hm b
      simp at a;subst a;cases hm
    rw[if_neg p,if_neg p]
    have x:=f.code.resolve_left p
    refine ⟨f.inv,.inr (.inl x),f.Bk,f.has,fun b _=> .inl x,fun h=>absurd h p,fun _=>rfl,fun y=>by omega,fun h=>absurd (f.roomy h).1 p,f.kept,f.nm⟩
  simp only
  have l:(s.d.read s.nm (no*256) 256).1≠0:=by rcases hr with h|h<;>rw[h]<;>decide
  rw[if_neg l]
  have B:(if (s.d.read s.nm (no*256) 256).1=2 then 6 else (s.d.read s.nm (no*256) 256).1)=6:=by
   rcases hr with h|h
   · rw[if_pos h]
   rw[if_neg (by rw[h];decide),h]
  simp only[B]
  refine ⟨fun Q _ h=>h,.inr (.inr rfl),g,fun k b h=>h,?_,(fun h=>by cases h),fun _=>rfl,fun _=>rfl,fun h=>⟨by decide,h⟩,fun P h=>h,rfl⟩
  intro b hb
  rcases hb with hb|⟨_,hb⟩
  · rw[v] at hb;cases hb
  have:=hb.2.1;omega
structure QM (T:Nat) (s:Ck) (e:Int) (s':Ck):Prop where
 inv: ∀Q:Dk→Prop,(∀d k b d',Q d→Wr d s.nm k b d'→Q d')→Q s.d→Q s'.d
 code:e=0∨e=7
 Bk:Good T s'
 has: ∀k b,Has s k b→Has s' k b
 roomy:Roomy T s→e=0∧Roomy T s'
 kept: ∀P,Kept P s→Kept P s'
 nm:s'.nm=s.nm
theorem Out.e{T:Nat}{s s':Ck}{e:Int}(h:Out T s e s'):QM T s e s':=⟨h.inv,h.code,h.Bk,h.has,h.roomy,h.kept,h.nm⟩
theorem QM.refl{T:Nat}{s:Ck}(g:Good T s):QM T s 0 s:=(Out.refl g).e
theorem QM.trans{T:Nat}{s s1 s2:Ck}{d e:Int}(h:QM T s d s1)(a:QM T s1 e s2):QM T s e s2:=
 ⟨fun Q c hq=>a.inv Q (by rw[h.nm];exact c) (h.inv Q c hq),a.code,a.Bk,fun k b g=>a.has k b (h.has k b g),fun hr=>a.roomy (h.roomy hr).2,fun P f=>a.kept P (h.kept P f),a.nm.trans h.nm⟩
theorem MN: ∀(l:List Int){m T:Nat}{s:Ck},Bf m s→Good T s→(∀k∈l,Bo s.its k=true)→
 QM T s (Ck.writes l s).1 (Ck.writes l s).2∧((Ck.writes l s).1=0→ ∀n∈(Ck.writes l s).2.its,n.Jg=true→n.key∉l∧ ∃x∈s.its,x.key=n.key∧x.Jg=true)
 | [],m,T,s,ok,g,_=>⟨QM.refl g,fun _ n c hm=>⟨by simp,n,c,rfl,hm⟩⟩
 | k :: l, m, T, s, ok, g, h => by
  have b:=h k (by simp)
  have hw:=I6 ok g b
  have h1:=(hw.out ok b).e
  unfold Ck.writes
  by_cases d:(s.write k).1=0
  ·rw[if_pos d]
   obtain ⟨f,i⟩:=MN l (F3 ok b) h1.Bk fun j o=>by rw[JT];exact h j (by simp[o])
   refine ⟨h1.trans f,fun h0 n c hm=>?_⟩
   obtain ⟨r,x,hx,q,a⟩:=i h0 n c hm
   have p:x.key≠k:=fun e=>by rw[hw.done d x hx e] at a;cases a
   refine ⟨?_,?_⟩
   ·simp_all
   rcases (BX s k).2.2.2.2 with e|e
   ·simp_all
   rw[e] at hx
   unfold Bm Sf at hx
   grind
  simp_all
structure Y1 (T:Nat) (s:Ck) (e:Int) (s':Ck):Prop where
 code:e=0∨e=7
 Bk:Good T s'
 has: ∀k b,Has s k b→Has s' k b
 roomy:Roomy T s→e=0∧Roomy T s'
 ED:e=0→ ∀k b,Has s' k b→BU (A0 s'.d s'.nm) k b
 kept:e=0→Kept (fun k b=>BU (A0 s'.d s'.nm) k b) s'
 sure:e=0→ ∀f,s'.d.get s'.nm=some f→f.sure=true
 nm:s'.nm=s.nm
theorem NK{m T : Nat}{s : Ck}(ok : Bf m s)(g : Good T s) : Y1 T s s.flush.1 s.flush.2 := by
 obtain ⟨h1,z⟩:=MN (BE s.its) ok g fun k i=>Ff i
 have q:=(Hw (BE s.its) ok fun k i=>Ff i).1
 unfold Ck.flush
 simp only
 obtain ⟨⟨e,t⟩,hr⟩:=Aq (Ck.writes (BE s.its) s)
 rw[hr] at h1 z q⊢
 simp only at h1 z q⊢
 by_cases v:e=0
 ·subst v
  rw[if_pos rfl]
  have l: ∀n∈t.its,n.Jg=false:=by
   intro n o
   cases hm:n.Jg with
   |false=>rfl
   | true =>
     obtain ⟨B,x,hx,I,J⟩:=z rfl n o hm
     exact absurd (Kq.2 ⟨x,hx,J,I⟩) B
  have Q:t.d.stop=false:=by unfold Dk.stop;simp[h1.Bk.Cp.GQ]
  have a: ∀k b,Has t k b→BU (A0 t.d t.nm) k b:=by
   intro k b i
   rcases i with i|⟨_,i⟩
   · have L:Bo t.its k=true:=by rw[q.same,i];rfl
     obtain ⟨n,o,O⟩:=List.mem_map.1 (Bj.1 L)
     have:=h1.Bk.clean n o (l n o)
     simp_all
   omega
  cases r:t.d.get t.nm with
  | none =>
    have y:=Im h1.Bk.Cp.Aq h1.Bk.Cp.down r
    have u:t.d.sync t.nm=(6,t.d):=by unfold Dk.sync;rw[if_pos (by rw[y];decide),y]
    rw[u]
    have M:A0 t.d t.nm= []:=by unfold A0;rw[r];rfl
    refine ⟨.inl rfl,h1.Bk,h1.has,fun h=>⟨rfl,(h1.roomy h).2⟩,fun _=>a,fun _=>⟨?_,?_,?_,?_⟩,(fun _ f w=>by rw[r] at w;cases w),h1.nm⟩
    · simp[r,Dk.KF,FY]
    · intro k b i
      have:=i.2.1
      simp_all
    · intro p hp o
      have:=q.dk.pn p hp
      simp_all
    simp_all
  | some f =>
    have hm:=Fh (t:=true) h1.Bk.Cp.Aq h1.Bk.Cp.down r
    have u:t.d.sync t.nm=(0,(t.d.BW.put t.nm { f with safe:=f.now,sure:=true }).settled t.nm):=by
     unfold Dk.sync
     simp_all
    rw[u]
    have c:((t.d.BW.put t.nm { f with safe:=f.now,sure:=true }).settled t.nm).get t.nm=some { f with safe:=f.now,sure:=true } :=by simp[Dk.get,Dk.settled,Dk.put,CH]
    have j:A0 ((t.d.BW.put t.nm { f with safe:=f.now,sure:=true }).settled t.nm) t.nm=A0 t.d t.nm:=by simp[c,r,A0]
    have H:FY ((t.d.BW.put t.nm { f with safe:=f.now,sure:=true }).settled t.nm) t.nm=A0 t.d t.nm:=by simp[c,r,FY,A0]
    refine ⟨.inl rfl,⟨⟨h1.Bk.Cp.down,h1.Bk.Cp.GQ,h1.Bk.Cp.Aq,?_⟩,h1.Bk.pins,?_,?_,h1.Bk.top.2⟩,?_,fun h=>⟨rfl,?_⟩,fun _=>?_,fun _=>⟨?_,?_,?_,?_⟩,(fun _ R w=>by rw[c] at w;cases w;rfl),h1.nm⟩
    · rw[c]
      show (DW t.nm _ t.d.files).length+_≤8
      have B:(EC t.nm t.d.files).isSome=true:=by
       have:t.d.get t.nm=EC t.nm t.d.files:=rfl
       simp_all
      rw[GW,if_pos B]
      have:=h1.Bk.Cp.nf
      simp_all
    · intro n o hm b hb
      rw[j]
      exact h1.Bk.clean n o hm b hb
    · show (A0 ((t.d.BW.put t.nm { f with safe:=f.now,sure:=true }).settled t.nm) t.nm).length≤_
      rw[j];exact h1.Bk.top.1
    · intro k b i
      have:=h1.has k b i
      unfold Has at this⊢
      simp_all
    · have P:=(h1.roomy h).2
      unfold Roomy at P⊢
      show Ji ((t.d.BW.put t.nm { f with safe:=f.now,sure:=true }).settled t.nm) t.nm+_≤t.d.room
      rw[Rw (d:=t.d) (d':=(t.d.BW.put t.nm { f with safe:=f.now,sure:=true }).settled t.nm) (f:= { f with safe:=f.now,sure:=true }) rfl]
      omega
    · intro k b i
      rw[j]
      refine a k b ?_
      unfold Has at i⊢
      simp_all
    · simp_all
    · simp_all
    · intro p hp o
      have G:=hp
      have:=(List.mem_filter.1 G).2
      have D:=o
      rw[D,LG] at this
      simp_all
    simp_all
 rw[if_neg v]
 have K:=h1.code.resolve_left v
 exact ⟨.inr K,h1.Bk,h1.has,fun h=>absurd (h1.roomy h).1 v,fun h=>absurd h v,fun h=>absurd h v,fun h=>absurd h v,h1.nm⟩
structure Bp (a:Nat) (nm:ByteArray) (d d':Dk):Prop where
 changes:d'.changes≤d.changes+a
 left:d.left≤d'.left+a
 BM:d'.BM.length+(A0 d nm).length≤d.BM.length+(A0 d' nm).length+256*a
 len:(A0 d nm).length≤(A0 d' nm).length
 cap:(A0 d' nm).length≤max (A0 d nm).length 268435456
theorem Bp.Mg(nm:ByteArray)(d:Dk):Bp 0 nm d d:=⟨by omega,by omega,by omega,by omega,by omega⟩
theorem Bp.trans{a b:Nat}{nm:ByteArray}{d d' c:Dk}(h:Bp a nm d d')(k:Bp b nm d' c):Bp (a+b) nm d c:=by
 obtain ⟨h1,e,f,g,i⟩:=h
 obtain ⟨j,l,m,n,o⟩:=k
 exact ⟨by omega,by omega,by omega,by omega,by omega⟩
theorem Bp.more{a b:Nat}{nm:ByteArray}{d d':Dk}(h:Bp a nm d d')(k:a≤b):Bp b nm d d':=by
 obtain ⟨h1,c,e,f,g⟩:=h
 exact ⟨by omega,by omega,by omega,by omega,by omega⟩
theorem YS(d:Dk)(nm:ByteArray)(k:Int)(b:List UInt8)(h:b.length≤256∨k=(A0 d nm).length)(a:b.length=0∨k+b.length≤268435456):Bp 1 nm d (d.write nm k b).2:=by
 have same:Bp 1 nm d d:=(Bp.Mg nm d).more (by omega)
 unfold Dk.write
 split
 · omega
 split
 · omega
 rename_i g
 split
 · omega
 split
 · omega
 split
 · exact ⟨same.changes,same.left,same.BM,same.len,same.cap⟩
 have c:(d.written nm k.toNat b).get nm=some { (d.get nm).getD Dk.KF with now:=laid ((d.get nm).getD Dk.KF).now k.toNat b } :=by simp[Dk.get,Dk.written,Dk.put,CH]
 have i:A0 (d.written nm k.toNat b) nm=laid (A0 d nm) k.toNat b:=by unfold A0;rw[c];rfl
 have hl:=CX (A0 d nm) k.toNat b
 have hs:=OI nm b.length k.toNat b (Nat.le_refl _)
 have hp:(d.written nm k.toNat b).BM.length=d.BM.length+(F6 nm k.toNat b).length:=by
  show (d.BM++F6 nm k.toNat b).length=_
  simp
 have f:(d.written nm k.toNat b).changes=d.changes+1:=rfl
 have e:(d.written nm k.toNat b).left=d.left-1:=rfl
 refine ⟨?_,?_,?_,?_,?_⟩
 · simp_all
 · simp_all
 · grind
 · grind
 grind
theorem size_eq(d:Dk)(nm:ByteArray):max 0 (d.size nm)=((A0 d nm).length:Int)∨d.size nm= -1:=by grind [Dk.size,A0]
theorem Jj{m:Nat}{s:Ck}(ok:Bf m s)(no:Int):(s.As no).length≤256:=by
 unfold Ck.As
 cases h:BK no s.CO with
 |none=>simp
 |some b=>have:=(ok.As _ (Jl h)).1;simp at this⊢;omega
theorem dM(s:Ck)(no:Int)(a:no≤1048576):Bp 1 s.nm s.d (s.pad no).2:=by
 unfold Ck.pad
 by_cases hm:s.d.may s.nm false=0
 ·refine YS _ _ _ _ (.inr ?_) (by rw[List.length_replicate];omega)
  rcases size_eq s.d s.nm with h|h
  · omega
  rw[h]
  have:s.d.get s.nm=none:=by
   unfold Dk.size at h
   cases b:s.d.get s.nm with
   |none=>rfl
   | some f =>
     have:s.d.may s.nm true=0:=by
      unfold Dk.may at hm⊢
      simp_all
     omega
  unfold A0
  rw[this]
  rfl
 have e:(s.d.write s.nm (max 0 (s.d.size s.nm)) (List.replicate (no*256-max 0 (s.d.size s.nm)).toNat 0)).2=s.d:=by simp_all[Dk.write]
 rw[e]
 exact (Bp.Mg _ _).more (by omega)
theorem Yw{m:Nat}{s:Ck}(ok:Bf m s)(no:Int)(a:no<1048576):Bp 1 s.nm s.d (s.Bw no).2.d:=by
 have h:=YS s.d s.nm (no*256) (s.As no) (.inl (Jj ok no)) (.inr (by have:=Jj ok no;omega))
 grind [Ck.Bw]
theorem U4{m:Nat}{s:Ck}(ok:Bf m s)(no:Int)(a:no<1048576):Bp 2 s.nm s.d (s.write no).2.d:=by
 unfold Ck.write
 split
 ·exact (Bp.Mg _ _).more (by omega)
 split
 ·have hp:=dM s no (by omega)
  split
  ·have h:=YS (s.pad no).2 s.nm (no*256) (s.As no) (.inl (Jj ok no)) (.inr (by have:=Jj ok no;omega))
   exact hp.trans (b:=1) (by unfold Ck.Bw;split<;>exact h)
  exact hp.more (by omega)
 exact (Yw ok no a).more (by omega)
theorem V5{m:Nat}{s:Ck}(ok:Bf m s)(no:Int)(a:no<1048576):Bp 2 s.nm s.d (s.release no).2.d:=by
 have h:=U4 ok no a
 grind [Ck.release]
theorem aZ{m:Nat}{s:Ck}(ok:Bf m s):Bp 2 s.nm s.d s.room.2.d:=by
 unfold Ck.room
 split
 ·exact (Bp.Mg _ _).more (by omega)
 split
 ·exact (Bp.Mg _ _).more (by omega)
 rename_i n a
 refine V5 ok _ ?_
 obtain ⟨b,hb⟩:=ok.key (k:=n.key) (Bj.2 (List.mem_map.2 ⟨n,(WC a).1,rfl⟩))
 omega
theorem WQ{m:Nat}{s:Ck}(ok:Bf m s)(no:Int)(b:List UInt8):Bp 2 s.nm s.d (s.take no b).2.d:=by
 have h:=aZ ok
 grind [Ck.take]
theorem US{m:Nat}{s:Ck}(ok:Bf m s)(no:Int):Bp 2 s.nm s.d (s.get no).2.2.d∧(s.get no).2.2.reads≤s.reads+1:=by
 have same:Bp 2 s.nm s.d s.d:=(Bp.Mg _ _).more (by omega)
 unfold Ck.get
 split
 ·grind
 split
 ·grind
 simp only
 split
 ·have h:=WQ ok no (s.d.read s.nm (no*256) 256).2
  have hr:=KB s no (s.d.read s.nm (no*256) 256).2
  grind
 grind
theorem Vx{m:Nat}{s:Ck}(ok:Bf m s)(no:Int)(b:List UInt8):Bp 2 s.nm s.d (s.put no b).2.d∧(s.put no b).2.reads=s.reads:=by
 have same:Bp 2 s.nm s.d s.d:=(Bp.Mg _ _).more (by omega)
 unfold Ck.put
 split
 ·simp_all
 split
 ·simp_all
 have h:=WQ ok no b
 have hr:=KB s no b
 grind
structure f' (N:Nat) (s:Ck):Prop where
 changes:s.d.changes≤2*N
 left: -(2*N:Int)≤s.d.left
 BM:s.d.BM.length≤512*N+(A0 s.d s.nm).length
 reads:s.reads≤N
 len:(A0 s.d s.nm).length≤268435456
theorem f'.ok{m N:Nat}{s:Ck}(ok:Bf m s)(h:f' N s)(B:N≤134217728):Bf 137438953472 s:=by
 obtain ⟨h1,w,x,y,z⟩:=h
 obtain ⟨k,l,n,o,p,q,r,t,u,a⟩:=ok
 obtain ⟨b,c,d,e,v,f,g,i,j⟩:=t
 exact ⟨k,l,n,o,p,q,r,⟨b,c,⟨by omega,d.2⟩,⟨e.1,by omega⟩,by omega,f,g,i,j⟩,u,⟨a.1,by omega⟩⟩
theorem f'.step{N:Nat}{s s':Ck}(h:f' N s)(a:s'.nm=s.nm)(hb:Bp 2 s.nm s.d s'.d)(hr:s'.reads≤s.reads+1):f' (N+1) s':=by
 obtain ⟨h1,g,i,j,k⟩:=h
 obtain ⟨b,b2,c,e,f⟩:=hb
 exact ⟨by omega,by omega,by rw[a];omega,by omega,by rw[a];omega⟩
