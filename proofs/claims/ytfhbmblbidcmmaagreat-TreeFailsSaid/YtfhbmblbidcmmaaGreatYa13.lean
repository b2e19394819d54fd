/- treeFails holds for every input. No condition. (part 13) -/
import Derived.Test.YtfhbmblbidcmmaaGreatYa11
import Derived.Test.YtfhbmblbidcmmaaGreatYa12
set_option linter.all false
set_option maxRecDepth 100000
set_option maxHeartbeats 1000000
namespace Go.Proofs.YtfhbmblbidcmmaaGreat
open Go.RowKit Go.Sl Go.Dk
open Go.UB (AZ)
attribute [local go_sem] KA SO Tj S8
theorem RJ(C D:Nat)(s:Ck)(m:Nat)(no:Int)(F:Ac)(w:World)(hs:Sat (AD C D s*F) w)(ok:Bi m s)(hm:m≤549755813888)(l:Df s.its no=true):
 Calls Tryz.prog 253 #[.pointer (some ⟨C,0,none⟩),.int .i64 no] w fun e G=>e= .returned (.int .i64 (s.release no).1)∧Sat (AD C D (s.release no).2*F) G:=by
 obtain ⟨L,PM,ps,hp,hs⟩:=Sat.Cv hs
 obtain ⟨b,hb,hl,Q,R⟩:=ok.key (DV l)
 have f:=Sq C L D PM ps s m no F w hs hp ok hm Q R
 have c:=Fx ok (DV l)
 obtain ⟨U,H,P,I,J⟩:=BT s no
 have g:Aside (s.release no=if (s.write no).1=0 then (0, { (s.write no).2 with its:=if Df (s.write no).2.its no then E5 (s.write no).2.its no else (s.write no).2.its,BU:=EV no (s.write no).2.BU }) else s.write no):=rfl
 obtain ⟨s1,j⟩: ∃x,(s.write no).2=x:=⟨_,rfl⟩
 obtain ⟨t,n⟩: ∃x,(s.write no).1=x:=⟨_,rfl⟩
 have o:s.write no=(t,s1):=by rw[←j,←n]
 rw[o] at f c g
 rw[j,←hp] at I
 rw[j] at J
 have k:Df s1.its no=true:=by
  rcases J with e|e
  · rw[e];exact l
  rw[e,Hi];exact l
 simp only at f c g
 rw[if_pos k] at g
 have Dl:=fun F w h=>Zi L s1.cap s1.its no F w h c.Lj
 rw[k,if_pos rfl] at Dl
 have r:Aside (B8 ps=s1.BU∧AP no s.BU=some b):=⟨I.symm,hb⟩
 have V:Aside (DP s1.its):=c.Lj
 clear j n o U H P I J c hs hl l k
 by_cases B:t=0
 · subst B
   rw[if_pos rfl] at g
   rw[g.out]
   clear g
   rcases GP ps no with ⟨l1,p,l2,rfl,rfl,u⟩|y
   · obtain ⟨_,_,_,M,O⟩:=GQ (l2:=l2) u
     have K:Aside (B8 (l1++l2)=EV p.key s1.BU∧EU p.key ((l1++p::l2).map Jy)=(l1++l2).map Jy):=⟨by rw[←r.out.1];exact M.symm,O⟩
     clear M O hp hb
     go_enter Tryz.func253,Tryz.ntmps253
     go_wp2_with fail
     refine f.mono ?_
     rintro e H ⟨rfl,a⟩
     unfold BN at a
     haveI:=a.i
     have q:Aside (∀(F:Ac)(w:World),Sat (Cf L s1.cap s1.its*F) w→Calls Tryz.prog 164 #[.pointer (some ⟨L,0,none⟩),.int .i64 p.key] w fun e G=>e= .returned (.bool true)∧Sat (Cf L s1.cap (E5 s1.its p.key)*F) G):=Dl
     clear f Dl
     go_wp2_with fail
     refine (q.out _ _ (Ae (Cf L s1.cap s1.its))).mono ?_
     rintro e P ⟨rfl,z⟩
     haveI:=z.i
     clear a
     go_wp2
     go_ret
     refine ⟨rfl,?_⟩
     refine Sat.AW (L:=L) (PM:=PM) (ps:=l1++l2) K.out.1 ?_
     refine Br (C:=rw TB 1 p.v (A4 p.b)) ?_
     rw[K.out.2,C1,show AX (p::l2)=rw TB 1 p.v (A4 p.b)*AX l2 from rfl]
     show _=coreC C L D PM s1*(Cf L s1.cap (E5 s1.its p.key)*(Bh D s1.d*(mp AZ PM ((l1++l2).map Jy)*AX (l1++l2))))*F*rw TB 1 p.v (A4 p.b)
     rw[C1]
     ac_rfl
   have:=r.out.2
   rw[←hp,(Jn y).1] at this
   cases this
 rw[if_neg B] at g
 rw[g.out]
 clear g
 have T:(t==0)=false:=by simpa using B
 go_enter Tryz.func253,Tryz.ntmps253
 go_wp2_with fail
 refine f.mono ?_
 rintro e H ⟨rfl,a⟩
 go_wp2
 go_ret
 exact ⟨rfl,Sat.AW r.out.1 a⟩
theorem X7(C D:Nat)(s:Ck)(m:Nat)(F:Ac)(w:World)(hs:Sat (AD C D s*F) w)(ok:Bi m s)(hm:m≤549755813888):
 Calls Tryz.prog 229 #[.pointer (some ⟨C,0,none⟩)] w fun e k=>e= .returned (.int .i64 s.room.1)∧Sat (AD C D s.room.2*F) k:=by
 obtain ⟨L,PM,ps,hp,f⟩:=Sat.Cv hs
 have c:ps.length=s.BU.length:=by rw[←hp];simp[B8]
 have d:=ok.len
 have q:=ok.cap
 have o:=ok.most
 unfold BN at f
 by_cases b:(ps.length:Int)<s.cap
 ·have e:s.room=(0,s):=by unfold Ck.room;rw[if_pos (by rw[←c];exact b)]
  rw[e]
  have j:Aside (B8 ps=s.BU):=hp
  haveI:=f.i
  clear e hs hp c d
  go_enter Tryz.func229,Tryz.ntmps229
  go_upto_region 1 with (fail)
  go_region
  all_goals
   go_wp2
   go_ret
   exact ⟨rfl,Sat.AW j.out (A8 (by unfold BN;rfl))⟩
 have r:decide ((ps.length:Int)<s.cap)=false:=by simpa using b
 cases g:L8 s.its with
 | none =>
  have e:s.room=(9,s):=by unfold Ck.room;rw[if_neg (by rw[←c];exact b),g]
  rw[e]
  have a:=fun F w h=>Us L s.cap s.its F w h
  rw[g] at a
  have j:Aside (B8 ps=s.BU):=hp
  have l:Aside (∀(F:Ac)(w:World),Sat (Cf L s.cap s.its*F) w→Calls Tryz.prog 252 #[.pointer (some ⟨L,0,none⟩)] w fun e k=>e= .returned (.tuple #[.int .i64 0,.bool false])∧w=k):=a
  haveI:=f.i
  clear e hs hp c d b a g
  go_enter Tryz.func229,Tryz.ntmps229
  go_upto_region 1 with (fail)
  go_region
  all_goals
   go_wp2_with fail
   refine (l.out _ _ (Ae (Cf L s.cap s.its))).mono ?_
   rintro e t ⟨rfl,rfl⟩
   go_wp2
   go_ret
   exact ⟨rfl,Sat.AW j.out (A8 (by unfold BN;rfl))⟩
 | some n =>
  have e:s.room=s.release n.key:=by unfold Ck.room;rw[if_neg (by rw[←c];exact b),g]
  rw[e]
  have a:=fun F w h=>Us L s.cap s.its F w h
  rw[g] at a
  have j:Aside (B8 ps=s.BU∧Df s.its n.key=true):=⟨hp,KN g⟩
  have l:Aside (∀(F:Ac)(w:World),Sat (Cf L s.cap s.its*F) w→Calls Tryz.prog 252 #[.pointer (some ⟨L,0,none⟩)] w fun e k=>e= .returned (.tuple #[.int .i64 n.key,.bool true])∧w=k):=a
  haveI:=f.i
  clear e hs hp c d b a g
  go_enter Tryz.func229,Tryz.ntmps229
  go_upto_region 1 with (fail)
  go_region
  all_goals
   go_wp2_with fail
   refine (l.out _ _ (Ae (Cf L s.cap s.its))).mono ?_
   rintro e t ⟨rfl,rfl⟩
   go_wp2_with fail
   refine (RJ C D s m n.key F _ (Sat.AW j.out.1 (A8 (by unfold BN;rfl))) ok hm j.out.2).mono ?_
   rintro e u ⟨rfl,p⟩
   go_wp2
   go_ret
   exact ⟨rfl,p⟩
theorem Se(C D:Nat)(s:Ck)(m:Nat)(no:Int)(v:Value)(b:List UInt8)(B F:Ac)(w:World)(J:Reads B v b)(hs:Sat (AD C D s*(B*F)) w)(ok:Bi m s)(hm:m≤274877906944)(g:Bf s.its no=false)(hb:b.length=256):
 Calls Tryz.prog 181 #[.pointer (some ⟨C,0,none⟩),.int .i64 no,v] w fun e R=>e= .returned (.int .i64 (s.take no b).1)∧Sat (AD C D (s.take no b).2*(B*F)) R:=by
 obtain ⟨va,vc,rfl,Q,Z⟩:=(J _ _ (hs.take B)).len
 have f:=X7 C D s m _ w hs ok (by omega)
 obtain ⟨r1,y,H,U⟩:=Jq ok
 have j:Aside (s.take no b=if s.room.1=0 then (0, { s.room.2 with its:=s.room.2.its++ [⟨no,0,false⟩],BU:=Cg no b s.room.2.BU }) else s.room):=rfl
 obtain ⟨s1,l⟩: ∃x,s.room.2=x:=⟨_,rfl⟩
 obtain ⟨I,k⟩: ∃x,s.room.1=x:=⟨_,rfl⟩
 have u:s.room=(I,s1):=by rw[←l,←k]
 rw[u] at f j
 simp only at f j
 rw[l] at r1 y H
 rw[k] at y
 clear l k u
 by_cases G:I=0
 ·subst G
  rw[if_pos rfl] at j
  rw[j.out]
  have M:=y rfl
  have c:Bf s1.its no=false:=by
   rw[Bool.eq_false_iff];intro Y;rw[H no Y] at g;cases g
  have r:(AP no s1.BU).isSome=false:=by rw[←r1.same];exact c
  have z:Aside (DP s1.its∧Bf s1.its no=false∧(s1.its.length:Int)≠s1.cap∧(AP no s1.BU).isSome=false):=⟨r1.Lj,c,by omega,r⟩
  obtain ⟨i0,E⟩:=Ez
  rw[hb] at Q J
  rw[hb]
  have V:Aside (b.length=256):=hb
  clear j r1 y H U M c r hs g hb
  go_enter Tryz.func181,Tryz.ntmps181
  go_wp2_with fail
  refine f.mono ?_
  rintro e w2 ⟨rfl,a⟩
  obtain ⟨L,PM,ps,hp,a⟩:=Sat.Cv a
  unfold BN at a
  have T:Aside (B8 ps=s1.BU):=hp
  haveI:=a.i
  clear f hp
  go_wp2_with fail
  refine (l8 L s1.cap s1.its no _ _ (Ae (Cf L s1.cap s1.its)) z.out.1 z.out.2.1 z.out.2.2.1).mono ?_
  rintro e w3 ⟨rfl,P⟩
  haveI:=P.i
  clear a
  go_upto_region 5 with (fail)
  go_region_held3 (fun R=>R.cell? ⟨C,4,none⟩=some (.map (some PM))) (first|exact Aa _ _ _) (first
   |(refine A1 E rfl (.tmp 24) (.tmp 25) rfl rfl rfl (La (b:=w3.heap.size) (e:=TB)) (J.VG V.out) (by unfold maxLen;omega) (by omega) ?_;intro n o w4 t O;clear O;simp only[Nat.zero_add,List.nil_append] at t;haveI:=t.i))
  all_goals
   go_wp2
   go_ret
   refine ⟨rfl,?_⟩
   have q: ∀p∈ps,p.key≠no:=by
    rcases GP ps no with ⟨l1,p,l2,rfl,rfl,K⟩|h
    · have:=z.out.2.2.2
      rw[←T.out,(GQ K).1] at this
      cases this
    exact h
   obtain ⟨_,_,W,X⟩:=Jn q
   refine Sat.AW (L:=L) (PM:=PM) (ps:=ps++ [⟨no,.slice n 256 o,b⟩]) ?_ ?_
   · show _=Cg no b s1.BU
     rw[←T.out,W];simp[B8]
   refine A8 ?_
   rw[X]
   show _=coreC C L D PM s1*(Cf L s1.cap (s1.its++ [⟨no,0,false⟩])*(Bh D s1.d*(mp AZ PM ((ps++ [(⟨no,.slice n 256 o,b⟩:Pg)]).map Jy)*AX (ps++ [(⟨no,.slice n 256 o,b⟩:Pg)]))))*(B*F)
   rw[C1,List.map_append,show AX [(⟨no,.slice n 256 o,b⟩:Pg)]=rw TB 1 (.slice n 256 o) (A4 b)*1 from rfl,Bd]
   show _=coreC C L D PM s1*(Cf L s1.cap (s1.its++ [⟨no,0,false⟩])*(Bh D s1.d*(mp AZ PM (ps.map Jy++ [(no,.slice n 256 o)])*_)))*(B*F)
   ac_rfl
 rw[if_neg G] at j
 rw[j.out]
 have a0:(I !=0)=true:=by simpa using G
 clear j r1 y H U hs g G
 go_enter Tryz.func181,Tryz.ntmps181
 go_wp2_with fail
 refine f.mono ?_
 rintro e w2 ⟨rfl,a⟩
 go_wp2
 go_ret
 exact ⟨rfl,a⟩
theorem P7{its:List It}{no:Int}(c:Bf its no=false):EC its no=its:=by
 unfold EC E5
 have d:its.filter (fun n=>n.key==no)= []:=List.filter_eq_nil_iff.2 fun x hx=>by
  intro a
  have b:Bf its no=true:=Bb.2 (List.mem_map.2 ⟨x,hx,by simpa using a⟩)
  rw[c] at b;cases b
 have a:its.filter (fun n=>n.key !=no)=its:=List.filter_eq_self.2 fun x hx=>by
  simp
  intro a
  have b:Bf its no=true:=Bb.2 (List.mem_map.2 ⟨x,hx,a⟩)
  rw[c] at b;cases b
 rw[d,a,List.append_nil]
theorem NG{d:Dk}{nm:ByteArray}{k:Int}{n:Nat}(h:(d.read nm k n).1=0):(d.read nm k n).2.length=n:=by
 unfold Dk.read at h⊢
 split at h
 ·rename_i a;exact absurd h a
 rename_i a
 rw[if_neg a]
 simp only at h⊢
 split at h
 ·cases h
 rename_i b
 rw[if_neg b]
 simp
 omega
def Yd(C D:Nat)(F:Ac)(r:Int×List UInt8×Ck)(e:Ending)(a:World):Prop:=
 ∃v,e= .returned (.tuple #[v,.int .i64 r.1])∧Sat (rw TB 1 v (A4 r.2.1)*(AD C D r.2.2*F)) a
theorem Yy(C D : Nat)(s : Ck)(m : Nat)(no : Int)(F : Ac)(w : World)(hs : Sat (AD C D s * F) w)(ok : Bi m s)(hm : m ≤ 274877906944) :
 Calls Tryz.prog 157 #[.pointer (some ⟨C,0,none⟩),.int .i64 no] w (Yd C D F (s.get no)):=by
 by_cases hr:no<0∨1048576≤no
 ·have e:s.get no=(1,[],s):=by unfold Ck.get;rw[if_pos hr]
  rw[e]
  have a:Sat (rw TB 1 (.slice none 0 0) (A4 [])*(AD C D s*F)) w:=Sat.Bj hs
  rcases hr with hr|hr
  · go_enter Tryz.func157,Tryz.ntmps157
    go_wp2
    go_ret2
    exact ⟨_,rfl,a⟩
  have b0: ¬no<0:=by omega
  go_enter Tryz.func157,Tryz.ntmps157
  go_wp2
  go_ret2
  exact ⟨_,rfl,a⟩
 have ai:0≤no:=by omega
 have aj:no<1048576:=by omega
 obtain ⟨L,PM,ps,hp,c⟩:=Sat.Cv hs
 unfold BN at c
 have af:s.nm.size≤9223372036854775807:=Hs ok.nm
 cases G:Bf s.its no with
 | true =>
  have e:s.get no=(0,s.Ay no, { s with its:=EC s.its no }):=by unfold Ck.get;rw[if_neg hr,if_pos G]
  rw[e]
  obtain ⟨b,hb,W,_,_⟩:=ok.key G
  rcases GP ps no with ⟨l1,p,l2,rfl,rfl,ae⟩|ah
  · obtain ⟨q1,q2,_⟩:=GQ (l2:=l2) ae
    rw[hp] at q1
    have V:p.b=b:=by rw[q1] at hb;exact Option.some.inj hb
    have a0:s.Ay p.key=p.b:=by unfold Ck.Ay;rw[q1];rfl
    have hR:AX (l1++p::l2)=rw TB 1 p.v (A4 p.b)*(AX l1*AX l2):=by rw[C1];show AX l1*(_*AX l2)=_;ac_rfl
    rw[hR] at c
    obtain ⟨va,vc,H,ak,b1⟩:=E7 (c.take (rw TB 1 p.v (A4 p.b)))
    rw[V,W] at H ak
    have x:Aside (B8 (l1++p::l2)=s.BU∧s.Ay p.key=p.b∧p.b.length=256∧AX (l1++p::l2)=rw TB 1 p.v (A4 p.b)*(AX l1*AX l2)∧p.v= .slice va 256 vc):=⟨hp,a0,by rw[V];exact W,hR,H⟩
    rw[H] at q2 c
    obtain ⟨ms,X⟩: ∃ms,(l1++p::l2).map Jy=ms:=⟨_,rfl⟩
    rw[X] at q2 c
    have aa:Aside ((l1++p::l2).map Jy=ms):=X
    clear X
    have t:=ZS L s.cap s.its p.key _ w (c.take (Cf L s.cap s.its)) ok.Lj
    rw[G] at t
    obtain ⟨i0,E⟩:=Ez
    haveI:=c.i
    clear e hr hs hp G hb q1 V W a0 hR H
    go_enter Tryz.func157,Tryz.ntmps157
    go_wp2_with fail
    refine t.mono ?_
    rintro e w2 ⟨rfl,a⟩
    clear t c
    haveI:=a.i
    go_wp2_with (at_builtin;(refine Aj E rfl (.tmp 24) (.tmp 30) rfl rfl rfl (La (b:=w2.heap.size) (e:=TB)) (Reads.VG (B:=rw TB 1 (.slice va 256 vc) (A4 p.b)) (by have u:=Reads.rw (e:=TB) (v:= .slice va 256 vc) (l:=p.b);exact u) x.out.2.2.1) (by unfold maxLen;omega) (by omega) ?_;intro a4 c4 w4 f ag;clear ag;simp only[Nat.zero_add,List.nil_append] at f;haveI:=f.i))
    go_ret2
    refine ⟨_,rfl,?_⟩
    obtain ⟨g1,g2,g3,g4,g5⟩:=x.out
    show Sat (rw TB 1 _ (A4 (s.Ay p.key))*_) _
    rw[g2,B7]
    refine Sat.AW (L:=L) (PM:=PM) (ps:=l1++p::l2) g1 (f.eq ?_)
    show _=coreC C L D PM s*(Cf L s.cap (EC s.its p.key)*(Bh D s.d*(mp AZ PM ((l1++p::l2).map Jy)*AX (l1++p::l2))))*_
    rw[g4,g5,aa.out]
    ac_rfl
  rw[←hp,(Jn ah).1] at hb
  cases hb
 | false =>
  have P:Aside (s.get no=if (s.d.read s.nm (no*256) 256).1=0 then (if (s.take no (s.d.read s.nm (no*256) 256).2).1=0 then (0,(s.d.read s.nm (no*256) 256).2, { (s.take no (s.d.read s.nm (no*256) 256).2).2 with reads:=(s.take no (s.d.read s.nm (no*256) 256).2).2.reads+1 }) else ((s.take no (s.d.read s.nm (no*256) 256).2).1,[],(s.take no (s.d.read s.nm (no*256) 256).2).2)) else (if (s.d.read s.nm (no*256) 256).1=2 then 6 else (s.d.read s.nm (no*256) 256).1,[],s)):=by
   show _=_
   unfold Ck.get;rw[if_neg hr,if_neg (by simp[G])]
  have o:=NG (d:=s.d) (nm:=s.nm) (k:=no*256) (n:=256)
  obtain ⟨r,I⟩: ∃r,s.d.read s.nm (no*256) 256=r:=⟨_,rfl⟩
  have a1: ∀F w,Sat (Bh D s.d*F) w→Calls Tryz.prog 49 #[.pointer (some ⟨D,0,none⟩),.string s.nm,.int .i64 (no*256),.int .i64 256] w fun e j=> ∃v,e= .returned (.tuple #[v,.int .i64 r.1])∧Sat (rw TB 1 v (A4 r.2)*(Bh D s.d*F)) j:=by
   intro F w h
   have:=X0 D s.d s.nm (no*256) 256 F w h af (fun p hp=>(ok.dk.sz p hp).1)
   rw[I] at this
   exact this
  have Q:r.1=0→r.2.length=256:=by
   have:((256:Nat):Int)=256:=rfl
   rw[this,I] at o
   exact o
  rw[I] at P
  clear o I
  have t:=ZS L s.cap s.its no _ w (c.take (Cf L s.cap s.its)) ok.Lj
  rw[G] at t
  have R:EC s.its no=s.its:=P7 G
  rw[R] at t
  have y:Aside (∀F w,Sat (Bh D s.d*F) w→Calls Tryz.prog 49 #[.pointer (some ⟨D,0,none⟩),.string s.nm,.int .i64 (no*256),.int .i64 256] w fun e j=> ∃v,e= .returned (.tuple #[v,.int .i64 r.1])∧Sat (rw TB 1 v (A4 r.2)*(Bh D s.d*F)) j):=a1
  have x:Aside (B8 ps=s.BU∧Bf s.its no=false∧(r.1=0→r.2.length=256)):=⟨hp,G,Q⟩
  obtain ⟨rc,O⟩:=r
  simp only at P y x
  haveI:=c.i
  clear a1 Q G hr hs hp R
  by_cases u:rc=0
  · subst u
    rw[if_pos rfl] at P
    rw[P.out]
    clear P
    have o:=x.out.2.2 rfl
    have J:=fun(v:Value)(F:Ac)(w:World)(h:Sat (AD C D s*(rw TB 1 v (A4 O)*F)) w)=>Se C D s m no v O (rw TB 1 v (A4 O)) F w Reads.rw h ok hm x.out.2.1 o
    have K:=M4 ok x.out.2.1 ai aj o
    obtain ⟨⟨tc,ts⟩,a2⟩: ∃r,s.take no O=r:=⟨_,rfl⟩
    rw[a2] at J K⊢
    simp only at J K⊢
    have Y:Aside (∀(v:Value)(F:Ac)(w:World),Sat (AD C D s*(rw TB 1 v (A4 O)*F)) w→Calls Tryz.prog 181 #[.pointer (some ⟨C,0,none⟩),.int .i64 no,v] w fun e j=>e= .returned (.int .i64 tc)∧Sat (AD C D ts*(rw TB 1 v (A4 O)*F)) j):=J
    have z:=K.reads
    have aq:ts.reads≤4611686018427387904:=by unfold U at z;omega
    have ar:=z.1
    clear J a2 K o z
    by_cases u:tc=0
    · subst u
      rw[if_pos rfl]
      go_enter Tryz.func157,Tryz.ntmps157
      go_wp2_with fail
      refine t.mono ?_
      rintro e w2 ⟨rfl,a⟩
      haveI:=a.i
      clear t c
      go_upto_region 5 with (fail)
      have q:IntKind.i64.wrap (no*256)=no*256:=IntWalk.i64_in _ (by omega)
      go_region_held3 (fun j=>j.cell? ⟨C,1,none⟩=some (.pointer (some ⟨D,0,none⟩))∧j.cell? ⟨C,2,none⟩=some (.string s.nm)) (first|exact ⟨Aa _ _ _,Aa _ _ _⟩) (first
       |(go_at_call 49;refine (y.out _ _ (Ae (Bh D s.d))).mono ?_;rintro e w3 ⟨v,rfl,g⟩;haveI:=g.i))
      clear q a
      all_goals
       go_wp2_with fail
       refine (Y.out v F _ (Sat.AW (L:=L) (PM:=PM) (ps:=ps) x.out.1 (A8 (by unfold BN;ac_rfl)))).mono ?_
       rintro e w4 ⟨rfl,f⟩
       obtain ⟨L4,T,M,Z,f⟩:=Sat.Cv f
       unfold BN at f
       have ab:Aside (B8 M=ts.BU):=Z
       haveI:=f.i
       clear g Z
       go_wp2
       go_ret2
       refine ⟨_,rfl,?_⟩
       rw[B7]
       refine Sat.AW (L:=L4) (PM:=T) (ps:=M) ab.out ?_
       refine A8 ?_
       show _=coreC C L4 D T { ts with reads:=ts.reads+1 } *(Cf L4 ts.cap ts.its*(Bh D ts.d*(mp AZ T (M.map Jy)*AX M)))*_
       ac_rfl
    rw[if_neg u]
    have a3:(tc==0)=false:=by simpa using u
    have al:(tc !=0)=true:=by simpa using u
    clear u
    go_enter Tryz.func157,Tryz.ntmps157
    go_wp2_with fail
    refine t.mono ?_
    rintro e w2 ⟨rfl,a⟩
    haveI:=a.i
    clear t c
    go_upto_region 5 with (fail)
    have q:IntKind.i64.wrap (no*256)=no*256:=IntWalk.i64_in _ (by omega)
    go_region_held3 (fun j=>j.cell? ⟨C,1,none⟩=some (.pointer (some ⟨D,0,none⟩))∧j.cell? ⟨C,2,none⟩=some (.string s.nm)) (first|exact ⟨Aa _ _ _,Aa _ _ _⟩) (first
     |(go_at_call 49;refine (y.out _ _ (Ae (Bh D s.d))).mono ?_;rintro e w3 ⟨v,rfl,g⟩;haveI:=g.i))
    clear q a
    all_goals
     go_wp2_with fail
     refine (Y.out v F _ (Sat.AW (L:=L) (PM:=PM) (ps:=ps) x.out.1 (A8 (by unfold BN;ac_rfl)))).mono ?_
     rintro e w4 ⟨rfl,f⟩
     go_wp2
     go_ret2
     exact ⟨_,rfl,Sat.Bj (f.drop (rw TB 1 v (A4 O)))⟩
  rw[if_neg u] at P
  have a3:(rc==0)=false:=by simpa using u
  have am:(rc !=0)=true:=by simpa using u
  rw[P.out]
  clear P
  by_cases h2:rc=2
  · subst h2
    rw[if_pos rfl]
    clear u a3 am
    go_enter Tryz.func157,Tryz.ntmps157
    go_wp2_with fail
    refine t.mono ?_
    rintro e w2 ⟨rfl,a⟩
    haveI:=a.i
    clear t c
    go_upto_region 5 with (fail)
    have q:IntKind.i64.wrap (no*256)=no*256:=IntWalk.i64_in _ (by omega)
    go_region_held3 (fun j=>j.cell? ⟨C,1,none⟩=some (.pointer (some ⟨D,0,none⟩))∧j.cell? ⟨C,2,none⟩=some (.string s.nm)) (first|exact ⟨Aa _ _ _,Aa _ _ _⟩) (first
     |(go_at_call 49;refine (y.out _ _ (Ae (Bh D s.d))).mono ?_;rintro e w3 ⟨v,rfl,g⟩;haveI:=g.i))
    clear q a
    all_goals
     go_wp2
     go_ret2
     refine ⟨_,rfl,Sat.Bj (Sat.AW (L:=L) (PM:=PM) (ps:=ps) x.out.1 ?_)⟩
     refine Br (C:=rw TB 1 v (A4 O)) ?_
     unfold BN
     ac_rfl
  rw[if_neg h2]
  have al:(rc==2)=false:=by simpa using h2
  clear u h2
  go_enter Tryz.func157,Tryz.ntmps157
  go_wp2_with fail
  refine t.mono ?_
  rintro e w2 ⟨rfl,a⟩
  haveI:=a.i
  clear t c
  go_upto_region 5 with (fail)
  have q:IntKind.i64.wrap (no*256)=no*256:=IntWalk.i64_in _ (by omega)
  go_region_held3 (fun j=>j.cell? ⟨C,1,none⟩=some (.pointer (some ⟨D,0,none⟩))∧j.cell? ⟨C,2,none⟩=some (.string s.nm)) (first|exact ⟨Aa _ _ _,Aa _ _ _⟩) (first
   |(go_at_call 49;refine (y.out _ _ (Ae (Bh D s.d))).mono ?_;rintro e w3 ⟨v,rfl,g⟩;haveI:=g.i))
  clear q a
  all_goals
   go_wp2
   go_ret2
   refine ⟨_,rfl,Sat.Bj (Sat.AW (L:=L) (PM:=PM) (ps:=ps) x.out.1 ?_)⟩
   refine Br (C:=rw TB 1 v (A4 O)) ?_
   unfold BN
   ac_rfl
theorem YI(C D:Nat)(s:Ck)(m:Nat)(no:Int)(v:Value)(b:List UInt8)(B F:Ac)(w:World)(X:Reads B v b)(hs:Sat (AD C D s*(B*F)) w)(ok:Bi m s)(hm:m≤274877906944):
 Calls Tryz.prog 195 #[.pointer (some ⟨C,0,none⟩),.int .i64 no,v] w fun e w'=>e= .returned (.int .i64 (s.put no b).1)∧Sat (AD C D (s.put no b).2*(B*F)) w':=by
 obtain ⟨va,vc,rfl,a8,ap⟩:=(X _ _ (hs.take B)).len
 by_cases hr:no<0∨1048576≤no∨b.length≠256
 ·have e:s.put no b=(1,s):=by unfold Ck.put;rw[if_pos hr]
  rw[e]
  by_cases h1:no<0
  · go_enter Tryz.func195,Tryz.ntmps195
    go_wp2
    go_ret
    exact ⟨rfl,hs⟩
  by_cases h2:1048576≤no
  · go_enter Tryz.func195,Tryz.ntmps195
    go_wp2
    go_ret
    exact ⟨rfl,hs⟩
  have h3:((b.length:Int) !=256)=true:=by simp;omega
  have ao:(b.length !=256)=true:=by simp;omega
  have h4:no<1048576:=by omega
  have h5:0≤no:=by omega
  clear hr e h2 h1
  go_enter Tryz.func195,Tryz.ntmps195
  go_wp2
  go_ret
  exact ⟨rfl,hs⟩
 have a5:0≤no:=by omega
 have a6:no<1048576:=by omega
 have g:b.length=256:=by omega
 obtain ⟨L,PM,ps,hp,a⟩:=Sat.Cv hs
 unfold BN at a
 rw[g] at X a8
 rw[g]
 have Z:Aside (b.length=256):=g
 have j:=ZS L s.cap s.its no _ w (a.take (Cf L s.cap s.its)) ok.Lj
 cases k:Bf s.its no with
 | true =>
  have e:s.put no b=(0, { s with its:=AU (EC s.its no) no true,BU:=Cg no b s.BU }):=by unfold Ck.put;rw[if_neg hr,if_pos k]
  rw[e]
  rw[k] at j
  obtain ⟨b0,hb,M,_,_⟩:=ok.key k
  have O:=Xj ok.Lj no
  rcases GP ps no with ⟨l1,p,l2,rfl,rfl,a3⟩|a4
  · obtain ⟨q1,q2,q3,_⟩:=GQ (l2:=l2) a3
    rw[hp] at q1
    have l:p.b.length=256:=by rw[q1] at hb;rw[Option.some.inj hb];exact M
    have hR: ∀q:Pg,AX (l1++q::l2)=rw TB 1 q.v (A4 q.b)*(AX l1*AX l2):=by intro q;rw[C1];show AX l1*(_*AX l2)=_;ac_rfl
    rw[hR] at a j
    rcases (a.take (rw TB 1 p.v (A4 p.b))).Cm with ⟨_,W,_⟩|⟨pg,n,pc,sp,I,W,g3,g4,g5,g6⟩
    ·have:=congrArg List.length W;rw[Cj,l] at this;cases this
    rw[Cj,l,Nat.mul_one] at W
    subst W
    rw[I] at q2 a j
    obtain ⟨ms,H⟩: ∃ms,(l1++p::l2).map Jy=ms:=⟨_,rfl⟩
    have y:Aside ((l1++ { p with b:=b } ::l2).map Jy=ms∧B8 (l1++ { p with b:=b } ::l2)=Cg p.key b s.BU∧p.v= .slice (some ⟨pg,0,none⟩) 256 pc):=⟨by rw[←H];simp[Jy],by rw[←hp];exact (q3 b).symm,I⟩
    have z:Aside ((∀q:Pg,AX (l1++q::l2)=rw TB 1 q.v (A4 q.b)*(AX l1*AX l2))∧p.b.length=256∧DP (EC s.its p.key)∧Bf (EC s.its p.key) p.key=true):=⟨hR,l,O,Bb.2 (U9.2 (Bb.1 k))⟩
    rw[H] at q2 a j
    obtain ⟨i0,E⟩:=Ez
    haveI:=a.i
    clear e hr hs hp k hb q1 q3 l g hR I H g3 g6 O
    go_enter Tryz.func195,Tryz.ntmps195
    go_wp2_with fail
    refine j.mono ?_
    rintro e w2 ⟨rfl,c⟩
    have V:=X _ _ (c.take B)
    obtain ⟨w3,R,T⟩:=KZ (P:=Tryz.prog) E 26 3 (lo:=0) (c.take (rw TB 1 (.slice (some ⟨pg,0,none⟩) 256 pc) (A4 p.b))) V (by rw[Z.out];omega)
    rw[O8,Nat.sub_zero,Nat.sub_zero,Z.out] at R
    rw[Z.out,List.take_zero,List.nil_append,List.drop_of_length_le (by rw[Cj,z.out.2.1];omega),List.append_nil] at T
    haveI:=c.i
    haveI:=T.i
    clear j a V
    go_wp2_with fail
    refine (WY L s.cap (EC s.its p.key) p.key true _ _ (Ae (Cf L s.cap (EC s.its p.key))) z.out.2.2.1).mono ?_
    rintro e w4 ⟨rfl,f⟩
    go_wp2
    go_ret
    refine ⟨rfl,Sat.AW (L:=L) (PM:=PM) (ps:=l1++ { p with b:=b } ::l2) y.out.2.1 (f.eq ?_)⟩
    show _=coreC C L D PM s*(Cf L s.cap (AU (EC s.its p.key) p.key true)*(Bh D s.d*(mp AZ PM ((l1++ { p with b:=b } ::l2).map Jy)*AX (l1++ { p with b:=b } ::l2))))*_
    rw[y.out.1,z.out.1]
    show _=coreC C L D PM s*(Cf L s.cap (AU (EC s.its p.key) p.key true)*(Bh D s.d*(mp AZ PM ms*(rw TB 1 p.v (A4 b)*_))))*_
    rw[y.out.2.2]
    ac_rfl
  rw[←hp,(Jn a4).1] at hb
  cases hb
 | false =>
  have HE:Aside (s.put no b=if (s.take no b).1=0 then (0, { (s.take no b).2 with its:=AU (s.take no b).2.its no true }) else s.take no b):=by
   show _=_
   unfold Ck.put;rw[if_neg hr,if_neg (by simp[k])]
  rw[k] at j
  have x:EC s.its no=s.its:=P7 k
  rw[x] at j
  have o:=fun(F:Ac)(w:World)(h:Sat (AD C D s*(B*F)) w)=>Se C D s m no (.slice va 256 vc) b B F w X h ok hm k g
  have t:=(M4 ok k a5 a6 g).Lj
  rw[HE.out]
  obtain ⟨⟨tc,ts⟩,U⟩: ∃r,s.take no b=r:=⟨_,rfl⟩
  rw[U] at o t⊢
  simp only at o t⊢
  have J:Aside (∀(F:Ac)(w:World),Sat (AD C D s*(B*F)) w→Calls Tryz.prog 181 #[.pointer (some ⟨C,0,none⟩),.int .i64 no,.slice va 256 vc] w fun e w'=>e= .returned (.int .i64 tc)∧Sat (AD C D ts*(B*F)) w'):=o
  have HP:Aside (B8 ps=s.BU∧DP ts.its):=⟨hp,t⟩
  haveI:=a.i
  clear o U t x k hr hs hp g HE
  by_cases Y:tc=0
  · subst Y
    rw[if_pos rfl]
    go_enter Tryz.func195,Tryz.ntmps195
    go_wp2_with fail
    refine j.mono ?_
    rintro e w2 ⟨rfl,c⟩
    clear j a
    go_wp2_with fail
    refine (J.out F _ (Sat.AW (L:=L) (PM:=PM) (ps:=ps) HP.out.1 (c.eq (by unfold BN;ac_rfl)))).mono ?_
    rintro e w4 ⟨rfl,f⟩
    obtain ⟨K,G,u,Q,f⟩:=Sat.Cv f
    unfold BN at f
    have a1:Aside (B8 u=ts.BU):=Q
    haveI:=f.i
    clear c Q
    go_wp2_with fail
    refine (WY K ts.cap ts.its no true _ _ (Ae (Cf K ts.cap ts.its)) HP.out.2).mono ?_
    rintro e w5 ⟨rfl,a7⟩
    go_wp2
    go_ret
    refine ⟨rfl,Sat.AW (L:=K) (PM:=G) (ps:=u) a1.out (a7.eq ?_)⟩
    show _=coreC C K D G ts*(Cf K ts.cap (AU ts.its no true)*(Bh D ts.d*(mp AZ G (u.map Jy)*AX u)))*_
    ac_rfl
  rw[if_neg Y]
  have aq:(tc !=0)=true:=by simpa using Y
  clear Y
  go_enter Tryz.func195,Tryz.ntmps195
  go_wp2_with fail
  refine j.mono ?_
  rintro e w2 ⟨rfl,c⟩
  clear j a
  go_wp2_with fail
  refine (J.out F _ (Sat.AW (L:=L) (PM:=PM) (ps:=ps) HP.out.1 (c.eq (by unfold BN;ac_rfl)))).mono ?_
  rintro e w4 ⟨rfl,f⟩
  go_wp2
  go_ret
  exact ⟨rfl,f⟩
theorem TN(C D:Nat)(s:Ck)(m:Nat)(no:Int)(F:Ac)(w:World)(hs:Sat (AD C D s*F) w)(ok:Bi m s)(hm:m≤549755813888)(c:0≤no)(d:no<1048576):
 Calls Tryz.prog 101 #[.pointer (some ⟨C,0,none⟩),.int .i64 no] w fun e b=>e= .returned (.int .i64 (s.write no).1)∧Sat (AD C D (s.write no).2*F) b:=by
 obtain ⟨L,PM,ps,hp,a⟩:=Sat.Cv hs
 refine (Sq C L D PM ps s m no F w a hp ok hm c d).mono ?_
 rintro e b ⟨f,g⟩
 exact ⟨f,Sat.AW (by rw[(BT s no).2.2.2.1];exact hp) g⟩
theorem Jv(s:Ck)(no k:Int):Bf (s.write no).2.its k=Bf s.its k:=by
 rcases (BT s no).2.2.2.2 with e|e
 ·rw[e]
 rw[e,MO]
theorem UQ(C D:Nat)(s:Ck)(m:Nat)(F:Ac)(w:World)(hs:Sat (AD C D s*F) w)(ok:Bi m s)(hm:m+s.its.length*U≤549755813888):
 Calls Tryz.prog 36 #[.pointer (some ⟨C,0,none⟩)] w fun e I=>e= .returned (.int .i64 s.flush.1)∧Sat (AD C D s.flush.2*F) I:=by
 obtain ⟨R,HR⟩: ∃R,Aside (Ck.writes (BC s.its) s=R):=⟨_,rfl⟩
 have P:Aside (s.flush=if R.1=0 then ((if (R.2.d.sync R.2.nm).1=6 then 0 else (R.2.d.sync R.2.nm).1), { R.2 with d:=(R.2.d.sync R.2.nm).2 }) else R):=by
  show _=_
  unfold Ck.flush;rw[HR.out]
 obtain ⟨Z,M⟩: ∃Z,Aside (s.flush=Z):=⟨_,rfl⟩
 rw[M.out]
 rw[M.out] at P
 clear M
 obtain ⟨L,PM,ps,hp,W⟩:=Sat.Cv hs
 unfold BN at W
 have a6:=Uo L s.cap s.its _ w (W.take (Cf L s.cap s.its)) ok.Lj
 have a9: ∀z∈BC s.its,Bf s.its z=true:=by
  intro z hz
  exact O9 (s:=s) (by unfold Ck.Ca;exact List.contains_iff_mem.2 hz)
 have a1:(BC s.its).length≤s.its.length:=by
  unfold BC E8
  rw[(List.mergeSort_perm _ _).length_eq,List.length_map]
  exact List.length_filter_le _ _
 obtain ⟨zs,u⟩: ∃zs,BC s.its=zs:=⟨_,rfl⟩
 rw[u] at a6 a9 a1 HR
 have HP:Aside (B8 ps=s.BU∧(∀z∈zs,Bf s.its z=true)∧Bi m s∧m+zs.length*U≤549755813888∧zs.length≤4096):=⟨hp,a9,ok,by have:=Nat.mul_le_mul_right U a1;omega,by have:=ok.Lj.len;omega⟩
 haveI:=W.i
 clear u a9 a1 hs hp ok hm
 go_enter Tryz.func36,Tryz.ntmps36
 go_wp2_with fail
 refine a6.mono ?_
 rintro e w1 ⟨a,n,c,rfl,X⟩
 have hn:n=zs.length:=by have:=X.XB;simpa using this
 subst hn
 obtain ⟨R0,a5⟩: ∃R0,rw 3 1 (.slice a zs.length c) (zs.map (Value.int .i64))=R0:=⟨_,rfl⟩
 have hI: ∀F w,Sat (R0*F) w→Ints w (.slice a zs.length c) zs:=by intro F w h;rw[←a5] at h;exact Ints.Zm h
 have G:Sat (R0*(AD C D s*F)) w1:=by
  rw[a5] at X
  have h3:=Sat.AW (L:=L) (PM:=PM) (ps:=ps) (C:=C) (D:=D) (s:=s) (F:=R0*F) (w:=w1) HP.out.1 (X.eq (by unfold BN;ac_rfl))
  exact h3.eq (by ac_rfl)
 have HI:Aside (∀F w,Sat (R0*F) w→Ints w (.slice a zs.length c) zs):=hI
 have a1:zs.length≤4096:=HP.out.2.2.2.2
 clear a6 W X a5 hI
 go_wp2_with fail
 go_loopg [15] zs.length (fun k ao wr=> ∃(j:Nat)(t:Ck),ao= .int .i64 j∧j≤zs.length∧Aside (k=zs.length-j∧Ck.writes (zs.drop j) t=R∧Bi (m+j*U) t∧(∀z,Bf t.its z=Bf s.its z))∧Sat (R0*(AD C D t*F)) wr)
 case atStart=>exact ⟨0,s,rfl,by omega,⟨rfl,HR.out,by simpa using HP.out.2.2.1,fun _=>rfl⟩,G⟩
 clear G
 obtain ⟨j,t,rfl,hj,A,hs⟩:=hrel
 by_cases T:j<zs.length
 · have ae:(j:Int)<zs.length:=by omega
   obtain ⟨z,hz⟩: ∃z,zs[j]?=some z:=⟨zs[j],by simp[T]⟩
   obtain ⟨hk,r,p,l⟩:=A.out
   have a0:Bf t.its z=true:=by rw[l];exact HP.out.2.1 z (List.mem_of_getElem? hz)
   obtain ⟨b0,_,_,a7,a8⟩:=p.key a0
   have V:m+j*U+U≤549755813888:=by
    have:=HP.out.2.2.2.1
    have h2:(j+1)*U≤zs.length*U:=Nat.mul_le_mul_right U T
    rw[Nat.add_mul] at h2
    omega
   have hw:=TN C D t (m+j*U) z (R0*F) wr (hs.eq (by ac_rfl)) p (by omega) a7 a8
   have K:=Fx p a0
   have Dl:zs.drop j=z::zs.drop (j+1):=by
    rw[List.drop_eq_getElem_cons T]
    congr 1
    rw[List.getElem?_eq_getElem T] at hz;exact Option.some.inj hz
   rw[Dl] at r
   have f:(if (t.write z).1=0 then Ck.writes (zs.drop (j+1)) (t.write z).2 else t.write z)=R:=r
   have g: ∀y,Bf (t.write z).2.its y=Bf s.its y:=by
    intro y;rw[←l y,Jv]
   obtain ⟨⟨O,rs⟩,B⟩: ∃x,t.write z=x:=⟨_,rfl⟩
   rw[B] at hw K f g
   simp only at hw K f g
   obtain ⟨b,o,rfl,hc⟩:=(HI.out _ _ hs).at hz
   have HK:Aside (gk=zs.length-j):=hk
   have HH:Aside (∀y,Bf rs.its y=Bf s.its y):=g
   have HO:Aside (Bi (m+(j+1)*U) rs):=K.more (by rw[Nat.add_mul];omega)
   by_cases u:O=0
   · subst u
     rw[if_pos rfl] at f
     have HW:Aside (Ck.writes (zs.drop (j+1)) rs=R):=f
     clear A hz hk r p l a0 a7 a8 V K Dl f g B
     go_wp2_with fail
     refine hw.mono ?_
     rintro e w3 ⟨rfl,G⟩
     clear hw hs hc
     go_wp2_with fail
     go_roundg (zs.length-(j+1))
     case measure=>have:=HK.out;omega
     case rel=>exact ⟨j+1,rs,by go_num,by omega,⟨rfl,HW.out,HO.out,HH.out⟩,G.eq (by ac_rfl)⟩
   rw[if_neg u] at f
   have b5:(O !=0)=true:=by simpa using u
   have HW:Aside (Z=(O,rs)):=by
    show _=_
    rw[P.out,←f,if_neg u]
   clear A hz hk r p l a0 a7 a8 V K Dl f g B u
   go_wp2_with fail
   refine hw.mono ?_
   rintro e w3 ⟨rfl,G⟩
   clear hw hs hc
   go_wp2
   go_ret
   rw[HW.out]
   exact ⟨rfl,(G.eq (B7 _ _ _)).right⟩
 have ae: ¬(j:Int)<zs.length:=by omega
 obtain ⟨hk,r,p,l⟩:=A.out
 rw[List.drop_of_length_le (by omega)] at r
 have f:(0,t)=R:=r
 have M:Aside (Z=((if (t.d.sync t.nm).1=6 then 0 else (t.d.sync t.nm).1), { t with d:=(t.d.sync t.nm).2 })):=by
  show _=_
  rw[P.out,←f,if_pos rfl]
 have V:m+j*U≤549755813888:=by
  have:=HP.out.2.2.2.1
  have h2:j*U≤zs.length*U:=Nat.mul_le_mul_right U hj
  omega
 have an:t.nm.size≤9223372036854775807:=Hs p.nm
 have Y:=fun F w h=>XI D t.d (m+j*U) t.nm F w h an p.dk (by unfold Iq;omega)
 obtain ⟨⟨O,rd⟩,B⟩: ∃x,t.d.sync t.nm=x:=⟨_,rfl⟩
 rw[B] at Y M
 simp only at Y M
 have a4:Aside (∀(F:Ac)(w:World),Sat (Bh D t.d*F) w→Calls Tryz.prog 102 #[.pointer (some ⟨D,0,none⟩),.string t.nm] w fun e I=>e= .returned (.int .i64 O)∧Sat (Bh D rd*F) I):=Y
 obtain ⟨L5,J,H,af,ag⟩:=Sat.Cv (hs.right)
 unfold BN at ag
 have ai:Aside (B8 H=t.BU):=af
 haveI:=ag.i
 clear A hk r p l f V Y B P af hs
 have v:Aside (∀w,Sat (Bh D rd*(coreC C L5 D J t*(Cf L5 t.cap t.its*(mp AZ J (H.map Jy)*AX H))*F)) w→Sat (AD C D { t with d:=rd } *F) w):=by
  intro w h
  refine Sat.AW (L:=L5) (PM:=J) (ps:=H) ai.out (h.eq ?_)
  show _=coreC C L5 D J t*(Cf L5 t.cap t.its*(Bh D rd*(mp AZ J (H.map Jy)*AX H)))*F
  ac_rfl
 by_cases h6:O=6
 · subst h6
   have Q:Aside (Z=(0, { t with d:=rd })):=by show _=_;rw[M.out,if_pos rfl]
   clear M
   go_upto_region 10 with (fail)
   go_region_held3 (fun I=>I.cell? ⟨C,1,none⟩=some (.pointer (some ⟨D,0,none⟩))∧I.cell? ⟨C,2,none⟩=some (.string t.nm)) (first|exact ⟨Aa _ _ _,Aa _ _ _⟩) (first
    |(go_at_call 102;refine (a4.out _ _ (Ae (Bh D t.d))).mono ?_;rintro e w6 ⟨rfl,q⟩;haveI:=q.i))
   all_goals
    go_wp2
    go_ret
    rw[Q.out]
    exact ⟨rfl,v.out _ (q.eq (by ac_rfl))⟩
 have Q:Aside (Z=(O, { t with d:=rd })):=by show _=_;rw[M.out,if_neg h6]
 clear M
 have am:(O !=6)=true:=by simpa using h6
 by_cases h0:O=0
 · subst h0
   clear h6 am
   go_upto_region 10 with (fail)
   go_region_held3 (fun I=>I.cell? ⟨C,1,none⟩=some (.pointer (some ⟨D,0,none⟩))∧I.cell? ⟨C,2,none⟩=some (.string t.nm)) (first|exact ⟨Aa _ _ _,Aa _ _ _⟩) (first
    |(go_at_call 102;refine (a4.out _ _ (Ae (Bh D t.d))).mono ?_;rintro e w6 ⟨rfl,q⟩;haveI:=q.i))
   all_goals
    go_wp2
    go_ret
    rw[Q.out]
    exact ⟨rfl,v.out _ (q.eq (by ac_rfl))⟩
 have b1:(O !=0)=true:=by simpa using h0
 clear h6 h0
 go_upto_region 10 with (fail)
 go_region_held3 (fun I=>I.cell? ⟨C,1,none⟩=some (.pointer (some ⟨D,0,none⟩))∧I.cell? ⟨C,2,none⟩=some (.string t.nm)) (first|exact ⟨Aa _ _ _,Aa _ _ _⟩) (first
  |(go_at_call 102;refine (a4.out _ _ (Ae (Bh D t.d))).mono ?_;rintro e w6 ⟨rfl,q⟩;haveI:=q.i))
 all_goals
  go_wp2
  go_ret
  rw[Q.out]
  exact ⟨rfl,v.out _ (q.eq (by ac_rfl))⟩
def K8(s:ByteArray):Bool:=decide (1≤s.size)&&decide (s.size≤16)
theorem Nq(s:ByteArray):Dk.named s=(s.data.toList.all Gv&&K8 s):=by
 unfold Dk.named K8 Gv
 rw[Bool.and_comm]
theorem SY(s:ByteArray)(w:World)(hs:s.size≤9223372036854775807):
 Calls Tryz.prog 111 #[.string s] w fun e m=>e= .returned (.bool (Dk.named s))∧w=m:=by
 obtain ⟨r,d⟩: ∃r,Aside (Dk.named s=r):=⟨_,rfl⟩
 rw[d.out]
 go_enter Tryz.func111,Tryz.ntmps111
 go_wp2
 go_loop [6] (fun i=> ∃k:Nat,k≤s.size∧i= .int .i64 k∧Aside ((s.data.toList.take k).all Gv=true)) (fun i=>s.size-(intOf i).toNat)
 case atStart=>exact ⟨0,Nat.zero_le _,rfl,by simp[Aside]⟩
 obtain ⟨k,o,rfl,A⟩:=hrel
 by_cases b:k<s.size
 · have hb:=s[k].toNat_lt
   by_cases n:s[k].toNat<97
   · have a:Aside (r=false):=by
      have:=Jk b (show Gv s[k]=false by unfold Gv;simp;omega)
      show _=_
      rw[←d.out,Nq,this];rfl
     go_wp2
     go_ret
     exact ⟨by rw[a.out];rfl,rfl⟩
   by_cases c2:122<s[k].toNat
   · have a:Aside (r=false):=by
      have:=Jk b (show Gv s[k]=false by unfold Gv;simp;omega)
      show _=_
      rw[←d.out,Nq,this];rfl
     go_wp2
     go_ret
     exact ⟨by rw[a.out];rfl,rfl⟩
   have l:Aside ((s.data.toList.take (k+1)).all Gv=true):=by
    show _=true
    rw[J1 s k b,A.out]
    unfold Gv;simp;omega
   go_wp2
   go_round
   case rel=>exact ⟨k+1,by omega,by go_num,l⟩
   case measure=>simp[intOf];omega
 have a:Aside (r=K8 s):=by
  have:=A.out
  rw[List.take_of_length_le (by simp;omega)] at this
  show _=_
  rw[←d.out,Nq,this];rfl
 clear A
 by_cases g:1≤s.size
 · by_cases j:s.size≤16
   · have c:Aside (K8 s=true):=by show _=_;simp[K8,g,j]
     have f:decide ((s.size:Int)≤16)=true:=by simp;omega
     go_wp2
     go_ret
     exact ⟨by rw[a.out,c.out];rfl,rfl⟩
   have c:Aside (K8 s=false):=by show _=_;simp[K8,j]
   have f:decide ((s.size:Int)≤16)=false:=by simp;omega
   go_wp2
   go_ret
   exact ⟨by rw[a.out,c.out];rfl,rfl⟩
 have c:Aside (K8 s=false):=by show _=_;simp[K8,g]
 go_wp2
 go_ret
 exact ⟨by rw[a.out,c.out];rfl,rfl⟩
theorem Rn(D:Nat)(d:Dk)(nm:ByteArray)(cap:Int)(F:Ac)(w:World)(hs:Sat (Bh D d*F) w)(l:Dk.named nm=true)(p:1≤cap)(q:cap≤4096):
 Calls Tryz.prog 46 #[.pointer (some ⟨D,0,none⟩),.string nm,.int .i64 cap] w fun e m=> ∃C,e= .returned (.tuple #[.pointer (some ⟨C,0,none⟩),.int .i64 0])∧Sat (AD C D ⟨nm,cap,0,d,[],[]⟩*F) m:=by
 have c:=SY nm w (Hs l)
 rw[l] at c
 have a:=YD cap _ w hs p q
 have r:= @run_makeMap Tryz.prog
 go_enter Tryz.func46,Tryz.ntmps46
 go_wp2_with fail
 refine c.mono ?_
 rintro e m ⟨rfl,rfl⟩
 go_wp2_with fail
 refine a.mono ?_
 rintro e f ⟨L,M,rfl,g⟩
 have j:=Sat.GI (its:= []) rfl g
 have k:=j.CH (.map #[] 0)
 have i:=k.alloc #[.pointer (some ⟨L,0,none⟩),.pointer (some ⟨D,0,none⟩),.string nm,.int .i64 cap,.map (some f.heap.size),.int .i64 0] TC
 have e:(f.alloc (.map #[] 0)).heap.size=f.heap.size+1:=by simp
 rw[e] at i
 have n:=Sat.Dn (kf:=AZ) (ms:= []) (b:=f.heap.size) (o:= .map #[] 0) ⟨#[],0,rfl,rfl,by simp,by simp⟩ (i.take (raw f.heap.size _))
 clear j k i e hs g c a
 go_wp2
 go_ret2
 refine ⟨f.heap.size+1,rfl,?_⟩
 refine Sat.AW (L:=L) (PM:=f.heap.size) (ps:= []) rfl (n.eq ?_)
 unfold BN coreC
 simp only[block,Sl.cells,AX,List.map_nil,Am,Bd,List.length_cons,List.length_nil,Nat.zero_add,Nat.reduceAdd]
 ac_rfl
theorem Wl{m:Nat}{s:Ck}(ok:Bi m s)(k:Int):Bi m { s with its:=EC s.its k } :=
 ⟨Xj ok.Lj k,ok.nd,fun j=>by show Bf (EC s.its k) j=_;rw[OM (fun _=>U9)];exact ok.same j,by show _=(EC s.its k).length;rw[(Bs s.its k).length_eq];exact ok.len,ok.Ay,ok.cap,by show ((EC s.its k).length:Int)≤_;rw[(Bs s.its k).length_eq];exact ok.most,ok.dk,ok.nm,ok.reads⟩
theorem Z5{m:Nat}{s:Ck}(ok:Bi m s)(no:Int):Bi (m+U) (s.get no).2.2:=by
 unfold Ck.get
 split
 ·exact ok.more (by omega)
 split
 ·exact (Wl ok no).more (by omega)
 rename_i hr e
 have b:Bf s.its no=false:=by simpa using e
 simp only
 split
 ·rename_i f
  have hl:(s.d.read s.nm (no*256) 256).2.length=256:=NG (n:=256) f
  have a:=M4 ok b (by omega) (by omega) hl
  split
  ·exact ⟨a.Lj,a.nd,a.same,a.len,a.Ay,a.cap,a.most,a.dk,a.nm,by
    have c:(s.take no (s.d.read s.nm (no*256) 256).2).2.reads=s.reads:=Kh s no _
    have:=ok.reads
    show 0≤(s.take no (s.d.read s.nm (no*256) 256).2).2.reads+1∧(s.take no (s.d.read s.nm (no*256) 256).2).2.reads+1≤((m+U:Nat):Int)
    rw[c];unfold U;omega⟩
  exact a
 exact ok.more (by omega)
theorem LC{m:Nat}{s:Ck}(ok:Bi m s)(no:Int)(b:List UInt8):Bi (m+U) (s.put no b).2:=by
 unfold Ck.put
 split
 ·exact ok.more (by omega)
 split
 ·rename_i hr c
  have a:=(Wl ok no).mark no true
  have hp:(AP no s.BU).isSome=true:=by rw[←ok.same];exact c
  refine Bi.more (m:=m) ⟨a.Lj,?_,?_,?_,?_,a.cap,a.most,a.dk,a.nm,a.reads⟩ (by omega)
  ·show ((Cg no b s.BU).map (·.1)).Nodup
   rw[LB,hp];exact ok.nd
  ·intro k
   show Bf (AU (EC s.its no) no true) k=(AP k (Cg no b s.BU)).isSome
   rw[a.same k,BQ]
   show (AP k s.BU).isSome=_
   split
   ·rename_i e;subst e;rw[hp];rfl
   rfl
  ·show (Cg no b s.BU).length=(AU (EC s.its no) no true).length
   rw[R8,hp]
   exact a.len
  intro p f
  exact Pr (by omega) (by omega) (by omega) ok.Ay p f
 rename_i hr c
 have d:Bf s.its no=false:=by simpa using c
 have g:=M4 (b:=b) ok d (by omega) (by omega) (by omega)
 split
 ·exact g.mark no true
 exact g
theorem Hd: ∀(l:List Int){m:Nat}{s:Ck},Bi m s→(∀k∈l,Bf s.its k=true)→Bi (m+l.length*U) (Ck.writes l s).2∧(Ck.writes l s).2.nm=s.nm
 | [],m,s,ok,_=>⟨ok.more (by omega),rfl⟩
 | k :: l, m, s, ok, h => by
  have a:=Fx ok (h k (by simp))
  have e:(k::l).length*U=l.length*U+U:=by rw[List.length_cons,Nat.add_mul];omega
  unfold Ck.writes
  split
  ·obtain ⟨b,c⟩:=Hd l a fun j d=>by rw[Jv];exact h j (by simp[d])
   exact ⟨b.more (by rw[e];omega),by rw[c];exact (BT s k).1⟩
  exact ⟨a.more (by rw[e];omega),(BT s k).1⟩
theorem Ng(its:List It):(BC its).length≤its.length:=by
 unfold BC E8
 rw[(List.mergeSort_perm _ _).length_eq,List.length_map]
 exact List.length_filter_le _ _
theorem JS{its:List It}{z:Int} :z∈BC its↔ ∃n∈its,n.Hr=true∧n.key=z:=by
 unfold BC
 rw[P1,List.mem_map]
 constructor
 ·rintro ⟨n,a,b⟩;exact ⟨n,(List.mem_filter.1 a).1,(List.mem_filter.1 a).2,b⟩
 rintro ⟨n,a,b,c⟩;exact ⟨n,List.mem_filter.2 ⟨a,b⟩,c⟩
theorem ES{its:List It}{z:Int}(h:z∈BC its):Bf its z=true:=by
 obtain ⟨n,a,_,b⟩:=JS.1 h
 exact Bb.2 (List.mem_map.2 ⟨n,a,b⟩)
theorem QD{m:Nat}{s:Ck}(ok:Bi m s):Bi (m+s.its.length*U+1) s.flush.2:=by
 obtain ⟨h,c⟩:=Hd (BC s.its) ok fun k b=>ES b
 have hl:=Nat.mul_le_mul_right U (Ng s.its)
 unfold Ck.flush
 simp only
 split
 ·have a:=YH h.dk (Ck.writes (BC s.its) s).2.nm
  exact h.D9 (by omega) (Ed a (by omega))
 exact h.more (by omega)
end Go.Proofs.YtfhbmblbidcmmaaGreat
namespace Go.Proofs.YtfhbmblbidcmmaaGreat
open Go.Dk
def Au(d:Dk)(nm:ByteArray):List UInt8:=((d.get nm).getD Dk.Io).now
def DX(d:Dk)(nm:ByteArray):Bool:=((d.get nm).getD Dk.Io).sure
def CD(d:Dk)(nm:ByteArray):List UInt8:=((d.get nm).getD Dk.Io).safe
theorem OQ{l b:List UInt8}{k p q:Nat}(hp:p+q≤l.length)(h:k+b.length≤p∨p+q≤k):((laid l k b).drop p).take q=(l.drop p).take q:=by
 apply List.ext_getElem?
 intro i
 by_cases hi:i<q
 ·rw[List.getElem?_take_of_lt hi,List.getElem?_take_of_lt hi,List.getElem?_drop,List.getElem?_drop]
  unfold laid
  rcases h with h|h
  ·have a:((l++List.replicate (k+b.length-l.length) 0).take k).length=k:=by simp;omega
   rw[List.getElem?_append_right (by rw[List.length_append,a];omega),List.length_append,a,List.getElem?_drop]
   congr 1;omega
  have a:((l++List.replicate (k+b.length-l.length) 0).take k).length=k:=by simp;omega
  rw[List.append_assoc,List.getElem?_append_left (by rw[a];omega),List.getElem?_take_of_lt (by omega),List.getElem?_append_left (by omega)]
 rw[List.getElem?_eq_none (by simp;omega),List.getElem?_eq_none (by simp;omega)]
theorem Ui{l b:List UInt8}{k:Nat} :((laid l k b).drop k).take b.length=b:=by
 unfold laid
 have a:((l++List.replicate (k+b.length-l.length) 0).take k).length=k:=by simp;omega
 rw[List.append_assoc,List.drop_append_of_le_length (by rw[a];omega),List.drop_of_length_le (by rw[a];omega),List.nil_append,List.take_left']
 rfl
def Im(d:Dk)(nm:ByteArray):Int:=(sum d.files:Int)-EN (d.get nm)
theorem Sb(nm:ByteArray)(f:Fl): ∀l:List (ByteArray×Fl),(sum (Dj nm f l):Int)=sum l-EN (Cb nm l)+f.now.length
 | []=>by simp[sum,Dj,Cb,EN]
 | p :: l => by
  have g:=Sb nm f l
  have b:Dj nm f (p::l)=if nm=p.1 then (nm,f)::l else p::Dj nm f l:=rfl
  have c:Cb nm (p::l)=if nm=p.1 then some p.2 else Cb nm l:=rfl
  have a: ∀(q:ByteArray×Fl)(m:List (ByteArray×Fl)),sum (q::m)=q.2.now.length+sum m:=fun q m=>by simp[sum]
  rw[b,c]
  by_cases h:nm=p.1
  ·rw[if_pos h,if_pos h,a,a]
   have d:EN (some p.2)=p.2.now.length:=rfl
   have e:((nm,f):ByteArray×Fl).2.now.length=f.now.length:=rfl
   rw[d,e]
   omega
  rw[if_neg h,if_neg h,a,a]
  omega
theorem Qa{d d':Dk}{nm:ByteArray}{f:Fl}(h:d'.files=Dj nm f d.files):Im d' nm=Im d nm:=by
 have a:=Sb nm f d.files
 have b:EN (d'.get nm)=f.now.length:=by
  unfold Dk.get
  rw[h,Cs,if_pos rfl]
  rfl
 unfold Im
 rw[b,h,a]
 unfold Dk.get
 omega
theorem Uu{d:Dk}{nm:ByteArray}(h:d.files= []):Im d nm=0:=by
 unfold Im Dk.get
 rw[h]
 rfl
structure EK (d:Dk) (nm:ByteArray):Prop where
 down:d.down=false
 D5:d.D5=false
 Mp:Dk.named nm=true
 nf:d.files.length+(if (d.get nm).isSome then 0 else 1)≤8
structure Wr (d:Dk) (nm:ByteArray) (k:Nat) (b:List UInt8) (d':Dk):Prop where
 le:k≤(Au d nm).length
 ne:b.length≠0
 BK:EK d' nm
 now:Au d' nm=laid (Au d nm) k b
 safe:CD d' nm=CD d nm
 sure:DX d' nm=DX d nm
 AO:d'.AO=d.AO++Fz nm k b
 room:d'.room=d.room
 other: ∀n,n≠nm→d'.get n=d.get n
 only:Im d' nm=Im d nm
 x9:(d'.get nm).isSome=true
theorem QH(d:Dk)(nm:ByteArray):EN (d.get nm)=(Au d nm).length:=by
 unfold EN Au
 cases d.get nm<;>simp[Dk.Io]
theorem Q6{d:Dk}{nm:ByteArray}(g:EK d nm){k:Nat}{b:List UInt8}(m:k≤(Au d nm).length)(hb:b.length≠0):
 (d.write nm k b=(7,d)∨((d.write nm k b).1=0∧Wr d nm k b (d.write nm k b).2))∧
 (Im d nm+((max (Au d nm).length (k+b.length):Nat):Int)≤d.room→(d.write nm k b).1=0):=by
 have hm:d.may nm false=0:=PV g.Mp g.down
 have i:=QH d nm
 have f:d.stop=false:=by unfold Dk.stop;simp[g.D5]
 have c: ¬(((d.get nm).isNone&&decide (16≤d.files.length))=true):=by
  have:=g.nf
  simp
  intro _
  omega
 have e:d.write nm k b=if d.fits (d.get nm) (max (EN (d.get nm)) (k+b.length))≠0 then (d.fits (d.get nm) (max (EN (d.get nm)) (k+b.length)),d) else (0,d.written nm k b):=by
  unfold Dk.write
  rw[if_neg (by simp[hm]),if_neg (by rw[i];omega),if_neg hb]
  split
  · rfl
  rw[if_neg (by simp[f])];rfl
 have l:d.fits (d.get nm) (max (EN (d.get nm)) (k+b.length))=0∨d.fits (d.get nm) (max (EN (d.get nm)) (k+b.length))=7:=by
  unfold Dk.fits
  rw[if_neg c]
  split
  · exact .inr rfl
  exact .inl rfl
 have j:Wr d nm k b (d.written nm k b):=by
  have a:(d.written nm k b).get nm=some { (d.get nm).getD Dk.Io with now:=laid ((d.get nm).getD Dk.Io).now k b } :=by
   unfold Dk.get Dk.written Dk.put
   simp only
   rw[Cs,if_pos rfl]
   rfl
  refine ⟨m,hb,⟨g.down,g.D5,g.Mp,?_⟩,?_,?_,by (unfold DX;rw[a];rfl),rfl,rfl,?_,?_,by rw[a];rfl⟩
  · rw[a]
    show (Dj nm _ d.files).length+_≤8
    rw[FP]
    have:=g.nf
    unfold Dk.get at this
    simp only[Option.isSome_some,if_true]
    split
    · rename_i h;rw[if_pos h] at this;omega
    rename_i h;rw[if_neg h] at this;omega
  · unfold Au;rw[a];rfl
  · unfold CD;rw[a];rfl
  · intro n o
    unfold Dk.get Dk.written Dk.put
    simp only
    rw[Cs,if_neg o]
    rfl
  exact Qa rfl
 constructor
 · rcases l with h|h
   · right
     rw[e,if_neg (by simp[h])]
     exact ⟨rfl,j⟩
   left
   rw[e,if_pos (by rw[h];decide),h]
 intro hr
 have h:d.fits (d.get nm) (max (EN (d.get nm)) (k+b.length))=0:=by
  unfold Dk.fits
  rw[if_neg c,if_neg]
  unfold Im at hr
  simp
  intro _
  rw[i] at*
  omega
 rw[e,if_neg (by simp[h])]
def Bg(l:List UInt8)(k:Int)(b:List UInt8):Prop:=0≤k∧256*k.toNat+256≤l.length∧(l.drop (256*k.toNat)).take 256=b
theorem Wr.DW{d d':Dk}{nm:ByteArray}{k:Nat}{b:List UInt8}(h:Wr d nm k b d'){j:Int}{c:List UInt8}(i:Bg (Au d nm) j c)(g:k+b.length≤256*j.toNat∨256*j.toNat+256≤k):Bg (Au d' nm) j c:=by
 obtain ⟨a,e,f⟩:=i
 refine ⟨a,?_,?_⟩
 ·rw[h.now,C8];omega
 rw[h.now,OQ e g];exact f
theorem Wr.Ay{d d':Dk}{nm:ByteArray}{j:Int}{b:List UInt8}(h:Wr d nm (256*j.toNat) b d')(hb:b.length=256)(a:0≤j):Bg (Au d' nm) j b:=by
 refine ⟨a,?_,?_⟩
 ·rw[h.now,C8,hb];omega
 rw[h.now]
 have:=Ui (l:=Au d nm) (b:=b) (k:=256*j.toNat)
 rw[hb] at this
 exact this
theorem VA{d:Dk}{nm:ByteArray}(g:EK d nm):max 0 (d.size nm)=((Au d nm).length:Int):=by
 unfold Dk.size Au
 by_cases h:(d.get nm).isSome=true
 ·obtain ⟨f,b⟩:=Option.isSome_iff_exists.1 h
  rw[if_neg (by rw[FC g.Mp g.down b];simp)]
  omega
 have a:d.get nm=none:=by simpa using h
 rw[if_pos (by rw[Hq g.Mp g.down a];decide),a]
 simp[Dk.Io]
 rfl
theorem Jb{m:Nat}{s:Ck}(ok:Bi m s)(g:EK s.d s.nm){no:Int}{b:List UInt8}(B:s.Ca no=true)(hb:AP no s.BU=some b):
 (∃a,(a=s.d∨ ∃n,Wr s.d s.nm (Au s.d s.nm).length (List.replicate n 0) a∧(Au s.d s.nm).length+n=256*no.toNat)∧EK a s.nm∧
   (s.write no=(7, { s with d:=a })∨ ∃o,Wr a s.nm (256*no.toNat) b o∧s.write no=(0, { s with d:=o,its:=AU s.its no false })))∧
 (Im s.d s.nm+((max (Au s.d s.nm).length (256*no.toNat+256):Nat):Int)≤s.d.room→(s.write no).1=0):=by
 obtain ⟨hl,y,z⟩:=ok.Ay _ (IC hb)
 simp only at hl y z
 have hp: ∀d,Ck.Ay { s with d:=d } no=b:=by intro d;unfold Ck.Ay;rw[hb];rfl
 have u:no*256=((256*no.toNat:Nat):Int):=by omega
 have i : ∀ a, EK a s.nm → 256 * no.toNat ≤ (Au a s.nm).length →
  ((Ck.Bn { s with d := a } no = (7, { s with d := a }) ∨ ∃ o, Wr a s.nm (256 * no.toNat) b o ∧ Ck.Bn { s with d := a } no = (0, { s with d := o, its := AU s.its no false })) ∧
   (Im a s.nm+((max (Au a s.nm).length (256*no.toNat+256):Nat):Int)≤a.room→(Ck.Bn { s with d:=a } no).1=0)):=by
  intro a x t
  obtain ⟨hw,hr⟩:=Q6 x (k:=256*no.toNat) (b:=b) t (by omega)
  have e:Ck.Bn { s with d:=a } no=if (a.write s.nm ((256*no.toNat:Nat):Int) b).1=0 then (0, { s with d:=(a.write s.nm ((256*no.toNat:Nat):Int) b).2,its:=AU s.its no false }) else ((a.write s.nm ((256*no.toNat:Nat):Int) b).1, { s with d:=(a.write s.nm ((256*no.toNat:Nat):Int) b).2 }):=by
   unfold Ck.Bn
   rw[hp a,←u]
  constructor
  · rcases hw with hw|⟨l,c⟩
    · left
      rw[e,hw,if_neg (by simp)]
    right
    exact ⟨_,c,by rw[e,if_pos l]⟩
  intro f
  have:=hr (by rw[hl];exact f)
  rw[e,if_pos this]
 have v:=VA g
 have j:s.write no=if max 0 (s.d.size s.nm)<no*256 then (if (s.pad no).1=0 then Ck.Bn { s with d:=(s.pad no).2 } no else ((s.pad no).1, { s with d:=(s.pad no).2 })) else s.Bn no:=by
  unfold Ck.write
  rw[if_neg (by simp[B])]
 by_cases q:max 0 (s.d.size s.nm)<no*256
 · rw[if_pos q] at j
   have w:(Au s.d s.nm).length<256*no.toNat:=by omega
   have p:s.pad no=s.d.write s.nm ((Au s.d s.nm).length:Int) (List.replicate (256*no.toNat-(Au s.d s.nm).length) 0):=by
    unfold Ck.pad
    rw[v]
    congr 2
    omega
   obtain ⟨hw,hr⟩:=Q6 g (k:=(Au s.d s.nm).length) (b:=List.replicate (256*no.toNat-(Au s.d s.nm).length) 0) (Nat.le_refl _) (by rw[List.length_replicate];omega)
   rw[←p] at hw hr
   rcases hw with hw|⟨l,c⟩
   · refine ⟨⟨s.d,.inl rfl,g,.inl ?_⟩,fun f=>?_⟩
     · rw[j,hw,if_neg (by simp)]
     exfalso
     have:=hr (by rw[List.length_replicate];omega)
     rw[hw] at this;cases this
   rw[if_pos l] at j
   have r:(Au (s.pad no).2 s.nm).length=256*no.toNat:=by rw[c.now,C8,List.length_replicate];omega
   obtain ⟨s1,s2⟩:=i (s.pad no).2 c.BK (by omega)
   refine ⟨⟨(s.pad no).2,.inr ⟨_,c,by omega⟩,c.BK,?_⟩,fun f=>?_⟩
   · rw[j];exact s1
   rw[j];exact s2 (by rw[r,c.room,c.only];omega)
 rw[if_neg q] at j
 obtain ⟨s1,s2⟩:=i s.d g (by omega)
 refine ⟨⟨s.d,.inl rfl,g,?_⟩,fun f=>?_⟩
 · rw[j];exact s1
 rw[j];exact s2 f
def Has(s:Ck)(k:Int)(b:List UInt8):Prop:=AP k s.BU=some b∨(AP k s.BU=none∧Bg (Au s.d s.nm) k b)
structure Good (T:Nat) (s:Ck):Prop where
 BK:EK s.d s.nm
 pins: ∀n∈s.its,n.pins=0
 clean: ∀n∈s.its,n.Hr=false→ ∀b,AP n.key s.BU=some b→Bg (Au s.d s.nm) n.key b
 top:(Au s.d s.nm).length≤256*T∧ ∀n∈s.its,n.key.toNat<T
def Roomy(T:Nat)(s:Ck):Prop:=Im s.d s.nm+((256*T:Nat):Int)≤s.d.room
structure Kept (P:Int→List UInt8→Prop) (s:Ck):Prop where
 le:(CD s.d s.nm).length≤(Au s.d s.nm).length
 safe: ∀k b,P k b→Bg (CD s.d s.nm) k b
 AO: ∀p∈s.d.AO,p.nm=s.nm→ ∃x,p.b=some x∧ ∀k b,P k b→p.pos+x.length≤256*k.toNat∨256*k.toNat+256≤p.pos
 Ca: ∀n∈s.its,n.Hr=true→ ∀b,¬P n.key b
theorem GA{s:Ck}{no:Int} :s.Ca no=true↔ ∃n∈s.its,n.Hr=true∧n.key=no:=by
 unfold Ck.Ca
 rw[List.contains_iff_mem]
 exact JS
theorem PL: ∀{its:List It},(Da its).Nodup→ ∀{a b:It},a∈its→b∈its→a.key=b.key→a=b
 | [],_,a,b,ha,_,_=>by simp at ha
 | x :: l, f, a, b, ha, hb, e => by
  unfold Da at f
  rw[List.map_cons,List.nodup_cons] at f
  rcases List.mem_cons.1 ha with i|d
  ·rcases List.mem_cons.1 hb with g|c
   ·rw[i,g]
   exact absurd (show x.key∈l.map (·.key) from List.mem_map.2 ⟨b,c,by rw[←e,i]⟩) f.1
  rcases List.mem_cons.1 hb with g|c
  ·exact absurd (show x.key∈l.map (·.key) from List.mem_map.2 ⟨a,d,by rw[e,g]⟩) f.1
  exact PL f.2 d c e
theorem Kept.wr{P:Int→List UInt8→Prop}{s:Ck}(h:Kept P s){e f:Dk}{k:Nat}{b:List UInt8}(i:Kept P { s with d:=e })(hw:Wr e s.nm k b f)(g: ∀j c,P j c→k+b.length≤256*j.toNat∨256*j.toNat+256≤k):Kept P { s with d:=f } :=by
 refine ⟨?_,?_,?_,h.Ca⟩
 ·show (CD f s.nm).length≤(Au f s.nm).length
  rw[hw.safe,hw.now,C8]
  have:=i.le
  have o:(CD e s.nm).length≤(Au e s.nm).length:=this
  omega
 ·intro j c m
  show Bg (CD f s.nm) j c
  rw[hw.safe]
  exact i.safe j c m
 intro p hp r
 have a:p∈e.AO++Fz s.nm k b:=by rw[←hw.AO];exact hp
 rcases List.mem_append.1 a with a|a
 ·exact i.AO p a r
 obtain ⟨_,l,n,o,t⟩:=IQ s.nm b.length k b (Nat.le_refl _) p a
 refine ⟨l,n,fun j c m=>?_⟩
 rcases g j c m with q|q
 ·left;omega
 right;omega
theorem Kept.marks{P:Int→List UInt8→Prop}{s:Ck}(h:Kept P s)(k:Int):Kept P { s with its:=AU s.its k false } :=by
 refine ⟨h.le,h.safe,h.AO,?_⟩
 intro n c hm
 have a:n∈AU s.its k false:=c
 unfold AU PH at a
 obtain ⟨x,hx,rfl⟩:=List.mem_map.1 a
 by_cases b:x.key=k
 ·rw[if_pos b] at hm;cases hm
 rw[if_neg b] at hm⊢
 exact h.Ca x hx hm
structure FH (T:Nat) (s:Ck) (no:Int) (e:Int) (s':Ck):Prop where
 code:e=0∨e=7
 AG:Good T s'
 DW: ∀k b,k≠no→Bg (Au s.d s.nm) k b→Bg (Au s'.d s.nm) k b
 Ay:e=0→ ∀b,AP no s.BU=some b→Bg (Au s'.d s.nm) no b
 roomy:Roomy T s→e=0∧Roomy T s'
 kept: ∀P,Kept P s→Kept P s'
 inv: ∀Q:Dk→Prop,(∀d k b d',Q d→Wr d s.nm k b d'→Q d')→Q s.d→Q s'.d
 done:e=0→ ∀n∈s'.its,n.key=no→n.Hr=false
theorem Ih{m T:Nat}{s:Ck}{no:Int}(ok:Bi m s)(g:Good T s)(hh:Bf s.its no=true):FH T s no (s.write no).1 (s.write no).2:=by
 obtain ⟨b,hb,u,h0,h1⟩:=ok.key hh
 cases O:s.Ca no with
 | false =>
  have e:s.write no=(0,s):=by unfold Ck.write;rw[if_pos O]
  rw[e]
  have M: ∀n∈s.its,n.key=no→n.Hr=false:=by
   intro n f l
   cases hm:n.Hr with
   |false=>rfl
   |true=>rw[GA.2 ⟨n,f,hm,l⟩] at O;cases O
  refine ⟨.inl rfl,g,fun k b _ h=>h,fun _ b hb=>?_,fun h=>⟨rfl,h⟩,fun P h=>h,fun Q _ h=>h,fun _=>M⟩
  obtain ⟨n,f,l⟩:=List.mem_map.1 (Bb.1 hh)
  have:=g.clean n f (M n f l)
  rw[l] at this
  exact this b hb
 | true =>
  obtain ⟨⟨K,q,Y,B⟩,J⟩:=Jb ok g.BK O hb
  obtain ⟨nd,I,Z,G⟩:=GA.1 O
  have a2:no.toNat<T:=by have:=g.top.2 nd I;rw[G] at this;exact this
  have p: ∀k c,Bg (Au s.d s.nm) k c→Bg (Au K s.nm) k c:=by
   intro k c h
   rcases q with rfl|⟨n,hw,_⟩
   · exact h
   exact hw.DW h (.inr h.2.1)
  have H:(Au K s.nm).length≤256*T:=by
   rcases q with rfl|⟨n,hw,f⟩
   · exact g.top.1
   rw[hw.now,C8,List.length_replicate];omega
  have y:Im K s.nm=Im s.d s.nm∧K.room=s.d.room:=by
   rcases q with rfl|⟨n,hw,f⟩
   · exact ⟨rfl,rfl⟩
   exact ⟨hw.only,hw.room⟩
  have w: ∀P,Kept P s→Kept P { s with d:=K } :=by
   intro P h
   rcases q with rfl|⟨n,hw,f⟩
   · exact h
   refine Kept.wr h h hw fun j c X=> .inr ?_
   have:=(h.safe j c X).2.1
   have:=h.le
   omega
  have v: ∀Q:Dk→Prop,(∀d k b d',Q d→Wr d s.nm k b d'→Q d')→Q s.d→Q K:=by
   intro Q W h
   rcases q with rfl|⟨n,hw,f⟩
   · exact h
   exact W _ _ _ _ h hw
  have a6: ∀n∈s.its,n.key=no→n=nd:=fun n f l=>PL ok.Lj.nd f I (l.trans G.symm)
  have U:Roomy T s→(s.write no).1=0:=by
   intro r2
   unfold Roomy at r2
   refine J ?_
   have:=g.top.1
   omega
  rcases B with t|⟨L,i,t⟩
  · rw[t] at U⊢
    have V: ¬Roomy T s:=fun h=>by have:=U h;cases this
    refine ⟨.inr rfl,⟨Y,g.pins,?_,⟨H,g.top.2⟩⟩,fun k c _ h=>p k c h,(fun h=>by cases h),fun h=>absurd h V,w,v,(fun h=>by cases h)⟩
    intro n f hm c t
    exact p _ _ (g.clean n f hm c t)
  rw[t]
  have r: ∀k c,k≠no→Bg (Au s.d s.nm) k c→Bg (Au L s.nm) k c:=by
   intro k c l h
   have h3:=p k c h
   refine i.DW h3 ?_
   rw[u]
   have:=h.1
   rcases Int.lt_trichotomy k no with z|z|z
   · right;omega
   · exact absurd z l
   left;omega
  have R:Bg (Au L s.nm) no b:=i.Ay u h0
  refine ⟨.inl rfl,⟨i.BK,?_,?_,?_,?_⟩,r,fun _ c t=>?_,fun h=>⟨rfl,?_⟩,?_,fun Q W h=>W _ _ _ _ (v Q W h) i,?_⟩
  · intro n f
    have a:n∈AU s.its no false:=f
    unfold AU PH at a
    obtain ⟨x,hx,rfl⟩:=List.mem_map.1 a
    have:=g.pins x hx
    split<;>exact this
  · intro n f hm c t
    have a:n∈AU s.its no false:=f
    unfold AU PH at a
    obtain ⟨x,hx,rfl⟩:=List.mem_map.1 a
    have o:AP (if x.key=no then { x with Hr:=false } else x).key s.BU=some c:=t
    by_cases l:x.key=no
    · rw[if_pos l] at o⊢
      simp only at o⊢
      rw[l] at o⊢
      rw[hb] at o
      cases o
      exact R
    rw[if_neg l] at o hm⊢
    exact r _ _ l (g.clean x hx hm c o)
  · show (Au L s.nm).length≤256*T
    rw[i.now,C8,u];omega
  · intro n f
    have a:n∈AU s.its no false:=f
    unfold AU PH at a
    obtain ⟨x,hx,rfl⟩:=List.mem_map.1 a
    have:=g.top.2 x hx
    split<;>exact this
  · rw[hb] at t;cases t;exact R
  · show Im L s.nm+_≤L.room
    rw[i.room,y.2,i.only,y.1];exact h
  · intro P h
    have h2:=Kept.wr h (w P h) i (by
     intro j c X
     rw[u]
     have a0:j≠no:=fun e=>by
      have:=h.Ca nd I Z c
      rw[G,←e] at this
      exact this X
     have:=(h.safe j c X).1
     rcases Int.lt_trichotomy j no with z|z|z
     · right;omega
     · exact absurd z a0
     left;omega)
    exact Kept.marks h2 no
  intro _ n f l
  have a:n∈AU s.its no false:=f
  unfold AU PH at a
  obtain ⟨x,hx,rfl⟩:=List.mem_map.1 a
  by_cases D:x.key=no
  · rw[if_pos D]
  rw[if_neg D] at l;exact absurd l D
structure Out (T:Nat) (s:Ck) (e:Int) (s':Ck):Prop where
 inv: ∀Q:Dk→Prop,(∀d k b d',Q d→Wr d s.nm k b d'→Q d')→Q s.d→Q s'.d
 code:e=0∨e=7
 AG:Good T s'
 has: ∀k b,Has s k b→Has s' k b
 DW: ∀k b,Bf s.its k=false→Bg (Au s.d s.nm) k b→Bg (Au s'.d s.nm) k b
 roomy:Roomy T s→e=0∧Roomy T s'
 kept: ∀P,Kept P s→Kept P s'
 nm:s'.nm=s.nm
theorem FH.out{m T:Nat}{s:Ck}{no:Int}(ok:Bi m s)(c:Bf s.its no=true)(h:FH T s no (s.write no).1 (s.write no).2):Out T s (s.write no).1 (s.write no).2:=by
 obtain ⟨e,g,i,f,j⟩:=BT s no
 refine ⟨h.inv,h.code,h.AG,?_,?_,h.roomy,h.kept,e⟩
 ·intro k b a
  unfold Has at a⊢
  rw[f,e]
  rcases a with a|⟨a,d⟩
  ·exact .inl a
  refine .inr ⟨a,h.DW k b ?_ d⟩
  rintro rfl
  rw[ok.same,a] at c;cases c
 intro k b a d
 refine h.DW k b ?_ d
 rintro rfl
 rw[a] at c;cases c
theorem H0{m T:Nat}{s:Ck}{no:Int}(ok:Bi m s)(g:Good T s)(t:Df s.its no=true):Out T s (s.release no).1 (s.release no).2:=by
 have r:=DV t
 have hw:=Ih ok g r
 have a:=hw.out ok r
 have p:=Fx ok r
 obtain ⟨y,H,I,J,D⟩:=BT s no
 have u:Df (s.write no).2.its no=true:=by
  rcases D with e|e
  · rw[e];exact t
  rw[e,Hi];exact t
 unfold Ck.release
 by_cases x:(s.write no).1=0
 · rw [if_pos x]
   simp only[u,if_true]
   obtain ⟨G,j,_⟩:=ok.key r
   refine ⟨a.inv,.inl rfl,⟨a.AG.BK,?_,?_,a.AG.top.1,?_⟩,?_,a.DW,?_,?_,y⟩
   · intro n f;exact a.AG.pins n (List.mem_filter.1 f).1
   · intro n f hm c B
     have w:n.key≠no:=by have:=(List.mem_filter.1 f).2;simpa using this
     have l:AP n.key (EV no (s.write no).2.BU)=some c:=B
     rw[FE p.nd,if_neg w] at l
     exact a.AG.clean n (List.mem_filter.1 f).1 hm c l
   · intro n f;exact a.AG.top.2 n (List.mem_filter.1 f).1
   · intro k b i
     have v:=a.has k b i
     unfold Has
     show AP k (EV no (s.write no).2.BU)=some b∨AP k (EV no (s.write no).2.BU)=none∧Bg (Au (s.write no).2.d (s.write no).2.nm) k b
     rw[FE p.nd]
     by_cases o:k=no
     ·subst o
      rw[if_pos rfl]
      refine .inr ⟨rfl,?_⟩
      rw[y]
      rcases i with i|⟨i,_⟩
      ·exact hw.Ay x b i
      rw[i] at j;cases j
     rw[if_neg o];exact v
   · intro hr;exact ⟨rfl,(a.roomy hr).2⟩
   intro P z
   have q:=a.kept P z
   exact ⟨q.le,q.safe,q.AO,fun n f hm=>q.Ca n (List.mem_filter.1 f).1 hm⟩
 rw[if_neg x]
 exact a
theorem Out.refl{T:Nat}{s:Ck}(g:Good T s):Out T s 0 s:=⟨fun Q _ h=>h,.inl rfl,g,fun k b h=>h,fun k b _ h=>h,fun h=>⟨rfl,h⟩,fun P h=>h,rfl⟩
theorem GW{m T:Nat}{s:Ck}(ok:Bi m s)(g:Good T s):Out T s s.room.1 s.room.2:=by
 unfold Ck.room
 by_cases c:(s.BU.length:Int)<s.cap
 ·rw[if_pos c];exact Out.refl g
 rw[if_neg c]
 cases b:L8 s.its with
 | none =>
  exfalso
  have e:=ok.cap
  have f:=ok.len
  have d:0<s.its.length:=by omega
  obtain ⟨n,a⟩:=List.exists_mem_of_length_pos d
  have:=List.find?_eq_none.1 b n a
  simp[g.pins n a] at this
 |some n=>exact H0 ok g (KN b)
theorem Gk{its:List It}{no:Int}{n:It}(h:n∈AU its no true): ∃x∈its,n.key=x.key∧n.pins=x.pins∧(x.key=no→n.Hr=true)∧(x.key≠no→n.Hr=x.Hr):=by
 unfold AU PH at h
 obtain ⟨x,hx,rfl⟩:=List.mem_map.1 h
 by_cases a:x.key=no
 ·rw[if_pos a];exact ⟨x,hx,rfl,rfl,fun _=>rfl,fun h=>absurd a h⟩
 rw[if_neg a];exact ⟨x,hx,rfl,rfl,fun h=>absurd h a,fun _=>rfl⟩
structure Sy (T:Nat) (s:Ck) (no:Int) (c:List UInt8) (e:Int) (s':Ck):Prop where
 inv: ∀Q:Dk→Prop,(∀d k b d',Q d→Wr d s.nm k b d'→Q d')→Q s.d→Q s'.d
 code:e=0∨e=7
 AG:Good T s'
 has: ∀k b,k≠no∨e=7→Has s k b→Has s' k b
 put:e=0→Has s' no c
 roomy:Roomy T s→e=0∧Roomy T s'
 kept: ∀P,(∀b,¬P no b)→Kept P s→Kept P s'
 nm:s'.nm=s.nm
theorem ND{m T : Nat}{s : Ck}{no : Int}{c : List UInt8}(ok : Bi m s)(g : Good T s)(H : 0 ≤ no)(I : no < 1048576)(D : no.toNat < T)(J : c.length = 256) : Sy T s no c (s.put no c).1 (s.put no c).2 := by
 unfold Ck.put
 rw[if_neg (by omega)]
 cases z:Bf s.its no with
 | true =>
  rw[if_pos rfl]
  refine ⟨fun Q _ h=>h,.inl rfl,⟨g.BK,?_,?_,g.top.1,?_⟩,?_,fun _=> .inl ?_,fun h=>⟨rfl,h⟩,?_,rfl⟩
  ·intro n a
   obtain ⟨x,hx,_,t,_⟩:=Gk a
   rw[t];exact g.pins x ((Bs s.its no).mem_iff.1 hx)
  ·intro n a hm b hb
   obtain ⟨x,hx,f,t,y,u⟩:=Gk a
   by_cases i:x.key=no
   · rw[y i] at hm;cases hm
   have l:AP n.key (Cg no c s.BU)=some b:=hb
   rw[BQ,f,if_neg i] at l
   rw[f]
   exact g.clean x ((Bs s.its no).mem_iff.1 hx) (by rw[←u i];exact hm) b l
  ·intro n a
   obtain ⟨x,hx,f,_⟩:=Gk a
   rw[f];exact g.top.2 x ((Bs s.its no).mem_iff.1 hx)
  ·intro k b i hs
   have p:k≠no:=i.resolve_right (fun e=>by cases e)
   unfold Has at hs⊢
   show AP k (Cg no c s.BU)=some b∨AP k (Cg no c s.BU)=none∧_
   rw[BQ,if_neg p]
   exact hs
  ·show AP no (Cg no c s.BU)=some c
   rw[BQ,if_pos rfl]
  intro P v i
  refine ⟨i.le,i.safe,i.AO,?_⟩
  intro n a hm b
  obtain ⟨x,hx,f,t,y,u⟩:=Gk a
  rw[f]
  by_cases q:x.key=no
  ·rw[q];exact v b
  exact i.Ca x ((Bs s.its no).mem_iff.1 hx) (by rw[←u q];exact hm) b
 | false =>
  rw[if_neg (by simp)]
  have d:=GW ok g
  obtain ⟨r1,K,G,L⟩:=Jq ok
  unfold Ck.take
  by_cases r:s.room.1=0
  ·rw [if_pos r]
   simp only[if_true]
   have w:Bf s.room.2.its no=false:=by
    rw[Bool.eq_false_iff];intro hx;rw[G no hx] at z;cases z
   have j: ∀n,n∈AU (s.room.2.its++ [⟨no,0,false⟩]) no true→(n.key=no∧n.Hr=true∧n.pins=0)∨n∈s.room.2.its∧n.key≠no:=by
    intro n a
    unfold AU PH at a
    rw[List.map_append] at a
    rcases List.mem_append.1 a with a|a
    · obtain ⟨x,hx,rfl⟩:=List.mem_map.1 a
      have o:x.key≠no:=fun e=>by
       have:Bf s.room.2.its no=true:=Bb.2 (List.mem_map.2 ⟨x,hx,e⟩)
       rw[w] at this;cases this
      rw[if_neg o]
      exact .inr ⟨hx,o⟩
    simp at a
    subst a
    exact .inl ⟨rfl,rfl,rfl⟩
   refine ⟨d.inv,.inl rfl,⟨d.AG.BK,?_,?_,d.AG.top.1,?_⟩,?_,fun _=> .inl ?_,fun h=>⟨rfl,(d.roomy h).2⟩,?_,d.nm⟩
   · intro n a
     rcases j n a with ⟨_,_,h⟩|⟨h,_⟩
     · exact h
     exact d.AG.pins n h
   · intro n a hm b hb
     rcases j n a with ⟨_,h,_⟩|⟨h,o⟩
     · rw[h] at hm;cases hm
     have l:AP n.key (Cg no c s.room.2.BU)=some b:=hb
     rw[BQ,if_neg o] at l
     exact d.AG.clean n h hm b l
   · intro n a
     rcases j n a with ⟨h,_,_⟩|⟨h,_⟩
     · rw[h];exact D
     exact d.AG.top.2 n h
   · intro k b i hs
     have p:k≠no:=i.resolve_right (fun e=>by cases e)
     have f:=d.has k b hs
     unfold Has at f⊢
     show AP k (Cg no c s.room.2.BU)=some b∨AP k (Cg no c s.room.2.BU)=none∧_
     rw[BQ,if_neg p]
     exact f
   · show AP no (Cg no c s.room.2.BU)=some c
     rw[BQ,if_pos rfl]
   intro P v i
   have f:=d.kept P i
   refine ⟨f.le,f.safe,f.AO,?_⟩
   intro n a hm b
   rcases j n a with ⟨h,_,_⟩|⟨h,_⟩
   · rw[h];exact v b
   exact f.Ca n h hm b
  rw[if_neg r,if_neg r]
  have B:s.room.1=7:=d.code.resolve_left r
  exact ⟨d.inv,.inr B,d.AG,fun k b _ h=>d.has k b h,fun h=>absurd h r,d.roomy,fun P _ h=>d.kept P h,d.nm⟩
theorem Ku{d:Dk}{nm:ByteArray}(g:EK d nm){no:Int}(e:0≤no):
 (256*no.toNat+256≤(Au d nm).length∧d.read nm (no*256) 256=(0,((Au d nm).drop (256*no.toNat)).take 256))∨
 ((Au d nm).length<256*no.toNat+256∧((d.read nm (no*256) 256).1=2∨(d.read nm (no*256) 256).1=6)):=by
 cases a:d.get nm with
 | none =>
  right
  refine ⟨by unfold Au;rw[a];simp[Dk.Io],.inr ?_⟩
  unfold Dk.read
  have:=Hq g.Mp g.down a
  rw[if_pos (by rw[this];decide),this]
 | some f =>
  have hm:=FC (t:=true) g.Mp g.down a
  have c:Au d nm=f.now:=by unfold Au;rw[a];rfl
  rw[c]
  unfold Dk.read
  rw[if_neg (by simp[hm]),a]
  simp only[Option.getD_some]
  by_cases hl:256*no.toNat+256≤f.now.length
  ·left
   refine ⟨hl,?_⟩
   rw[if_neg (by omega)]
   have b:(no*256).toNat=256*no.toNat:=by omega
   rw[b];rfl
  right
  refine ⟨by omega,.inl ?_⟩
  rw[if_pos (by omega)]
structure Sw (T:Nat) (s:Ck) (no:Int) (e:Int) (c:List UInt8) (s':Ck):Prop where
 inv: ∀Q:Dk→Prop,(∀d k b d',Q d→Wr d s.nm k b d'→Q d')→Q s.d→Q s'.d
 code:e=0∨e=7∨e=6
 AG:Good T s'
 has: ∀k b,Has s k b→Has s' k b
 O': ∀b,Has s no b→e=7∨(e=0∧c=b)
 len:e=0→c.length=256
 none:e≠0→c= []
 y6:T≤no.toNat→e=6
 roomy:Roomy T s→e≠7∧Roomy T s'
 kept: ∀P,Kept P s→Kept P s'
 nm:s'.nm=s.nm
theorem Iy{m T : Nat}{s : Ck}{no : Int}(ok : Bi m s)(g : Good T s)(D : 0 ≤ no)(K : no < 1048576) : Sw T s no (s.get no).1 (s.get no).2.1 (s.get no).2.2 := by
 unfold Ck.get
 rw[if_neg (by omega)]
 cases q:Bf s.its no with
 | true =>
  rw[if_pos rfl]
  obtain ⟨b,hb,hl,_⟩:=ok.key q
  have hp:s.Ay no=b:=by unfold Ck.Ay;rw[hb];rfl
  simp only[hp]
  refine ⟨fun Q _ h=>h,.inl rfl,⟨g.BK,?_,?_,g.top.1,?_⟩,fun k b h=>h,?_,fun _=>hl,fun h=>absurd rfl h,?_,fun h=>⟨by decide,h⟩,?_,rfl⟩
  · intro n a;exact g.pins n ((Bs s.its no).mem_iff.1 a)
  · intro n a;exact g.clean n ((Bs s.its no).mem_iff.1 a)
  · intro n a;exact g.top.2 n ((Bs s.its no).mem_iff.1 a)
  · intro c i
    rcases i with i|⟨i,_⟩
    · rw[hb] at i;cases i;exact .inr ⟨rfl,rfl⟩
    rw[hb] at i;cases i
  · intro H
    obtain ⟨n,a,w⟩:=List.mem_map.1 (Bb.1 q)
    have:=g.top.2 n a
    rw[w] at this
    omega
  intro P p
  exact ⟨p.le,p.safe,p.AO,fun n a=>p.Ca n ((Bs s.its no).mem_iff.1 a)⟩
 | false =>
  rw[if_neg (by simp)]
  have u:AP no s.BU=none:=by
   have:=ok.same no
   rw[q] at this
   cases hp:AP no s.BU with
   |none=>rfl
   |some b=>rw[hp] at this;cases this
  rcases Ku g.BK D with ⟨hl,hr⟩|⟨hl,hr⟩
  · simp only[hr]
    rw[if_pos trivial]
    obtain ⟨c,i⟩: ∃c,((Au s.d s.nm).drop (256*no.toNat)).take 256=c:=⟨_,rfl⟩
    rw[i]
    have x:c.length=256:=by rw[←i];simp;omega
    have y:Bg (Au s.d s.nm) no c:=⟨D,hl,i⟩
    have z:no.toNat<T:=by have:=g.top.1;omega
    have f:=GW ok g
    obtain ⟨r1,L,J,M⟩:=Jq ok
    have v: ∀b,Has s no b→c=b:=by
     intro b hb
     rcases hb with hb|⟨_,hb⟩
     · rw[u] at hb;cases hb
     rw[←i];exact hb.2.2
    unfold Ck.take
    by_cases r:s.room.1=0
    · rw [if_pos r]
      simp only[if_true]
      have B:Bf s.room.2.its no=false:=by
       rw[Bool.eq_false_iff];intro hx;rw[J no hx] at q;cases q
      refine ⟨f.inv,.inl rfl,⟨f.AG.BK,?_,?_,f.AG.top.1,?_⟩,?_,fun b hb=> .inr ⟨rfl,v b hb⟩,fun _=>x,fun h=>absurd rfl h,fun H=>by omega,fun h=>⟨by decide,(f.roomy h).2⟩,?_,f.nm⟩
      · intro n a
        rcases List.mem_append.1 a with a|a
        ·exact f.AG.pins n a
        simp at a;subst a;rfl
      · intro n a hm b hb
        have j:AP n.key (Cg no c s.room.2.BU)=some b:=hb
        rw[BQ] at j
        rcases List.mem_append.1 a with a|a
        ·have l:n.key≠no:=fun e=>by
          have:Bf s.room.2.its no=true:=Bb.2 (List.mem_map.2 ⟨n,a,e⟩)
          rw[B] at this;cases this
         rw[if_neg l] at j
         exact f.AG.clean n a hm b j
        simp at a
        subst a
        simp only[if_true] at j
        cases j
        show Bg (Au s.room.2.d s.room.2.nm) no c
        rw[f.nm]
        exact f.DW no c q y
      · intro n a
        rcases List.mem_append.1 a with a|a
        ·exact f.AG.top.2 n a
        simp at a;subst a;exact z
      · intro k b w
        have o:=f.has k b w
        unfold Has
        show AP k (Cg no c s.room.2.BU)=some b∨AP k (Cg no c s.room.2.BU)=none∧Bg (Au s.room.2.d s.room.2.nm) k b
        rw[BQ]
        by_cases t:k=no
        ·subst t
         rw[if_pos rfl]
         rw[v b w]
         exact .inl rfl
        rw[if_neg t];exact o
      intro P p
      have o:=f.kept P p
      refine ⟨o.le,o.safe,o.AO,?_⟩
      intro n a hm b
      rcases List.mem_append.1 a with a|a
      · exact o.Ca n a hm b
      simp at a;subst a;cases hm
    rw[if_neg r,if_neg r]
    have G:s.room.1=7:=f.code.resolve_left r
    refine ⟨f.inv,.inr (.inl G),f.AG,f.has,fun b _=> .inl G,fun h=>absurd h r,fun _=>rfl,fun H=>by omega,fun h=>absurd (f.roomy h).1 r,f.kept,f.nm⟩
  simp only
  have l:(s.d.read s.nm (no*256) 256).1≠0:=by rcases hr with h|h<;>rw[h]<;>decide
  rw[if_neg l]
  have I:(if (s.d.read s.nm (no*256) 256).1=2 then 6 else (s.d.read s.nm (no*256) 256).1)=6:=by
   rcases hr with h|h
   · rw[if_pos h]
   rw[if_neg (by rw[h];decide),h]
  simp only[I]
  refine ⟨fun Q _ h=>h,.inr (.inr rfl),g,fun k b h=>h,?_,(fun h=>by cases h),fun _=>rfl,fun _=>rfl,fun h=>⟨by decide,h⟩,fun P h=>h,rfl⟩
  intro b hb
  rcases hb with hb|⟨_,hb⟩
  · rw[u] at hb;cases hb
  have:=hb.2.1;omega
structure PC (T:Nat) (s:Ck) (e:Int) (s':Ck):Prop where
 inv: ∀Q:Dk→Prop,(∀d k b d',Q d→Wr d s.nm k b d'→Q d')→Q s.d→Q s'.d
 code:e=0∨e=7
 AG:Good T s'
 has: ∀k b,Has s k b→Has s' k b
 roomy:Roomy T s→e=0∧Roomy T s'
 kept: ∀P,Kept P s→Kept P s'
 nm:s'.nm=s.nm
theorem Out.e{T:Nat}{s s':Ck}{e:Int}(h:Out T s e s'):PC T s e s':=⟨h.inv,h.code,h.AG,h.has,h.roomy,h.kept,h.nm⟩
theorem PC.refl{T:Nat}{s:Ck}(g:Good T s):PC T s 0 s:=(Out.refl g).e
theorem PC.trans{T:Nat}{s s1 s2:Ck}{d e:Int}(h:PC T s d s1)(a:PC T s1 e s2):PC T s e s2:=
 ⟨fun Q c hq=>a.inv Q (by rw[h.nm];exact c) (h.inv Q c hq),a.code,a.AG,fun k b g=>a.has k b (h.has k b g),fun hr=>a.roomy (h.roomy hr).2,fun P f=>a.kept P (h.kept P f),a.nm.trans h.nm⟩
theorem Mk: ∀(l:List Int){m T:Nat}{s:Ck},Bi m s→Good T s→(∀k∈l,Bf s.its k=true)→
 PC T s (Ck.writes l s).1 (Ck.writes l s).2∧((Ck.writes l s).1=0→ ∀n∈(Ck.writes l s).2.its,n.Hr=true→n.key∉l∧ ∃x∈s.its,x.key=n.key∧x.Hr=true)
 | [],m,T,s,ok,g,_=>⟨PC.refl g,fun _ n p hm=>⟨by simp,n,p,rfl,hm⟩⟩
 | k :: l, m, T, s, ok, g, h => by
  have o:=h k (by simp)
  have hw:=Ih ok g o
  have i:=(hw.out ok o).e
  unfold Ck.writes
  by_cases d:(s.write k).1=0
  ·rw[if_pos d]
   obtain ⟨r,t⟩:=Mk l (Fx ok o) i.AG fun j v=>by rw[Jv];exact h j (by simp[v])
   refine ⟨i.trans r,fun f n p hm=>?_⟩
   obtain ⟨u,x,hx,b,a⟩:=t f n p hm
   have q:x.key≠k:=fun e=>by rw[hw.done d x hx e] at a;cases a
   refine ⟨?_,?_⟩
   ·rw[List.mem_cons]
    rintro (e|e)
    ·exact q (b.trans e)
    exact u e
   rcases (BT s k).2.2.2.2 with e|e
   ·rw[e] at hx;exact ⟨x,hx,b,a⟩
   rw[e] at hx
   unfold AU PH at hx
   obtain ⟨y,hy,rfl⟩:=List.mem_map.1 hx
   by_cases c:y.key=k
   ·rw[if_pos c] at a;cases a
   rw[if_neg c] at b a;exact ⟨y,hy,b,a⟩
  rw[if_neg d]
  exact ⟨i,fun f=>absurd f d⟩
structure VV (T:Nat) (s:Ck) (e:Int) (s':Ck):Prop where
 code:e=0∨e=7
 AG:Good T s'
 has: ∀k b,Has s k b→Has s' k b
 roomy:Roomy T s→e=0∧Roomy T s'
 DW:e=0→ ∀k b,Has s' k b→Bg (Au s'.d s'.nm) k b
 kept:e=0→Kept (fun k b=>Bg (Au s'.d s'.nm) k b) s'
 sure:e=0→ ∀f,s'.d.get s'.nm=some f→f.sure=true
 nm:s'.nm=s.nm
theorem JI{m T : Nat}{s : Ck}(ok : Bi m s)(g : Good T s) : VV T s s.flush.1 s.flush.2 := by
 obtain ⟨a,H⟩:=Mk (BC s.its) ok g fun k j=>ES j
 have y:=(Hd (BC s.its) ok fun k j=>ES j).1
 unfold Ck.flush
 simp only
 obtain ⟨⟨e,t⟩,hr⟩: ∃r,Ck.writes (BC s.its) s=r:=⟨_,rfl⟩
 rw[hr] at a H y⊢
 simp only at a H y⊢
 by_cases B:e=0
 ·subst B
  rw[if_pos rfl]
  have i: ∀n∈t.its,n.Hr=false:=by
   intro n q
   cases hm:n.Hr with
   |false=>rfl
   | true =>
     obtain ⟨I,x,hx,P,Q⟩:=H rfl n q hm
     exact absurd (JS.2 ⟨x,hx,Q,P⟩) I
  have O:t.d.stop=false:=by unfold Dk.stop;simp[a.AG.BK.D5]
  have l: ∀k b,Has t k b→Bg (Au t.d t.nm) k b:=by
   intro k b j
   rcases j with j|⟨_,j⟩
   · have V:Bf t.its k=true:=by rw[y.same,j];rfl
     obtain ⟨n,q,L⟩:=List.mem_map.1 (Bb.1 V)
     have:=a.AG.clean n q (i n q)
     rw[L] at this
     exact this b j
   exact j
  cases u:t.d.get t.nm with
  | none =>
    have G:=Hq a.AG.BK.Mp a.AG.BK.down u
    have z:t.d.sync t.nm=(6,t.d):=by unfold Dk.sync;rw[if_pos (by rw[G];decide),G]
    rw[z]
    simp only[if_true]
    have K:Au t.d t.nm= []:=by unfold Au;rw[u];rfl
    refine ⟨.inl rfl,a.AG,a.has,fun h=>⟨rfl,(a.roomy h).2⟩,fun _=>l,fun _=>⟨?_,?_,?_,?_⟩,(fun _ f D=>by rw[u] at D;cases D),a.nm⟩
    · show (CD t.d t.nm).length≤_
      unfold CD;rw[u];simp[Dk.Io]
    · intro k b j
      have:=j.2.1
      rw[K] at this
      simp at this
    · intro p hp q
      have:=y.dk.pn p hp
      rw[q,u] at this;cases this
    intro n q hm
    rw[i n q] at hm;cases hm
  | some f =>
    have hm:=FC (t:=true) a.AG.BK.Mp a.AG.BK.down u
    have z:t.d.sync t.nm=(0,(t.d.Bz.put t.nm { f with safe:=f.now,sure:=true }).settled t.nm):=by
     unfold Dk.sync
     rw[if_neg (by simp[hm]),if_neg (by simp[O]),u]
     rfl
    rw[z]
    simp only
    rw[if_neg (by decide)]
    have o:((t.d.Bz.put t.nm { f with safe:=f.now,sure:=true }).settled t.nm).get t.nm=some { f with safe:=f.now,sure:=true } :=by
     unfold Dk.get Dk.settled Dk.put
     simp only
     rw[Cs,if_pos rfl]
    have c:Au ((t.d.Bz.put t.nm { f with safe:=f.now,sure:=true }).settled t.nm) t.nm=Au t.d t.nm:=by
     unfold Au;rw[o,u];rfl
    have w:CD ((t.d.Bz.put t.nm { f with safe:=f.now,sure:=true }).settled t.nm) t.nm=Au t.d t.nm:=by
     unfold CD Au;rw[o,u];rfl
    refine ⟨.inl rfl,⟨⟨a.AG.BK.down,a.AG.BK.D5,a.AG.BK.Mp,?_⟩,a.AG.pins,?_,?_,a.AG.top.2⟩,?_,fun h=>⟨rfl,?_⟩,fun _=>?_,fun _=>⟨?_,?_,?_,?_⟩,(fun _ W D=>by rw[o] at D;cases D;rfl),a.nm⟩
    · rw[o]
      show (Dj t.nm _ t.d.files).length+_≤8
      have I:(Cb t.nm t.d.files).isSome=true:=by
       have:t.d.get t.nm=Cb t.nm t.d.files:=rfl
       rw[←this,u];rfl
      rw[FP,if_pos I]
      have:=a.AG.BK.nf
      rw[u] at this
      exact this
    · intro n q hm b hb
      show Bg (Au ((t.d.Bz.put t.nm { f with safe:=f.now,sure:=true }).settled t.nm) t.nm) n.key b
      rw[c]
      exact a.AG.clean n q hm b hb
    · show (Au ((t.d.Bz.put t.nm { f with safe:=f.now,sure:=true }).settled t.nm) t.nm).length≤_
      rw[c];exact a.AG.top.1
    · intro k b j
      have:=a.has k b j
      unfold Has at this⊢
      show AP k t.BU=some b∨AP k t.BU=none∧Bg (Au ((t.d.Bz.put t.nm { f with safe:=f.now,sure:=true }).settled t.nm) t.nm) k b
      rw[c];exact this
    · have R:=(a.roomy h).2
      unfold Roomy at R⊢
      show Im ((t.d.Bz.put t.nm { f with safe:=f.now,sure:=true }).settled t.nm) t.nm+_≤t.d.room
      rw[Qa (d:=t.d) (d':=(t.d.Bz.put t.nm { f with safe:=f.now,sure:=true }).settled t.nm) (f:= { f with safe:=f.now,sure:=true }) rfl]
      exact R
    · intro k b j
      show Bg (Au ((t.d.Bz.put t.nm { f with safe:=f.now,sure:=true }).settled t.nm) t.nm) k b
      rw[c]
      refine l k b ?_
      unfold Has at j⊢
      have v:AP k t.BU=some b∨AP k t.BU=none∧Bg (Au ((t.d.Bz.put t.nm { f with safe:=f.now,sure:=true }).settled t.nm) t.nm) k b:=j
      rw[c] at v;exact v
    · show (CD ((t.d.Bz.put t.nm { f with safe:=f.now,sure:=true }).settled t.nm) t.nm).length≤(Au ((t.d.Bz.put t.nm { f with safe:=f.now,sure:=true }).settled t.nm) t.nm).length
      rw[w,c];exact Nat.le_refl _
    · intro k b j
      show Bg (CD ((t.d.Bz.put t.nm { f with safe:=f.now,sure:=true }).settled t.nm) t.nm) k b
      have v:Bg (Au ((t.d.Bz.put t.nm { f with safe:=f.now,sure:=true }).settled t.nm) t.nm) k b:=j
      rw[w];rw[c] at v;exact v
    · intro p hp q
      exfalso
      have M:p∈t.d.AO.filter fun p=>p.nm !=t.nm:=hp
      have:=(List.mem_filter.1 M).2
      have J:p.nm=t.nm:=q
      rw[J,Ln] at this
      simp at this
    intro n q hm
    rw[i n q] at hm;cases hm
 rw[if_neg B]
 have U:=a.code.resolve_left B
 exact ⟨.inr U,a.AG,a.has,fun h=>absurd (a.roomy h).1 B,fun h=>absurd h B,fun h=>absurd h B,fun h=>absurd h B,a.nm⟩
structure Bp (a:Nat) (nm:ByteArray) (d d':Dk):Prop where
 changes:d'.changes≤d.changes+a
 left:d.left≤d'.left+a
 AO:d'.AO.length+(Au d nm).length≤d.AO.length+(Au d' nm).length+256*a
 len:(Au d nm).length≤(Au d' nm).length
 cap:(Au d' nm).length≤max (Au d nm).length 268435456
theorem Bp.KX(nm:ByteArray)(d:Dk):Bp 0 nm d d:=⟨by omega,by omega,by omega,by omega,by omega⟩
theorem Bp.trans{a b:Nat}{nm:ByteArray}{d d' c:Dk}(h:Bp a nm d d')(k:Bp b nm d' c):Bp (a+b) nm d c:=by
 obtain ⟨e,f,g,i,j⟩:=h
 obtain ⟨l,m,n,o,p⟩:=k
 exact ⟨by omega,by omega,by omega,by omega,by omega⟩
theorem Bp.more{a b:Nat}{nm:ByteArray}{d d':Dk}(h:Bp a nm d d')(k:a≤b):Bp b nm d d':=by
 obtain ⟨c,e,f,g,i⟩:=h
 exact ⟨by omega,by omega,by omega,by omega,by omega⟩
theorem Ww(d:Dk)(nm:ByteArray)(k:Int)(b:List UInt8)(h:b.length≤256∨k=(Au d nm).length)(c:b.length=0∨k+b.length≤268435456):Bp 1 nm d (d.write nm k b).2:=by
 have same:Bp 1 nm d d:=(Bp.KX nm d).more (by omega)
 unfold Dk.write
 split
 · exact same
 split
 · exact same
 rename_i i
 split
 · exact same
 split
 · exact same
 split
 · exact ⟨same.changes,same.left,same.AO,same.len,same.cap⟩
 have f:(d.written nm k.toNat b).get nm=some { (d.get nm).getD Dk.Io with now:=laid ((d.get nm).getD Dk.Io).now k.toNat b } :=by
  unfold Dk.get Dk.written Dk.put
  simp only
  rw[Cs,if_pos rfl]
  rfl
 have g:Au (d.written nm k.toNat b) nm=laid (Au d nm) k.toNat b:=by unfold Au;rw[f];rfl
 have hl:=C8 (Au d nm) k.toNat b
 rw[←g] at hl
 have hs:=NL nm b.length k.toNat b (Nat.le_refl _)
 have hp:(d.written nm k.toNat b).AO.length=d.AO.length+(Fz nm k.toNat b).length:=by
  show (d.AO++Fz nm k.toNat b).length=_
  rw[List.length_append]
 have e:(d.written nm k.toNat b).changes=d.changes+1:=rfl
 have a:(d.written nm k.toNat b).left=d.left-1:=rfl
 refine ⟨?_,?_,?_,?_,?_⟩
 · simp only[e];omega
 · simp only[a];omega
 · simp only[hp]
   rcases h with h|h
   ·omega
   have:k.toNat=(Au d nm).length:=by omega
   omega
 · simp only;omega
 simp only;omega
theorem size_eq(d:Dk)(nm:ByteArray):max 0 (d.size nm)=((Au d nm).length:Int)∨d.size nm= -1:=by
 unfold Dk.size Au
 split
 ·exact .inr rfl
 exact .inl (by omega)
theorem IA{m:Nat}{s:Ck}(ok:Bi m s)(no:Int):(s.Ay no).length≤256:=by
 unfold Ck.Ay
 cases h:AP no s.BU with
 |none=>simp
 |some b=>have:=(ok.Ay _ (IC h)).1;simp at this⊢;omega
theorem ZC(s:Ck)(no:Int)(g:no≤1048576):Bp 1 s.nm s.d (s.pad no).2:=by
 unfold Ck.pad
 by_cases hm:s.d.may s.nm false=0
 · refine Ww _ _ _ _ (.inr ?_) (by rw[List.length_replicate];omega)
   rcases size_eq s.d s.nm with h|h
   · exact h
   rw[h]
   have:s.d.get s.nm=none:=by
    unfold Dk.size at h
    cases c:s.d.get s.nm with
    |none=>rfl
    | some f =>
      exfalso
      have:s.d.may s.nm true=0:=by
       unfold Dk.may at hm⊢
       rw[c]
       split at hm
       ·omega
       split at hm
       ·omega
       rename_i a b
       simp[a,b]
      rw[if_neg (by omega)] at h
      omega
   unfold Au
   rw[this]
   rfl
 have e:(s.d.write s.nm (max 0 (s.d.size s.nm)) (List.replicate (no*256-max 0 (s.d.size s.nm)).toNat 0)).2=s.d:=by
  unfold Dk.write
  rw[if_pos hm]
 rw[e]
 exact (Bp.KX _ _).more (by omega)
theorem VP{m:Nat}{s:Ck}(ok:Bi m s)(no:Int)(a:no<1048576):Bp 1 s.nm s.d (s.Bn no).2.d:=by
 have h:=Ww s.d s.nm (no*256) (s.Ay no) (.inl (IA ok no)) (.inr (by have:=IA ok no;omega))
 unfold Ck.Bn
 split<;>exact h
theorem Sk{m:Nat}{s:Ck}(ok:Bi m s)(no:Int)(a:no<1048576):Bp 2 s.nm s.d (s.write no).2.d:=by
 unfold Ck.write
 split
 ·exact (Bp.KX _ _).more (by omega)
 split
 ·have hp:=ZC s no (by omega)
  split
  ·have h:=Ww (s.pad no).2 s.nm (no*256) (s.Ay no) (.inl (IA ok no)) (.inr (by have:=IA ok no;omega))
   exact hp.trans (b:=1) (by unfold Ck.Bn;split<;>exact h)
  exact hp.more (by omega)
 exact (VP ok no a).more (by omega)
theorem Tp{m:Nat}{s:Ck}(ok:Bi m s)(no:Int)(a:no<1048576):Bp 2 s.nm s.d (s.release no).2.d:=by
 have h:=Sk ok no a
 unfold Ck.release
 split<;>exact h
theorem YQ{m:Nat}{s:Ck}(ok:Bi m s):Bp 2 s.nm s.d s.room.2.d:=by
 unfold Ck.room
 split
 ·exact (Bp.KX _ _).more (by omega)
 split
 ·exact (Bp.KX _ _).more (by omega)
 rename_i n a
 refine Tp ok _ ?_
 obtain ⟨b,hb⟩:=ok.key (k:=n.key) (Bb.2 (List.mem_map.2 ⟨n,(Ur a).1,rfl⟩))
 exact hb.2.2.2
theorem U5{m:Nat}{s:Ck}(ok:Bi m s)(no:Int)(b:List UInt8):Bp 2 s.nm s.d (s.take no b).2.d:=by
 have h:=YQ ok
 unfold Ck.take
 split<;>exact h
theorem ML{m:Nat}{s:Ck}(ok:Bi m s)(no:Int):Bp 2 s.nm s.d (s.get no).2.2.d∧(s.get no).2.2.reads≤s.reads+1:=by
 have same:Bp 2 s.nm s.d s.d:=(Bp.KX _ _).more (by omega)
 unfold Ck.get
 split
 ·exact ⟨same,by simp only;omega⟩
 split
 ·exact ⟨same,by simp only;omega⟩
 simp only
 split
 ·have h:=U5 ok no (s.d.read s.nm (no*256) 256).2
  have hr:=Kh s no (s.d.read s.nm (no*256) 256).2
  split
  ·exact ⟨h,by simp only;omega⟩
  exact ⟨h,by simp only;omega⟩
 exact ⟨same,by simp only;omega⟩
theorem Qg{m:Nat}{s:Ck}(ok:Bi m s)(no:Int)(b:List UInt8):Bp 2 s.nm s.d (s.put no b).2.d∧(s.put no b).2.reads=s.reads:=by
 have same:Bp 2 s.nm s.d s.d:=(Bp.KX _ _).more (by omega)
 unfold Ck.put
 split
 ·exact ⟨same,rfl⟩
 split
 ·exact ⟨same,rfl⟩
 have h:=U5 ok no b
 have hr:=Kh s no b
 split
 ·exact ⟨h,hr⟩
 exact ⟨h,hr⟩
structure XY (N:Nat) (s:Ck):Prop where
 changes:s.d.changes≤2*N
 left: -(2*N:Int)≤s.d.left
 AO:s.d.AO.length≤512*N+(Au s.d s.nm).length
 reads:s.reads≤N
 len:(Au s.d s.nm).length≤268435456
theorem XY.ok{m N:Nat}{s:Ck}(ok:Bi m s)(h:XY N s)(D:N≤134217728):Bi 137438953472 s:=by
 obtain ⟨w,x,y,z,B⟩:=h
 obtain ⟨k,l,n,o,p,q,r,t,u,a⟩:=ok
 obtain ⟨b,c,d,e,v,f,g,i,j⟩:=t
 exact ⟨k,l,n,o,p,q,r,⟨b,c,⟨by omega,d.2⟩,⟨e.1,by omega⟩,by omega,f,g,i,j⟩,u,⟨a.1,by omega⟩⟩
theorem XY.step{N:Nat}{s s':Ck}(h:XY N s)(a:s'.nm=s.nm)(hb:Bp 2 s.nm s.d s'.d)(hr:s'.reads≤s.reads+1):XY (N+1) s':=by
 obtain ⟨g,i,j,k,l⟩:=h
 obtain ⟨b,b2,c,e,f⟩:=hb
 exact ⟨by omega,by omega,by rw[a];omega,by omega,by rw[a];omega⟩
