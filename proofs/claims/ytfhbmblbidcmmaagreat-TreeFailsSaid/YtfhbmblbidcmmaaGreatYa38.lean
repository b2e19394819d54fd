/- treeFails holds for every input. No condition. (part 38) -/
import Derived.Test.YtfhbmblbidcmmaaGreatYa34
import Derived.Test.YtfhbmblbidcmmaaGreatYa37
set_option linter.all false
namespace Go.Proofs.YtfhbmblbidcmmaaGreat
open Go.Dk Go.Tr
theorem Iw{nm:ByteArray}{f:Fl}(hs:f.sure=true): ∀{fs:List (ByteArray×Fl)},Cb nm fs=some f→Cb nm (fs.filterMap (crashed []))=some ⟨f.safe,f.safe,true⟩
 | [],h=>by simp[Cb] at h
 | p :: l, h => by
  unfold Cb at h
  by_cases a:nm=p.1
  ·rw[if_pos a] at h
   cases h
   have b:crashed [] p=some (p.1,⟨p.2.safe,p.2.safe,true⟩):=by
    unfold crashed
    rw[if_pos (by simp[hs])]
    rfl
   rw[List.filterMap_cons,b]
   show (if nm=p.1 then _ else _)=_
   rw[if_pos a]
  rw[if_neg a] at h
  rw[List.filterMap_cons]
  cases hq:crashed [] p with
  |none=>exact Iw hs h
  | some q =>
   have c:q.1=p.1:=by
    unfold crashed at hq
    split at hq
    ·cases hq;rfl
    cases hq
   show (if nm=q.1 then _ else _)=_
   rw[if_neg (by rw[c];exact a)]
   exact Iw hs h
theorem Jg: ∀(l:List Pc)(i:Nat),DJ [] i l= []
 | [],_=>rfl
 | p :: l, i => by
  unfold DJ
  rw[if_neg (by simp[IE])]
  exact Jg l _
theorem Z1{d:Dk}{nm:ByteArray}(hs:DX d nm=true):(d.J3 []).get nm=some ⟨CD d nm,CD d nm,true⟩:=by
 unfold DX at hs
 unfold CD
 cases a:d.get nm with
 |none=>rw[a] at hs;cases hs
 | some f =>
  rw[a] at hs
  show Cb nm (d.files.filterMap (crashed (DJ [] 0 d.AO)))=_
  rw[Jg]
  exact Iw hs a
variable [G1]
structure Ep (P:Int→List UInt8→Prop) (s:TS):Prop where
 ts:Gt s
 AG:Pf.Good Oe s.ck
 res:1≤s.sp.A5
 used: ∀p∈s.sp.used,s.sp.A5≤p∧p<Oe
 nd:s.sp.used.Nodup
 kept:Kept P s.ck
 sub: ∀p b,P p b→p∈s.sp.used
 sure: ∀p b,P p b→DX s.ck.d s.ck.nm=true
noncomputable def MI(P:Int→List UInt8→Prop):Env TS where
 rd:=Ah
 wt:=Ag
 V:=nodeAt
 inv:=Ep P
 reads s:=s.ck.reads.toNat
 room s:=if s.ck.d.down then 0 else Bm s.sp
 left:=Ap
 bad e:=e=7∨e=8
theorem ZG(P:Int→List UInt8→Prop)(s:TS)(p:Int)(n:Nd)(f:Ep P s)(v:nodeAt s p=some n):Step (MI P) s 1 0 (Ah p) (fun m s'=>m=n):=by
 obtain ⟨B,b,hb,z⟩:=DE.1 v
 obtain ⟨G,H⟩:=f.used p B
 have D:=f.res
 have I:=Ll
 unfold Step
 right
 by_cases l:s.ops<Bu
 · obtain ⟨m,hm⟩:=f.ts.ck
   have g:=Pf.Iy (no:=p) hm f.AG (by omega) (by omega)
   have o:=f.ts.get p l
   have w:=(ML hm p).2
   have j: ∀q x,DB s q x→DB ⟨(s.ck.get p).2.2,s.sp,s.ops+2⟩ q x:=fun q x h=>H7 (no:=p) h g.has
   have i:Ep P ⟨(s.ck.get p).2.2,s.sp,s.ops+2⟩:=⟨o,g.AG,f.res,f.used,f.nd,g.kept P f.kept,f.sub,fun q c h=>by
    show DX (s.ck.get p).2.2.d (s.ck.get p).2.2.nm=true
    rw[g.nm]
    exact g.inv (fun d=>DX d s.ck.nm=true) (fun d k b d' h hw=>by show DX d' s.ck.nm=true;rw[hw.sure];exact h) (fun d h=>h) (f.sure q c h)⟩
   have a:(s.ck.get p).2.2.reads.toNat≤s.ck.reads.toNat+1:=by omega
   have e:Ap s≤Ap ⟨(s.ck.get p).2.2,s.sp,s.ops+2⟩+1:=by unfold Ap;simp only;omega
   rw[FZ l]
   rcases g.O' b hb with r|t|⟨e0,u⟩
   · rw[if_neg (by omega),if_neg (by omega)]
     exact ⟨.inl (.inl r),i,CK j,a,e⟩
   · rw[if_neg (by omega),if_neg (by omega)]
     exact ⟨.inl (.inr t),i,CK j,a,e⟩
   rw[if_pos e0,u,z]
   refine ⟨i,CK j,a,?_,e,rfl⟩
   have y:=g.UI.2 (by omega)
   show (if s.ck.d.down=true then 0 else Bm s.sp)≤(if (s.ck.get p).2.2.d.down=true then 0 else Bm s.sp)+0
   rw[y]
   omega
 have:Ah p s= .bad:=by
  unfold Ah M.bind Mo
  rw[if_neg l]
  rfl
 rw[this]
 show Ap s<1
 unfold Ap
 omega
theorem ZU(P:Int→List UInt8→Prop)(s:TS)(n:Nd)(r:Ep P s)(hm:may n=true):Step (MI P) s 0 1 (Ag n) (fun k s'=>k=Jx k.Ay n∧1≤k.Ay∧k.Ay<1048576∧nodeAt s' k.Ay=some n):=by
 obtain ⟨f,i,K,hk,G,W⟩:=KL hm
 unfold Step
 by_cases y:(MI P).room s<1
 · exact .inl y
 have R:s.ck.d.down=false:=by
  cases h:s.ck.d.down with
  |false=>rfl
  |true=>exact absurd (show (if s.ck.d.down=true then 0 else Bm s.sp)<1 by rw[h];exact Nat.lt_succ_self 0) y
 have a5: ¬Bm s.sp<1:=fun h=>y (show (if s.ck.d.down=true then 0 else Bm s.sp)<1 by rw[R];simpa using h)
 right
 by_cases V:s.ops<Bu
 · have hr:Ag n s=M.bind F0 (fun t=>M.bind (DQ (if t.2=9 then 7 else t.2)) fun _=>M.bind (DQ (CQ t.1 f i).2) fun _=>M.bind (QR t.1 (CQ t.1 f i).1) fun e=>M.bind (DQ e) fun _=>M.pure ⟨t.1,(Bl n).1,(Bl n).2.1,(Bl n).2.2⟩) s:=by
    conv=>lhs;unfold Ag
    rw[K,if_neg (by simp)]
   have O:=r.ts.take V
   cases T:s.sp.free with
   | none =>
     have:=OK T
     omega
   | some no =>
     obtain ⟨n1,n2,Z,_⟩:=Sp.EO T
     have u0:=r.res
     obtain ⟨m,rfl⟩: ∃m:Nat,no=m:=⟨no.toNat,by omega⟩
     have H:=QG T (by omega)
     have J:(m:Int)<1048576:=by have:=Ll;omega
     have X:CQ (m:Int) f i=(AF m f i,0):=by
      unfold CQ
      rw[if_neg (by omega),if_neg (by omega)]
      simp
     have w:(m:Int)∉s.sp.used:=fun h=>by
      unfold Sp.busy at Z
      simp at Z
      exact Z.1 h
     have z:s.sp.take=(((m:Int),0), { s.sp with used:=s.sp.used++ [(m:Int)],taken:=s.sp.taken++ [(m:Int)] }):=by unfold Sp.take;rw[T]
     obtain ⟨l,j⟩: ∃x:Sp,x= { s.sp with used:=s.sp.used++ [(m:Int)],taken:=s.sp.taken++ [(m:Int)] } :=⟨_,rfl⟩
     rw[←j] at z
     rw[z] at O
     have Y:Ag n s=if (s.ck.put m (AF m f i)).1=0 then .ok ⟨m,(Bl n).1,(Bl n).2.1,(Bl n).2.2⟩ ⟨(s.ck.put m (AF m f i)).2,l,s.ops+2⟩ else .fault (s.ck.put m (AF m f i)).1 ⟨(s.ck.put m (AF m f i)).2,l,s.ops+2⟩:=by
      rw[hr]
      unfold M.bind F0 QR
      rw[if_pos V,z]
      simp only[DR.bind,show¬((0:Int)=9) by omega,if_false,X,DQ,if_true,M.pure]
      by_cases D:(s.ck.put m (AF m f i)).1=0<;>simp[D,M.fail,M.pure,DR.bind]
     rw[Y]
     obtain ⟨mm,I⟩:=r.ts.ck
     have g:=Pf.ND (no:=(m:Int)) (c:=AF m f i) I r.AG (by omega) J (by omega) (Hw m f G)
     have Q:=O.put m (AF m f i) (by show s.ops+1≤_;omega)
     have a4:=(Qg I m (AF m f i)).2
     have L: ∀q x,DB s q x→DB ⟨(s.ck.put m (AF m f i)).2,l,s.ops+2⟩ q x:=fun q x ⟨h1,b,h2,h3⟩=>
      ⟨by rw[j];exact List.mem_append_left _ h1,b,g.has _ _ (.inl fun e=>w (e▸h1)) h2,h3⟩
     have B: ∀p∈l.used,l.A5≤p∧p<Oe:=by
      rw[j]
      intro p hp
      rcases List.mem_append.1 hp with hp|hp
      · exact r.used p hp
      simp at hp;subst hp;exact ⟨n1,H⟩
     have U:l.used.Nodup:=by
      rw[j]
      refine List.nodup_append.2 ⟨r.nd,by simp,fun a ha b hb e=>?_⟩
      simp at hb
      subst hb
      exact w (e▸ha)
     have v:Ep P ⟨(s.ck.put m (AF m f i)).2,l,s.ops+2⟩:=⟨Q,g.AG,by rw[j];exact r.res,B,U,g.kept P (fun b h=>w (r.sub _ b h)) r.kept,fun p b h=>by rw[j];exact List.mem_append_left _ (r.sub p b h),fun q c h=>by
      show DX (s.ck.put m (AF m f i)).2.d (s.ck.put m (AF m f i)).2.nm=true
      rw[g.nm]
      exact g.inv (fun d=>DX d s.ck.nm=true) (fun d k b d' h hw=>by show DX d' s.ck.nm=true;rw[hw.sure];exact h) (fun d h=>h) (r.sure q c h)⟩
     have u:Ap s≤Ap ⟨(s.ck.put m (AF m f i)).2,l,s.ops+2⟩+(0+1):=by unfold Ap;simp only;omega
     have o:(s.ck.put m (AF m f i)).2.reads.toNat≤s.ck.reads.toNat+0:=by omega
     by_cases D:(s.ck.put m (AF m f i)).1=0
     · rw[if_pos D]
       refine ⟨v,CK L,o,?_,u,rfl,by show (1:Int)≤m;omega,J,?_⟩
       · have hd:=g.UI.2 (by omega)
         show (if s.ck.d.down=true then 0 else Bm s.sp)≤(if (s.ck.put m (AF m f i)).2.d.down=true then 0 else Bm l)+1
         rw[hd,R,j]
         unfold Bm
         simp only[Bool.false_eq_true,if_false,List.length_append,List.length_cons,List.length_nil]
         omega
       refine DE.2 ⟨by rw[j];simp,AF m f i,g.put D,?_⟩
       unfold CV
       rw[Pn (by omega) (by omega) G]
       simp only[if_true,W]
     rw[if_neg D]
     exact ⟨.inl (g.code.resolve_left D),v,CK L,o,u⟩
 have:Ag n s= .bad:=by
  unfold Ag M.bind F0
  rw[K,if_neg (by simp),if_neg V]
  rfl
 rw[this]
 show Ap s<0+1
 unfold Ap
 omega
theorem PK(P:Int→List UInt8→Prop):(MI P).Ok:=⟨ZG P,ZU P⟩
inductive Zs (P:Int→List UInt8→Prop) (s:TS) (W:Nat) {α:Type} (Q:α→TS→Prop):DR TS α→Prop where
 |ok (a:α) (s':TS) (up:W<Bm s.sp→s'.ck.d.down=false) (inv:Ep P s') (le:Le (nodeAt s) (nodeAt s')) (q:Q a s') (left:Ap s≤Ap s'+60000):Zs P s W Q (.ok a s')
 |no (e:Int) (s':TS) (code:e=7∨e=8) (inv:Ep P s') (le:Le (nodeAt s) (nodeAt s')) (left:Ap s≤Ap s'+60000):Zs P s W Q (.fault e s')
theorem Lv{P:Int→List UInt8→Prop}{α:Type}{s:TS}{R W:Nat}{m:M TS α}{Q:α→TS→Prop}(h:Step (MI P) s R W m Q)(i:s.ck.d.down=false)(hw:W≤Bm s.sp)(hl:R+W≤Ap s)(hs:R+W≤60000):Zs P s W Q (m s):=by
 have o:(MI P).room s=Bm s.sp:=by
  show (if s.ck.d.down=true then 0 else Bm s.sp)=_
  rw[i];rfl
 unfold Step at h
 rcases h with h|h
 · omega
 cases hm:m s with
 | ok a s' =>
   rw[hm] at h
   obtain ⟨b,c,j,k,f,l⟩:=h
   have g:Ap s≤Ap s'+(R+W):=f
   refine .ok a s' (fun hw=>?_) b c l (by omega)
   cases n:s'.ck.d.down with
   |false=>rfl
   | true =>
    exfalso
    have e0:(MI P).room s'=0:=by
     show (if s'.ck.d.down=true then 0 else Bm s'.sp)=_
     rw[n];rfl
    omega
 | fault e s' =>
   rw[hm] at h
   obtain ⟨b,c,j,k,f⟩:=h
   have g:Ap s≤Ap s'+(R+W):=f
   refine .no e s' (b.resolve_right (by omega)) c j (by omega)
 | bad =>
   rw[hm] at h
   have:Ap s<R+W:=h
   omega
theorem MB(u:List Int): ∀(l o:List Int),(u++l).Nodup→(BR l (u++l) o).1=u
 | [],o,_=>by rw[List.append_nil];rfl
 | k :: l, o, h => by
  have a:k∉u:=fun b=>by
   have:=(List.nodup_append.1 h).2.2 k b k (by simp)
   exact this rfl
  unfold BR
  rw[if_pos (by simp),List.erase_append_right _ a,List.erase_cons_head]
  refine MB u l _ ?_
  exact h.sublist (List.Sublist.append_left (List.sublist_cons_self k l) u)
theorem Si{s s':TS}(d:Grow s s')(b:s'.sp.used.Nodup):(s'.Ds s.sp.taken.length).sp.used=s.sp.used:=by
 obtain ⟨⟨l,c,a⟩,e,f,g⟩:=d
 show (BR (s'.sp.taken.drop s.sp.taken.length) s'.sp.used []).1=_
 rw[c,List.drop_left,a]
 rw[a] at b
 exact MB _ l [] b
theorem Ep.DW{P:Int→List UInt8→Prop}{s:TS}(h:Ep P s){k:Int}{b c:List UInt8}(hp:P k b)(a:Has s.ck k c):Bg (Au s.ck.d s.ck.nm) k c:=by
 rcases a with a|a
 ·have g:Bf s.ck.its k=true:=by rw[h.ts.ok.same k,a];rfl
  obtain ⟨n,f,e⟩:=List.mem_map.1 (Bb.1 g)
  subst e
  refine h.AG.clean n f ?_ c a
  cases hm:n.Hr with
  |false=>rfl
  |true=>exact absurd hp (h.kept.Ca n f hm b)
 exact a.2
theorem Vd{P Q:Int→List UInt8→Prop}{s:Ck}(h:Kept P s)(hq: ∀k b,Q k b→P k b):Kept Q s:=
 ⟨h.le,fun k b a=>h.safe k b (hq k b a),fun p hp c=>by obtain ⟨x,d,e⟩:=h.AO p hp c;exact ⟨x,d,fun k b a=>e k b (hq k b a)⟩,fun n c hm b hb=>h.Ca n c hm b (hq _ _ hb)⟩
def Yt(V:Int→Option Nd):Env TS where
 rd:=Ah
 wt:=Ag
 V:=fun _=>V
 inv:=Yg V 0
 reads _:=0
 room _:=0
 left:=Ap
 bad _:=False
theorem Yu(V:Int→Option Nd)(e: ∀p n,V p=some n→p≠0):(Yt V).Ok where
 rd s p n hI hn := by
  unfold Step
  right
  by_cases b:s.ops<Bu
  · obtain ⟨s',c,f,g,i,d⟩:=Yg.Z' hI b (e p n hn)
    have a:V p=some n:=hn
    rw[show (Yt V).rd p s=Ah p s from rfl,d,a]
    refine ⟨c,Le.KX _,Nat.zero_le _,Nat.zero_le _,?_,rfl⟩
    show Ap s≤Ap s'+1
    unfold Ap
    omega
  have:Ah p s= .bad:=by
   unfold Ah M.bind Mo
   rw[if_neg b]
   rfl
  rw[show (Yt V).rd p s=Ah p s from rfl,this]
  show Ap s<1
  unfold Ap
  omega
 wt s n hI hm:= .inl (Nat.lt_succ_self 0)
theorem Xz{V:Int→Option Nd}{s:TS}(h:Yg V 0 s)(c: ∀p n,V p=some n→p≠0){root:Int}{l:List As}(hr:Rt V root l)(hl:2047≤Ap s): ∃s',F4 Ah root s= .ok l s':=by
 have hs:=Um (Yu V c) (s:=s) h hr
 unfold Step at hs
 rcases hs with hs|hs
 ·exact absurd hs (Nat.not_lt_zero _)
 have e:F4 (Yt V).rd root s=F4 Ah root s:=rfl
 rw[e] at hs
 cases hm:F4 Ah root s with
 | ok a s' =>
  rw[hm] at hs
  obtain ⟨b,d,f,g,i,rfl⟩:=hs
  exact ⟨s',rfl⟩
 | fault n s' =>
  rw[hm] at hs
  rcases hs.1 with b|b
  ·exact b.elim
  exact absurd b (Nat.not_lt_zero _)
 | bad =>
  rw[hm] at hs
  have:Ap s<2047+0:=hs
  omega
theorem Ep.X1{P:Int→List UInt8→Prop}{s:TS}(h:Ep P s){d':Dk}(e:d'.get s.ck.nm=s.ck.d.get s.ck.nm)(hp: ∀p∈d'.AO,p∈s.ck.d.AO)(t:d'.AO.length≤s.ck.d.AO.length)(r:Pf.EK d' s.ck.nm)(i: ∀m,Ok m s.ck.d→Ok m d')
 (y:d'.changes≤s.ck.d.changes) (hl: -(2*s.ops:Int)≤d'.left):Ep P ⟨{ s.ck with d:=d' },s.sp,s.ops⟩∧Le (nodeAt s) (nodeAt ⟨{ s.ck with d:=d' },s.sp,s.ops⟩):=by
 have a:Au d' s.ck.nm=Au s.ck.d s.ck.nm:=by unfold Au;rw[e]
 have es:CD d' s.ck.nm=CD s.ck.d s.ck.nm:=by unfold CD;rw[e]
 have j:DX d' s.ck.nm=DX s.ck.d s.ck.nm:=by unfold DX;rw[e]
 obtain ⟨⟨m,hm⟩,⟨z,B,D,n4,u⟩,v,w,x⟩:=h.ts
 refine ⟨⟨⟨⟨m,hm.D9 (Nat.le_refl _) (i m hm.dk)⟩,⟨by show d'.changes≤2*s.ops;omega,hl,?_,n4,?_⟩,v,w,x⟩,⟨r,h.AG.pins,?_,?_,h.AG.top.2⟩,h.res,h.used,h.nd,⟨?_,?_,?_,h.kept.Ca⟩,h.sub,?_⟩,CK ?_⟩
 ·show d'.AO.length≤512*s.ops+(Au d' s.ck.nm).length;rw[a];omega
 ·show (Au d' s.ck.nm).length≤_;rw[a];exact u
 ·intro n g f b hb
  show Bg (Au d' s.ck.nm) n.key b
  rw[a]
  exact h.AG.clean n g f b hb
 ·show (Au d' s.ck.nm).length≤_;rw[a];exact h.AG.top.1
 ·show (CD d' s.ck.nm).length≤(Au d' s.ck.nm).length;rw[a,es];exact h.kept.le
 ·intro k b f
  show Bg (CD d' s.ck.nm) k b
  rw[es];exact h.kept.safe k b f
 ·exact fun p hq g=>h.kept.AO p (hp p hq) g
 ·intro p b hb
  show DX d' s.ck.nm=true
  rw[j];exact h.sure p b hb
 intro p n ⟨l,b,c,o⟩
 refine ⟨l,b,?_,o⟩
 rcases c with c|⟨c,q⟩
 ·exact .inl c
 refine .inr ⟨c,?_⟩
 show Bg (Au d' s.ck.nm) p b
 rw[a];exact q
