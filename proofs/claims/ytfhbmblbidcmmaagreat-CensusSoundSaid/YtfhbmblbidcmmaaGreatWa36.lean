/- censusSound holds for every input. No condition. (part 36) -/
import Derived.Test.YtfhbmblbidcmmaaGreatWa9
set_option linter.all false
namespace Go.Proofs.YtfhbmblbidcmmaaGreat.Pf
open Go.Dk
structure Da (d:Dk) (nm:ByteArray):Prop where
 Aq:Dk.named nm=true
 nf:d.files.length+(if (d.get nm).isSome then 0 else 1)≤8
def dn(d:Dk):Dk:= { d with down:=true }
theorem dV{d:Dk}(h:d.down=true):dn d=d:=by
 cases d
 simp only at h
 subst h
 rfl
theorem Da.gI{d:Dk}{nm:ByteArray}(h:Da d nm):Da (dn d) nm:=⟨h.Aq,h.nf⟩
structure Wr (d:Dk) (nm:ByteArray) (k:Nat) (b:List UInt8) (d':Dk):Prop where
 le:k≤(A0 d nm).length
 ne:b.length≠0
 BU:Da d' nm
 now:A0 d' nm=laid (A0 d nm) k b
 safe:Gd d' nm=Gd d nm
 sure:QA d' nm=QA d nm
 BN:d'.BN=d.BN++FF nm k b
 room:d'.room=d.room
 other: ∀n,n≠nm→d'.get n=d.get n
 only:Jk d' nm=Jk d nm
 nN:(d'.get nm).isSome=true
 down:d'.down=d.down
 FZ:d'.FZ=d.FZ
theorem RS{d:Dk}{nm:ByteArray}(g:Da d nm)(a:d.down=true)(k:Int)(b:List UInt8):d.write nm k b=(8,dn d):=by
 have hm:d.may nm false=8:=by unfold Dk.may;simp[g.Aq,a]
 unfold Dk.write
 rw[if_pos (by rw[hm];decide),hm,dV a]
theorem Tw{d:Dk}{nm:ByteArray}(g:Da d nm){k:Nat}{b:List UInt8}(m:k≤(A0 d nm).length)(hb:b.length≠0):
 (d.write nm k b=(7,d)∨d.write nm k b=(8,dn d)∨((d.write nm k b).1=0∧Wr d nm k b (d.write nm k b).2))∧
 (Jk d nm+((max (A0 d nm).length (k+b.length):Nat):Int)≤d.room→(d.write nm k b).1≠7):=by
 cases a:d.down with
 | true =>
   have:=RS g a k b
   rw[this]
   exact ⟨.inr (.inl rfl),fun _=>by simp⟩
 |false=>
 have hm:d.may nm false=0:=Si g.Aq a
 have i:=TA d nm
 have f: ¬(((d.get nm).isNone&&decide (16≤d.files.length))=true):=by
  have:=g.nf
  simp
  intro _
  omega
 have e:d.write nm k b=if d.fits (d.get nm) (max (Ff (d.get nm)) (k+b.length))≠0 then (d.fits (d.get nm) (max (Ff (d.get nm)) (k+b.length)),d) else if d.stop then (8,dn d) else (0,d.written nm k b):=by
  unfold Dk.write
  rw[if_neg (by simp[hm]),if_neg (by rw[i];omega),if_neg hb]
  split
  · rfl
  rfl
 have l:d.fits (d.get nm) (max (Ff (d.get nm)) (k+b.length))=0∨d.fits (d.get nm) (max (Ff (d.get nm)) (k+b.length))=7:=by
  unfold Dk.fits
  rw[if_neg f]
  split
  · exact .inr rfl
  exact .inl rfl
 have j:Wr d nm k b (d.written nm k b):=by
  have c:(d.written nm k b).get nm=some { (d.get nm).getD Dk.Jv with now:=laid ((d.get nm).getD Dk.Jv).now k b } :=by
   unfold Dk.get Dk.written Dk.put
   simp only
   rw[CH,if_pos rfl]
   rfl
  refine ⟨m,hb,⟨g.Aq,?_⟩,?_,?_,by (unfold QA;rw[c];rfl),rfl,rfl,?_,?_,by rw[c];rfl,rfl,rfl⟩
  · rw[c]
    show (D9 nm _ d.files).length+_≤8
    rw[Hn]
    have:=g.nf
    unfold Dk.get at this
    simp only[Option.isSome_some,if_true]
    split
    · rename_i h;rw[if_pos h] at this;omega
    rename_i h;rw[if_neg h] at this;omega
  · unfold A0;rw[c];rfl
  · unfold Gd;rw[c];rfl
  · intro n o
    unfold Dk.get Dk.written Dk.put
    simp only
    rw[CH,if_neg o]
    rfl
  exact Sv rfl
 constructor
 · rcases l with h|h
   · right
     rw[e,if_neg (by simp[h])]
     cases p:d.stop with
     |true=>exact .inl rfl
     |false=>exact .inr ⟨rfl,j⟩
   left
   rw[e,if_pos (by rw[h];decide),h]
 intro hr
 have h:d.fits (d.get nm) (max (Ff (d.get nm)) (k+b.length))=0:=by
  unfold Dk.fits
  rw[if_neg f,if_neg]
  unfold Jk at hr
  simp
  intro _
  rw[i] at*
  omega
 rw[e,if_neg (by simp[h])]
 split<;>simp
theorem Wr.EX{d d':Dk}{nm:ByteArray}{k:Nat}{b:List UInt8}(h:Wr d nm k b d'){j:Int}{c:List UInt8}(f:BR (A0 d nm) j c)(e:k+b.length≤256*j.toNat∨256*j.toNat+256≤k):BR (A0 d' nm) j c:=by
 obtain ⟨h0,h1,a⟩:=f
 refine ⟨h0,?_,?_⟩
 ·rw[h.now,De];omega
 rw[h.now,QI h1 e];exact a
theorem Wr.Au{d d':Dk}{nm:ByteArray}{j:Int}{b:List UInt8}(h:Wr d nm (256*j.toNat) b d')(hb:b.length=256)(h0:0≤j):BR (A0 d' nm) j b:=by
 refine ⟨h0,?_,?_⟩
 ·rw[h.now,De,hb];omega
 rw[h.now]
 have:=XL (l:=A0 d nm) (b:=b) (k:=256*j.toNat)
 rw[hb] at this
 exact this
theorem fR{d:Dk}{nm:ByteArray}(a:Dk.named nm=true)(b:d.down=false):max 0 (d.size nm)=((A0 d nm).length:Int):=by
 unfold Dk.size A0
 by_cases h:(d.get nm).isSome=true
 ·obtain ⟨f,e⟩:=Option.isSome_iff_exists.1 h
  rw[if_neg (by rw[Fp a b e];simp)]
  omega
 have c:d.get nm=none:=by simpa using h
 rw[if_pos (by rw[I7 a b c];decide),c]
 simp[Dk.Jv]
 rfl
theorem JS{m:Nat}{s:Ck}(ok:Bm m s)(g:Da s.d s.nm){no:Int}{b:List UInt8}(w:s.CD no=true)(hb:BI no s.CV=some b):
 (∃a,(a=s.d∨ ∃n,Wr s.d s.nm (A0 s.d s.nm).length (List.replicate n 0) a∧(A0 s.d s.nm).length+n=256*no.toNat)∧Da a s.nm∧
   (s.write no=(7, { s with d:=a })∨s.write no=(8, { s with d:=dn a })∨ ∃l,Wr a s.nm (256*no.toNat) b l∧s.write no=(0, { s with d:=l,its:=Bu s.its no false })))∧
 (Jk s.d s.nm+((max (A0 s.d s.nm).length (256*no.toNat+256):Nat):Int)≤s.d.room→(s.write no).1≠7):=by
 obtain ⟨hl,h0,h1⟩:=ok.Au _ (J6 hb)
 simp only at hl h0 h1
 have hp: ∀d,Ck.Au { s with d:=d } no=b:=by intro d;unfold Ck.Au;rw[hb];rfl
 have u:no*256=((256*no.toNat:Nat):Int):=by omega
 have f : ∀ a, Da a s.nm → 256 * no.toNat ≤ (A0 a s.nm).length →
  ((Ck.B4 { s with d := a } no = (7, { s with d := a }) ∨ Ck.B4 { s with d := a } no = (8, { s with d := dn a }) ∨ ∃ l, Wr a s.nm (256 * no.toNat) b l ∧ Ck.B4 { s with d := a } no = (0, { s with d := l, its := Bu s.its no false })) ∧
   (Jk a s.nm+((max (A0 a s.nm).length (256*no.toNat+256):Nat):Int)≤a.room→(Ck.B4 { s with d:=a } no).1≠7)):=by
  intro a y t
  obtain ⟨hw,hr⟩:=Tw y (k:=256*no.toNat) (b:=b) t (by omega)
  have e:Ck.B4 { s with d:=a } no=if (a.write s.nm ((256*no.toNat:Nat):Int) b).1=0 then (0, { s with d:=(a.write s.nm ((256*no.toNat:Nat):Int) b).2,its:=Bu s.its no false }) else ((a.write s.nm ((256*no.toNat:Nat):Int) b).1, { s with d:=(a.write s.nm ((256*no.toNat:Nat):Int) b).2 }):=by
   unfold Ck.B4
   rw[hp a,←u]
  constructor
  · rcases hw with hw|hw|⟨hw1,hw2⟩
    · left
      rw[e,hw,if_neg (by simp)]
    · right;left
      rw[e,hw,if_neg (by simp)]
    right;right
    exact ⟨_,hw2,by rw[e,if_pos hw1]⟩
  intro c
  have:=hr (by rw[hl];exact c)
  rw[e]
  split
  · simp
  exact this
 cases j:s.d.down with
 | true =>
   have z:s.d.size s.nm= -1:=by
    have hm:s.d.may s.nm true=8:=by unfold Dk.may;simp[g.Aq,j]
    unfold Dk.size
    rw[if_pos (by rw[hm];decide)]
   have o:s.write no=(8, { s with d:=dn s.d }):=by
    unfold Ck.write
    rw[if_neg (by simp[w]),z]
    split
    · have:s.pad no=(8,dn s.d):=by unfold Ck.pad;exact RS g j _ _
      rw[this,if_neg (by simp)]
    unfold Ck.B4
    rw[RS g j,if_neg (by simp)]
   exact ⟨⟨s.d,.inl rfl,g,.inr (.inl o)⟩,fun _=>by rw[o];simp⟩
 |false=>
 have v:max 0 (s.d.size s.nm)=((A0 s.d s.nm).length:Int):=fR g.Aq j
 have i:s.write no=if max 0 (s.d.size s.nm)<no*256 then (if (s.pad no).1=0 then Ck.B4 { s with d:=(s.pad no).2 } no else ((s.pad no).1, { s with d:=(s.pad no).2 })) else s.B4 no:=by
  unfold Ck.write
  rw[if_neg (by simp[w])]
 by_cases q:max 0 (s.d.size s.nm)<no*256
 · rw[if_pos q] at i
   have x:(A0 s.d s.nm).length<256*no.toNat:=by omega
   have p:s.pad no=s.d.write s.nm ((A0 s.d s.nm).length:Int) (List.replicate (256*no.toNat-(A0 s.d s.nm).length) 0):=by
    unfold Ck.pad
    rw[v]
    congr 2
    omega
   obtain ⟨hw,hr⟩:=Tw g (k:=(A0 s.d s.nm).length) (b:=List.replicate (256*no.toNat-(A0 s.d s.nm).length) 0) (Nat.le_refl _) (by rw[List.length_replicate];omega)
   rw[←p] at hw hr
   rcases hw with hw|hw|⟨hw1,hw2⟩
   · refine ⟨⟨s.d,.inl rfl,g,.inl ?_⟩,fun c=>?_⟩
     · rw[i,hw,if_neg (by simp)]
     exfalso
     have:=hr (by rw[List.length_replicate];omega)
     rw[hw] at this;exact this rfl
   · have o:s.write no=(8, { s with d:=dn s.d }):=by rw[i,hw,if_neg (by simp)]
     exact ⟨⟨s.d,.inl rfl,g,.inr (.inl o)⟩,fun _=>by rw[o];simp⟩
   rw[if_pos hw1] at i
   have r:(A0 (s.pad no).2 s.nm).length=256*no.toNat:=by rw[hw2.now,De,List.length_replicate];omega
   obtain ⟨s1,s2⟩:=f (s.pad no).2 hw2.BU (by omega)
   refine ⟨⟨(s.pad no).2,.inr ⟨_,hw2,by omega⟩,hw2.BU,?_⟩,fun c=>?_⟩
   · rw[i];exact s1
   rw[i];exact s2 (by rw[r,hw2.room,hw2.only];omega)
 rw[if_neg q] at i
 obtain ⟨s1,s2⟩:=f s.d g (by omega)
 refine ⟨⟨s.d,.inl rfl,g,?_⟩,fun c=>?_⟩
 · rw[i];exact s1
 rw[i];exact s2 c
structure Good (T:Nat) (s:Ck):Prop where
 BU:Da s.d s.nm
 pins: ∀n∈s.its,n.pins=0
 clean: ∀n∈s.its,n.J1=false→ ∀b,BI n.key s.CV=some b→BR (A0 s.d s.nm) n.key b
 top:(A0 s.d s.nm).length≤256*T∧ ∀n∈s.its,n.key.toNat<T
theorem o0{P:Int→List UInt8→Prop}{s:Ck}(h:Kept P s){e f:Dk}{k:Nat}{b:List UInt8}(i:Kept P { s with d:=e })(hw:Wr e s.nm k b f)(g: ∀j c,P j c→k+b.length≤256*j.toNat∨256*j.toNat+256≤k):Kept P { s with d:=f } :=by
 refine ⟨?_,?_,?_,h.CD⟩
 ·show (Gd f s.nm).length≤(A0 f s.nm).length
  rw[hw.safe,hw.now,De]
  have:=i.le
  have n:(Gd e s.nm).length≤(A0 e s.nm).length:=this
  omega
 ·intro j c m
  show BR (Gd f s.nm) j c
  rw[hw.safe]
  exact i.safe j c m
 intro p hp q
 have a:p∈e.BN++FF s.nm k b:=by rw[←hw.BN];exact hp
 rcases List.mem_append.1 a with a|a
 ·exact i.BN p a q
 obtain ⟨_,l,h1,n,r⟩:=JK s.nm b.length k b (Nat.le_refl _) p a
 refine ⟨l,h1,fun j c m=>?_⟩
 rcases g j c m with o|o
 ·left;omega
 right;omega
theorem iW{P:Int→List UInt8→Prop}{s:Ck}{d:Dk}(h:Kept P { s with d:=d }):Kept P { s with d:=dn d } :=⟨h.le,h.safe,h.BN,h.CD⟩
structure FY (T:Nat) (s:Ck) (no:Int) (e:Int) (s':Ck):Prop where
 code:e=0∨e=7∨e=8
 gI:(e=8→s'.d.down=true)∧(e≠8→s'.d.down=s.d.down)
 Bn:Good T s'
 EX: ∀k b,k≠no→BR (A0 s.d s.nm) k b→BR (A0 s'.d s.nm) k b
 Au:e=0→ ∀b,BI no s.CV=some b→BR (A0 s'.d s.nm) no b
 roomy:Roomy T s→e≠7∧Roomy T s'
 kept: ∀P,Kept P s→Kept P s'
 inv: ∀Q:Dk→Prop,(∀d k b d',Q d→Wr d s.nm k b d'→Q d')→(∀d,Q d→Q (dn d))→Q s.d→Q s'.d
 done:e=0→ ∀n∈s'.its,n.key=no→n.J1=false
theorem Jd{m T:Nat}{s:Ck}{no:Int}(ok:Bm m s)(g:Good T s)(hh:Bx s.its no=true):FY T s no (s.write no).1 (s.write no).2:=by
 obtain ⟨b,hb,z,h0,h1⟩:=ok.key hh
 cases U:s.CD no with
 | false =>
  have e:s.write no=(0,s):=by unfold Ck.write;rw[if_pos U]
  rw[e]
  have R: ∀n∈s.its,n.key=no→n.J1=false:=by
   intro n f l
   cases hm:n.J1 with
   |false=>rfl
   |true=>rw[Hj.2 ⟨n,f,hm,l⟩] at U;cases U
  refine ⟨.inl rfl,⟨(fun h=>by cases h),fun _=>rfl⟩,g,fun k b _ h=>h,fun _ b hb=>?_,fun h=>⟨by simp,h⟩,fun P h=>h,fun Q _ _ h=>h,fun _=>R⟩
  obtain ⟨n,f,l⟩:=List.mem_map.1 (Br.1 hh)
  have:=g.clean n f (R n f l)
  rw[l] at this
  exact this b hb
 | true =>
  obtain ⟨⟨y,r,V,H⟩,M⟩:=JS ok g.BU U hb
  obtain ⟨nd,K,Z,J⟩:=Hj.1 U
  have a2:no.toNat<T:=by have:=g.top.2 nd K;rw[J] at this;exact this
  have a: ∀k c,BR (A0 s.d s.nm) k c→BR (A0 y s.nm) k c:=by
   intro k c h
   rcases r with rfl|⟨n,hw,_⟩
   · exact h
   exact hw.EX h (.inr h.2.1)
  have w:(A0 y s.nm).length≤256*T:=by
   rcases r with rfl|⟨n,hw,f⟩
   · exact g.top.1
   rw[hw.now,De,List.length_replicate];omega
  have q:Jk y s.nm=Jk s.d s.nm∧y.room=s.d.room:=by
   rcases r with rfl|⟨n,hw,f⟩
   · exact ⟨rfl,rfl⟩
   exact ⟨hw.only,hw.room⟩
  have v: ∀P,Kept P s→Kept P { s with d:=y } :=by
   intro P h
   rcases r with rfl|⟨n,hw,f⟩
   · exact h
   refine o0 h h hw fun j c X=> .inr ?_
   have:=(h.safe j c X).2.1
   have:=h.le
   omega
  have D:y.down=s.d.down:=by
   rcases r with rfl|⟨n,hw,f⟩
   · rfl
   exact hw.down
  have u: ∀Q:Dk→Prop,(∀d k b d',Q d→Wr d s.nm k b d'→Q d')→Q s.d→Q y:=by
   intro Q B h
   rcases r with rfl|⟨n,hw,f⟩
   · exact h
   exact B _ _ _ _ h hw
  have a5: ∀n∈s.its,n.key=no→n=nd:=fun n f l=>RV ok.Mi.nd f K (l.trans J.symm)
  have L:Roomy T s→(s.write no).1≠7:=by
   intro r2
   unfold Roomy at r2
   refine M ?_
   have:=g.top.1
   omega
  rcases H with p|p|⟨O,hw2,p⟩
  · rw[p] at L⊢
    refine ⟨.inr (.inl rfl),⟨(fun h=>by cases h),fun _=>D⟩,⟨V,g.pins,?_,⟨w,g.top.2⟩⟩,fun k c _ h=>a k c h,(fun h=>by cases h),fun h=>absurd rfl (L h),v,fun Q B _ h=>u Q B h,(fun h=>by cases h)⟩
    intro n f hm c p
    exact a _ _ (g.clean n f hm c p)
  · rw[p] at L⊢
    refine ⟨.inr (.inr rfl),⟨fun _=>rfl,fun h=>absurd rfl h⟩,⟨V.gI,g.pins,?_,⟨w,g.top.2⟩⟩,fun k c _ h=>a k c h,(fun h=>by cases h),fun h=>⟨by simp,?_⟩,fun P h=>iW (v P h),fun Q B hD h=>hD _ (u Q B h),(fun h=>by cases h)⟩
    · intro n f hm c p
      exact a _ _ (g.clean n f hm c p)
    have Y:Jk s.d s.nm+((256*T:Nat):Int)≤s.d.room:=h
    show Jk y s.nm+_≤y.room
    rw[q.1,q.2]
    exact Y
  rw[p]
  have t: ∀k c,k≠no→BR (A0 s.d s.nm) k c→BR (A0 O s.nm) k c:=by
   intro k c l h
   have h3:=a k c h
   refine hw2.EX h3 ?_
   rw[z]
   have:=h.1
   rcases Int.lt_trichotomy k no with G|G|G
   · right;omega
   · exact absurd G l
   left;omega
  have W:BR (A0 O s.nm) no b:=hw2.Au z h0
  refine ⟨.inl rfl,⟨(fun h=>by cases h),fun _=>hw2.down.trans D⟩,⟨hw2.BU,?_,?_,?_,?_⟩,t,fun _ c p=>?_,fun h=>⟨by simp,?_⟩,?_,fun Q B _ h=>B _ _ _ _ (u Q B h) hw2,?_⟩
  · intro n f
    have i:n∈Bu s.its no false:=f
    unfold Bu Ti at i
    obtain ⟨x,hx,rfl⟩:=List.mem_map.1 i
    have:=g.pins x hx
    split<;>exact this
  · intro n f hm c p
    have i:n∈Bu s.its no false:=f
    unfold Bu Ti at i
    obtain ⟨x,hx,rfl⟩:=List.mem_map.1 i
    have o:BI (if x.key=no then { x with J1:=false } else x).key s.CV=some c:=p
    by_cases l:x.key=no
    · rw[if_pos l] at o⊢
      simp only at o⊢
      rw[l] at o⊢
      rw[hb] at o
      cases o
      exact W
    rw[if_neg l] at o hm⊢
    exact t _ _ l (g.clean x hx hm c o)
  · show (A0 O s.nm).length≤256*T
    rw[hw2.now,De,z];omega
  · intro n f
    have i:n∈Bu s.its no false:=f
    unfold Bu Ti at i
    obtain ⟨x,hx,rfl⟩:=List.mem_map.1 i
    have:=g.top.2 x hx
    split<;>exact this
  · rw[hb] at p;cases p;exact W
  · show Jk O s.nm+_≤O.room
    rw[hw2.room,q.2,hw2.only,q.1];exact h
  · intro P h
    have Y:=o0 h (v P h) hw2 (by
     intro j c X
     rw[z]
     have a0:j≠no:=fun e=>by
      have:=h.CD nd K Z c
      rw[J,←e] at this
      exact this X
     have:=(h.safe j c X).1
     rcases Int.lt_trichotomy j no with G|G|G
     · right;omega
     · exact absurd G a0
     left;omega)
    exact Kept.marks Y no
  intro _ n f l
  have i:n∈Bu s.its no false:=f
  unfold Bu Ti at i
  obtain ⟨x,hx,rfl⟩:=List.mem_map.1 i
  by_cases I:x.key=no
  · rw[if_pos I]
  rw[if_neg I] at l;exact absurd l I
structure Out (T:Nat) (s:Ck) (e:Int) (s':Ck):Prop where
 inv: ∀Q:Dk→Prop,(∀d k b d',Q d→Wr d s.nm k b d'→Q d')→(∀d,Q d→Q (dn d))→Q s.d→Q s'.d
 code:e=0∨e=7∨e=8
 gI:(e=8→s'.d.down=true)∧(e≠8→s'.d.down=s.d.down)
 Bn:Good T s'
 has: ∀k b,Has s k b→Has s' k b
 EX: ∀k b,Bx s.its k=false→BR (A0 s.d s.nm) k b→BR (A0 s'.d s.nm) k b
 roomy:Roomy T s→e≠7∧Roomy T s'
 kept: ∀P,Kept P s→Kept P s'
 nm:s'.nm=s.nm
theorem FY.out{m T:Nat}{s:Ck}{no:Int}(ok:Bm m s)(c:Bx s.its no=true)(h:FY T s no (s.write no).1 (s.write no).2):Out T s (s.write no).1 (s.write no).2:=by
 obtain ⟨e,g,i,f,j⟩:=BW s no
 refine ⟨h.inv,h.code,h.gI,h.Bn,?_,?_,h.roomy,h.kept,e⟩
 ·intro k b a
  unfold Has at a⊢
  rw[f,e]
  rcases a with a|⟨a,d⟩
  ·exact .inl a
  refine .inr ⟨a,h.EX k b ?_ d⟩
  rintro rfl
  rw[ok.same,a] at c;cases c
 intro k b a d
 refine h.EX k b ?_ d
 rintro rfl
 rw[a] at c;cases c
theorem IP{m T:Nat}{s:Ck}{no:Int}(ok:Bm m s)(g:Good T s)(u:DB s.its no=true):Out T s (s.release no).1 (s.release no).2:=by
 have r:=E0 u
 have hw:=Jd ok g r
 have a:=hw.out ok r
 have p:=FC ok r
 obtain ⟨y,H,I,J,D⟩:=BW s no
 have v:DB (s.write no).2.its no=true:=by
  rcases D with e|e
  · rw[e];exact u
  rw[e,Ir];exact u
 unfold Ck.release
 by_cases t:(s.write no).1=0
 · rw [if_pos t]
   simp only[v,if_true]
   obtain ⟨G,j,_⟩:=ok.key r
   refine ⟨a.inv,.inl rfl,⟨(fun h=>by cases h),fun _=>a.gI.2 (by rw[t];decide)⟩,⟨a.Bn.BU,?_,?_,a.Bn.top.1,?_⟩,?_,a.EX,?_,?_,y⟩
   · intro n f;exact a.Bn.pins n (List.mem_filter.1 f).1
   · intro n f hm c B
     have x:n.key≠no:=by have:=(List.mem_filter.1 f).2;simpa using this
     have l:BI n.key (Gl no (s.write no).2.CV)=some c:=B
     rw[FW p.nd,if_neg x] at l
     exact a.Bn.clean n (List.mem_filter.1 f).1 hm c l
   · intro n f;exact a.Bn.top.2 n (List.mem_filter.1 f).1
   · intro k b i
     have w:=a.has k b i
     unfold Has
     show BI k (Gl no (s.write no).2.CV)=some b∨BI k (Gl no (s.write no).2.CV)=none∧BR (A0 (s.write no).2.d (s.write no).2.nm) k b
     rw[FW p.nd]
     by_cases o:k=no
     ·subst o
      rw[if_pos rfl]
      refine .inr ⟨rfl,?_⟩
      rw[y]
      rcases i with i|⟨i,_⟩
      ·exact hw.Au t b i
      rw[i] at j;cases j
     rw[if_neg o];exact w
   · intro hr;exact ⟨by simp,(a.roomy hr).2⟩
   intro P z
   have q:=a.kept P z
   exact ⟨q.le,q.safe,q.BN,fun n f hm=>q.CD n (List.mem_filter.1 f).1 hm⟩
 rw[if_neg t]
 exact a
theorem Out.refl{T:Nat}{s:Ck}(g:Good T s):Out T s 0 s:=⟨fun Q _ _ h=>h,.inl rfl,⟨(fun h=>by cases h),fun _=>rfl⟩,g,fun k b h=>h,fun k b _ h=>h,fun h=>⟨by simp,h⟩,fun P h=>h,rfl⟩
theorem Ki{m T:Nat}{s:Ck}(ok:Bm m s)(g:Good T s):Out T s s.room.1 s.room.2:=by
 unfold Ck.room
 by_cases c:(s.CV.length:Int)<s.cap
 ·rw[if_pos c];exact Out.refl g
 rw[if_neg c]
 cases b:NQ s.its with
 | none =>
  exfalso
  have h1:=ok.cap
  have e:=ok.len
  have d:0<s.its.length:=by omega
  obtain ⟨n,a⟩:=List.exists_mem_of_length_pos d
  have:=List.find?_eq_none.1 b n a
  simp[g.pins n a] at this
 |some n=>exact IP ok g (LJ b)
theorem Lp{d:Dk}{nm:ByteArray}(g:Da d nm){no:Int}(h0:0≤no):
 (256*no.toNat+256≤(A0 d nm).length∧d.read nm (no*256) 256=(0,((A0 d nm).drop (256*no.toNat)).take 256))∨
 ((A0 d nm).length<256*no.toNat+256∧((d.read nm (no*256) 256).1=2∨(d.read nm (no*256) 256).1=6))∨(d.down=true∧(d.read nm (no*256) 256).1=8):=by
 cases a:d.down with
 | true =>
  refine .inr (.inr ⟨rfl,?_⟩)
  have hm:d.may nm true=8:=by unfold Dk.may;simp[g.Aq,a]
  unfold Dk.read
  rw[if_pos (by rw[hm];decide),hm]
 | false =>
  cases b:d.get nm with
  | none =>
   right;left
   refine ⟨by unfold A0;rw[b];simp[Dk.Jv],.inr ?_⟩
   unfold Dk.read
   have:=I7 g.Aq a b
   rw[if_pos (by rw[this];decide),this]
  | some f =>
   have hm:=Fp (t:=true) g.Aq a b
   have e:A0 d nm=f.now:=by unfold A0;rw[b];rfl
   rw[e]
   unfold Dk.read
   rw[if_neg (by simp[hm]),b]
   simp only[Option.getD_some]
   by_cases hl:256*no.toNat+256≤f.now.length
   ·left
    refine ⟨hl,?_⟩
    rw[if_neg (by omega)]
    have c:(no*256).toNat=256*no.toNat:=by omega
    rw[c];rfl
   right;left
   refine ⟨by omega,.inl ?_⟩
   rw[if_pos (by omega)]
structure V6 (T:Nat) (s:Ck) (no:Int) (e:Int) (c:List UInt8) (s':Ck):Prop where
 inv: ∀Q:Dk→Prop,(∀d k b d',Q d→Wr d s.nm k b d'→Q d')→(∀d,Q d→Q (dn d))→Q s.d→Q s'.d
 code:e=0∨e=7∨e=8∨e=6
 gI:(e=8→s'.d.down=true)∧(e≠8→s'.d.down=s.d.down)
 Bn:Good T s'
 has: ∀k b,Has s k b→Has s' k b
 lH: ∀b,Has s no b→e=7∨e=8∨(e=0∧c=b)
 len:e=0→c.length=256
 none:e≠0→c= []
 roomy:Roomy T s→e≠7∧Roomy T s'
 kept: ∀P,Kept P s→Kept P s'
 nm:s'.nm=s.nm
theorem Ly{m T : Nat}{s : Ck}{no : Int}(ok : Bm m s)(g : Good T s)(h0 : 0 ≤ no)(h1 : no < 1048576) : V6 T s no (s.get no).1 (s.get no).2.1 (s.get no).2.2 := by
 unfold Ck.get
 rw[if_neg (by omega)]
 cases r:Bx s.its no with
 | true =>
  rw[if_pos rfl]
  obtain ⟨b,hb,hl,_⟩:=ok.key r
  have hp:s.Au no=b:=by unfold Ck.Au;rw[hb];rfl
  simp only[hp]
  refine ⟨fun Q _ _ h=>h,.inl rfl,⟨(fun h=>by cases h),fun _=>rfl⟩,⟨g.BU,?_,?_,g.top.1,?_⟩,fun k b h=>h,?_,fun _=>hl,fun h=>absurd rfl h,fun h=>⟨by simp,h⟩,?_,rfl⟩
  · intro n a;exact g.pins n ((BO s.its no).mem_iff.1 a)
  · intro n a;exact g.clean n ((BO s.its no).mem_iff.1 a)
  · intro n a;exact g.top.2 n ((BO s.its no).mem_iff.1 a)
  · intro c i
    rcases i with i|⟨i,_⟩
    · rw[hb] at i;cases i;exact .inr (.inr ⟨rfl,rfl⟩)
    rw[hb] at i;cases i
  intro P p
  exact ⟨p.le,p.safe,p.BN,fun n a=>p.CD n ((BO s.its no).mem_iff.1 a)⟩
 | false =>
  rw[if_neg (by simp)]
  have u:BI no s.CV=none:=by
   have:=ok.same no
   rw[r] at this
   cases hp:BI no s.CV with
   |none=>rfl
   |some b=>rw[hp] at this;cases this
  rcases Lp g.BU h0 with ⟨hl,hr⟩|⟨hl,hr⟩|⟨x,hr⟩
  · simp only[hr]
    rw[if_pos trivial]
    obtain ⟨c,i⟩: ∃c,((A0 s.d s.nm).drop (256*no.toNat)).take 256=c:=⟨_,rfl⟩
    rw[i]
    have w:c.length=256:=by rw[←i];simp;omega
    have y:BR (A0 s.d s.nm) no c:=⟨h0,hl,i⟩
    have z:no.toNat<T:=by have:=g.top.1;omega
    have f:=Ki ok g
    obtain ⟨r1,K,J,L⟩:=LX ok
    have v: ∀b,Has s no b→c=b:=by
     intro b hb
     rcases hb with hb|⟨_,hb⟩
     · rw[u] at hb;cases hb
     rw[←i];exact hb.2.2
    unfold Ck.take
    by_cases q:s.room.1=0
    · rw [if_pos q]
      simp only[if_true]
      have B:Bx s.room.2.its no=false:=by
       rw[Bool.eq_false_iff];intro hx;rw[J no hx] at r;cases r
      refine ⟨f.inv,.inl rfl,⟨(fun h=>by cases h),fun _=>f.gI.2 (by rw[q];decide)⟩,⟨f.Bn.BU,?_,?_,f.Bn.top.1,?_⟩,?_,fun b hb=> .inr (.inr ⟨rfl,v b hb⟩),fun _=>w,fun h=>absurd rfl h,fun h=>⟨by simp,(f.roomy h).2⟩,?_,f.nm⟩
      · intro n a
        rcases List.mem_append.1 a with a|a
        ·exact f.Bn.pins n a
        simp at a;subst a;rfl
      · intro n a hm b hb
        have j:BI n.key (Ee no c s.room.2.CV)=some b:=hb
        rw[CZ] at j
        rcases List.mem_append.1 a with a|a
        ·have l:n.key≠no:=fun e=>by
          have:Bx s.room.2.its no=true:=Br.2 (List.mem_map.2 ⟨n,a,e⟩)
          rw[B] at this;cases this
         rw[if_neg l] at j
         exact f.Bn.clean n a hm b j
        simp at a
        subst a
        simp only[if_true] at j
        cases j
        show BR (A0 s.room.2.d s.room.2.nm) no c
        rw[f.nm]
        exact f.EX no c r y
      · intro n a
        rcases List.mem_append.1 a with a|a
        ·exact f.Bn.top.2 n a
        simp at a;subst a;exact z
      · intro k b G
        have o:=f.has k b G
        unfold Has
        show BI k (Ee no c s.room.2.CV)=some b∨BI k (Ee no c s.room.2.CV)=none∧BR (A0 s.room.2.d s.room.2.nm) k b
        rw[CZ]
        by_cases t:k=no
        ·subst t
         rw[if_pos rfl]
         rw[v b G]
         exact .inl rfl
        rw[if_neg t];exact o
      intro P p
      have o:=f.kept P p
      refine ⟨o.le,o.safe,o.BN,?_⟩
      intro n a hm b
      rcases List.mem_append.1 a with a|a
      · exact o.CD n a hm b
      simp at a;subst a;cases hm
    rw[if_neg q,if_neg q]
    have D:s.room.1=7∨s.room.1=8:=f.code.resolve_left q
    refine ⟨f.inv,.inr (D.elim .inl (fun h=> .inr (.inl h))),f.gI,f.Bn,f.has,fun b _=>D.elim .inl (fun h=> .inr (.inl h)),fun h=>absurd h q,fun _=>rfl,f.roomy,f.kept,f.nm⟩
  · simp only
    have l:(s.d.read s.nm (no*256) 256).1≠0:=by rcases hr with h|h<;>rw[h]<;>decide
    rw[if_neg l]
    have H:(if (s.d.read s.nm (no*256) 256).1=2 then 6 else (s.d.read s.nm (no*256) 256).1)=6:=by
     rcases hr with h|h
     · rw[if_pos h]
     rw[if_neg (by rw[h];decide),h]
    simp only[H]
    refine ⟨fun Q _ _ h=>h,.inr (.inr (.inr rfl)),⟨(fun h=>by cases h),fun _=>rfl⟩,g,fun k b h=>h,?_,(fun h=>by cases h),fun _=>rfl,fun h=>⟨by simp,h⟩,fun P h=>h,rfl⟩
    intro b hb
    rcases hb with hb|⟨_,hb⟩
    · rw[u] at hb;cases hb
    have:=hb.2.1;omega
  simp only
  rw[if_neg (by rw[hr];decide)]
  have I:(if (s.d.read s.nm (no*256) 256).1=2 then 6 else (s.d.read s.nm (no*256) 256).1)=8:=by rw[hr];rfl
  simp only[I]
  exact ⟨fun Q _ _ h=>h,.inr (.inr (.inl rfl)),⟨fun _=>x,fun h=>absurd rfl h⟩,g,fun k b h=>h,fun b _=> .inr (.inl rfl),(fun h=>by cases h),fun _=>rfl,fun h=>⟨by simp,h⟩,fun P h=>h,rfl⟩
