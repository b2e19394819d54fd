/- treeFails holds for every input. No condition. (part 36) -/
import Derived.Test.YtfhbmblbidcmmaaGreatYa13
set_option linter.all false
namespace Go.Proofs.YtfhbmblbidcmmaaGreat.Pf
open Go.Dk
structure EK (d:Dk) (nm:ByteArray):Prop where
 Mp:Dk.named nm=true
 nf:d.files.length+(if (d.get nm).isSome then 0 else 1)≤8
def dn(d:Dk):Dk:= { d with down:=true }
theorem Yp{d:Dk}(h:d.down=true):dn d=d:=by
 cases d
 simp only at h
 subst h
 rfl
theorem EK.UI{d:Dk}{nm:ByteArray}(h:EK d nm):EK (dn d) nm:=⟨h.Mp,h.nf⟩
structure Wr (d:Dk) (nm:ByteArray) (k:Nat) (b:List UInt8) (d':Dk):Prop where
 le:k≤(Au d nm).length
 ne:b.length≠0
 BK:EK d' nm
 now:Au d' nm=laid (Au d nm) k b
 safe:CD d' nm=CD d nm
 sure:DX d' nm=DX d nm
 AO:d'.AO=d.AO++Fz nm k b
 room:d'.room=d.room
 other: ∀n,n≠nm→d'.get n=d.get n
 only:Im d' nm=Im d nm
 x9:(d'.get nm).isSome=true
 down:d'.down=d.down
 D5:d'.D5=d.D5
theorem PJ{d:Dk}{nm:ByteArray}(g:EK d nm)(a:d.down=true)(k:Int)(b:List UInt8):d.write nm k b=(8,dn d):=by
 have hm:d.may nm false=8:=by unfold Dk.may;simp[g.Mp,a]
 unfold Dk.write
 rw[if_pos (by rw[hm];decide),hm,Yp a]
theorem Q6{d:Dk}{nm:ByteArray}(g:EK d nm){k:Nat}{b:List UInt8}(m:k≤(Au d nm).length)(hb:b.length≠0):
 (d.write nm k b=(7,d)∨d.write nm k b=(8,dn d)∨((d.write nm k b).1=0∧Wr d nm k b (d.write nm k b).2))∧
 (Im d nm+((max (Au d nm).length (k+b.length):Nat):Int)≤d.room→(d.write nm k b).1≠7):=by
 cases a:d.down with
 | true =>
   have:=PJ g a k b
   rw[this]
   exact ⟨.inr (.inl rfl),fun _=>by simp⟩
 |false=>
 have hm:d.may nm false=0:=PV g.Mp a
 have i:=QH d nm
 have f: ¬(((d.get nm).isNone&&decide (16≤d.files.length))=true):=by
  have:=g.nf
  simp
  intro _
  omega
 have e:d.write nm k b=if d.fits (d.get nm) (max (EN (d.get nm)) (k+b.length))≠0 then (d.fits (d.get nm) (max (EN (d.get nm)) (k+b.length)),d) else if d.stop then (8,dn d) else (0,d.written nm k b):=by
  unfold Dk.write
  rw[if_neg (by simp[hm]),if_neg (by rw[i];omega),if_neg hb]
  split
  · rfl
  rfl
 have l:d.fits (d.get nm) (max (EN (d.get nm)) (k+b.length))=0∨d.fits (d.get nm) (max (EN (d.get nm)) (k+b.length))=7:=by
  unfold Dk.fits
  rw[if_neg f]
  split
  · exact .inr rfl
  exact .inl rfl
 have j:Wr d nm k b (d.written nm k b):=by
  have c:(d.written nm k b).get nm=some { (d.get nm).getD Dk.Io with now:=laid ((d.get nm).getD Dk.Io).now k b } :=by
   unfold Dk.get Dk.written Dk.put
   simp only
   rw[Cs,if_pos rfl]
   rfl
  refine ⟨m,hb,⟨g.Mp,?_⟩,?_,?_,by (unfold DX;rw[c];rfl),rfl,rfl,?_,?_,by rw[c];rfl,rfl,rfl⟩
  · rw[c]
    show (Dj nm _ d.files).length+_≤8
    rw[FP]
    have:=g.nf
    unfold Dk.get at this
    simp only[Option.isSome_some,if_true]
    split
    · rename_i h;rw[if_pos h] at this;omega
    rename_i h;rw[if_neg h] at this;omega
  · unfold Au;rw[c];rfl
  · unfold CD;rw[c];rfl
  · intro n o
    unfold Dk.get Dk.written Dk.put
    simp only
    rw[Cs,if_neg o]
    rfl
  exact Qa rfl
 constructor
 · rcases l with h|h
   · right
     rw[e,if_neg (by simp[h])]
     cases p:d.stop with
     |true=>exact .inl rfl
     |false=>exact .inr ⟨rfl,j⟩
   left
   rw[e,if_pos (by rw[h];decide),h]
 intro hr
 have h:d.fits (d.get nm) (max (EN (d.get nm)) (k+b.length))=0:=by
  unfold Dk.fits
  rw[if_neg f,if_neg]
  unfold Im at hr
  simp
  intro _
  rw[i] at*
  omega
 rw[e,if_neg (by simp[h])]
 split<;>simp
theorem Wr.DW{d d':Dk}{nm:ByteArray}{k:Nat}{b:List UInt8}(h:Wr d nm k b d'){j:Int}{c:List UInt8}(i:Bg (Au d nm) j c)(g:k+b.length≤256*j.toNat∨256*j.toNat+256≤k):Bg (Au d' nm) j c:=by
 obtain ⟨a,e,f⟩:=i
 refine ⟨a,?_,?_⟩
 ·rw[h.now,C8];omega
 rw[h.now,OQ e g];exact f
theorem Wr.Ay{d d':Dk}{nm:ByteArray}{j:Int}{b:List UInt8}(h:Wr d nm (256*j.toNat) b d')(hb:b.length=256)(a:0≤j):Bg (Au d' nm) j b:=by
 refine ⟨a,?_,?_⟩
 ·rw[h.now,C8,hb];omega
 rw[h.now]
 have:=Ui (l:=Au d nm) (b:=b) (k:=256*j.toNat)
 rw[hb] at this
 exact this
theorem YW{d:Dk}{nm:ByteArray}(a:Dk.named nm=true)(b:d.down=false):max 0 (d.size nm)=((Au d nm).length:Int):=by
 unfold Dk.size Au
 by_cases h:(d.get nm).isSome=true
 ·obtain ⟨f,e⟩:=Option.isSome_iff_exists.1 h
  rw[if_neg (by rw[FC a b e];simp)]
  omega
 have c:d.get nm=none:=by simpa using h
 rw[if_pos (by rw[Hq a b c];decide),c]
 simp[Dk.Io]
 rfl
theorem Jb{m:Nat}{s:Ck}(ok:Bi m s)(g:EK s.d s.nm){no:Int}{b:List UInt8}(y:s.Ca no=true)(hb:AP no s.BU=some b):
 (∃a,(a=s.d∨ ∃n,Wr s.d s.nm (Au s.d s.nm).length (List.replicate n 0) a∧(Au s.d s.nm).length+n=256*no.toNat)∧EK a s.nm∧
   (s.write no=(7, { s with d:=a })∨s.write no=(8, { s with d:=dn a })∨ ∃p,Wr a s.nm (256*no.toNat) b p∧s.write no=(0, { s with d:=p,its:=AU s.its no false })))∧
 (Im s.d s.nm+((max (Au s.d s.nm).length (256*no.toNat+256):Nat):Int)≤s.d.room→(s.write no).1≠7):=by
 obtain ⟨hl,D,G⟩:=ok.Ay _ (IC hb)
 simp only at hl D G
 have hp: ∀d,Ck.Ay { s with d:=d } no=b:=by intro d;unfold Ck.Ay;rw[hb];rfl
 have w:no*256=((256*no.toNat:Nat):Int):=by omega
 have i : ∀ a, EK a s.nm → 256 * no.toNat ≤ (Au a s.nm).length →
  ((Ck.Bn { s with d := a } no = (7, { s with d := a }) ∨ Ck.Bn { s with d := a } no = (8, { s with d := dn a }) ∨ ∃ p, Wr a s.nm (256 * no.toNat) b p ∧ Ck.Bn { s with d := a } no = (0, { s with d := p, its := AU s.its no false })) ∧
   (Im a s.nm+((max (Au a s.nm).length (256*no.toNat+256):Nat):Int)≤a.room→(Ck.Bn { s with d:=a } no).1≠7)):=by
  intro a B v
  obtain ⟨hw,hr⟩:=Q6 B (k:=256*no.toNat) (b:=b) v (by omega)
  have e:Ck.Bn { s with d:=a } no=if (a.write s.nm ((256*no.toNat:Nat):Int) b).1=0 then (0, { s with d:=(a.write s.nm ((256*no.toNat:Nat):Int) b).2,its:=AU s.its no false }) else ((a.write s.nm ((256*no.toNat:Nat):Int) b).1, { s with d:=(a.write s.nm ((256*no.toNat:Nat):Int) b).2 }):=by
   unfold Ck.Bn
   rw[hp a,←w]
  constructor
  · rcases hw with hw|hw|⟨o,c⟩
    · left
      rw[e,hw,if_neg (by simp)]
    · right;left
      rw[e,hw,if_neg (by simp)]
    right;right
    exact ⟨_,c,by rw[e,if_pos o]⟩
  intro f
  have:=hr (by rw[hl];exact f)
  rw[e]
  split
  · simp
  exact this
 cases l:s.d.down with
 | true =>
   have H:s.d.size s.nm= -1:=by
    have hm:s.d.may s.nm true=8:=by unfold Dk.may;simp[g.Mp,l]
    unfold Dk.size
    rw[if_pos (by rw[hm];decide)]
   have q:s.write no=(8, { s with d:=dn s.d }):=by
    unfold Ck.write
    rw[if_neg (by simp[y]),H]
    split
    · have:s.pad no=(8,dn s.d):=by unfold Ck.pad;exact PJ g l _ _
      rw[this,if_neg (by simp)]
    unfold Ck.Bn
    rw[PJ g l,if_neg (by simp)]
   exact ⟨⟨s.d,.inl rfl,g,.inr (.inl q)⟩,fun _=>by rw[q];simp⟩
 |false=>
 have x:max 0 (s.d.size s.nm)=((Au s.d s.nm).length:Int):=YW g.Mp l
 have j:s.write no=if max 0 (s.d.size s.nm)<no*256 then (if (s.pad no).1=0 then Ck.Bn { s with d:=(s.pad no).2 } no else ((s.pad no).1, { s with d:=(s.pad no).2 })) else s.Bn no:=by
  unfold Ck.write
  rw[if_neg (by simp[y])]
 by_cases t:max 0 (s.d.size s.nm)<no*256
 · rw[if_pos t] at j
   have z:(Au s.d s.nm).length<256*no.toNat:=by omega
   have r:s.pad no=s.d.write s.nm ((Au s.d s.nm).length:Int) (List.replicate (256*no.toNat-(Au s.d s.nm).length) 0):=by
    unfold Ck.pad
    rw[x]
    congr 2
    omega
   obtain ⟨hw,hr⟩:=Q6 g (k:=(Au s.d s.nm).length) (b:=List.replicate (256*no.toNat-(Au s.d s.nm).length) 0) (Nat.le_refl _) (by rw[List.length_replicate];omega)
   rw[←r] at hw hr
   rcases hw with hw|hw|⟨o,c⟩
   · refine ⟨⟨s.d,.inl rfl,g,.inl ?_⟩,fun f=>?_⟩
     · rw[j,hw,if_neg (by simp)]
     exfalso
     have:=hr (by rw[List.length_replicate];omega)
     rw[hw] at this;exact this rfl
   · have q:s.write no=(8, { s with d:=dn s.d }):=by rw[j,hw,if_neg (by simp)]
     exact ⟨⟨s.d,.inl rfl,g,.inr (.inl q)⟩,fun _=>by rw[q];simp⟩
   rw[if_pos o] at j
   have u:(Au (s.pad no).2 s.nm).length=256*no.toNat:=by rw[c.now,C8,List.length_replicate];omega
   obtain ⟨s1,s2⟩:=i (s.pad no).2 c.BK (by omega)
   refine ⟨⟨(s.pad no).2,.inr ⟨_,c,by omega⟩,c.BK,?_⟩,fun f=>?_⟩
   · rw[j];exact s1
   rw[j];exact s2 (by rw[u,c.room,c.only];omega)
 rw[if_neg t] at j
 obtain ⟨s1,s2⟩:=i s.d g (by omega)
 refine ⟨⟨s.d,.inl rfl,g,?_⟩,fun f=>?_⟩
 · rw[j];exact s1
 rw[j];exact s2 f
structure Good (T:Nat) (s:Ck):Prop where
 BK:EK s.d s.nm
 pins: ∀n∈s.its,n.pins=0
 clean: ∀n∈s.its,n.Hr=false→ ∀b,AP n.key s.BU=some b→Bg (Au s.d s.nm) n.key b
 top:(Au s.d s.nm).length≤256*T∧ ∀n∈s.its,n.key.toNat<T
theorem WN{P:Int→List UInt8→Prop}{s:Ck}(h:Kept P s){e f:Dk}{k:Nat}{b:List UInt8}(i:Kept P { s with d:=e })(hw:Wr e s.nm k b f)(g: ∀j c,P j c→k+b.length≤256*j.toNat∨256*j.toNat+256≤k):Kept P { s with d:=f } :=by
 refine ⟨?_,?_,?_,h.Ca⟩
 ·show (CD f s.nm).length≤(Au f s.nm).length
  rw[hw.safe,hw.now,C8]
  have:=i.le
  have o:(CD e s.nm).length≤(Au e s.nm).length:=this
  omega
 ·intro j c m
  show Bg (CD f s.nm) j c
  rw[hw.safe]
  exact i.safe j c m
 intro p hp r
 have a:p∈e.AO++Fz s.nm k b:=by rw[←hw.AO];exact hp
 rcases List.mem_append.1 a with a|a
 ·exact i.AO p a r
 obtain ⟨_,l,n,o,t⟩:=IQ s.nm b.length k b (Nat.le_refl _) p a
 refine ⟨l,n,fun j c m=>?_⟩
 rcases g j c m with q|q
 ·left;omega
 right;omega
theorem Z7{P:Int→List UInt8→Prop}{s:Ck}{d:Dk}(h:Kept P { s with d:=d }):Kept P { s with d:=dn d } :=⟨h.le,h.safe,h.AO,h.Ca⟩
structure FH (T:Nat) (s:Ck) (no:Int) (e:Int) (s':Ck):Prop where
 code:e=0∨e=7∨e=8
 UI:(e=8→s'.d.down=true)∧(e≠8→s'.d.down=s.d.down)
 AG:Good T s'
 DW: ∀k b,k≠no→Bg (Au s.d s.nm) k b→Bg (Au s'.d s.nm) k b
 Ay:e=0→ ∀b,AP no s.BU=some b→Bg (Au s'.d s.nm) no b
 roomy:Roomy T s→e≠7∧Roomy T s'
 kept: ∀P,Kept P s→Kept P s'
 inv: ∀Q:Dk→Prop,(∀d k b d',Q d→Wr d s.nm k b d'→Q d')→(∀d,Q d→Q (dn d))→Q s.d→Q s'.d
 done:e=0→ ∀n∈s'.its,n.key=no→n.Hr=false
theorem Ih{m T:Nat}{s:Ck}{no:Int}(ok:Bi m s)(g:Good T s)(hh:Bf s.its no=true):FH T s no (s.write no).1 (s.write no).2:=by
 obtain ⟨b,hb,B,h0,h1⟩:=ok.key hh
 cases V:s.Ca no with
 | false =>
  have e:s.write no=(0,s):=by unfold Ck.write;rw[if_pos V]
  rw[e]
  have U: ∀n∈s.its,n.key=no→n.Hr=false:=by
   intro n f o
   cases hm:n.Hr with
   |false=>rfl
   |true=>rw[GA.2 ⟨n,f,hm,o⟩] at V;cases V
  refine ⟨.inl rfl,⟨(fun h=>by cases h),fun _=>rfl⟩,g,fun k b _ h=>h,fun _ b hb=>?_,fun h=>⟨by simp,h⟩,fun P h=>h,fun Q _ _ h=>h,fun _=>U⟩
  obtain ⟨n,f,o⟩:=List.mem_map.1 (Bb.1 hh)
  have:=g.clean n f (U n f o)
  rw[o] at this
  exact this b hb
 | true =>
  obtain ⟨⟨z,t,W,I⟩,O⟩:=Jb ok g.BK V hb
  obtain ⟨nd,L,a0,K⟩:=GA.1 V
  have a3:no.toNat<T:=by have:=g.top.2 nd L;rw[K] at this;exact this
  have a: ∀k c,Bg (Au s.d s.nm) k c→Bg (Au z s.nm) k c:=by
   intro k c h
   rcases t with rfl|⟨n,hw,_⟩
   · exact h
   exact hw.DW h (.inr h.2.1)
  have y:(Au z s.nm).length≤256*T:=by
   rcases t with rfl|⟨n,hw,f⟩
   · exact g.top.1
   rw[hw.now,C8,List.length_replicate];omega
  have r:Im z s.nm=Im s.d s.nm∧z.room=s.d.room:=by
   rcases t with rfl|⟨n,hw,f⟩
   · exact ⟨rfl,rfl⟩
   exact ⟨hw.only,hw.room⟩
  have w: ∀P,Kept P s→Kept P { s with d:=z } :=by
   intro P h
   rcases t with rfl|⟨n,hw,f⟩
   · exact h
   refine WN h h hw fun j c Y=> .inr ?_
   have:=(h.safe j c Y).2.1
   have:=h.le
   omega
  have G:z.down=s.d.down:=by
   rcases t with rfl|⟨n,hw,f⟩
   · rfl
   exact hw.down
  have v: ∀Q:Dk→Prop,(∀d k b d',Q d→Wr d s.nm k b d'→Q d')→Q s.d→Q z:=by
   intro Q D h
   rcases t with rfl|⟨n,hw,f⟩
   · exact h
   exact D _ _ _ _ h hw
  have a7: ∀n∈s.its,n.key=no→n=nd:=fun n f o=>PL ok.Lj.nd f L (o.trans K.symm)
  have M:Roomy T s→(s.write no).1≠7:=by
   intro r2
   unfold Roomy at r2
   refine O ?_
   have:=g.top.1
   omega
  rcases I with q|q|⟨R,l,q⟩
  · rw[q] at M⊢
    refine ⟨.inr (.inl rfl),⟨(fun h=>by cases h),fun _=>G⟩,⟨W,g.pins,?_,⟨y,g.top.2⟩⟩,fun k c _ h=>a k c h,(fun h=>by cases h),fun h=>absurd rfl (M h),w,fun Q D _ h=>v Q D h,(fun h=>by cases h)⟩
    intro n f hm c q
    exact a _ _ (g.clean n f hm c q)
  · rw[q] at M⊢
    refine ⟨.inr (.inr rfl),⟨fun _=>rfl,fun h=>absurd rfl h⟩,⟨W.UI,g.pins,?_,⟨y,g.top.2⟩⟩,fun k c _ h=>a k c h,(fun h=>by cases h),fun h=>⟨by simp,?_⟩,fun P h=>Z7 (w P h),fun Q D hD h=>hD _ (v Q D h),(fun h=>by cases h)⟩
    · intro n f hm c q
      exact a _ _ (g.clean n f hm c q)
    have Z:Im s.d s.nm+((256*T:Nat):Int)≤s.d.room:=h
    show Im z s.nm+_≤z.room
    rw[r.1,r.2]
    exact Z
  rw[q]
  have u: ∀k c,k≠no→Bg (Au s.d s.nm) k c→Bg (Au R s.nm) k c:=by
   intro k c o h
   have h3:=a k c h
   refine l.DW h3 ?_
   rw[B]
   have:=h.1
   rcases Int.lt_trichotomy k no with H|H|H
   · right;omega
   · exact absurd H o
   left;omega
  have X:Bg (Au R s.nm) no b:=l.Ay B h0
  refine ⟨.inl rfl,⟨(fun h=>by cases h),fun _=>l.down.trans G⟩,⟨l.BK,?_,?_,?_,?_⟩,u,fun _ c q=>?_,fun h=>⟨by simp,?_⟩,?_,fun Q D _ h=>D _ _ _ _ (v Q D h) l,?_⟩
  · intro n f
    have i:n∈AU s.its no false:=f
    unfold AU PH at i
    obtain ⟨x,hx,rfl⟩:=List.mem_map.1 i
    have:=g.pins x hx
    split<;>exact this
  · intro n f hm c q
    have i:n∈AU s.its no false:=f
    unfold AU PH at i
    obtain ⟨x,hx,rfl⟩:=List.mem_map.1 i
    have p:AP (if x.key=no then { x with Hr:=false } else x).key s.BU=some c:=q
    by_cases o:x.key=no
    · rw[if_pos o] at p⊢
      simp only at p⊢
      rw[o] at p⊢
      rw[hb] at p
      cases p
      exact X
    rw[if_neg o] at p hm⊢
    exact u _ _ o (g.clean x hx hm c p)
  · show (Au R s.nm).length≤256*T
    rw[l.now,C8,B];omega
  · intro n f
    have i:n∈AU s.its no false:=f
    unfold AU PH at i
    obtain ⟨x,hx,rfl⟩:=List.mem_map.1 i
    have:=g.top.2 x hx
    split<;>exact this
  · rw[hb] at q;cases q;exact X
  · show Im R s.nm+_≤R.room
    rw[l.room,r.2,l.only,r.1];exact h
  · intro P h
    have Z:=WN h (w P h) l (by
     intro j c Y
     rw[B]
     have a1:j≠no:=fun e=>by
      have:=h.Ca nd L a0 c
      rw[K,←e] at this
      exact this Y
     have:=(h.safe j c Y).1
     rcases Int.lt_trichotomy j no with H|H|H
     · right;omega
     · exact absurd H a1
     left;omega)
    exact Kept.marks Z no
  intro _ n f o
  have i:n∈AU s.its no false:=f
  unfold AU PH at i
  obtain ⟨x,hx,rfl⟩:=List.mem_map.1 i
  by_cases J:x.key=no
  · rw[if_pos J]
  rw[if_neg J] at o;exact absurd o J
structure Out (T:Nat) (s:Ck) (e:Int) (s':Ck):Prop where
 inv: ∀Q:Dk→Prop,(∀d k b d',Q d→Wr d s.nm k b d'→Q d')→(∀d,Q d→Q (dn d))→Q s.d→Q s'.d
 code:e=0∨e=7∨e=8
 UI:(e=8→s'.d.down=true)∧(e≠8→s'.d.down=s.d.down)
 AG:Good T s'
 has: ∀k b,Has s k b→Has s' k b
 DW: ∀k b,Bf s.its k=false→Bg (Au s.d s.nm) k b→Bg (Au s'.d s.nm) k b
 roomy:Roomy T s→e≠7∧Roomy T s'
 kept: ∀P,Kept P s→Kept P s'
 nm:s'.nm=s.nm
theorem FH.out{m T:Nat}{s:Ck}{no:Int}(ok:Bi m s)(c:Bf s.its no=true)(h:FH T s no (s.write no).1 (s.write no).2):Out T s (s.write no).1 (s.write no).2:=by
 obtain ⟨e,g,i,f,j⟩:=BT s no
 refine ⟨h.inv,h.code,h.UI,h.AG,?_,?_,h.roomy,h.kept,e⟩
 ·intro k b a
  unfold Has at a⊢
  rw[f,e]
  rcases a with a|⟨a,d⟩
  ·exact .inl a
  refine .inr ⟨a,h.DW k b ?_ d⟩
  rintro rfl
  rw[ok.same,a] at c;cases c
 intro k b a d
 refine h.DW k b ?_ d
 rintro rfl
 rw[a] at c;cases c
theorem H0{m T:Nat}{s:Ck}{no:Int}(ok:Bi m s)(g:Good T s)(u:Df s.its no=true):Out T s (s.release no).1 (s.release no).2:=by
 have r:=DV u
 have hw:=Ih ok g r
 have a:=hw.out ok r
 have p:=Fx ok r
 obtain ⟨y,H,I,J,D⟩:=BT s no
 have v:Df (s.write no).2.its no=true:=by
  rcases D with e|e
  · rw[e];exact u
  rw[e,Hi];exact u
 unfold Ck.release
 by_cases t:(s.write no).1=0
 · rw [if_pos t]
   simp only[v,if_true]
   obtain ⟨G,j,_⟩:=ok.key r
   refine ⟨a.inv,.inl rfl,⟨(fun h=>by cases h),fun _=>a.UI.2 (by rw[t];decide)⟩,⟨a.AG.BK,?_,?_,a.AG.top.1,?_⟩,?_,a.DW,?_,?_,y⟩
   · intro n f;exact a.AG.pins n (List.mem_filter.1 f).1
   · intro n f hm c B
     have x:n.key≠no:=by have:=(List.mem_filter.1 f).2;simpa using this
     have l:AP n.key (EV no (s.write no).2.BU)=some c:=B
     rw[FE p.nd,if_neg x] at l
     exact a.AG.clean n (List.mem_filter.1 f).1 hm c l
   · intro n f;exact a.AG.top.2 n (List.mem_filter.1 f).1
   · intro k b i
     have w:=a.has k b i
     unfold Has
     show AP k (EV no (s.write no).2.BU)=some b∨AP k (EV no (s.write no).2.BU)=none∧Bg (Au (s.write no).2.d (s.write no).2.nm) k b
     rw[FE p.nd]
     by_cases o:k=no
     ·subst o
      rw[if_pos rfl]
      refine .inr ⟨rfl,?_⟩
      rw[y]
      rcases i with i|⟨i,_⟩
      ·exact hw.Ay t b i
      rw[i] at j;cases j
     rw[if_neg o];exact w
   · intro hr;exact ⟨by simp,(a.roomy hr).2⟩
   intro P z
   have q:=a.kept P z
   exact ⟨q.le,q.safe,q.AO,fun n f hm=>q.Ca n (List.mem_filter.1 f).1 hm⟩
 rw[if_neg t]
 exact a
theorem Out.refl{T:Nat}{s:Ck}(g:Good T s):Out T s 0 s:=⟨fun Q _ _ h=>h,.inl rfl,⟨(fun h=>by cases h),fun _=>rfl⟩,g,fun k b h=>h,fun k b _ h=>h,fun h=>⟨by simp,h⟩,fun P h=>h,rfl⟩
theorem GW{m T:Nat}{s:Ck}(ok:Bi m s)(g:Good T s):Out T s s.room.1 s.room.2:=by
 unfold Ck.room
 by_cases c:(s.BU.length:Int)<s.cap
 ·rw[if_pos c];exact Out.refl g
 rw[if_neg c]
 cases b:L8 s.its with
 | none =>
  exfalso
  have e:=ok.cap
  have f:=ok.len
  have d:0<s.its.length:=by omega
  obtain ⟨n,a⟩:=List.exists_mem_of_length_pos d
  have:=List.find?_eq_none.1 b n a
  simp[g.pins n a] at this
 |some n=>exact H0 ok g (KN b)
theorem Good.more{T a:Nat}{s:Ck}(g:Good T s)(h:T≤a):Good a s:=⟨g.BK,g.pins,g.clean,by have:=g.top.1;omega,fun n b=>by have:=g.top.2 n b;omega⟩
structure Sy (T:Nat) (s:Ck) (no:Int) (c:List UInt8) (e:Int) (s':Ck):Prop where
 inv: ∀Q:Dk→Prop,(∀d k b d',Q d→Wr d s.nm k b d'→Q d')→(∀d,Q d→Q (dn d))→Q s.d→Q s'.d
 code:e=0∨e=7∨e=8
 UI:(e=8→s'.d.down=true)∧(e≠8→s'.d.down=s.d.down)
 AG:Good T s'
 has: ∀k b,k≠no∨e≠0→Has s k b→Has s' k b
 put:e=0→Has s' no c
 roomy:Roomy T s→e≠7∧Roomy T s'
 kept: ∀P,(∀b,¬P no b)→Kept P s→Kept P s'
 nm:s'.nm=s.nm
theorem ND{m T : Nat}{s : Ck}{no : Int}{c : List UInt8}(ok : Bi m s)(g : Good T s)(H : 0 ≤ no)(I : no < 1048576)(D : no.toNat < T)(J : c.length = 256) : Sy T s no c (s.put no c).1 (s.put no c).2 := by
 unfold Ck.put
 rw[if_neg (by omega)]
 cases z:Bf s.its no with
 | true =>
  rw[if_pos rfl]
  refine ⟨fun Q _ _ h=>h,.inl rfl,⟨(fun h=>by cases h),fun _=>rfl⟩,⟨g.BK,?_,?_,g.top.1,?_⟩,?_,fun _=> .inl ?_,fun h=>⟨by simp,h⟩,?_,rfl⟩
  ·intro n a
   obtain ⟨x,hx,_,t,_⟩:=Gk a
   rw[t];exact g.pins x ((Bs s.its no).mem_iff.1 hx)
  ·intro n a hm b hb
   obtain ⟨x,hx,f,t,y,u⟩:=Gk a
   by_cases i:x.key=no
   · rw[y i] at hm;cases hm
   have l:AP n.key (Cg no c s.BU)=some b:=hb
   rw[BQ,f,if_neg i] at l
   rw[f]
   exact g.clean x ((Bs s.its no).mem_iff.1 hx) (by rw[←u i];exact hm) b l
  ·intro n a
   obtain ⟨x,hx,f,_⟩:=Gk a
   rw[f];exact g.top.2 x ((Bs s.its no).mem_iff.1 hx)
  ·intro k b i hs
   have p:k≠no:=i.resolve_right (fun e=>e rfl)
   unfold Has at hs⊢
   show AP k (Cg no c s.BU)=some b∨AP k (Cg no c s.BU)=none∧_
   rw[BQ,if_neg p]
   exact hs
  ·show AP no (Cg no c s.BU)=some c
   rw[BQ,if_pos rfl]
  intro P v i
  refine ⟨i.le,i.safe,i.AO,?_⟩
  intro n a hm b
  obtain ⟨x,hx,f,t,y,u⟩:=Gk a
  rw[f]
  by_cases r:x.key=no
  ·rw[r];exact v b
  exact i.Ca x ((Bs s.its no).mem_iff.1 hx) (by rw[←u r];exact hm) b
 | false =>
  rw[if_neg (by simp)]
  have d:=GW ok g
  obtain ⟨r1,K,G,L⟩:=Jq ok
  unfold Ck.take
  by_cases q:s.room.1=0
  ·rw [if_pos q]
   simp only[if_true]
   have w:Bf s.room.2.its no=false:=by
    rw[Bool.eq_false_iff];intro hx;rw[G no hx] at z;cases z
   have j: ∀n,n∈AU (s.room.2.its++ [⟨no,0,false⟩]) no true→(n.key=no∧n.Hr=true∧n.pins=0)∨n∈s.room.2.its∧n.key≠no:=by
    intro n a
    unfold AU PH at a
    rw[List.map_append] at a
    rcases List.mem_append.1 a with a|a
    · obtain ⟨x,hx,rfl⟩:=List.mem_map.1 a
      have o:x.key≠no:=fun e=>by
       have:Bf s.room.2.its no=true:=Bb.2 (List.mem_map.2 ⟨x,hx,e⟩)
       rw[w] at this;cases this
      rw[if_neg o]
      exact .inr ⟨hx,o⟩
    simp at a
    subst a
    exact .inl ⟨rfl,rfl,rfl⟩
   refine ⟨d.inv,.inl rfl,⟨(fun h=>by cases h),fun _=>d.UI.2 (by rw[q];decide)⟩,⟨d.AG.BK,?_,?_,d.AG.top.1,?_⟩,?_,fun _=> .inl ?_,fun h=>⟨by simp,(d.roomy h).2⟩,?_,d.nm⟩
   · intro n a
     rcases j n a with ⟨_,_,h⟩|⟨h,_⟩
     · exact h
     exact d.AG.pins n h
   · intro n a hm b hb
     rcases j n a with ⟨_,h,_⟩|⟨h,o⟩
     · rw[h] at hm;cases hm
     have l:AP n.key (Cg no c s.room.2.BU)=some b:=hb
     rw[BQ,if_neg o] at l
     exact d.AG.clean n h hm b l
   · intro n a
     rcases j n a with ⟨h,_,_⟩|⟨h,_⟩
     · rw[h];exact D
     exact d.AG.top.2 n h
   · intro k b i hs
     have p:k≠no:=i.resolve_right (fun e=>e rfl)
     have f:=d.has k b hs
     unfold Has at f⊢
     show AP k (Cg no c s.room.2.BU)=some b∨AP k (Cg no c s.room.2.BU)=none∧_
     rw[BQ,if_neg p]
     exact f
   · show AP no (Cg no c s.room.2.BU)=some c
     rw[BQ,if_pos rfl]
   intro P v i
   have f:=d.kept P i
   refine ⟨f.le,f.safe,f.AO,?_⟩
   intro n a hm b
   rcases j n a with ⟨h,_,_⟩|⟨h,_⟩
   · rw[h];exact v b
   exact f.Ca n h hm b
  rw[if_neg q,if_neg q]
  have B:s.room.1=7∨s.room.1=8:=d.code.resolve_left q
  exact ⟨d.inv,.inr B,d.UI,d.AG,fun k b _ h=>d.has k b h,fun h=>absurd h q,d.roomy,fun P _ h=>d.kept P h,d.nm⟩
theorem Ku{d:Dk}{nm:ByteArray}(g:EK d nm){no:Int}(i:0≤no):
 (256*no.toNat+256≤(Au d nm).length∧d.read nm (no*256) 256=(0,((Au d nm).drop (256*no.toNat)).take 256))∨
 ((Au d nm).length<256*no.toNat+256∧((d.read nm (no*256) 256).1=2∨(d.read nm (no*256) 256).1=6))∨(d.down=true∧(d.read nm (no*256) 256).1=8):=by
 cases a:d.down with
 | true =>
  refine .inr (.inr ⟨rfl,?_⟩)
  have hm:d.may nm true=8:=by unfold Dk.may;simp[g.Mp,a]
  unfold Dk.read
  rw[if_pos (by rw[hm];decide),hm]
 | false =>
  cases b:d.get nm with
  | none =>
   right;left
   refine ⟨by unfold Au;rw[b];simp[Dk.Io],.inr ?_⟩
   unfold Dk.read
   have:=Hq g.Mp a b
   rw[if_pos (by rw[this];decide),this]
  | some f =>
   have hm:=FC (t:=true) g.Mp a b
   have e:Au d nm=f.now:=by unfold Au;rw[b];rfl
   rw[e]
   unfold Dk.read
   rw[if_neg (by simp[hm]),b]
   simp only[Option.getD_some]
   by_cases hl:256*no.toNat+256≤f.now.length
   ·left
    refine ⟨hl,?_⟩
    rw[if_neg (by omega)]
    have c:(no*256).toNat=256*no.toNat:=by omega
    rw[c];rfl
   right;left
   refine ⟨by omega,.inl ?_⟩
   rw[if_pos (by omega)]
structure Sw (T:Nat) (s:Ck) (no:Int) (e:Int) (c:List UInt8) (s':Ck):Prop where
 inv: ∀Q:Dk→Prop,(∀d k b d',Q d→Wr d s.nm k b d'→Q d')→(∀d,Q d→Q (dn d))→Q s.d→Q s'.d
 code:e=0∨e=7∨e=8∨e=6
 UI:(e=8→s'.d.down=true)∧(e≠8→s'.d.down=s.d.down)
 AG:Good T s'
 has: ∀k b,Has s k b→Has s' k b
 O': ∀b,Has s no b→e=7∨e=8∨(e=0∧c=b)
 len:e=0→c.length=256
 none:e≠0→c= []
 roomy:Roomy T s→e≠7∧Roomy T s'
 kept: ∀P,Kept P s→Kept P s'
 nm:s'.nm=s.nm
theorem Iy{m T : Nat}{s : Ck}{no : Int}(ok : Bi m s)(g : Good T s)(D : 0 ≤ no)(L : no < 1048576) : Sw T s no (s.get no).1 (s.get no).2.1 (s.get no).2.2 := by
 unfold Ck.get
 rw[if_neg (by omega)]
 cases r:Bf s.its no with
 | true =>
  rw[if_pos rfl]
  obtain ⟨b,hb,hl,_⟩:=ok.key r
  have hp:s.Ay no=b:=by unfold Ck.Ay;rw[hb];rfl
  simp only[hp]
  refine ⟨fun Q _ _ h=>h,.inl rfl,⟨(fun h=>by cases h),fun _=>rfl⟩,⟨g.BK,?_,?_,g.top.1,?_⟩,fun k b h=>h,?_,fun _=>hl,fun h=>absurd rfl h,fun h=>⟨by simp,h⟩,?_,rfl⟩
  · intro n a;exact g.pins n ((Bs s.its no).mem_iff.1 a)
  · intro n a;exact g.clean n ((Bs s.its no).mem_iff.1 a)
  · intro n a;exact g.top.2 n ((Bs s.its no).mem_iff.1 a)
  · intro c i
    rcases i with i|⟨i,_⟩
    · rw[hb] at i;cases i;exact .inr (.inr ⟨rfl,rfl⟩)
    rw[hb] at i;cases i
  intro P p
  exact ⟨p.le,p.safe,p.AO,fun n a=>p.Ca n ((Bs s.its no).mem_iff.1 a)⟩
 | false =>
  rw[if_neg (by simp)]
  have u:AP no s.BU=none:=by
   have:=ok.same no
   rw[r] at this
   cases hp:AP no s.BU with
   |none=>rfl
   |some b=>rw[hp] at this;cases this
  rcases Ku g.BK D with ⟨hl,hr⟩|⟨hl,hr⟩|⟨x,hr⟩
  · simp only[hr]
    rw[if_pos trivial]
    obtain ⟨c,i⟩: ∃c,((Au s.d s.nm).drop (256*no.toNat)).take 256=c:=⟨_,rfl⟩
    rw[i]
    have w:c.length=256:=by rw[←i];simp;omega
    have y:Bg (Au s.d s.nm) no c:=⟨D,hl,i⟩
    have z:no.toNat<T:=by have:=g.top.1;omega
    have f:=GW ok g
    obtain ⟨r1,M,K,O⟩:=Jq ok
    have v: ∀b,Has s no b→c=b:=by
     intro b hb
     rcases hb with hb|⟨_,hb⟩
     · rw[u] at hb;cases hb
     rw[←i];exact hb.2.2
    unfold Ck.take
    by_cases q:s.room.1=0
    · rw [if_pos q]
      simp only[if_true]
      have B:Bf s.room.2.its no=false:=by
       rw[Bool.eq_false_iff];intro hx;rw[K no hx] at r;cases r
      refine ⟨f.inv,.inl rfl,⟨(fun h=>by cases h),fun _=>f.UI.2 (by rw[q];decide)⟩,⟨f.AG.BK,?_,?_,f.AG.top.1,?_⟩,?_,fun b hb=> .inr (.inr ⟨rfl,v b hb⟩),fun _=>w,fun h=>absurd rfl h,fun h=>⟨by simp,(f.roomy h).2⟩,?_,f.nm⟩
      · intro n a
        rcases List.mem_append.1 a with a|a
        ·exact f.AG.pins n a
        simp at a;subst a;rfl
      · intro n a hm b hb
        have j:AP n.key (Cg no c s.room.2.BU)=some b:=hb
        rw[BQ] at j
        rcases List.mem_append.1 a with a|a
        ·have l:n.key≠no:=fun e=>by
          have:Bf s.room.2.its no=true:=Bb.2 (List.mem_map.2 ⟨n,a,e⟩)
          rw[B] at this;cases this
         rw[if_neg l] at j
         exact f.AG.clean n a hm b j
        simp at a
        subst a
        simp only[if_true] at j
        cases j
        show Bg (Au s.room.2.d s.room.2.nm) no c
        rw[f.nm]
        exact f.DW no c r y
      · intro n a
        rcases List.mem_append.1 a with a|a
        ·exact f.AG.top.2 n a
        simp at a;subst a;exact z
      · intro k b H
        have o:=f.has k b H
        unfold Has
        show AP k (Cg no c s.room.2.BU)=some b∨AP k (Cg no c s.room.2.BU)=none∧Bg (Au s.room.2.d s.room.2.nm) k b
        rw[BQ]
        by_cases t:k=no
        ·subst t
         rw[if_pos rfl]
         rw[v b H]
         exact .inl rfl
        rw[if_neg t];exact o
      intro P p
      have o:=f.kept P p
      refine ⟨o.le,o.safe,o.AO,?_⟩
      intro n a hm b
      rcases List.mem_append.1 a with a|a
      · exact o.Ca n a hm b
      simp at a;subst a;cases hm
    rw[if_neg q,if_neg q]
    have G:s.room.1=7∨s.room.1=8:=f.code.resolve_left q
    refine ⟨f.inv,.inr (G.elim .inl (fun h=> .inr (.inl h))),f.UI,f.AG,f.has,fun b _=>G.elim .inl (fun h=> .inr (.inl h)),fun h=>absurd h q,fun _=>rfl,f.roomy,f.kept,f.nm⟩
  · simp only
    have l:(s.d.read s.nm (no*256) 256).1≠0:=by rcases hr with h|h<;>rw[h]<;>decide
    rw[if_neg l]
    have I:(if (s.d.read s.nm (no*256) 256).1=2 then 6 else (s.d.read s.nm (no*256) 256).1)=6:=by
     rcases hr with h|h
     · rw[if_pos h]
     rw[if_neg (by rw[h];decide),h]
    simp only[I]
    refine ⟨fun Q _ _ h=>h,.inr (.inr (.inr rfl)),⟨(fun h=>by cases h),fun _=>rfl⟩,g,fun k b h=>h,?_,(fun h=>by cases h),fun _=>rfl,fun h=>⟨by simp,h⟩,fun P h=>h,rfl⟩
    intro b hb
    rcases hb with hb|⟨_,hb⟩
    · rw[u] at hb;cases hb
    have:=hb.2.1;omega
  simp only
  rw[if_neg (by rw[hr];decide)]
  have J:(if (s.d.read s.nm (no*256) 256).1=2 then 6 else (s.d.read s.nm (no*256) 256).1)=8:=by rw[hr];rfl
  simp only[J]
  exact ⟨fun Q _ _ h=>h,.inr (.inr (.inl rfl)),⟨fun _=>x,fun h=>absurd rfl h⟩,g,fun k b h=>h,fun b _=> .inr (.inl rfl),(fun h=>by cases h),fun _=>rfl,fun h=>⟨by simp,h⟩,fun P h=>h,rfl⟩
