/-
  Versions are found sound just if they are in the words of the document. No condition. (part 41)
-/
import Derived.Test.YtfhbmblbidcmmaaGreatWa13
set_option linter.unusedSimpArgs false
set_option linter.unusedVariables false
namespace Go.Proofs.YtfhbmblbidcmmaaGreat.Pf
set_option linter.unusedSimpArgs false
set_option linter.unusedVariables false
open Go.Dk
structure Fine (d : Dk) (nm : ByteArray) : Prop where
 nmd : Dk.named nm = true
 nf : d.files.length + (if (d.get nm).isSome then 0 else 1) ≤ 8
def dn (d : Dk) : Dk := { d with down := true }
theorem dn_self {d : Dk} (h : d.down = true) : dn d = d := by
 cases d
 simp only at h
 subst h
 rfl
theorem Fine.dwn {d : Dk} {nm : ByteArray} (h : Fine d nm) : Fine (dn d) nm := ⟨h.nmd, h.nf⟩
structure Wr (d : Dk) (nm : ByteArray) (k : Nat) (b : List UInt8) (d' : Dk) : Prop where
 le : k ≤ (fnow d nm).length
 ne : b.length ≠ 0
 fine : Fine d' nm
 now : fnow d' nm = laid (fnow d nm) k b
 safe : fsafe d' nm = fsafe d nm
 sure : fsure d' nm = fsure d nm
 pend : d'.pend = d.pend ++ sect nm k b
 room : d'.room = d.room
 other : ∀ n, n ≠ nm → d'.get n = d.get n
 only : oth d' nm = oth d nm
 isS : (d'.get nm).isSome = true
 down : d'.down = d.down
 armed : d'.armed = d.armed
theorem dk_down {d : Dk} {nm : ByteArray} (g : Fine d nm) (hd : d.down = true) (k : Int) (b : List UInt8) : d.write nm k b = (8, dn d) := by
 have hm : d.may nm false = 8 := by unfold Dk.may; simp [g.nmd, hd]
 unfold Dk.write
 rw [if_pos (by rw [hm]; decide), hm, dn_self hd]
theorem dk_wr {d : Dk} {nm : ByteArray} (g : Fine d nm) {k : Nat} {b : List UInt8} (hk : k ≤ (fnow d nm).length) (hb : b.length ≠ 0) :
 (d.write nm k b = (7, d) ∨ d.write nm k b = (8, dn d) ∨ ((d.write nm k b).1 = 0 ∧ Wr d nm k b (d.write nm k b).2)) ∧
 (oth d nm + ((max (fnow d nm).length (k + b.length) : Nat) : Int) ≤ d.room → (d.write nm k b).1 ≠ 7) := by
 cases hdn : d.down with
 | true =>
   have := dk_down g hdn k b
   rw [this]
   exact ⟨.inr (.inl rfl), fun _ => by simp⟩
 | false =>
 have hm : d.may nm false = 0 := may_new g.nmd hdn
 have hh := had_fnow d nm
 have hnf : ¬ (((d.get nm).isNone && decide (16 ≤ d.files.length)) = true) := by
  have := g.nf
  simp
  intro _
  omega
 have e : d.write nm k b = if d.fits (d.get nm) (max (had (d.get nm)) (k + b.length)) ≠ 0 then (d.fits (d.get nm) (max (had (d.get nm)) (k + b.length)), d) else if d.stop then (8, dn d) else (0, d.written nm k b) := by
  unfold Dk.write
  rw [if_neg (by simp [hm]), if_neg (by rw [hh]; omega), if_neg hb]
  split
  · rfl
  · rfl
 have hf : d.fits (d.get nm) (max (had (d.get nm)) (k + b.length)) = 0 ∨ d.fits (d.get nm) (max (had (d.get nm)) (k + b.length)) = 7 := by
  unfold Dk.fits
  rw [if_neg hnf]
  split
  · exact .inr rfl
  · exact .inl rfl
 have hW : Wr d nm k b (d.written nm k b) := by
  have hg : (d.written nm k b).get nm = some { (d.get nm).getD Dk.fl0 with now := laid ((d.get nm).getD Dk.fl0).now k b } := by
   unfold Dk.get Dk.written Dk.put
   simp only
   rw [fget_fput, if_pos rfl]
   rfl
  refine ⟨hk, hb, ⟨g.nmd, ?_⟩, ?_, ?_, by (unfold fsure; rw [hg]; rfl), rfl, rfl, ?_, ?_, by rw [hg]; rfl, rfl, rfl⟩
  · rw [hg]
    show (fput nm _ d.files).length + _ ≤ 8
    rw [fput_len]
    have := g.nf
    unfold Dk.get at this
    simp only [Option.isSome_some, if_true]
    split
    · rename_i h; rw [if_pos h] at this; omega
    · rename_i h; rw [if_neg h] at this; omega
  · unfold fnow; rw [hg]; rfl
  · unfold fsafe; rw [hg]; rfl
  · intro n hn
    unfold Dk.get Dk.written Dk.put
    simp only
    rw [fget_fput, if_neg hn]
    rfl
  · exact oth_put rfl
 constructor
 · rcases hf with h | h
   · right
     rw [e, if_neg (by simp [h])]
     cases hst : d.stop with
     | true => exact .inl rfl
     | false => exact .inr ⟨rfl, hW⟩
   · left
     rw [e, if_pos (by rw [h]; decide), h]
 · intro hr
   have h : d.fits (d.get nm) (max (had (d.get nm)) (k + b.length)) = 0 := by
    unfold Dk.fits
    rw [if_neg hnf, if_neg]
    unfold oth at hr
    simp
    intro _
    rw [hh] at *
    omega
   rw [e, if_neg (by simp [h])]
   split <;> simp
theorem Wr.filed {d d' : Dk} {nm : ByteArray} {k : Nat} {b : List UInt8} (h : Wr d nm k b d') {j : Int} {c : List UInt8} (hf : Filed (fnow d nm) j c) (hd : k + b.length ≤ 256 * j.toNat ∨ 256 * j.toNat + 256 ≤ k) : Filed (fnow d' nm) j c := by
 obtain ⟨h0, h1, h2⟩ := hf
 refine ⟨h0, ?_, ?_⟩
 · rw [h.now, laid_len]; omega
 · rw [h.now, laid_keep h1 hd]; exact h2
theorem Wr.page {d d' : Dk} {nm : ByteArray} {j : Int} {b : List UInt8} (h : Wr d nm (256 * j.toNat) b d') (hb : b.length = 256) (h0 : 0 ≤ j) : Filed (fnow d' nm) j b := by
 refine ⟨h0, ?_, ?_⟩
 · rw [h.now, laid_len, hb]; omega
 · rw [h.now]
   have := laid_at (l := fnow d nm) (b := b) (k := 256 * j.toNat)
   rw [hb] at this
   exact this
theorem size_of {d : Dk} {nm : ByteArray} (hnm : Dk.named nm = true) (hd : d.down = false) : max 0 (d.size nm) = ((fnow d nm).length : Int) := by
 unfold Dk.size fnow
 by_cases h : (d.get nm).isSome = true
 · obtain ⟨f, hf⟩ := Option.isSome_iff_exists.1 h
   rw [if_neg (by rw [may_there hnm hd hf]; simp)]
   omega
 · have hn : d.get nm = none := by simpa using h
   rw [if_pos (by rw [may_six hnm hd hn]; decide), hn]
   simp [Dk.fl0]
   rfl
theorem write_steps {m : Nat} {s : Ck} (ok : CkOk m s) (g : Fine s.d s.nm) {no : Int} {b : List UInt8} (hd : s.dirty no = true) (hb : pget no s.pgs = some b) :
 (∃ d1, (d1 = s.d ∨ ∃ n, Wr s.d s.nm (fnow s.d s.nm).length (List.replicate n 0) d1 ∧ (fnow s.d s.nm).length + n = 256 * no.toNat) ∧ Fine d1 s.nm ∧
   (s.write no = (7, { s with d := d1 }) ∨ s.write no = (8, { s with d := dn d1 }) ∨ ∃ d2, Wr d1 s.nm (256 * no.toNat) b d2 ∧ s.write no = (0, { s with d := d2, its := markI s.its no false }))) ∧
 (oth s.d s.nm + ((max (fnow s.d s.nm).length (256 * no.toNat + 256) : Nat) : Int) ≤ s.d.room → (s.write no).1 ≠ 7) := by
 obtain ⟨hl, h0, h1⟩ := ok.page _ (pget_mem hb)
 simp only at hl h0 h1
 have hp : ∀ d, Ck.page { s with d := d } no = b := by intro d; unfold Ck.page; rw [hb]; rfl
 have hno : no * 256 = ((256 * no.toNat : Nat) : Int) := by omega
 have step2 : ∀ d1, Fine d1 s.nm → 256 * no.toNat ≤ (fnow d1 s.nm).length →
  ((Ck.write2 { s with d := d1 } no = (7, { s with d := d1 }) ∨ Ck.write2 { s with d := d1 } no = (8, { s with d := dn d1 }) ∨ ∃ d2, Wr d1 s.nm (256 * no.toNat) b d2 ∧ Ck.write2 { s with d := d1 } no = (0, { s with d := d2, its := markI s.its no false })) ∧
   (oth d1 s.nm + ((max (fnow d1 s.nm).length (256 * no.toNat + 256) : Nat) : Int) ≤ d1.room → (Ck.write2 { s with d := d1 } no).1 ≠ 7)) := by
  intro d1 g1 hle
  obtain ⟨hw, hr⟩ := dk_wr g1 (k := 256 * no.toNat) (b := b) hle (by omega)
  have e : Ck.write2 { s with d := d1 } no = if (d1.write s.nm ((256 * no.toNat : Nat) : Int) b).1 = 0 then (0, { s with d := (d1.write s.nm ((256 * no.toNat : Nat) : Int) b).2, its := markI s.its no false }) else ((d1.write s.nm ((256 * no.toNat : Nat) : Int) b).1, { s with d := (d1.write s.nm ((256 * no.toNat : Nat) : Int) b).2 }) := by
   unfold Ck.write2
   rw [hp d1, ← hno]
  constructor
  · rcases hw with hw | hw | ⟨hw1, hw2⟩
    · left
      rw [e, hw, if_neg (by simp)]
    · right; left
      rw [e, hw, if_neg (by simp)]
    · right; right
      exact ⟨_, hw2, by rw [e, if_pos hw1]⟩
  · intro hrm
    have := hr (by rw [hl]; exact hrm)
    rw [e]
    split
    · simp
    · exact this
 cases hdn : s.d.down with
 | true =>
   have hz : s.d.size s.nm = -1 := by
    have hm : s.d.may s.nm true = 8 := by unfold Dk.may; simp [g.nmd, hdn]
    unfold Dk.size
    rw [if_pos (by rw [hm]; decide)]
   have e8 : s.write no = (8, { s with d := dn s.d }) := by
    unfold Ck.write
    rw [if_neg (by simp [hd]), hz]
    split
    · have : s.pad no = (8, dn s.d) := by unfold Ck.pad; exact dk_down g hdn _ _
      rw [this, if_neg (by simp)]
    · unfold Ck.write2
      rw [dk_down g hdn, if_neg (by simp)]
   exact ⟨⟨s.d, .inl rfl, g, .inr (.inl e8)⟩, fun _ => by rw [e8]; simp⟩
 | false =>
 have hsz : max 0 (s.d.size s.nm) = ((fnow s.d s.nm).length : Int) := size_of g.nmd hdn
 have ew : s.write no = if max 0 (s.d.size s.nm) < no * 256 then (if (s.pad no).1 = 0 then Ck.write2 { s with d := (s.pad no).2 } no else ((s.pad no).1, { s with d := (s.pad no).2 })) else s.write2 no := by
  unfold Ck.write
  rw [if_neg (by simp [hd])]
 by_cases hlt : max 0 (s.d.size s.nm) < no * 256
 · rw [if_pos hlt] at ew
   have hlt' : (fnow s.d s.nm).length < 256 * no.toNat := by omega
   have epad : s.pad no = s.d.write s.nm ((fnow s.d s.nm).length : Int) (List.replicate (256 * no.toNat - (fnow s.d s.nm).length) 0) := by
    unfold Ck.pad
    rw [hsz]
    congr 2
    omega
   obtain ⟨hw, hr⟩ := dk_wr g (k := (fnow s.d s.nm).length) (b := List.replicate (256 * no.toNat - (fnow s.d s.nm).length) 0) (Nat.le_refl _) (by rw [List.length_replicate]; omega)
   rw [← epad] at hw hr
   rcases hw with hw | hw | ⟨hw1, hw2⟩
   · refine ⟨⟨s.d, .inl rfl, g, .inl ?_⟩, fun hrm => ?_⟩
     · rw [ew, hw, if_neg (by simp)]
     · exfalso
       have := hr (by rw [List.length_replicate]; omega)
       rw [hw] at this; exact this rfl
   · have e8 : s.write no = (8, { s with d := dn s.d }) := by rw [ew, hw, if_neg (by simp)]
     exact ⟨⟨s.d, .inl rfl, g, .inr (.inl e8)⟩, fun _ => by rw [e8]; simp⟩
   · rw [if_pos hw1] at ew
     have hl1 : (fnow (s.pad no).2 s.nm).length = 256 * no.toNat := by rw [hw2.now, laid_len, List.length_replicate]; omega
     obtain ⟨s1, s2⟩ := step2 (s.pad no).2 hw2.fine (by omega)
     refine ⟨⟨(s.pad no).2, .inr ⟨_, hw2, by omega⟩, hw2.fine, ?_⟩, fun hrm => ?_⟩
     · rw [ew]; exact s1
     · rw [ew]; exact s2 (by rw [hl1, hw2.room, hw2.only]; omega)
 · rw [if_neg hlt] at ew
   obtain ⟨s1, s2⟩ := step2 s.d g (by omega)
   refine ⟨⟨s.d, .inl rfl, g, ?_⟩, fun hrm => ?_⟩
   · rw [ew]; exact s1
   · rw [ew]; exact s2 hrm
structure Good (T : Nat) (s : Ck) : Prop where
 fine : Fine s.d s.nm
 pins : ∀ n ∈ s.its, n.pins = 0
 clean : ∀ n ∈ s.its, n.mkd = false → ∀ b, pget n.key s.pgs = some b → Filed (fnow s.d s.nm) n.key b
 top : (fnow s.d s.nm).length ≤ 256 * T ∧ ∀ n ∈ s.its, n.key.toNat < T
theorem keptWr {P : Int → List UInt8 → Prop} {s : Ck} (h : Kept P s) {d1 d2 : Dk} {k : Nat} {b : List UInt8} (hd : Kept P { s with d := d1 }) (hw : Wr d1 s.nm k b d2) (hdis : ∀ j c, P j c → k + b.length ≤ 256 * j.toNat ∨ 256 * j.toNat + 256 ≤ k) : Kept P { s with d := d2 } := by
 refine ⟨?_, ?_, ?_, h.dirty⟩
 · show (fsafe d2 s.nm).length ≤ (fnow d2 s.nm).length
   rw [hw.safe, hw.now, laid_len]
   have := hd.le
   have h2 : (fsafe d1 s.nm).length ≤ (fnow d1 s.nm).length := this
   omega
 · intro j c hj
   show Filed (fsafe d2 s.nm) j c
   rw [hw.safe]
   exact hd.safe j c hj
 · intro p hp hn
   have hp' : p ∈ d1.pend ++ sect s.nm k b := by rw [← hw.pend]; exact hp
   rcases List.mem_append.1 hp' with hp' | hp'
   · exact hd.pend p hp' hn
   · obtain ⟨_, l, h1, h2, h3⟩ := sect_mem s.nm b.length k b (Nat.le_refl _) p hp'
     refine ⟨l, h1, fun j c hj => ?_⟩
     rcases hdis j c hj with h4 | h4
     · left; omega
     · right; omega
theorem keptDn {P : Int → List UInt8 → Prop} {s : Ck} {d : Dk} (h : Kept P { s with d := d }) : Kept P { s with d := dn d } := ⟨h.le, h.safe, h.pend, h.dirty⟩
structure WriteOut (T : Nat) (s : Ck) (no : Int) (e : Int) (s' : Ck) : Prop where
 code : e = 0 ∨ e = 7 ∨ e = 8
 dwn : (e = 8 → s'.d.down = true) ∧ (e ≠ 8 → s'.d.down = s.d.down)
 good : Good T s'
 filed : ∀ k b, k ≠ no → Filed (fnow s.d s.nm) k b → Filed (fnow s'.d s.nm) k b
 page : e = 0 → ∀ b, pget no s.pgs = some b → Filed (fnow s'.d s.nm) no b
 roomy : Roomy T s → e ≠ 7 ∧ Roomy T s'
 kept : ∀ P, Kept P s → Kept P s'
 inv : ∀ Q : Dk → Prop, (∀ d k b d', Q d → Wr d s.nm k b d' → Q d') → (∀ d, Q d → Q (dn d)) → Q s.d → Q s'.d
 done : e = 0 → ∀ n ∈ s'.its, n.key = no → n.mkd = false
theorem write_good {m T : Nat} {s : Ck} {no : Int} (ok : CkOk m s) (g : Good T s) (hh : hasI s.its no = true) : WriteOut T s no (s.write no).1 (s.write no).2 := by
 obtain ⟨b, hb, hbl, h0, h1⟩ := ok.key hh
 cases hd : s.dirty no with
 | false =>
   have e : s.write no = (0, s) := by unfold Ck.write; rw [if_pos hd]
   rw [e]
   have hcl : ∀ n ∈ s.its, n.key = no → n.mkd = false := by
    intro n hn hk
    cases hm : n.mkd with
    | false => rfl
    | true => rw [dirty_iff.2 ⟨n, hn, hm, hk⟩] at hd; cases hd
   refine ⟨.inl rfl, ⟨(fun h => by cases h), fun _ => rfl⟩, g, fun k b _ h => h, fun _ b hb => ?_, fun h => ⟨by simp, h⟩, fun P h => h, fun Q _ _ h => h, fun _ => hcl⟩
   obtain ⟨n, hn, hk⟩ := List.mem_map.1 (hasI_iff.1 hh)
   have := g.clean n hn (hcl n hn hk)
   rw [hk] at this
   exact this b hb
 | true =>
   obtain ⟨⟨d1, hd1, hf1, hcase⟩, hroom⟩ := write_steps ok g.fine hd hb
   obtain ⟨nd, hnd, hmd, hkd⟩ := dirty_iff.1 hd
   have hnoT : no.toNat < T := by have := g.top.2 nd hnd; rw [hkd] at this; exact this
   have hfil1 : ∀ k c, Filed (fnow s.d s.nm) k c → Filed (fnow d1 s.nm) k c := by
    intro k c h
    rcases hd1 with rfl | ⟨n, hw, _⟩
    · exact h
    · exact hw.filed h (.inr h.2.1)
   have hlen1 : (fnow d1 s.nm).length ≤ 256 * T := by
    rcases hd1 with rfl | ⟨n, hw, hn⟩
    · exact g.top.1
    · rw [hw.now, laid_len, List.length_replicate]; omega
   have hro1 : oth d1 s.nm = oth s.d s.nm ∧ d1.room = s.d.room := by
    rcases hd1 with rfl | ⟨n, hw, hn⟩
    · exact ⟨rfl, rfl⟩
    · exact ⟨hw.only, hw.room⟩
   have hkp1 : ∀ P, Kept P s → Kept P { s with d := d1 } := by
    intro P h
    rcases hd1 with rfl | ⟨n, hw, hn⟩
    · exact h
    · refine keptWr h h hw fun j c hj => .inr ?_
      have := (h.safe j c hj).2.1
      have := h.le
      omega
   have hdw1 : d1.down = s.d.down := by
    rcases hd1 with rfl | ⟨n, hw, hn⟩
    · rfl
    · exact hw.down
   have hin1 : ∀ Q : Dk → Prop, (∀ d k b d', Q d → Wr d s.nm k b d' → Q d') → Q s.d → Q d1 := by
    intro Q hQ h
    rcases hd1 with rfl | ⟨n, hw, hn⟩
    · exact h
    · exact hQ _ _ _ _ h hw
   have huq : ∀ n ∈ s.its, n.key = no → n = nd := fun n hn hk => it_uniq ok.lru.nd hn hnd (hk.trans hkd.symm)
   have hrm : Roomy T s → (s.write no).1 ≠ 7 := by
    intro r2
    unfold Roomy at r2
    refine hroom ?_
    have := g.top.1
    omega
   rcases hcase with hc | hc | ⟨d2, hw2, hc⟩
   · rw [hc] at hrm ⊢
     refine ⟨.inr (.inl rfl), ⟨(fun h => by cases h), fun _ => hdw1⟩, ⟨hf1, g.pins, ?_, ⟨hlen1, g.top.2⟩⟩, fun k c _ h => hfil1 k c h, (fun h => by cases h), fun h => absurd rfl (hrm h), hkp1, fun Q hQ _ h => hin1 Q hQ h, (fun h => by cases h)⟩
     intro n hn hm c hc
     exact hfil1 _ _ (g.clean n hn hm c hc)
   · rw [hc] at hrm ⊢
     refine ⟨.inr (.inr rfl), ⟨fun _ => rfl, fun h => absurd rfl h⟩, ⟨hf1.dwn, g.pins, ?_, ⟨hlen1, g.top.2⟩⟩, fun k c _ h => hfil1 k c h, (fun h => by cases h), fun h => ⟨by simp, ?_⟩, fun P h => keptDn (hkp1 P h), fun Q hQ hD h => hD _ (hin1 Q hQ h), (fun h => by cases h)⟩
     · intro n hn hm c hc
       exact hfil1 _ _ (g.clean n hn hm c hc)
     · have h2 : oth s.d s.nm + ((256 * T : Nat) : Int) ≤ s.d.room := h
       show oth d1 s.nm + _ ≤ d1.room
       rw [hro1.1, hro1.2]
       exact h2
   · rw [hc]
     have hfil2 : ∀ k c, k ≠ no → Filed (fnow s.d s.nm) k c → Filed (fnow d2 s.nm) k c := by
      intro k c hk h
      have h3 := hfil1 k c h
      refine hw2.filed h3 ?_
      rw [hbl]
      have := h.1
      rcases Int.lt_trichotomy k no with h4 | h4 | h4
      · right; omega
      · exact absurd h4 hk
      · left; omega
     have hpg : Filed (fnow d2 s.nm) no b := hw2.page hbl h0
     refine ⟨.inl rfl, ⟨(fun h => by cases h), fun _ => hw2.down.trans hdw1⟩, ⟨hw2.fine, ?_, ?_, ?_, ?_⟩, hfil2, fun _ c hc => ?_, fun h => ⟨by simp, ?_⟩, ?_, fun Q hQ _ h => hQ _ _ _ _ (hin1 Q hQ h) hw2, ?_⟩
     · intro n hn
       have hn' : n ∈ markI s.its no false := hn
       unfold markI atI at hn'
       obtain ⟨x, hx, rfl⟩ := List.mem_map.1 hn'
       have := g.pins x hx
       split <;> exact this
     · intro n hn hm c hc
       have hn' : n ∈ markI s.its no false := hn
       unfold markI atI at hn'
       obtain ⟨x, hx, rfl⟩ := List.mem_map.1 hn'
       have hc' : pget (if x.key = no then { x with mkd := false } else x).key s.pgs = some c := hc
       by_cases hk : x.key = no
       · rw [if_pos hk] at hc' ⊢
         simp only at hc' ⊢
         rw [hk] at hc' ⊢
         rw [hb] at hc'
         cases hc'
         exact hpg
       · rw [if_neg hk] at hc' hm ⊢
         exact hfil2 _ _ hk (g.clean x hx hm c hc')
     · show (fnow d2 s.nm).length ≤ 256 * T
       rw [hw2.now, laid_len, hbl]; omega
     · intro n hn
       have hn' : n ∈ markI s.its no false := hn
       unfold markI atI at hn'
       obtain ⟨x, hx, rfl⟩ := List.mem_map.1 hn'
       have := g.top.2 x hx
       split <;> exact this
     · rw [hb] at hc; cases hc; exact hpg
     · show oth d2 s.nm + _ ≤ d2.room
       rw [hw2.room, hro1.2, hw2.only, hro1.1]; exact h
     · intro P h
       have h2 := keptWr h (hkp1 P h) hw2 (by
        intro j c hj
        rw [hbl]
        have hne : j ≠ no := fun e => by
         have := h.dirty nd hnd hmd c
         rw [hkd, ← e] at this
         exact this hj
        have := (h.safe j c hj).1
        rcases Int.lt_trichotomy j no with h4 | h4 | h4
        · right; omega
        · exact absurd h4 hne
        · left; omega)
       exact Kept.marks h2 no
     · intro _ n hn hk
       have hn' : n ∈ markI s.its no false := hn
       unfold markI atI at hn'
       obtain ⟨x, hx, rfl⟩ := List.mem_map.1 hn'
       by_cases hk2 : x.key = no
       · rw [if_pos hk2]
       · rw [if_neg hk2] at hk; exact absurd hk hk2
structure Out (T : Nat) (s : Ck) (e : Int) (s' : Ck) : Prop where
 inv : ∀ Q : Dk → Prop, (∀ d k b d', Q d → Wr d s.nm k b d' → Q d') → (∀ d, Q d → Q (dn d)) → Q s.d → Q s'.d
 code : e = 0 ∨ e = 7 ∨ e = 8
 dwn : (e = 8 → s'.d.down = true) ∧ (e ≠ 8 → s'.d.down = s.d.down)
 good : Good T s'
 has : ∀ k b, Has s k b → Has s' k b
 filed : ∀ k b, hasI s.its k = false → Filed (fnow s.d s.nm) k b → Filed (fnow s'.d s.nm) k b
 roomy : Roomy T s → e ≠ 7 ∧ Roomy T s'
 kept : ∀ P, Kept P s → Kept P s'
 nm : s'.nm = s.nm
theorem WriteOut.out {m T : Nat} {s : Ck} {no : Int} (ok : CkOk m s) (hh : hasI s.its no = true) (h : WriteOut T s no (s.write no).1 (s.write no).2) : Out T s (s.write no).1 (s.write no).2 := by
 obtain ⟨w1, w2, w3, w4, w5⟩ := write_same s no
 refine ⟨h.inv, h.code, h.dwn, h.good, ?_, ?_, h.roomy, h.kept, w1⟩
 · intro k b hk
   unfold Has at hk ⊢
   rw [w4, w1]
   rcases hk with hk | ⟨hk, hf⟩
   · exact .inl hk
   · refine .inr ⟨hk, h.filed k b ?_ hf⟩
     rintro rfl
     rw [ok.same, hk] at hh; cases hh
 · intro k b hk hf
   refine h.filed k b ?_ hf
   rintro rfl
   rw [hk] at hh; cases hh
theorem release_good {m T : Nat} {s : Ck} {no : Int} (ok : CkOk m s) (g : Good T s) (hd : dropB s.its no = true) : Out T s (s.release no).1 (s.release no).2 := by
 have hh := drop_has hd
 have hw := write_good ok g hh
 have ho := hw.out ok hh
 have hwo := write_ok ok hh
 obtain ⟨w1, w2, w3, w4, w5⟩ := write_same s no
 have hd1 : dropB (s.write no).2.its no = true := by
  rcases w5 with e | e
  · rw [e]; exact hd
  · rw [e, dropB_mark]; exact hd
 unfold Ck.release
 by_cases hz : (s.write no).1 = 0
 · rw [if_pos hz]
   simp only [hd1, if_true]
   obtain ⟨b0, hb0, _⟩ := ok.key hh
   refine ⟨ho.inv, .inl rfl, ⟨(fun h => by cases h), fun _ => ho.dwn.2 (by rw [hz]; decide)⟩, ⟨ho.good.fine, ?_, ?_, ho.good.top.1, ?_⟩, ?_, ho.filed, ?_, ?_, w1⟩
   · intro n hn; exact ho.good.pins n (List.mem_filter.1 hn).1
   · intro n hn hm c hc
     have hne : n.key ≠ no := by have := (List.mem_filter.1 hn).2; simpa using this
     have hc' : pget n.key (pdel no (s.write no).2.pgs) = some c := hc
     rw [pget_pdel hwo.nd, if_neg hne] at hc'
     exact ho.good.clean n (List.mem_filter.1 hn).1 hm c hc'
   · intro n hn; exact ho.good.top.2 n (List.mem_filter.1 hn).1
   · intro k b hk
     have hk2 := ho.has k b hk
     unfold Has
     show pget k (pdel no (s.write no).2.pgs) = some b ∨ pget k (pdel no (s.write no).2.pgs) = none ∧ Filed (fnow (s.write no).2.d (s.write no).2.nm) k b
     rw [pget_pdel hwo.nd]
     by_cases hkn : k = no
     · subst hkn
       rw [if_pos rfl]
       refine .inr ⟨rfl, ?_⟩
       rw [w1]
       rcases hk with hk | ⟨hk, _⟩
       · exact hw.page hz b hk
       · rw [hk] at hb0; cases hb0
     · rw [if_neg hkn]; exact hk2
   · intro hr; exact ⟨by simp, (ho.roomy hr).2⟩
   · intro P hP
     have h2 := ho.kept P hP
     exact ⟨h2.le, h2.safe, h2.pend, fun n hn hm => h2.dirty n (List.mem_filter.1 hn).1 hm⟩
 · rw [if_neg hz]
   exact ho
theorem Out.refl {T : Nat} {s : Ck} (g : Good T s) : Out T s 0 s := ⟨fun Q _ _ h => h, .inl rfl, ⟨(fun h => by cases h), fun _ => rfl⟩, g, fun k b h => h, fun k b _ h => h, fun h => ⟨by simp, h⟩, fun P h => h, rfl⟩
theorem room_good {m T : Nat} {s : Ck} (ok : CkOk m s) (g : Good T s) : Out T s s.room.1 s.room.2 := by
 unfold Ck.room
 by_cases hz : (s.pgs.length : Int) < s.cap
 · rw [if_pos hz]; exact Out.refl g
 · rw [if_neg hz]
   cases ho : oldI s.its with
   | none =>
     exfalso
     have h1 := ok.cap
     have h2 := ok.len
     have h3 : 0 < s.its.length := by omega
     obtain ⟨n, hn⟩ := List.exists_mem_of_length_pos h3
     have := List.find?_eq_none.1 ho n hn
     simp [g.pins n hn] at this
   | some n => exact release_good ok g (old_drop ho)
theorem dk_read {d : Dk} {nm : ByteArray} (g : Fine d nm) {no : Int} (h0 : 0 ≤ no) :
 (256 * no.toNat + 256 ≤ (fnow d nm).length ∧ d.read nm (no * 256) 256 = (0, ((fnow d nm).drop (256 * no.toNat)).take 256)) ∨
 ((fnow d nm).length < 256 * no.toNat + 256 ∧ ((d.read nm (no * 256) 256).1 = 2 ∨ (d.read nm (no * 256) 256).1 = 6)) ∨ (d.down = true ∧ (d.read nm (no * 256) 256).1 = 8) := by
 cases hdn : d.down with
 | true =>
   refine .inr (.inr ⟨rfl, ?_⟩)
   have hm : d.may nm true = 8 := by unfold Dk.may; simp [g.nmd, hdn]
   unfold Dk.read
   rw [if_pos (by rw [hm]; decide), hm]
 | false =>
   cases hg : d.get nm with
   | none =>
     right; left
     refine ⟨by unfold fnow; rw [hg]; simp [Dk.fl0], .inr ?_⟩
     unfold Dk.read
     have := may_six g.nmd hdn hg
     rw [if_pos (by rw [this]; decide), this]
   | some f =>
     have hm := may_there (t := true) g.nmd hdn hg
     have hn : fnow d nm = f.now := by unfold fnow; rw [hg]; rfl
     rw [hn]
     unfold Dk.read
     rw [if_neg (by simp [hm]), hg]
     simp only [Option.getD_some]
     by_cases hl : 256 * no.toNat + 256 ≤ f.now.length
     · left
       refine ⟨hl, ?_⟩
       rw [if_neg (by omega)]
       have e1 : (no * 256).toNat = 256 * no.toNat := by omega
       rw [e1]; rfl
     · right; left
       refine ⟨by omega, .inl ?_⟩
       rw [if_pos (by omega)]
structure GetOut (T : Nat) (s : Ck) (no : Int) (e : Int) (c : List UInt8) (s' : Ck) : Prop where
 inv : ∀ Q : Dk → Prop, (∀ d k b d', Q d → Wr d s.nm k b d' → Q d') → (∀ d, Q d → Q (dn d)) → Q s.d → Q s'.d
 code : e = 0 ∨ e = 7 ∨ e = 8 ∨ e = 6
 dwn : (e = 8 → s'.d.down = true) ∧ (e ≠ 8 → s'.d.down = s.d.down)
 good : Good T s'
 has : ∀ k b, Has s k b → Has s' k b
 got : ∀ b, Has s no b → e = 7 ∨ e = 8 ∨ (e = 0 ∧ c = b)
 len : e = 0 → c.length = 256
 none : e ≠ 0 → c = []
 roomy : Roomy T s → e ≠ 7 ∧ Roomy T s'
 kept : ∀ P, Kept P s → Kept P s'
 nm : s'.nm = s.nm
theorem get_good {m T : Nat} {s : Ck} {no : Int} (ok : CkOk m s) (g : Good T s) (h0 : 0 ≤ no) (h1 : no < 1048576) : GetOut T s no (s.get no).1 (s.get no).2.1 (s.get no).2.2 := by
 unfold Ck.get
 rw [if_neg (by omega)]
 cases hh : hasI s.its no with
 | true =>
   rw [if_pos rfl]
   obtain ⟨b, hb, hl, _⟩ := ok.key hh
   have hp : s.page no = b := by unfold Ck.page; rw [hb]; rfl
   simp only [hp]
   refine ⟨fun Q _ _ h => h, .inl rfl, ⟨(fun h => by cases h), fun _ => rfl⟩, ⟨g.fine, ?_, ?_, g.top.1, ?_⟩, fun k b h => h, ?_, fun _ => hl, fun h => absurd rfl h, fun h => ⟨by simp, h⟩, ?_, rfl⟩
   · intro n hn; exact g.pins n ((useI_perm s.its no).mem_iff.1 hn)
   · intro n hn; exact g.clean n ((useI_perm s.its no).mem_iff.1 hn)
   · intro n hn; exact g.top.2 n ((useI_perm s.its no).mem_iff.1 hn)
   · intro c hc
     rcases hc with hc | ⟨hc, _⟩
     · rw [hb] at hc; cases hc; exact .inr (.inr ⟨rfl, rfl⟩)
     · rw [hb] at hc; cases hc
   · intro P hP
     exact ⟨hP.le, hP.safe, hP.pend, fun n hn => hP.dirty n ((useI_perm s.its no).mem_iff.1 hn)⟩
 | false =>
   rw [if_neg (by simp)]
   have hpn : pget no s.pgs = none := by
    have := ok.same no
    rw [hh] at this
    cases hp : pget no s.pgs with
    | none => rfl
    | some b => rw [hp] at this; cases this
   rcases dk_read g.fine h0 with ⟨hl, hr⟩ | ⟨hl, hr⟩ | ⟨hdw, hr⟩
   · simp only [hr]
     rw [if_pos trivial]
     obtain ⟨c, hc⟩ : ∃ c, ((fnow s.d s.nm).drop (256 * no.toNat)).take 256 = c := ⟨_, rfl⟩
     rw [hc]
     have hcl : c.length = 256 := by rw [← hc]; simp; omega
     have hfc : Filed (fnow s.d s.nm) no c := ⟨h0, hl, hc⟩
     have hnT : no.toNat < T := by have := g.top.1; omega
     have ho := room_good ok g
     obtain ⟨r1, r2, r3, r4⟩ := room_ok ok
     have huq : ∀ b, Has s no b → c = b := by
      intro b hb
      rcases hb with hb | ⟨_, hb⟩
      · rw [hpn] at hb; cases hb
      · rw [← hc]; exact hb.2.2
     unfold Ck.take
     by_cases hz : s.room.1 = 0
     · rw [if_pos hz]
       simp only [if_true]
       have hno : hasI s.room.2.its no = false := by
        rw [Bool.eq_false_iff]; intro hx; rw [r3 no hx] at hh; cases hh
       refine ⟨ho.inv, .inl rfl, ⟨(fun h => by cases h), fun _ => ho.dwn.2 (by rw [hz]; decide)⟩, ⟨ho.good.fine, ?_, ?_, ho.good.top.1, ?_⟩, ?_, fun b hb => .inr (.inr ⟨rfl, huq b hb⟩), fun _ => hcl, fun h => absurd rfl h, fun h => ⟨by simp, (ho.roomy h).2⟩, ?_, ho.nm⟩
       · intro n hn
         rcases List.mem_append.1 hn with hn | hn
         · exact ho.good.pins n hn
         · simp at hn; subst hn; rfl
       · intro n hn hm b hb
         have hb' : pget n.key (pput no c s.room.2.pgs) = some b := hb
         rw [pget_pput] at hb'
         rcases List.mem_append.1 hn with hn | hn
         · have hne : n.key ≠ no := fun e => by
            have : hasI s.room.2.its no = true := hasI_iff.2 (List.mem_map.2 ⟨n, hn, e⟩)
            rw [hno] at this; cases this
           rw [if_neg hne] at hb'
           exact ho.good.clean n hn hm b hb'
         · simp at hn
           subst hn
           simp only [if_true] at hb'
           cases hb'
           show Filed (fnow s.room.2.d s.room.2.nm) no c
           rw [ho.nm]
           exact ho.filed no c hh hfc
       · intro n hn
         rcases List.mem_append.1 hn with hn | hn
         · exact ho.good.top.2 n hn
         · simp at hn; subst hn; exact hnT
       · intro k b hk
         have h2 := ho.has k b hk
         unfold Has
         show pget k (pput no c s.room.2.pgs) = some b ∨ pget k (pput no c s.room.2.pgs) = none ∧ Filed (fnow s.room.2.d s.room.2.nm) k b
         rw [pget_pput]
         by_cases hkn : k = no
         · subst hkn
           rw [if_pos rfl]
           rw [huq b hk]
           exact .inl rfl
         · rw [if_neg hkn]; exact h2
       · intro P hP
         have h2 := ho.kept P hP
         refine ⟨h2.le, h2.safe, h2.pend, ?_⟩
         intro n hn hm b
         rcases List.mem_append.1 hn with hn | hn
         · exact h2.dirty n hn hm b
         · simp at hn; subst hn; cases hm
     · rw [if_neg hz, if_neg hz]
       have h7 : s.room.1 = 7 ∨ s.room.1 = 8 := ho.code.resolve_left hz
       refine ⟨ho.inv, .inr (h7.elim .inl (fun h => .inr (.inl h))), ho.dwn, ho.good, ho.has, fun b _ => h7.elim .inl (fun h => .inr (.inl h)), fun h => absurd h hz, fun _ => rfl, ho.roomy, ho.kept, ho.nm⟩
   · simp only
     have hne : (s.d.read s.nm (no * 256) 256).1 ≠ 0 := by rcases hr with h | h <;> rw [h] <;> decide
     rw [if_neg hne]
     have h6 : (if (s.d.read s.nm (no * 256) 256).1 = 2 then 6 else (s.d.read s.nm (no * 256) 256).1) = 6 := by
      rcases hr with h | h
      · rw [if_pos h]
      · rw [if_neg (by rw [h]; decide), h]
     simp only [h6]
     refine ⟨fun Q _ _ h => h, .inr (.inr (.inr rfl)), ⟨(fun h => by cases h), fun _ => rfl⟩, g, fun k b h => h, ?_, (fun h => by cases h), fun _ => rfl, fun h => ⟨by simp, h⟩, fun P h => h, rfl⟩
     intro b hb
     rcases hb with hb | ⟨_, hb⟩
     · rw [hpn] at hb; cases hb
     · have := hb.2.1; omega
   · simp only
     rw [if_neg (by rw [hr]; decide)]
     have h8 : (if (s.d.read s.nm (no * 256) 256).1 = 2 then 6 else (s.d.read s.nm (no * 256) 256).1) = 8 := by rw [hr]; rfl
     simp only [h8]
     exact ⟨fun Q _ _ h => h, .inr (.inr (.inl rfl)), ⟨fun _ => hdw, fun h => absurd rfl h⟩, g, fun k b h => h, fun b _ => .inr (.inl rfl), (fun h => by cases h), fun _ => rfl, fun h => ⟨by simp, h⟩, fun P h => h, rfl⟩
end Go.Proofs.YtfhbmblbidcmmaaGreat.Pf
