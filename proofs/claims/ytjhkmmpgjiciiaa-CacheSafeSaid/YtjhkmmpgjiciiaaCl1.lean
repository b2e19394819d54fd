/-
  The cache's laws, plain: what each call leaves of the pages' bytes.
-/
import Derived.Test.YtjhkmmpgjiciiaaCl0
namespace Go.Proofs.Ytjhkmmpgjiciiaa
set_option linter.unusedSimpArgs false
set_option linter.unusedVariables false
open Go.Dk

def Has (s : Ck) (k : Int) (b : List UInt8) : Prop := pget k s.pgs = some b ∨ (pget k s.pgs = none ∧ Filed (fnow s.d s.nm) k b)

structure Good (T : Nat) (s : Ck) : Prop where
  fine : Fine s.d s.nm
  pins : ∀ n ∈ s.its, n.pins = 0
  clean : ∀ n ∈ s.its, n.mkd = false → ∀ b, pget n.key s.pgs = some b → Filed (fnow s.d s.nm) n.key b
  top : (fnow s.d s.nm).length ≤ 256 * T ∧ ∀ n ∈ s.its, n.key.toNat < T

def Roomy (T : Nat) (s : Ck) : Prop := Only s.d s.nm ∧ ((256 * T : Nat) : Int) ≤ s.d.room

structure Kept (P : Int → List UInt8 → Prop) (s : Ck) : Prop where
  le : (fsafe s.d s.nm).length ≤ (fnow s.d s.nm).length
  safe : ∀ k b, P k b → Filed (fsafe s.d s.nm) k b
  pend : ∀ p ∈ s.d.pend, p.nm = s.nm → ∃ x, p.b = some x ∧ ∀ k b, P k b → p.pos + x.length ≤ 256 * k.toNat ∨ 256 * k.toNat + 256 ≤ p.pos
  dirty : ∀ n ∈ s.its, n.mkd = true → ∀ b, ¬ P n.key b

theorem dirty_iff {s : Ck} {no : Int} : s.dirty no = true ↔ ∃ n ∈ s.its, n.mkd = true ∧ n.key = no := by
  unfold Ck.dirty
  rw [List.contains_iff_mem]
  exact marked_mem
theorem it_uniq : ∀ {its : List It}, (keysI its).Nodup → ∀ {a b : It}, a ∈ its → b ∈ its → a.key = b.key → a = b
  | [], _, a, b, ha, _, _ => by simp at ha
  | x :: l, hn, a, b, ha, hb, e => by
    unfold keysI at hn
    rw [List.map_cons, List.nodup_cons] at hn
    rcases List.mem_cons.1 ha with e1 | ha2
    · rcases List.mem_cons.1 hb with e2 | hb2
      · rw [e1, e2]
      · exact absurd (show x.key ∈ l.map (·.key) from List.mem_map.2 ⟨b, hb2, by rw [← e, e1]⟩) hn.1
    · rcases List.mem_cons.1 hb with e2 | hb2
      · exact absurd (show x.key ∈ l.map (·.key) from List.mem_map.2 ⟨a, ha2, by rw [e, e2]⟩) hn.1
      · exact it_uniq hn.2 ha2 hb2 e

theorem Kept.wr {P : Int → List UInt8 → Prop} {s : Ck} (h : Kept P s) {d1 d2 : Dk} {k : Nat} {b : List UInt8} (hd : Kept P { s with d := d1 }) (hw : Wr d1 s.nm k b d2) (hdis : ∀ j c, P j c → k + b.length ≤ 256 * j.toNat ∨ 256 * j.toNat + 256 ≤ k) : Kept P { s with d := d2 } := by
  refine ⟨?_, ?_, ?_, h.dirty⟩
  · show (fsafe d2 s.nm).length ≤ (fnow d2 s.nm).length
    rw [hw.safe, hw.now, laid_len]
    have := hd.le
    have h2 : (fsafe d1 s.nm).length ≤ (fnow d1 s.nm).length := this
    omega
  · intro j c hj
    show Filed (fsafe d2 s.nm) j c
    rw [hw.safe]
    exact hd.safe j c hj
  · intro p hp hn
    have hp' : p ∈ d1.pend ++ sect s.nm k b := by rw [← hw.pend]; exact hp
    rcases List.mem_append.1 hp' with hp' | hp'
    · exact hd.pend p hp' hn
    · obtain ⟨_, l, h1, h2, h3⟩ := sect_mem s.nm b.length k b (Nat.le_refl _) p hp'
      refine ⟨l, h1, fun j c hj => ?_⟩
      rcases hdis j c hj with h4 | h4
      · left; omega
      · right; omega

theorem Kept.marks {P : Int → List UInt8 → Prop} {s : Ck} (h : Kept P s) (k : Int) : Kept P { s with its := markI s.its k false } := by
  refine ⟨h.le, h.safe, h.pend, ?_⟩
  intro n hn hm
  have hn' : n ∈ markI s.its k false := hn
  unfold markI atI at hn'
  obtain ⟨x, hx, rfl⟩ := List.mem_map.1 hn'
  by_cases hk : x.key = k
  · rw [if_pos hk] at hm; cases hm
  · rw [if_neg hk] at hm ⊢
    exact h.dirty x hx hm

structure WriteOut (T : Nat) (s : Ck) (no : Int) (e : Int) (s' : Ck) : Prop where
  code : e = 0 ∨ e = 7
  good : Good T s'
  filed : ∀ k b, k ≠ no → Filed (fnow s.d s.nm) k b → Filed (fnow s'.d s.nm) k b
  page : e = 0 → ∀ b, pget no s.pgs = some b → Filed (fnow s'.d s.nm) no b
  roomy : Roomy T s → e = 0 ∧ Roomy T s'
  kept : ∀ P, Kept P s → Kept P s'
  inv : ∀ Q : Dk → Prop, (∀ d k b d', Q d → Wr d s.nm k b d' → Q d') → Q s.d → Q s'.d
  done : e = 0 → ∀ n ∈ s'.its, n.key = no → n.mkd = false

theorem write_good {m T : Nat} {s : Ck} {no : Int} (ok : CkOk m s) (g : Good T s) (hh : hasI s.its no = true) : WriteOut T s no (s.write no).1 (s.write no).2 := by
  obtain ⟨b, hb, hbl, h0, h1⟩ := ok.key hh
  cases hd : s.dirty no with
  | false =>
    have e : s.write no = (0, s) := by unfold Ck.write; rw [if_pos hd]
    rw [e]
    have hcl : ∀ n ∈ s.its, n.key = no → n.mkd = false := by
      intro n hn hk
      cases hm : n.mkd with
      | false => rfl
      | true => rw [dirty_iff.2 ⟨n, hn, hm, hk⟩] at hd; cases hd
    refine ⟨.inl rfl, g, fun k b _ h => h, fun _ b hb => ?_, fun h => ⟨rfl, h⟩, fun P h => h, fun Q _ h => h, fun _ => hcl⟩
    obtain ⟨n, hn, hk⟩ := List.mem_map.1 (hasI_iff.1 hh)
    have := g.clean n hn (hcl n hn hk)
    rw [hk] at this
    exact this b hb
  | true =>
    obtain ⟨⟨d1, hd1, hf1, hcase⟩, hroom⟩ := write_steps ok g.fine hd hb
    obtain ⟨nd, hnd, hmd, hkd⟩ := dirty_iff.1 hd
    have hnoT : no.toNat < T := by have := g.top.2 nd hnd; rw [hkd] at this; exact this
    have hfil1 : ∀ k c, Filed (fnow s.d s.nm) k c → Filed (fnow d1 s.nm) k c := by
      intro k c h
      rcases hd1 with rfl | ⟨n, hw, _⟩
      · exact h
      · exact hw.filed h (.inr h.2.1)
    have hlen1 : (fnow d1 s.nm).length ≤ 256 * T := by
      rcases hd1 with rfl | ⟨n, hw, hn⟩
      · exact g.top.1
      · rw [hw.now, laid_len, List.length_replicate]; omega
    have hro1 : Only s.d s.nm → Only d1 s.nm ∧ d1.room = s.d.room := by
      intro h
      rcases hd1 with rfl | ⟨n, hw, hn⟩
      · exact ⟨h, rfl⟩
      · exact ⟨hw.only h, hw.room⟩
    have hkp1 : ∀ P, Kept P s → Kept P { s with d := d1 } := by
      intro P h
      rcases hd1 with rfl | ⟨n, hw, hn⟩
      · exact h
      · refine Kept.wr h h hw fun j c hj => .inr ?_
        have := (h.safe j c hj).2.1
        have := h.le
        omega
    have hin1 : ∀ Q : Dk → Prop, (∀ d k b d', Q d → Wr d s.nm k b d' → Q d') → Q s.d → Q d1 := by
      intro Q hQ h
      rcases hd1 with rfl | ⟨n, hw, hn⟩
      · exact h
      · exact hQ _ _ _ _ h hw
    have huq : ∀ n ∈ s.its, n.key = no → n = nd := fun n hn hk => it_uniq ok.lru.nd hn hnd (hk.trans hkd.symm)
    have hrm : Roomy T s → (s.write no).1 = 0 := by
      rintro ⟨r1, r2⟩
      refine hroom r1 ?_
      have := g.top.1
      omega
    rcases hcase with hc | ⟨d2, hw2, hc⟩
    · rw [hc] at hrm ⊢
      have hrm' : ¬ Roomy T s := fun h => by have := hrm h; cases this
      refine ⟨.inr rfl, ⟨hf1, g.pins, ?_, ⟨hlen1, g.top.2⟩⟩, fun k c _ h => hfil1 k c h, (fun h => by cases h), fun h => absurd h hrm', hkp1, hin1, (fun h => by cases h)⟩
      intro n hn hm c hc
      exact hfil1 _ _ (g.clean n hn hm c hc)
    · rw [hc]
      have hfil2 : ∀ k c, k ≠ no → Filed (fnow s.d s.nm) k c → Filed (fnow d2 s.nm) k c := by
        intro k c hk h
        have h3 := hfil1 k c h
        refine hw2.filed h3 ?_
        rw [hbl]
        have := h.1
        rcases Int.lt_trichotomy k no with h4 | h4 | h4
        · right; omega
        · exact absurd h4 hk
        · left; omega
      have hpg : Filed (fnow d2 s.nm) no b := hw2.page hbl h0
      refine ⟨.inl rfl, ⟨hw2.fine, ?_, ?_, ?_, ?_⟩, hfil2, fun _ c hc => ?_, fun h => ⟨rfl, hw2.only (hro1 h.1).1, ?_⟩, ?_, fun Q hQ h => hQ _ _ _ _ (hin1 Q hQ h) hw2, ?_⟩
      · intro n hn
        have hn' : n ∈ markI s.its no false := hn
        unfold markI atI at hn'
        obtain ⟨x, hx, rfl⟩ := List.mem_map.1 hn'
        have := g.pins x hx
        split <;> exact this
      · intro n hn hm c hc
        have hn' : n ∈ markI s.its no false := hn
        unfold markI atI at hn'
        obtain ⟨x, hx, rfl⟩ := List.mem_map.1 hn'
        have hc' : pget (if x.key = no then { x with mkd := false } else x).key s.pgs = some c := hc
        by_cases hk : x.key = no
        · rw [if_pos hk] at hc' ⊢
          simp only at hc' ⊢
          rw [hk] at hc' ⊢
          rw [hb] at hc'
          cases hc'
          exact hpg
        · rw [if_neg hk] at hc' hm ⊢
          exact hfil2 _ _ hk (g.clean x hx hm c hc')
      · show (fnow d2 s.nm).length ≤ 256 * T
        rw [hw2.now, laid_len, hbl]; omega
      · intro n hn
        have hn' : n ∈ markI s.its no false := hn
        unfold markI atI at hn'
        obtain ⟨x, hx, rfl⟩ := List.mem_map.1 hn'
        have := g.top.2 x hx
        split <;> exact this
      · rw [hb] at hc; cases hc; exact hpg
      · show _ ≤ d2.room
        rw [hw2.room, (hro1 h.1).2]; exact h.2
      · intro P h
        have h2 := Kept.wr h (hkp1 P h) hw2 (by
          intro j c hj
          rw [hbl]
          have hne : j ≠ no := fun e => by
            have := h.dirty nd hnd hmd c
            rw [hkd, ← e] at this
            exact this hj
          have := (h.safe j c hj).1
          rcases Int.lt_trichotomy j no with h4 | h4 | h4
          · right; omega
          · exact absurd h4 hne
          · left; omega)
        exact Kept.marks h2 no
      · intro _ n hn hk
        have hn' : n ∈ markI s.its no false := hn
        unfold markI atI at hn'
        obtain ⟨x, hx, rfl⟩ := List.mem_map.1 hn'
        by_cases hk2 : x.key = no
        · rw [if_pos hk2]
        · rw [if_neg hk2] at hk; exact absurd hk hk2

structure Out (T : Nat) (s : Ck) (e : Int) (s' : Ck) : Prop where
  inv : ∀ Q : Dk → Prop, (∀ d k b d', Q d → Wr d s.nm k b d' → Q d') → Q s.d → Q s'.d
  code : e = 0 ∨ e = 7
  good : Good T s'
  has : ∀ k b, Has s k b → Has s' k b
  filed : ∀ k b, hasI s.its k = false → Filed (fnow s.d s.nm) k b → Filed (fnow s'.d s.nm) k b
  roomy : Roomy T s → e = 0 ∧ Roomy T s'
  kept : ∀ P, Kept P s → Kept P s'
  nm : s'.nm = s.nm

theorem WriteOut.out {m T : Nat} {s : Ck} {no : Int} (ok : CkOk m s) (hh : hasI s.its no = true) (h : WriteOut T s no (s.write no).1 (s.write no).2) : Out T s (s.write no).1 (s.write no).2 := by
  obtain ⟨w1, w2, w3, w4, w5⟩ := write_same s no
  refine ⟨h.inv, h.code, h.good, ?_, ?_, h.roomy, h.kept, w1⟩
  · intro k b hk
    unfold Has at hk ⊢
    rw [w4, w1]
    rcases hk with hk | ⟨hk, hf⟩
    · exact .inl hk
    · refine .inr ⟨hk, h.filed k b ?_ hf⟩
      rintro rfl
      rw [ok.same, hk] at hh; cases hh
  · intro k b hk hf
    refine h.filed k b ?_ hf
    rintro rfl
    rw [hk] at hh; cases hh

theorem release_good {m T : Nat} {s : Ck} {no : Int} (ok : CkOk m s) (g : Good T s) (hd : dropB s.its no = true) : Out T s (s.release no).1 (s.release no).2 := by
  have hh := drop_has hd
  have hw := write_good ok g hh
  have ho := hw.out ok hh
  have hwo := write_ok ok hh
  obtain ⟨w1, w2, w3, w4, w5⟩ := write_same s no
  have hd1 : dropB (s.write no).2.its no = true := by
    rcases w5 with e | e
    · rw [e]; exact hd
    · rw [e, dropB_mark]; exact hd
  unfold Ck.release
  by_cases hz : (s.write no).1 = 0
  · rw [if_pos hz]
    simp only [hd1, if_true]
    obtain ⟨b0, hb0, _⟩ := ok.key hh
    refine ⟨ho.inv, .inl rfl, ⟨ho.good.fine, ?_, ?_, ho.good.top.1, ?_⟩, ?_, ho.filed, ?_, ?_, w1⟩
    · intro n hn; exact ho.good.pins n (List.mem_filter.1 hn).1
    · intro n hn hm c hc
      have hne : n.key ≠ no := by have := (List.mem_filter.1 hn).2; simpa using this
      have hc' : pget n.key (pdel no (s.write no).2.pgs) = some c := hc
      rw [pget_pdel hwo.nd, if_neg hne] at hc'
      exact ho.good.clean n (List.mem_filter.1 hn).1 hm c hc'
    · intro n hn; exact ho.good.top.2 n (List.mem_filter.1 hn).1
    · intro k b hk
      have hk2 := ho.has k b hk
      unfold Has
      show pget k (pdel no (s.write no).2.pgs) = some b ∨ pget k (pdel no (s.write no).2.pgs) = none ∧ Filed (fnow (s.write no).2.d (s.write no).2.nm) k b
      rw [pget_pdel hwo.nd]
      by_cases hkn : k = no
      · subst hkn
        rw [if_pos rfl]
        refine .inr ⟨rfl, ?_⟩
        rw [w1]
        rcases hk with hk | ⟨hk, _⟩
        · exact hw.page hz b hk
        · rw [hk] at hb0; cases hb0
      · rw [if_neg hkn]; exact hk2
    · intro hr; exact ⟨rfl, (ho.roomy hr).2⟩
    · intro P hP
      have h2 := ho.kept P hP
      exact ⟨h2.le, h2.safe, h2.pend, fun n hn hm => h2.dirty n (List.mem_filter.1 hn).1 hm⟩
  · rw [if_neg hz]
    exact ho

theorem Out.refl {T : Nat} {s : Ck} (g : Good T s) : Out T s 0 s := ⟨fun Q _ h => h, .inl rfl, g, fun k b h => h, fun k b _ h => h, fun h => ⟨rfl, h⟩, fun P h => h, rfl⟩

theorem room_good {m T : Nat} {s : Ck} (ok : CkOk m s) (g : Good T s) : Out T s s.room.1 s.room.2 := by
  unfold Ck.room
  by_cases hz : (s.pgs.length : Int) < s.cap
  · rw [if_pos hz]; exact Out.refl g
  · rw [if_neg hz]
    cases ho : oldI s.its with
    | none =>
      exfalso
      have h1 := ok.cap
      have h2 := ok.len
      have h3 : 0 < s.its.length := by omega
      obtain ⟨n, hn⟩ := List.exists_mem_of_length_pos h3
      have := List.find?_eq_none.1 ho n hn
      simp [g.pins n hn] at this
    | some n => exact release_good ok g (old_drop ho)

end Go.Proofs.Ytjhkmmpgjiciiaa
