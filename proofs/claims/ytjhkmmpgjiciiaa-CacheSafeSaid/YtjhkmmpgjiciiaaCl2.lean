/-
  The cache's laws, plain: Put, Get, Evict, Flush.
-/
import Derived.Test.YtjhkmmpgjiciiaaCl1
namespace Go.Proofs.Ytjhkmmpgjiciiaa
set_option linter.unusedSimpArgs false
set_option linter.unusedVariables false
open Go.Dk

theorem Good.more {T T' : Nat} {s : Ck} (g : Good T s) (h : T ≤ T') : Good T' s := ⟨g.fine, g.pins, g.clean, by have := g.top.1; omega, fun n hn => by have := g.top.2 n hn; omega⟩

theorem mark_in {its : List It} {no : Int} {n : It} (h : n ∈ markI its no true) : ∃ x ∈ its, n.key = x.key ∧ n.pins = x.pins ∧ (x.key = no → n.mkd = true) ∧ (x.key ≠ no → n.mkd = x.mkd) := by
  unfold markI atI at h
  obtain ⟨x, hx, rfl⟩ := List.mem_map.1 h
  by_cases hk : x.key = no
  · rw [if_pos hk]; exact ⟨x, hx, rfl, rfl, fun _ => rfl, fun h => absurd hk h⟩
  · rw [if_neg hk]; exact ⟨x, hx, rfl, rfl, fun h => absurd h hk, fun _ => rfl⟩

structure PutOut (T : Nat) (s : Ck) (no : Int) (c : List UInt8) (e : Int) (s' : Ck) : Prop where
  inv : ∀ Q : Dk → Prop, (∀ d k b d', Q d → Wr d s.nm k b d' → Q d') → Q s.d → Q s'.d
  code : e = 0 ∨ e = 7
  good : Good T s'
  has : ∀ k b, k ≠ no ∨ e = 7 → Has s k b → Has s' k b
  put : e = 0 → Has s' no c
  roomy : Roomy T s → e = 0 ∧ Roomy T s'
  kept : ∀ P, (∀ b, ¬ P no b) → Kept P s → Kept P s'
  nm : s'.nm = s.nm

theorem put_good {m T : Nat} {s : Ck} {no : Int} {c : List UInt8} (ok : CkOk m s) (g : Good T s) (h0 : 0 ≤ no) (h1 : no < 1048576) (hT : no.toNat < T) (hc : c.length = 256) : PutOut T s no c (s.put no c).1 (s.put no c).2 := by
  unfold Ck.put
  rw [if_neg (by omega)]
  cases hh : hasI s.its no with
  | true =>
    rw [if_pos rfl]
    refine ⟨fun Q _ h => h, .inl rfl, ⟨g.fine, ?_, ?_, g.top.1, ?_⟩, ?_, fun _ => .inl ?_, fun h => ⟨rfl, h⟩, ?_, rfl⟩
    · intro n hn
      obtain ⟨x, hx, _, h3, _⟩ := mark_in hn
      rw [h3]; exact g.pins x ((useI_perm s.its no).mem_iff.1 hx)
    · intro n hn hm b hb
      obtain ⟨x, hx, h2, h3, h4, h5⟩ := mark_in hn
      by_cases hk : x.key = no
      · rw [h4 hk] at hm; cases hm
      · have hb' : pget n.key (pput no c s.pgs) = some b := hb
        rw [pget_pput, h2, if_neg hk] at hb'
        rw [h2]
        exact g.clean x ((useI_perm s.its no).mem_iff.1 hx) (by rw [← h5 hk]; exact hm) b hb'
    · intro n hn
      obtain ⟨x, hx, h2, _⟩ := mark_in hn
      rw [h2]; exact g.top.2 x ((useI_perm s.its no).mem_iff.1 hx)
    · intro k b hk hs
      have hk' : k ≠ no := hk.resolve_right (fun e => by cases e)
      unfold Has at hs ⊢
      show pget k (pput no c s.pgs) = some b ∨ pget k (pput no c s.pgs) = none ∧ _
      rw [pget_pput, if_neg hk']
      exact hs
    · show pget no (pput no c s.pgs) = some c
      rw [pget_pput, if_pos rfl]
    · intro P hP hk
      refine ⟨hk.le, hk.safe, hk.pend, ?_⟩
      intro n hn hm b
      obtain ⟨x, hx, h2, h3, h4, h5⟩ := mark_in hn
      rw [h2]
      by_cases hkn : x.key = no
      · rw [hkn]; exact hP b
      · exact hk.dirty x ((useI_perm s.its no).mem_iff.1 hx) (by rw [← h5 hkn]; exact hm) b
  | false =>
    rw [if_neg (by simp)]
    have ho := room_good ok g
    obtain ⟨r1, r2, r3, r4⟩ := room_ok ok
    unfold Ck.take
    by_cases hz : s.room.1 = 0
    · rw [if_pos hz]
      simp only [if_true]
      have hno : hasI s.room.2.its no = false := by
        rw [Bool.eq_false_iff]; intro hx; rw [r3 no hx] at hh; cases hh
      have hmem : ∀ n, n ∈ markI (s.room.2.its ++ [⟨no, 0, false⟩]) no true → (n.key = no ∧ n.mkd = true ∧ n.pins = 0) ∨ n ∈ s.room.2.its ∧ n.key ≠ no := by
        intro n hn
        unfold markI atI at hn
        rw [List.map_append] at hn
        rcases List.mem_append.1 hn with hn | hn
        · obtain ⟨x, hx, rfl⟩ := List.mem_map.1 hn
          have hne : x.key ≠ no := fun e => by
            have : hasI s.room.2.its no = true := hasI_iff.2 (List.mem_map.2 ⟨x, hx, e⟩)
            rw [hno] at this; cases this
          rw [if_neg hne]
          exact .inr ⟨hx, hne⟩
        · simp at hn
          subst hn
          exact .inl ⟨rfl, rfl, rfl⟩
      refine ⟨ho.inv, .inl rfl, ⟨ho.good.fine, ?_, ?_, ho.good.top.1, ?_⟩, ?_, fun _ => .inl ?_, fun h => ⟨rfl, (ho.roomy h).2⟩, ?_, ho.nm⟩
      · intro n hn
        rcases hmem n hn with ⟨_, _, h⟩ | ⟨h, _⟩
        · exact h
        · exact ho.good.pins n h
      · intro n hn hm b hb
        rcases hmem n hn with ⟨_, h, _⟩ | ⟨h, hne⟩
        · rw [h] at hm; cases hm
        · have hb' : pget n.key (pput no c s.room.2.pgs) = some b := hb
          rw [pget_pput, if_neg hne] at hb'
          exact ho.good.clean n h hm b hb'
      · intro n hn
        rcases hmem n hn with ⟨h, _, _⟩ | ⟨h, _⟩
        · rw [h]; exact hT
        · exact ho.good.top.2 n h
      · intro k b hk hs
        have hk' : k ≠ no := hk.resolve_right (fun e => by cases e)
        have h2 := ho.has k b hs
        unfold Has at h2 ⊢
        show pget k (pput no c s.room.2.pgs) = some b ∨ pget k (pput no c s.room.2.pgs) = none ∧ _
        rw [pget_pput, if_neg hk']
        exact h2
      · show pget no (pput no c s.room.2.pgs) = some c
        rw [pget_pput, if_pos rfl]
      · intro P hP hk
        have h2 := ho.kept P hk
        refine ⟨h2.le, h2.safe, h2.pend, ?_⟩
        intro n hn hm b
        rcases hmem n hn with ⟨h, _, _⟩ | ⟨h, _⟩
        · rw [h]; exact hP b
        · exact h2.dirty n h hm b
    · rw [if_neg hz, if_neg hz]
      have h7 : s.room.1 = 7 := ho.code.resolve_left hz
      exact ⟨ho.inv, .inr h7, ho.good, fun k b _ h => ho.has k b h, fun h => absurd h hz, ho.roomy, fun P _ h => ho.kept P h, ho.nm⟩

theorem dk_read {d : Dk} {nm : ByteArray} (g : Fine d nm) {no : Int} (h0 : 0 ≤ no) :
    (256 * no.toNat + 256 ≤ (fnow d nm).length ∧ d.read nm (no * 256) 256 = (0, ((fnow d nm).drop (256 * no.toNat)).take 256)) ∨
    ((fnow d nm).length < 256 * no.toNat + 256 ∧ ((d.read nm (no * 256) 256).1 = 2 ∨ (d.read nm (no * 256) 256).1 = 6)) := by
  cases hg : d.get nm with
  | none =>
    right
    refine ⟨by unfold fnow; rw [hg]; simp [Dk.fl0], .inr ?_⟩
    unfold Dk.read
    have := may_six g.nmd g.down hg
    rw [if_pos (by rw [this]; decide), this]
  | some f =>
    have hm := may_there (t := true) g.nmd g.down hg
    have hn : fnow d nm = f.now := by unfold fnow; rw [hg]; rfl
    rw [hn]
    unfold Dk.read
    rw [if_neg (by simp [hm]), hg]
    simp only [Option.getD_some]
    by_cases hl : 256 * no.toNat + 256 ≤ f.now.length
    · left
      refine ⟨hl, ?_⟩
      rw [if_neg (by omega)]
      have e1 : (no * 256).toNat = 256 * no.toNat := by omega
      rw [e1]; rfl
    · right
      refine ⟨by omega, .inl ?_⟩
      rw [if_pos (by omega)]

structure GetOut (T : Nat) (s : Ck) (no : Int) (e : Int) (c : List UInt8) (s' : Ck) : Prop where
  inv : ∀ Q : Dk → Prop, (∀ d k b d', Q d → Wr d s.nm k b d' → Q d') → Q s.d → Q s'.d
  code : e = 0 ∨ e = 7 ∨ e = 6
  good : Good T s'
  has : ∀ k b, Has s k b → Has s' k b
  got : ∀ b, Has s no b → e = 7 ∨ (e = 0 ∧ c = b)
  len : e = 0 → c.length = 256
  none : e ≠ 0 → c = []
  six : T ≤ no.toNat → e = 6
  roomy : Roomy T s → e ≠ 7 ∧ Roomy T s'
  kept : ∀ P, Kept P s → Kept P s'
  nm : s'.nm = s.nm

theorem get_good {m T : Nat} {s : Ck} {no : Int} (ok : CkOk m s) (g : Good T s) (h0 : 0 ≤ no) (h1 : no < 1048576) : GetOut T s no (s.get no).1 (s.get no).2.1 (s.get no).2.2 := by
  unfold Ck.get
  rw [if_neg (by omega)]
  cases hh : hasI s.its no with
  | true =>
    rw [if_pos rfl]
    obtain ⟨b, hb, hl, _⟩ := ok.key hh
    have hp : s.page no = b := by unfold Ck.page; rw [hb]; rfl
    simp only [hp]
    refine ⟨fun Q _ h => h, .inl rfl, ⟨g.fine, ?_, ?_, g.top.1, ?_⟩, fun k b h => h, ?_, fun _ => hl, fun h => absurd rfl h, ?_, fun h => ⟨by decide, h⟩, ?_, rfl⟩
    · intro n hn; exact g.pins n ((useI_perm s.its no).mem_iff.1 hn)
    · intro n hn; exact g.clean n ((useI_perm s.its no).mem_iff.1 hn)
    · intro n hn; exact g.top.2 n ((useI_perm s.its no).mem_iff.1 hn)
    · intro c hc
      rcases hc with hc | ⟨hc, _⟩
      · rw [hb] at hc; cases hc; exact .inr ⟨rfl, rfl⟩
      · rw [hb] at hc; cases hc
    · intro hT
      obtain ⟨n, hn, hk⟩ := List.mem_map.1 (hasI_iff.1 hh)
      have := g.top.2 n hn
      rw [hk] at this
      omega
    · intro P hP
      exact ⟨hP.le, hP.safe, hP.pend, fun n hn => hP.dirty n ((useI_perm s.its no).mem_iff.1 hn)⟩
  | false =>
    rw [if_neg (by simp)]
    have hpn : pget no s.pgs = none := by
      have := ok.same no
      rw [hh] at this
      cases hp : pget no s.pgs with
      | none => rfl
      | some b => rw [hp] at this; cases this
    rcases dk_read g.fine h0 with ⟨hl, hr⟩ | ⟨hl, hr⟩
    · simp only [hr]
      rw [if_pos trivial]
      obtain ⟨c, hc⟩ : ∃ c, ((fnow s.d s.nm).drop (256 * no.toNat)).take 256 = c := ⟨_, rfl⟩
      rw [hc]
      have hcl : c.length = 256 := by rw [← hc]; simp; omega
      have hfc : Filed (fnow s.d s.nm) no c := ⟨h0, hl, hc⟩
      have hnT : no.toNat < T := by have := g.top.1; omega
      have ho := room_good ok g
      obtain ⟨r1, r2, r3, r4⟩ := room_ok ok
      have huq : ∀ b, Has s no b → c = b := by
        intro b hb
        rcases hb with hb | ⟨_, hb⟩
        · rw [hpn] at hb; cases hb
        · rw [← hc]; exact hb.2.2
      unfold Ck.take
      by_cases hz : s.room.1 = 0
      · rw [if_pos hz]
        simp only [if_true]
        have hno : hasI s.room.2.its no = false := by
          rw [Bool.eq_false_iff]; intro hx; rw [r3 no hx] at hh; cases hh
        refine ⟨ho.inv, .inl rfl, ⟨ho.good.fine, ?_, ?_, ho.good.top.1, ?_⟩, ?_, fun b hb => .inr ⟨rfl, huq b hb⟩, fun _ => hcl, fun h => absurd rfl h, fun hT => by omega, fun h => ⟨by decide, (ho.roomy h).2⟩, ?_, ho.nm⟩
        · intro n hn
          rcases List.mem_append.1 hn with hn | hn
          · exact ho.good.pins n hn
          · simp at hn; subst hn; rfl
        · intro n hn hm b hb
          have hb' : pget n.key (pput no c s.room.2.pgs) = some b := hb
          rw [pget_pput] at hb'
          rcases List.mem_append.1 hn with hn | hn
          · have hne : n.key ≠ no := fun e => by
              have : hasI s.room.2.its no = true := hasI_iff.2 (List.mem_map.2 ⟨n, hn, e⟩)
              rw [hno] at this; cases this
            rw [if_neg hne] at hb'
            exact ho.good.clean n hn hm b hb'
          · simp at hn
            subst hn
            simp only [if_true] at hb'
            cases hb'
            show Filed (fnow s.room.2.d s.room.2.nm) no c
            rw [ho.nm]
            exact ho.filed no c hh hfc
        · intro n hn
          rcases List.mem_append.1 hn with hn | hn
          · exact ho.good.top.2 n hn
          · simp at hn; subst hn; exact hnT
        · intro k b hk
          have h2 := ho.has k b hk
          unfold Has
          show pget k (pput no c s.room.2.pgs) = some b ∨ pget k (pput no c s.room.2.pgs) = none ∧ Filed (fnow s.room.2.d s.room.2.nm) k b
          rw [pget_pput]
          by_cases hkn : k = no
          · subst hkn
            rw [if_pos rfl]
            rw [huq b hk]
            exact .inl rfl
          · rw [if_neg hkn]; exact h2
        · intro P hP
          have h2 := ho.kept P hP
          refine ⟨h2.le, h2.safe, h2.pend, ?_⟩
          intro n hn hm b
          rcases List.mem_append.1 hn with hn | hn
          · exact h2.dirty n hn hm b
          · simp at hn; subst hn; cases hm
      · rw [if_neg hz, if_neg hz]
        have h7 : s.room.1 = 7 := ho.code.resolve_left hz
        refine ⟨ho.inv, .inr (.inl h7), ho.good, ho.has, fun b _ => .inl h7, fun h => absurd h hz, fun _ => rfl, fun hT => by omega, fun h => absurd (ho.roomy h).1 hz, ho.kept, ho.nm⟩
    · simp only
      have hne : (s.d.read s.nm (no * 256) 256).1 ≠ 0 := by rcases hr with h | h <;> rw [h] <;> decide
      rw [if_neg hne]
      have h6 : (if (s.d.read s.nm (no * 256) 256).1 = 2 then 6 else (s.d.read s.nm (no * 256) 256).1) = 6 := by
        rcases hr with h | h
        · rw [if_pos h]
        · rw [if_neg (by rw [h]; decide), h]
      simp only [h6]
      refine ⟨fun Q _ h => h, .inr (.inr rfl), g, fun k b h => h, ?_, (fun h => by cases h), fun _ => rfl, fun _ => rfl, fun h => ⟨by decide, h⟩, fun P h => h, rfl⟩
      intro b hb
      rcases hb with hb | ⟨_, hb⟩
      · rw [hpn] at hb; cases hb
      · have := hb.2.1; omega

structure OutE (T : Nat) (s : Ck) (e : Int) (s' : Ck) : Prop where
  inv : ∀ Q : Dk → Prop, (∀ d k b d', Q d → Wr d s.nm k b d' → Q d') → Q s.d → Q s'.d
  code : e = 0 ∨ e = 7
  good : Good T s'
  has : ∀ k b, Has s k b → Has s' k b
  roomy : Roomy T s → e = 0 ∧ Roomy T s'
  kept : ∀ P, Kept P s → Kept P s'
  nm : s'.nm = s.nm

theorem Out.e {T : Nat} {s s' : Ck} {e : Int} (h : Out T s e s') : OutE T s e s' := ⟨h.inv, h.code, h.good, h.has, h.roomy, h.kept, h.nm⟩
theorem OutE.refl {T : Nat} {s : Ck} (g : Good T s) : OutE T s 0 s := (Out.refl g).e
theorem OutE.trans {T : Nat} {s s1 s2 : Ck} {e1 e : Int} (h : OutE T s e1 s1) (h' : OutE T s1 e s2) : OutE T s e s2 :=
  ⟨fun Q hQ hq => h'.inv Q (by rw [h.nm]; exact hQ) (h.inv Q hQ hq), h'.code, h'.good, fun k b hk => h'.has k b (h.has k b hk), fun hr => h'.roomy (h.roomy hr).2, fun P hP => h'.kept P (h.kept P hP), h'.nm.trans h.nm⟩

theorem evict_good : ∀ (n : Nat) {m T : Nat} {s : Ck}, CkOk m s → Good T s → OutE T s (Ck.evict n s).1 (Ck.evict n s).2
  | 0, m, T, s, ok, g => OutE.refl g
  | n + 1, m, T, s, ok, g => by
    cases ho : oldI s.its with
    | none => rw [evict_none ho]; exact OutE.refl g
    | some k =>
      have h1 := (release_good ok g (old_drop ho)).e
      rw [evict_some ho]
      by_cases hz : (s.release k.key).1 = 0
      · rw [if_pos hz]
        exact h1.trans (evict_good n (release_ok ok (old_drop ho)).1 h1.good)
      · rw [if_neg hz]; exact h1

theorem writes_good : ∀ (l : List Int) {m T : Nat} {s : Ck}, CkOk m s → Good T s → (∀ k ∈ l, hasI s.its k = true) →
    OutE T s (Ck.writes l s).1 (Ck.writes l s).2 ∧ ((Ck.writes l s).1 = 0 → ∀ n ∈ (Ck.writes l s).2.its, n.mkd = true → n.key ∉ l ∧ ∃ x ∈ s.its, x.key = n.key ∧ x.mkd = true)
  | [], m, T, s, ok, g, _ => ⟨OutE.refl g, fun _ n hn hm => ⟨by simp, n, hn, rfl, hm⟩⟩
  | k :: l, m, T, s, ok, g, h => by
    have hk := h k (by simp)
    have hw := write_good ok g hk
    have h1 := (hw.out ok hk).e
    unfold Ck.writes
    by_cases hz : (s.write k).1 = 0
    · rw [if_pos hz]
      obtain ⟨h2, h3⟩ := writes_good l (write_ok ok hk) h1.good fun j hj => by rw [write_has]; exact h j (by simp [hj])
      refine ⟨h1.trans h2, fun h0 n hn hm => ?_⟩
      obtain ⟨h4, x, hx, hxk, hxm⟩ := h3 h0 n hn hm
      have hne : x.key ≠ k := fun e => by rw [hw.done hz x hx e] at hxm; cases hxm
      refine ⟨?_, ?_⟩
      · rw [List.mem_cons]
        rintro (e | e)
        · exact hne (hxk.trans e)
        · exact h4 e
      · rcases (write_same s k).2.2.2.2 with e | e
        · rw [e] at hx; exact ⟨x, hx, hxk, hxm⟩
        · rw [e] at hx
          unfold markI atI at hx
          obtain ⟨y, hy, rfl⟩ := List.mem_map.1 hx
          by_cases hyk : y.key = k
          · rw [if_pos hyk] at hxm; cases hxm
          · rw [if_neg hyk] at hxk hxm; exact ⟨y, hy, hxk, hxm⟩
    · rw [if_neg hz]
      exact ⟨h1, fun h0 => absurd h0 hz⟩

structure FlushOut (T : Nat) (s : Ck) (e : Int) (s' : Ck) : Prop where
  code : e = 0 ∨ e = 7
  good : Good T s'
  has : ∀ k b, Has s k b → Has s' k b
  roomy : Roomy T s → e = 0 ∧ Roomy T s'
  filed : e = 0 → ∀ k b, Has s' k b → Filed (fnow s'.d s'.nm) k b
  kept : e = 0 → Kept (fun k b => Filed (fnow s'.d s'.nm) k b) s'
  sure : e = 0 → ∀ f, s'.d.get s'.nm = some f → f.sure = true
  nm : s'.nm = s.nm

theorem flush_good {m T : Nat} {s : Ck} (ok : CkOk m s) (g : Good T s) : FlushOut T s s.flush.1 s.flush.2 := by
  obtain ⟨h1, h2⟩ := writes_good (markedI s.its) ok g fun k hk => marked_has hk
  have hok := (writes_ok (markedI s.its) ok fun k hk => marked_has hk).1
  unfold Ck.flush
  simp only
  obtain ⟨⟨e, t⟩, hr⟩ : ∃ r, Ck.writes (markedI s.its) s = r := ⟨_, rfl⟩
  rw [hr] at h1 h2 hok ⊢
  simp only at h1 h2 hok ⊢
  by_cases hz : e = 0
  · subst hz
    rw [if_pos rfl]
    have hclean : ∀ n ∈ t.its, n.mkd = false := by
      intro n hn
      cases hm : n.mkd with
      | false => rfl
      | true =>
        obtain ⟨h3, x, hx, hxk, hxm⟩ := h2 rfl n hn hm
        exact absurd (marked_mem.2 ⟨x, hx, hxm, hxk⟩) h3
    have hst : t.d.stop = false := by unfold Dk.stop; simp [h1.good.fine.armed]
    have hfiled : ∀ k b, Has t k b → Filed (fnow t.d t.nm) k b := by
      intro k b hk
      rcases hk with hk | ⟨_, hk⟩
      · have hh : hasI t.its k = true := by rw [hok.same, hk]; rfl
        obtain ⟨n, hn, hnk⟩ := List.mem_map.1 (hasI_iff.1 hh)
        have := h1.good.clean n hn (hclean n hn)
        rw [hnk] at this
        exact this b hk
      · exact hk
    cases hg : t.d.get t.nm with
    | none =>
      have hm6 := may_six h1.good.fine.nmd h1.good.fine.down hg
      have hsy : t.d.sync t.nm = (6, t.d) := by unfold Dk.sync; rw [if_pos (by rw [hm6]; decide), hm6]
      rw [hsy]
      simp only [if_true]
      have hn0 : fnow t.d t.nm = [] := by unfold fnow; rw [hg]; rfl
      refine ⟨.inl rfl, h1.good, h1.has, fun h => ⟨rfl, (h1.roomy h).2⟩, fun _ => hfiled, fun _ => ⟨?_, ?_, ?_, ?_⟩, (fun _ f hf => by rw [hg] at hf; cases hf), h1.nm⟩
      · show (fsafe t.d t.nm).length ≤ _
        unfold fsafe; rw [hg]; simp [Dk.fl0]
      · intro k b hk
        have := hk.2.1
        rw [hn0] at this
        simp at this
      · intro p hp hn
        have := hok.dk.pn p hp
        rw [hn, hg] at this; cases this
      · intro n hn hm
        rw [hclean n hn] at hm; cases hm
    | some f =>
      have hm := may_there (t := true) h1.good.fine.nmd h1.good.fine.down hg
      have hsy : t.d.sync t.nm = (0, (t.d.ticked.put t.nm { f with safe := f.now, sure := true }).settled t.nm) := by
        unfold Dk.sync
        rw [if_neg (by simp [hm]), if_neg (by simp [hst]), hg]
        rfl
      rw [hsy]
      simp only
      rw [if_neg (by decide)]
      have hget : ((t.d.ticked.put t.nm { f with safe := f.now, sure := true }).settled t.nm).get t.nm = some { f with safe := f.now, sure := true } := by
        unfold Dk.get Dk.settled Dk.put
        simp only
        rw [fget_fput, if_pos rfl]
      have hnow : fnow ((t.d.ticked.put t.nm { f with safe := f.now, sure := true }).settled t.nm) t.nm = fnow t.d t.nm := by
        unfold fnow; rw [hget, hg]; rfl
      have hsafe : fsafe ((t.d.ticked.put t.nm { f with safe := f.now, sure := true }).settled t.nm) t.nm = fnow t.d t.nm := by
        unfold fsafe fnow; rw [hget, hg]; rfl
      refine ⟨.inl rfl, ⟨⟨h1.good.fine.down, h1.good.fine.armed, h1.good.fine.nmd, ?_⟩, h1.good.pins, ?_, ?_, h1.good.top.2⟩, ?_, fun h => ⟨rfl, ?_, (h1.roomy h).2.2⟩, fun _ => ?_, fun _ => ⟨?_, ?_, ?_, ?_⟩, (fun _ f' hf => by rw [hget] at hf; cases hf; rfl), h1.nm⟩
      · rw [hget]
        show (fput t.nm _ t.d.files).length + _ ≤ 8
        have h3 : (fget t.nm t.d.files).isSome = true := by
          have : t.d.get t.nm = fget t.nm t.d.files := rfl
          rw [← this, hg]; rfl
        rw [fput_len, if_pos h3]
        have := h1.good.fine.nf
        rw [hg] at this
        exact this
      · intro n hn hm b hb
        show Filed (fnow ((t.d.ticked.put t.nm { f with safe := f.now, sure := true }).settled t.nm) t.nm) n.key b
        rw [hnow]
        exact h1.good.clean n hn hm b hb
      · show (fnow ((t.d.ticked.put t.nm { f with safe := f.now, sure := true }).settled t.nm) t.nm).length ≤ _
        rw [hnow]; exact h1.good.top.1
      · intro k b hk
        have := h1.has k b hk
        unfold Has at this ⊢
        show pget k t.pgs = some b ∨ pget k t.pgs = none ∧ Filed (fnow ((t.d.ticked.put t.nm { f with safe := f.now, sure := true }).settled t.nm) t.nm) k b
        rw [hnow]; exact this
      · have ho := (h1.roomy h).2.1
        unfold Only at ho ⊢
        right
        rcases ho with ho | ⟨f', ho⟩
        · have : t.d.get t.nm = fget t.nm t.d.files := rfl
          rw [this, ho] at hg; cases hg
        · exact ⟨_, by show fput t.nm _ t.d.files = _; rw [ho]; simp [fput]; rfl⟩
      · intro k b hk
        show Filed (fnow ((t.d.ticked.put t.nm { f with safe := f.now, sure := true }).settled t.nm) t.nm) k b
        rw [hnow]
        refine hfiled k b ?_
        unfold Has at hk ⊢
        have hk' : pget k t.pgs = some b ∨ pget k t.pgs = none ∧ Filed (fnow ((t.d.ticked.put t.nm { f with safe := f.now, sure := true }).settled t.nm) t.nm) k b := hk
        rw [hnow] at hk'; exact hk'
      · show (fsafe ((t.d.ticked.put t.nm { f with safe := f.now, sure := true }).settled t.nm) t.nm).length ≤ (fnow ((t.d.ticked.put t.nm { f with safe := f.now, sure := true }).settled t.nm) t.nm).length
        rw [hsafe, hnow]; exact Nat.le_refl _
      · intro k b hk
        show Filed (fsafe ((t.d.ticked.put t.nm { f with safe := f.now, sure := true }).settled t.nm) t.nm) k b
        have hk' : Filed (fnow ((t.d.ticked.put t.nm { f with safe := f.now, sure := true }).settled t.nm) t.nm) k b := hk
        rw [hsafe]; rw [hnow] at hk'; exact hk'
      · intro p hp hn
        exfalso
        have hp' : p ∈ t.d.pend.filter fun p => p.nm != t.nm := hp
        have := (List.mem_filter.1 hp').2
        have hn' : p.nm = t.nm := hn
        rw [hn', bne_bytes] at this
        simp at this
      · intro n hn hm
        rw [hclean n hn] at hm; cases hm
  · rw [if_neg hz]
    have h7 := h1.code.resolve_left hz
    exact ⟨.inr h7, h1.good, h1.has, fun h => absurd (h1.roomy h).1 hz, fun h => absurd h hz, fun h => absurd h hz, fun h => absurd h hz, h1.nm⟩

end Go.Proofs.Ytjhkmmpgjiciiaa
