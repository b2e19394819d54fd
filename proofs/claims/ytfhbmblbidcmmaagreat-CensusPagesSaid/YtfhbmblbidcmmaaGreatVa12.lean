/-
  Of all versions the pages that are told are just those of their trees in the file in the form of the document, and a root that is none is refused. No condition. (part 12)
-/
import Derived.Test.YtfhbmblbidcmmaaGreatVa9
set_option linter.unusedSimpArgs false
set_option linter.unusedVariables false
namespace Go.Proofs.YtfhbmblbidcmmaaGreat
set_option linter.unusedSimpArgs false
set_option linter.unusedVariables false
open Go.Dk
theorem pget_some {k : Int} {l : Pgs} : (pget k l).isSome = true ↔ k ∈ l.map (·.1) := by
 induction l with
 | nil => simp [pget]
 | cons p l ih =>
   unfold pget
   by_cases h : k = p.1
   · rw [if_pos h]; simp [h]
   · rw [if_neg h, ih]; simp [h]
theorem pget_mem {k : Int} {b : List UInt8} {l : Pgs} (h : pget k l = some b) : (k, b) ∈ l := by
 induction l with
 | nil => simp [pget] at h
 | cons p l ih =>
   unfold pget at h
   split at h
   · cases h; subst k; simp
   · exact List.mem_cons_of_mem _ (ih h)
theorem pget_pput (k j : Int) (b : List UInt8) (l : Pgs) : pget j (pput k b l) = if j = k then some b else pget j l := by
 induction l with
 | nil => simp [pput, pget]
 | cons p l ih =>
   unfold pput
   by_cases h : k = p.1
   · rw [if_pos h]
     unfold pget
     by_cases h2 : j = k
     · simp [h2]
     · rw [if_neg h2, if_neg h2, if_neg (fun e => h2 (e.trans h.symm))]
   · rw [if_neg h]
     show (if j = p.1 then some p.2 else pget j (pput k b l)) = if j = k then some b else if j = p.1 then some p.2 else pget j l
     rw [ih]
     by_cases h2 : j = k
     · subst h2; simp [h]
     · simp [h2]
theorem pput_keys (k : Int) (b : List UInt8) (l : Pgs) : (pput k b l).map (·.1) = if (pget k l).isSome then l.map (·.1) else l.map (·.1) ++ [k] := by
 induction l with
 | nil => simp [pput, pget]
 | cons p l ih =>
   unfold pput pget
   by_cases h : k = p.1
   · rw [if_pos h, if_pos h]; simp [h]
   · rw [if_neg h, if_neg h, List.map_cons, ih]
     split <;> simp
theorem pdel_sub (k : Int) (l : Pgs) : (pdel k l).Sublist l := by
 induction l with
 | nil => exact List.Sublist.slnil
 | cons p l ih =>
   unfold pdel
   split
   · exact List.sublist_cons_self _ _
   · exact ih.cons_cons _
theorem pget_pdel {k : Int} {l : Pgs} (hn : (l.map (·.1)).Nodup) (j : Int) : pget j (pdel k l) = if j = k then none else pget j l := by
 induction l with
 | nil => simp [pdel, pget]
 | cons p l ih =>
   rw [List.map_cons, List.nodup_cons] at hn
   unfold pdel
   by_cases h : k = p.1
   · rw [if_pos h]
     by_cases h2 : j = k
     · rw [if_pos h2]
       cases hc : pget j l with
       | none => rfl
       | some b => exact absurd (pget_some.1 (by rw [hc]; rfl)) (by rw [h2, h]; exact hn.1)
     · rw [if_neg h2]
       show _ = if j = p.1 then some p.2 else pget j l
       rw [if_neg (fun e => h2 (e.trans h.symm))]
   · rw [if_neg h]
     show (if j = p.1 then some p.2 else pget j (pdel k l)) = if j = k then none else if j = p.1 then some p.2 else pget j l
     rw [ih hn.2]
     by_cases h2 : j = k
     · subst h2; simp [h]
     · simp [h2]
theorem pdel_len {k : Int} {l : Pgs} (h : (pget k l).isSome = true) : (pdel k l).length + 1 = l.length := by
 induction l with
 | nil => simp [pget] at h
 | cons p l ih =>
   unfold pget at h
   unfold pdel
   by_cases h2 : k = p.1
   · rw [if_pos h2]; rfl
   · rw [if_neg h2] at h ⊢
     simp only [List.length_cons]
     rw [ih h]
theorem pput_len {k : Int} {b : List UInt8} {l : Pgs} : (pput k b l).length = if (pget k l).isSome then l.length else l.length + 1 := by
 have := congrArg List.length (pput_keys k b l)
 rw [List.length_map] at this
 rw [this]
 split <;> simp
/-! the keys -/
theorem mark_keys (its : List It) (k : Int) (on : Bool) : keysI (markI its k on) = keysI its := by
 unfold keysI markI atI
 rw [List.map_map]
 apply List.map_congr_left
 intro n _
 simp only [Function.comp]
 split <;> rfl
theorem hasI_iff {its : List It} {k : Int} : hasI its k = true ↔ k ∈ keysI its := by
 unfold hasI keysI
 rw [List.any_eq_true, List.mem_map]
 constructor
 · rintro ⟨n, h1, h2⟩; exact ⟨n, h1, by simpa using h2⟩
 · rintro ⟨n, h1, h2⟩; exact ⟨n, h1, by simpa using h2⟩
theorem hasI_keys {a b : List It} (h : ∀ k, k ∈ keysI a ↔ k ∈ keysI b) (k : Int) : hasI a k = hasI b k := by
 rw [Bool.eq_iff_iff, hasI_iff, hasI_iff]; exact h k
theorem has_mark (its : List It) (k j : Int) (on : Bool) : hasI (markI its k on) j = hasI its j := hasI_keys (fun _ => by rw [mark_keys]) j
theorem mark_len (its : List It) (k : Int) (on : Bool) : (markI its k on).length = its.length := by simp [markI, atI]
theorem mark_pins {its : List It} {k : Int} {on : Bool} (h : ∀ n ∈ its, 0 ≤ n.pins) : ∀ n ∈ markI its k on, 0 ≤ n.pins := by
 intro n hn
 unfold markI atI at hn
 obtain ⟨m, hm, rfl⟩ := List.mem_map.1 hn
 have := h m hm
 split <;> exact this
theorem dropB_mark (its : List It) (k j : Int) (on : Bool) : dropB (markI its k on) j = dropB its j := by
 unfold dropB markI atI
 rw [List.any_map]
 congr 1
 funext n
 simp only [Function.comp]
 split <;> rfl
theorem ok_mark {its : List It} (h : LruOk its) (k : Int) (on : Bool) : LruOk (markI its k on) :=
 ⟨by rw [mark_keys]; exact h.nd, mark_pins h.pins, by rw [mark_len]; exact h.len⟩
theorem out_keys (its : List It) (k : Int) : keysI (outI its k) = (keysI its).filter (fun j => j != k) := by
 unfold keysI outI
 rw [List.filter_map]; rfl
theorem out_mem {its : List It} {k j : Int} : j ∈ keysI (outI its k) ↔ j ∈ keysI its ∧ j ≠ k := by rw [out_keys, List.mem_filter]; simp
theorem ok_out {its : List It} (h : LruOk its) (k : Int) : LruOk (outI its k) :=
 ⟨by rw [out_keys]; exact h.nd.sublist List.filter_sublist, fun n hn => h.pins n (List.mem_filter.1 hn).1, Nat.le_trans (List.length_filter_le _ _) h.len⟩
theorem filter_one {l : List Int} (hn : l.Nodup) {k : Int} (hk : k ∈ l) : (l.filter (fun j => j != k)).length + 1 = l.length := by
 induction l with
 | nil => simp at hk
 | cons a l ih =>
   rw [List.nodup_cons] at hn
   by_cases h : a = k
   · subst h
     have : l.filter (fun j => j != a) = l := List.filter_eq_self.2 fun x hx => by simp; intro e; subst e; exact hn.1 hx
     simp [List.filter_cons, this]
   · have hk' : k ∈ l := by rcases List.mem_cons.1 hk with e | e; exact absurd e.symm h; exact e
     simp [List.filter_cons, h, ih hn.2 hk']
theorem out_len {its : List It} (h : LruOk its) {k : Int} (hk : hasI its k = true) : (outI its k).length + 1 = its.length := by
 have e1 : (outI its k).length = (keysI (outI its k)).length := by simp [keysI]
 have e2 : its.length = (keysI its).length := by simp [keysI]
 rw [e1, out_keys, e2]
 exact filter_one h.nd (hasI_iff.1 hk)
theorem use_mem {its : List It} {k j : Int} : j ∈ keysI (useI its k) ↔ j ∈ keysI its := by
 unfold keysI useI outI
 simp only [List.map_append, List.mem_append, List.mem_map, List.mem_filter]
 constructor
 · rintro (⟨n, ⟨h1, _⟩, h2⟩ | ⟨n, ⟨h1, _⟩, h2⟩) <;> exact ⟨n, h1, h2⟩
 · rintro ⟨n, h1, h2⟩
   by_cases hk : n.key = k
   · exact .inr ⟨n, ⟨h1, by simpa using hk⟩, h2⟩
   · exact .inl ⟨n, ⟨h1, by simpa using hk⟩, h2⟩
theorem useI_perm (its : List It) (k : Int) : (useI its k).Perm its := by
 unfold useI outI
 have h := List.filter_append_perm (fun n : It => n.key != k) its
 have e : (its.filter fun n => !(n.key != k)) = its.filter fun n => n.key == k := by congr 1; funext n; simp [bne]
 rw [e] at h
 exact h
theorem ok_use {its : List It} (h : LruOk its) (k : Int) : LruOk (useI its k) :=
 ⟨((useI_perm its k).map _).nodup_iff.2 h.nd, fun n hn => h.pins n ((useI_perm its k).mem_iff.1 hn), by rw [(useI_perm its k).length_eq]; exact h.len⟩
theorem old_has {its : List It} {n : It} (h : oldI its = some n) : n ∈ its ∧ n.pins = 0 := ⟨List.mem_of_find?_eq_some h, by have := List.find?_some h; simpa using this⟩
theorem old_drop {its : List It} {n : It} (h : oldI its = some n) : dropB its n.key = true := by
 obtain ⟨h1, h2⟩ := old_has h
 unfold dropB
 rw [List.any_eq_true]
 exact ⟨n, h1, by simp [h2]⟩
theorem drop_has {its : List It} {k : Int} (h : dropB its k = true) : hasI its k = true := by
 unfold dropB at h
 rw [List.any_eq_true] at h
 obtain ⟨n, h1, h2⟩ := h
 rw [hasI_iff]
 exact List.mem_map.2 ⟨n, h1, by simp at h2; exact h2.1⟩
/-! the cache -/
def U : Nat := 268436480
theorem CkOk.key {m : Nat} {s : Ck} (ok : CkOk m s) {k : Int} (h : hasI s.its k = true) : ∃ b, pget k s.pgs = some b ∧ b.length = 256 ∧ 0 ≤ k ∧ k < 1048576 := by
 rw [ok.same] at h
 obtain ⟨b, hb⟩ := Option.isSome_iff_exists.1 h
 have := ok.page _ (pget_mem hb)
 exact ⟨b, hb, this⟩
theorem CkOk.more {m m' : Nat} {s : Ck} (ok : CkOk m s) (h : m ≤ m') : CkOk m' s := ⟨ok.lru, ok.nd, ok.same, ok.len, ok.page, ok.cap, ok.most, ok_more ok.dk h, ok.nm, by have := ok.reads; omega⟩
theorem CkOk.disk {m m' : Nat} {s : Ck} (ok : CkOk m s) {d : Dk} (h : m ≤ m') (hd : Ok m' d) : CkOk m' { s with d := d } := ⟨ok.lru, ok.nd, ok.same, ok.len, ok.page, ok.cap, ok.most, hd, ok.nm, by have := ok.reads; show 0 ≤ s.reads ∧ s.reads ≤ m'; omega⟩
theorem CkOk.mark {m : Nat} {s : Ck} (ok : CkOk m s) (k : Int) (on : Bool) : CkOk m { s with its := markI s.its k on } :=
 ⟨ok_mark ok.lru k on, ok.nd, fun j => by show hasI (markI s.its k on) j = _; rw [has_mark]; exact ok.same j, by show _ = (markI s.its k on).length; rw [mark_len]; exact ok.len, ok.page, ok.cap, by show ((markI s.its k on).length : Int) ≤ _; rw [mark_len]; exact ok.most, ok.dk, ok.nm, ok.reads⟩
theorem write2_ok {m : Nat} {s : Ck} (ok : CkOk m s) {no : Int} (h : hasI s.its no = true) : CkOk (m + 257) (s.write2 no).2 := by
 obtain ⟨b, hb, hl, _, _⟩ := ok.key h
 have e : s.page no = b := by unfold Ck.page; rw [hb]; rfl
 have hw := ok_write ok.dk s.nm (no * 256) (s.page no)
 rw [e, hl] at hw
 unfold Ck.write2
 rw [e]
 split
 · exact CkOk.mark (ok.disk (m' := m + 257) (by omega) (ok_more hw (by omega))) no false
 · exact ok.disk (by omega) (ok_more hw (by omega))
theorem write_same (s : Ck) (no : Int) : (s.write no).2.nm = s.nm ∧ (s.write no).2.cap = s.cap ∧ (s.write no).2.reads = s.reads ∧ (s.write no).2.pgs = s.pgs ∧ ((s.write no).2.its = s.its ∨ (s.write no).2.its = markI s.its no false) := by
 have h2 : ∀ s : Ck, (s.write2 no).2.nm = s.nm ∧ (s.write2 no).2.cap = s.cap ∧ (s.write2 no).2.reads = s.reads ∧ (s.write2 no).2.pgs = s.pgs ∧ ((s.write2 no).2.its = s.its ∨ (s.write2 no).2.its = markI s.its no false) := by
  intro s
  unfold Ck.write2
  split
  · exact ⟨rfl, rfl, rfl, rfl, .inr rfl⟩
  · exact ⟨rfl, rfl, rfl, rfl, .inl rfl⟩
 unfold Ck.write
 split
 · exact ⟨rfl, rfl, rfl, rfl, .inl rfl⟩
 split
 · split
   · exact h2 _
   · exact ⟨rfl, rfl, rfl, rfl, .inl rfl⟩
 · exact h2 s
theorem write_ok {m : Nat} {s : Ck} (ok : CkOk m s) {no : Int} (h : hasI s.its no = true) : CkOk (m + U) (s.write no).2 := by
 obtain ⟨b, hb, hl, h0, h1⟩ := ok.key h
 unfold Ck.write
 split
 · exact ok.more (by omega)
 split
 · have hp := ok_write ok.dk s.nm (max 0 (s.d.size s.nm)) (List.replicate (no * 256 - max 0 (s.d.size s.nm)).toNat 0)
   rw [List.length_replicate] at hp
   have hp2 : Ok (m + 268435457) (s.pad no).2 := ok_more hp (by omega)
   have hq := ok.disk (m' := m + 268435457) (by omega) hp2
   split
   · exact (write2_ok hq h).more (by unfold U; omega)
   · exact hq.more (by unfold U; omega)
 · exact (write2_ok ok h).more (by unfold U; omega)
theorem release_ok {m : Nat} {s : Ck} (ok : CkOk m s) {no : Int} (h : dropB s.its no = true) : CkOk (m + U) (s.release no).2 ∧ ((s.release no).1 = 0 → (s.release no).2.its.length + 1 = s.its.length) ∧ (∀ k, hasI (s.release no).2.its k = true → hasI s.its k = true) ∧ (s.release no).2.cap = s.cap := by
 have hw := write_ok ok (drop_has h)
 obtain ⟨w1, w2, w3, w4, w5⟩ := write_same s no
 have hd : dropB (s.write no).2.its no = true := by
  rcases w5 with e | e
  · rw [e]; exact h
  · rw [e, dropB_mark]; exact h
 have hh : ∀ k, hasI (s.write no).2.its k = hasI s.its k := by
  intro k
  rcases w5 with e | e
  · rw [e]
  · rw [e, has_mark]
 have hlen : (s.write no).2.its.length = s.its.length := by
  rcases w5 with e | e
  · rw [e]
  · rw [e, mark_len]
 unfold Ck.release
 by_cases hz : (s.write no).1 = 0
 · rw [if_pos hz]
   simp only [hd, if_true]
   have ho := out_len hw.lru (drop_has hd)
   refine ⟨⟨ok_out hw.lru no, hw.nd.sublist ((pdel_sub _ _).map _), ?_, ?_, fun p hp => hw.page p ((pdel_sub _ _).subset hp), hw.cap, ?_, hw.dk, hw.nm, hw.reads⟩, ?_, ?_, w2⟩
   · intro k
     show hasI (outI (s.write no).2.its no) k = (pget k (pdel no (s.write no).2.pgs)).isSome
     rw [pget_pdel hw.nd]
     by_cases hk : k = no
     · rw [if_pos hk]
       subst hk
       show _ = false
       rw [Bool.eq_false_iff]
       intro h
       exact (out_mem.1 (hasI_iff.1 h)).2 rfl
     · rw [if_neg hk, ← hw.same k, Bool.eq_iff_iff, hasI_iff, hasI_iff, out_mem]
       simp [hk]
   · show (pdel no (s.write no).2.pgs).length = (outI (s.write no).2.its no).length
     have := pdel_len (k := no) (l := (s.write no).2.pgs) (by rw [← hw.same]; exact drop_has hd)
     have := hw.len
     omega
   · have := hw.most
     show ((outI (s.write no).2.its no).length : Int) ≤ (s.write no).2.cap
     omega
   · intro _
     show (outI (s.write no).2.its no).length + 1 = _
     omega
   · intro k hk
     rw [← hh]
     exact hasI_iff.2 (out_mem.1 (hasI_iff.1 hk)).1
 · rw [if_neg hz]
   exact ⟨hw, fun h => absurd h hz, fun k hk => by rw [← hh]; exact hk, w2⟩
theorem room_ok {m : Nat} {s : Ck} (ok : CkOk m s) : CkOk (m + U) s.room.2 ∧ (s.room.1 = 0 → (s.room.2.its.length : Int) < s.room.2.cap) ∧ (∀ k, hasI s.room.2.its k = true → hasI s.its k = true) ∧ s.room.2.cap = s.cap := by
 unfold Ck.room
 by_cases hz : (s.pgs.length : Int) < s.cap
 · rw [if_pos hz]
   exact ⟨ok.more (by omega), fun _ => by have := ok.len; show (s.its.length : Int) < s.cap; omega, fun k h => h, rfl⟩
 · rw [if_neg hz]
   cases ho : oldI s.its with
   | none => exact ⟨ok.more (by omega), (fun h => by cases h), (fun k h => h), rfl⟩
   | some n =>
     obtain ⟨h1, h2, h3, h4⟩ := release_ok ok (old_drop ho)
     refine ⟨h1, fun h => ?_, h3, h4⟩
     have := h2 h
     have := ok.most
     show ((s.release n.key).2.its.length : Int) < (s.release n.key).2.cap
     rw [h4]
     omega
theorem pput_page {no : Int} {b : List UInt8} (hb : b.length = 256) (h0 : 0 ≤ no) (h1 : no < 1048576) : ∀ {l : Pgs}, (∀ p ∈ l, p.2.length = 256 ∧ 0 ≤ p.1 ∧ p.1 < 1048576) → ∀ p ∈ pput no b l, p.2.length = 256 ∧ 0 ≤ p.1 ∧ p.1 < 1048576
 | [], _, p, hp => by simp [pput] at hp; subst hp; exact ⟨hb, h0, h1⟩
 | q :: l, hl, p, hp => by
   unfold pput at hp
   split at hp
   · rcases List.mem_cons.1 hp with rfl | hp
     · exact ⟨hb, h0, h1⟩
     · exact hl p (List.mem_cons_of_mem _ hp)
   · rcases List.mem_cons.1 hp with rfl | hp
     · exact hl _ (by simp)
     · exact pput_page hb h0 h1 (fun p hp => hl p (List.mem_cons_of_mem _ hp)) p hp
theorem take_reads (s : Ck) (no : Int) (b : List UInt8) : (s.take no b).2.reads = s.reads := by
 have hw : ∀ k, (s.release k).2.reads = s.reads := by
  intro k
  unfold Ck.release
  split
  · exact (write_same s k).2.2.1
  · exact (write_same s k).2.2.1
 have hr : s.room.2.reads = s.reads := by
  unfold Ck.room
  split
  · rfl
  · cases oldI s.its with
    | none => rfl
    | some n => exact hw n.key
 unfold Ck.take
 split
 · exact hr
 · exact hr
theorem take_ok {m : Nat} {s : Ck} (ok : CkOk m s) {no : Int} {b : List UInt8} (h : hasI s.its no = false) (h0 : 0 ≤ no) (h1 : no < 1048576) (hb : b.length = 256) : CkOk (m + U) (s.take no b).2 := by
 obtain ⟨hr, h2, h3, h4⟩ := room_ok ok
 unfold Ck.take
 by_cases hz : s.room.1 = 0
 · rw [if_pos hz]
   have hlt := h2 hz
   have hno : hasI s.room.2.its no = false := by
    rw [Bool.eq_false_iff]; intro hh; rw [h3 no hh] at h; cases h
   have hpn : (pget no s.room.2.pgs).isSome = false := by rw [← hr.same]; exact hno
   refine ⟨⟨?_, ?_, ?_⟩, ?_, ?_, ?_, ?_, hr.cap, ?_, hr.dk, hr.nm, hr.reads⟩
   · show (keysI (s.room.2.its ++ [⟨no, 0, false⟩])).Nodup
     unfold keysI
     rw [List.map_append, List.nodup_append]
     refine ⟨hr.lru.nd, by simp, ?_⟩
     intro a ha c hc e
     simp at hc
     subst e hc
     rw [hasI_iff.2 ha] at hno
     cases hno
   · intro n hn
     rcases List.mem_append.1 hn with hn | hn
     · exact hr.lru.pins n hn
     · simp at hn; subst hn; simp
   · have := hr.cap
     show (s.room.2.its ++ [_]).length ≤ 4096
     rw [List.length_append]; simp; omega
   · show ((pput no b s.room.2.pgs).map (·.1)).Nodup
     rw [pput_keys, hpn]
     simp only [Bool.false_eq_true, if_false]
     rw [List.nodup_append]
     refine ⟨hr.nd, by simp, ?_⟩
     intro a ha c hc e
     simp at hc
     subst e hc
     rw [pget_some.2 ha] at hpn; cases hpn
   · intro k
     show hasI (s.room.2.its ++ [_]) k = (pget k (pput no b s.room.2.pgs)).isSome
     rw [pget_pput]
     unfold hasI
     rw [List.any_append]
     by_cases hk : k = no
     · subst hk; simp
     · rw [if_neg hk, ← hr.same k]
       simp [hasI]
       exact fun e => absurd e.symm hk
   · show (pput no b s.room.2.pgs).length = (s.room.2.its ++ [_]).length
     rw [pput_len, hpn, List.length_append]
     simp [hr.len]
   · intro p hp
     have hp' : p ∈ pput no b s.room.2.pgs := hp
     have : ∀ l : Pgs, (∀ p ∈ l, p.2.length = 256 ∧ 0 ≤ p.1 ∧ p.1 < 1048576) → ∀ p ∈ pput no b l, p.2.length = 256 ∧ 0 ≤ p.1 ∧ p.1 < 1048576 := by
      intro l
      induction l with
      | nil => intro _ p hp; simp [pput] at hp; subst hp; exact ⟨hb, h0, h1⟩
      | cons q l ih =>
        intro hl p hp
        unfold pput at hp
        split at hp
        · rcases List.mem_cons.1 hp with rfl | hp
          · exact ⟨hb, h0, h1⟩
          · exact hl p (List.mem_cons_of_mem _ hp)
        · rcases List.mem_cons.1 hp with rfl | hp
          · exact hl _ (by simp)
          · exact ih (fun p hp => hl p (List.mem_cons_of_mem _ hp)) p hp
     exact this _ hr.page p hp'
   · show ((s.room.2.its ++ [_]).length : Int) ≤ s.room.2.cap
     rw [List.length_append]; simp; omega
 · rw [if_neg hz]; exact hr
end Go.Proofs.YtfhbmblbidcmmaaGreat
