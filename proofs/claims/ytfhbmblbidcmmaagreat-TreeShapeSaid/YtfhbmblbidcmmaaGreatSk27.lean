/-
  Of all roots that are made the pages are a tree in the form of the document, and just these are told, and each is in use. No condition. (part 27)
-/
import Derived.Test.YtfhbmblbidcmmaaGreatSk25
import Derived.Test.YtfhbmblbidcmmaaGreatSk26
import Derived.Test.YtfhbmblbidcmmaaGreatSk16
set_option linter.unusedSimpArgs false
set_option linter.unusedVariables false
namespace Go.Tr
theorem pageOpen_len (no : Int) (b : List UInt8) : (pageOpen no b).2.1.length ≤ b.length := by
 unfold pageOpen
 split
 · simp
 · split
   · simp
   · split
     · simp
     · simp only
       split
       · simp
       · split
         · simp
         · simp only [List.length_take, List.length_drop]
           omega
theorem ndOpen_may {kind : Int} {b : List UInt8} (h : (ndOpen kind b).2 = 0) : may (ndOpen kind b).1 = true := by
 cases b with
 | nil => simp [ndOpen] at h
 | cons b rest =>
   unfold ndOpen at h ⊢
   simp only at h ⊢
   by_cases h1 : kind ≠ 1 ∧ kind ≠ 2
   · rw [if_pos h1] at h; simp at h
   · rw [if_neg h1] at h ⊢
     by_cases h2 : rest.length ≠ b.toNat * (if kind = 1 then 13 else 16)
     · rw [if_pos h2] at h; simp at h
     · rw [if_neg h2] at h ⊢
       generalize (if kind = 1 then (⟨true, ues b.toNat rest, []⟩ : Nd) else ⟨false, [], uks b.toNat rest⟩) = n at h ⊢
       by_cases h3 : may n = true
       · rw [if_pos h3]; exact h3
       · rw [if_neg h3] at h; simp at h
end Go.Tr
namespace Go.Proofs.YtfhbmblbidcmmaaGreat
set_option linter.unusedSimpArgs false
set_option linter.unusedVariables false
open Go.RowKit Go.Sl Go.Dk Go.Tr
attribute [local go_sem ↓] Go.wp_at_zero Go.wp_at_succ
attribute [local go_sem] Go.Sl.cell_sat Go.Sl.frozen_sat
theorem openNd_may {no : Int} {b : List UInt8} {n : Nd} (h : openNd no b = some n) : may n = true := by
 unfold openNd at h
 split at h
 · split at h
   · rename_i h1
     cases h
     exact ndOpen_may h1
   · cases h
 · cases h
theorem Num.more {N M : Nat} {s : Ck} (h : Num N s) (k : N ≤ M) : Num M s := by
 obtain ⟨h1, h2, h3, h4, h5⟩ := h
 exact ⟨by omega, by omega, by omega, by omega, h5⟩
theorem release_nm (s : Ck) (no : Int) : (s.release no).2.nm = s.nm := by
 unfold Ck.release
 split <;> exact (write_same s no).1
theorem room_nm (s : Ck) : s.room.2.nm = s.nm := by
 unfold Ck.room
 split
 · rfl
 · split
   · rfl
   · exact release_nm s _
theorem take_nm (s : Ck) (no : Int) (b : List UInt8) : (s.take no b).2.nm = s.nm := by
 unfold Ck.take
 split <;> exact room_nm s
theorem get_nm (s : Ck) (no : Int) : (s.get no).2.2.nm = s.nm := by
 unfold Ck.get
 split
 · rfl
 · split
   · rfl
   · simp only
     split
     · split <;> exact take_nm s _ _
     · rfl
theorem put_nm (s : Ck) (no : Int) (b : List UInt8) : (s.put no b).2.nm = s.nm := by
 unfold Ck.put
 split
 · rfl
 · split
   · rfl
   · split <;> exact take_nm s _ _
theorem get_len {m : Nat} {s : Ck} (ok : CkOk m s) (no : Int) : (s.get no).2.1.length ≤ 256 := by
 unfold Ck.get
 split
 · simp
 · split
   · exact page_len ok no
   · simp only
     split
     · rename_i h
       split
       · have h2 : (s.d.read s.nm (no * 256) ((256 : Nat) : Int)).1 = 0 := h
         show (s.d.read s.nm (no * 256) ((256 : Nat) : Int)).2.length ≤ 256
         rw [read_len h2]
         omega
       · simp
     · simp
theorem TsI.get {s : TS} (h : TsI s) (no : Int) (ho : s.ops < opsMax) : TsI ⟨(s.ck.get no).2.2, s.sp, s.ops + 2⟩ := by
 obtain ⟨m, hm⟩ := h.ck
 exact ⟨⟨_, get_ok hm no⟩, ((h.num.step (get_nm s.ck no) (get_bp hm no).1 (get_bp hm no).2).more (by show s.ops + 1 ≤ s.ops + 2; omega)), by show s.ops + 2 ≤ _; omega, h.res, by have := h.taken; show _ ≤ s.ops + 2; simp only; omega⟩
theorem TsI.put {s : TS} (h : TsI s) (no : Int) (b : List UInt8) (ho : s.ops ≤ opsMax) : TsI ⟨(s.ck.put no b).2, s.sp, s.ops + 1⟩ := by
 obtain ⟨m, hm⟩ := h.ck
 exact ⟨⟨_, put_ok hm no b⟩, h.num.step (put_nm s.ck no b) (put_bp hm no b).1 (by have := (put_bp hm no b).2; show (s.ck.put no b).2.reads ≤ _; omega), by show s.ops + 1 ≤ _; omega, h.res, by have := h.taken; show _ ≤ s.ops + 1; simp only; omega⟩
theorem TsI.take {s : TS} (h : TsI s) (ho : s.ops < opsMax) : TsI ⟨s.ck, s.sp.take.2, s.ops + 1⟩ := by
 have hk : s.sp.take.2.reserved = s.sp.reserved ∧ s.sp.take.2.taken.length ≤ s.sp.taken.length + 1 := by
  unfold Sp.take
  split <;> simp
 exact ⟨h.ck, h.num.more (by show _ ≤ s.ops + 1; omega), by show s.ops + 1 ≤ _; omega, by simp only; rw [hk.1]; exact h.res, by have := h.taken; show _ ≤ s.ops + 1; simp only; omega⟩
theorem tRead_eq {no : Int} {s : TS} (ho : s.ops < opsMax) : tRead no s =
 if (s.ck.get no).1 = 0 then (match openNd no (s.ck.get no).2.1 with | some n => .ok n ⟨(s.ck.get no).2.2, s.sp, s.ops + 2⟩ | none => .fault 13 ⟨(s.ck.get no).2.2, s.sp, s.ops + 2⟩)
 else .fault (if (s.ck.get no).1 = 6 ∨ (s.ck.get no).1 = 1 then 13 else (s.ck.get no).1) ⟨(s.ck.get no).2.2, s.sp, s.ops + 2⟩ := by
 unfold tRead M.bind mGet
 rw [if_pos ho]
 simp only [Res.bind]
 by_cases h : (s.ck.get no).1 = 0
 · rw [if_pos h, h]
   simp only [show ¬ ((0 : Int) = 6 ∨ (0 : Int) = 1) by omega, if_false]
   unfold mFail
   rw [if_pos rfl]
   simp only [M.pure]
   cases openNd no (s.ck.get no).2.1 <;> rfl
 · rw [if_neg h]
   unfold mFail
   rw [if_neg (by split <;> omega)]
   rfl
theorem tree_parts {h : Th} {s : TS} {F : Assn} {w : World} (hs : Sat (treeP h s * F) w) : TsI s ∧ Sat (cacheP h.C h.D s.ck * (spaceP h.S s.sp * (Sl.block h.t TTr [.pointer (some ⟨h.C, 0, none⟩), .pointer (some ⟨h.S, 0, none⟩)] * F))) w := by
 obtain ⟨hi, h2⟩ := Sat.tree_open hs
 exact ⟨hi, h2.eq (by unfold treeA; ac_rfl)⟩
theorem tree_join {h : Th} {s : TS} {F : Assn} {w : World} (hi : TsI s) (hs : Sat (cacheP h.C h.D s.ck * (spaceP h.S s.sp * (Sl.block h.t TTr [.pointer (some ⟨h.C, 0, none⟩), .pointer (some ⟨h.S, 0, none⟩)] * F))) w) : Sat (treeP h s * F) w :=
 Sat.tree_shut hi (hs.eq (by unfold treeA; ac_rfl))
set_option maxRecDepth 100000 in
set_option maxHeartbeats 3200000 in
theorem tread_any (h : Th) (s : TS) (no : Int) (F : Assn) (w : World) (hs : Sat (treeP h s * F) w) (hb : tRead no s ≠ .bad) :
 Calls Tryz.prog 129 #[.pointer (some ⟨h.t, 0, none⟩), .int .i64 no] w (TEnds h F (tRead no s) fun n v B => ReadsN B v n ∧ may n = true) := by
 have ho : s.ops < opsMax := by
  rcases Nat.lt_or_ge s.ops opsMax with h | h
  · exact h
  · refine absurd ?_ hb
    unfold tRead M.bind mGet
    rw [if_neg (by omega)]
    rfl
 obtain ⟨hi, h2⟩ := tree_parts hs
 have hget := fun F w q => get_any h.C h.D s.ck 137438953472 no F w q hi.ok (by omega)
 have hlen := get_len hi.ok no
 have HI : Aside (TsI ⟨(s.ck.get no).2.2, s.sp, s.ops + 2⟩) := hi.get no ho
 rw [tRead_eq ho]
 obtain ⟨⟨er, b, k2⟩, hr⟩ : ∃ r, s.ck.get no = r := ⟨_, rfl⟩
 rw [hr] at hget hlen HI ⊢
 simp only at hlen HI ⊢
 obtain ⟨t2, ht2⟩ : ∃ t, (⟨k2, s.sp, s.ops + 2⟩ : TS) = t := ⟨_, rfl⟩
 have hk : t2.ck = k2 ∧ t2.sp = s.sp := by rw [← ht2]; exact ⟨rfl, rfl⟩
 rw [ht2] at HI ⊢
 have HJ : Aside (∀ (G : Assn) (w : World), Sat (cacheP h.C h.D k2 * (spaceP h.S s.sp * (Sl.block h.t TTr [.pointer (some ⟨h.C, 0, none⟩), .pointer (some ⟨h.S, 0, none⟩)] * G))) w → Sat (treeP h t2 * G) w) := fun G w hG => tree_join HI.out (by rw [hk.1, hk.2]; exact hG)
 haveI := h2.i
 clear hb hr ht2 hk hi ho hs
 by_cases h6 : er = 6
 · subst h6
   rw [if_neg (by omega), if_pos (by omega)]
   have hf := fail_not 13 (by omega)
   go_enter Tryz.func129, Tryz.ntmps129
   go_wp2_with fail
   refine (hget _ _ (takeI (cacheP h.C h.D s.ck))).mono ?_
   rintro e w1 ⟨v, rfl, q1⟩
   haveI := q1.i
   clear hget h2
   go_wp2_with fail
   refine (hf _).mono ?_
   rintro e w2 ⟨rfl, rfl⟩
   refine ⟨rfl, ?_⟩
   exact ⟨rfl, HJ.out _ _ (keep4 _ _ _ _)⟩
 · have g6 : (er == 6) = false := by simp [h6]
   by_cases h1 : er = 1
   · subst h1
     rw [if_neg (by omega), if_pos (by omega)]
     have hf := fail_not 13 (by omega)
     go_enter Tryz.func129, Tryz.ntmps129
     go_wp2_with fail
     refine (hget _ _ (takeI (cacheP h.C h.D s.ck))).mono ?_
     rintro e w1 ⟨v, rfl, q1⟩
     haveI := q1.i
     clear hget h2
     go_wp2_with fail
     refine (hf _).mono ?_
     rintro e w2 ⟨rfl, rfl⟩
     refine ⟨rfl, ?_⟩
     exact ⟨rfl, HJ.out _ _ (keep4 _ _ _ _)⟩
   · have g1 : (er == 1) = false := by simp [h1]
     by_cases h0 : er = 0
     · subst h0
       rw [if_pos rfl]
       have hf := fail_zero
       have hpo := fun v F w (q : Sat (rw TB 1 v (bys b) * F) w) => pageOpen_any no v b _ F w Reads.rw q (by omega)
       have hpl := pageOpen_len no b
       have hop : ∀ r, openNd no b = r → r = (if (pageOpen no b).2.2 = 0 then (if (ndOpen (pageOpen no b).1 (pageOpen no b).2.1).2 = 0 then some (ndOpen (pageOpen no b).1 (pageOpen no b).2.1).1 else none) else none) := fun r h => by rw [← h]; rfl
       have hmy := fun n => openNd_may (no := no) (b := b) (n := n)
       obtain ⟨on, hon⟩ : ∃ r, openNd no b = r := ⟨_, rfl⟩
       have hop := hop on hon
       rw [hon] at hmy ⊢
       have HMY : Aside (∀ n, on = some n → may n = true) := fun n h => hmy n h
       obtain ⟨⟨kind, body, pe⟩, hp⟩ : ∃ r, pageOpen no b = r := ⟨_, rfl⟩
       rw [hp] at hpo hop hpl
       simp only at hpo hop hpl
       have hbl : body.length ≤ 1099511627776 := by omega
       clear hmy hon hp hpl hlen h6 h1 g6 g1
       by_cases hpe : pe = 0
       · subst hpe
         rw [if_pos rfl] at hop
         have hno := fun v F w (q : Sat (rw TB 1 v (bys body) * F) w) => ndOpen_any kind body v _ F w Reads.rw q hbl
         obtain ⟨⟨nd, ne⟩, hn⟩ : ∃ r, ndOpen kind body = r := ⟨_, rfl⟩
         rw [hn] at hno hop
         simp only at hop
         clear hn hbl
         by_cases hne : ne = 0
         · subst hne
           rw [if_pos rfl] at hop
           subst hop
           have HNO : Aside (∀ (v : Value) (F : Assn) (w : World), Sat (rw TB 1 v (bys body) * F) w → Calls Tryz.prog 160 #[.int .i64 kind, v] w (NoOut (rw TB 1 v (bys body)) F (nd, 0))) := hno
           clear hno
           go_enter Tryz.func129, Tryz.ntmps129
           go_wp2_with fail
           refine (hget _ _ (takeI (cacheP h.C h.D s.ck))).mono ?_
           rintro e w1 ⟨v, rfl, q1⟩
           haveI := q1.i
           clear hget h2
           go_wp2_with fail
           refine (hf _).mono ?_
           rintro e w2 ⟨rfl, rfl⟩
           go_wp2_with fail
           refine (hpo v _ _ (takeI (rw TB 1 v (bys b)))).mono ?_
           rintro e w3 ⟨a3, c3, rfl, q3⟩
           haveI := q3.i
           clear hpo q1 hf
           go_wp2_with fail
           refine (HNO.out _ _ _ (takeI (rw TB 1 (.slice a3 body.length c3) (bys body)))).mono ?_
           rintro e w4 ⟨v', G, rfl, hG, q4⟩
           haveI := q4.i
           clear q3
           obtain ⟨vE, vK, rfl, hE, hK⟩ := id hG
           obtain ⟨aE, cE, rfl, hE1, hE2⟩ := hE.v
           obtain ⟨aK, cK, rfl, hK1, hK2⟩ := hK.v
           have HG : Aside (ReadsN G (.agg #[.bool nd.leaf, .slice aE nd.ents.length cE, .slice aK nd.kids.length cK]) nd) := hG
           clear hE hK hG hE1 hE2 hK1 hK2
           go_wp2
           go_returns
           exact ⟨_, G, rfl, ⟨HG.out, HMY.out nd rfl⟩, HJ.out _ _ (keep5 _ _ _ _ _)⟩
         · have gne : (ne == 0) = false := by simp [hne]
           rw [if_neg hne] at hop
           subst hop
           have HNO : Aside (∀ (v : Value) (F : Assn) (w : World), Sat (rw TB 1 v (bys body) * F) w → Calls Tryz.prog 160 #[.int .i64 kind, v] w (NoOut (rw TB 1 v (bys body)) F (nd, ne))) := hno
           clear hno hne
           go_enter Tryz.func129, Tryz.ntmps129
           go_wp2_with fail
           refine (hget _ _ (takeI (cacheP h.C h.D s.ck))).mono ?_
           rintro e w1 ⟨v, rfl, q1⟩
           haveI := q1.i
           clear hget h2
           go_wp2_with fail
           refine (hf _).mono ?_
           rintro e w2 ⟨rfl, rfl⟩
           go_wp2_with fail
           refine (hpo v _ _ (takeI (rw TB 1 v (bys b)))).mono ?_
           rintro e w3 ⟨a3, c3, rfl, q3⟩
           haveI := q3.i
           clear hpo q1 hf
           go_wp2_with fail
           refine (HNO.out _ _ _ (takeI (rw TB 1 (.slice a3 body.length c3) (bys body)))).mono ?_
           rintro e w4 ⟨v', G, rfl, hG, q4⟩
           haveI := q4.i
           clear q3
           obtain ⟨vE, vK, rfl, hE, hK⟩ := id hG
           obtain ⟨aE, cE, rfl, hE1, hE2⟩ := hE.v
           obtain ⟨aK, cK, rfl, hK1, hK2⟩ := hK.v
           clear hE hK hG hE1 hE2 hK1 hK2
           go_wp2
           refine ⟨rfl, ?_⟩
           exact ⟨rfl, HJ.out _ _ (keep4 _ _ _ _)⟩
       · have gpe : (pe == 0) = false := by simp [hpe]
         rw [if_neg hpe] at hop
         subst hop
         clear hbl hpe
         go_enter Tryz.func129, Tryz.ntmps129
         go_wp2_with fail
         refine (hget _ _ (takeI (cacheP h.C h.D s.ck))).mono ?_
         rintro e w1 ⟨v, rfl, q1⟩
         haveI := q1.i
         clear hget h2
         go_wp2_with fail
         refine (hf _).mono ?_
         rintro e w2 ⟨rfl, rfl⟩
         go_wp2_with fail
         refine (hpo v _ _ (takeI (rw TB 1 v (bys b)))).mono ?_
         rintro e w3 ⟨a3, c3, rfl, q3⟩
         haveI := q3.i
         clear hpo q1 hf
         go_wp2
         refine ⟨rfl, ?_⟩
         exact ⟨rfl, HJ.out _ _ (keep4 _ _ _ _)⟩
     · rw [if_neg h0, if_neg (by omega)]
       have hf := fail_not er h0
       clear h6 h1 h0
       go_enter Tryz.func129, Tryz.ntmps129
       go_wp2_with fail
       refine (hget _ _ (takeI (cacheP h.C h.D s.ck))).mono ?_
       rintro e w1 ⟨v, rfl, q1⟩
       haveI := q1.i
       clear hget h2
       go_wp2_with fail
       refine (hf _).mono ?_
       rintro e w2 ⟨rfl, rfl⟩
       refine ⟨rfl, ?_⟩
       exact ⟨rfl, HJ.out _ _ (keep4 _ _ _ _)⟩
end Go.Proofs.YtfhbmblbidcmmaaGreat
