/-
  Of all versions the pages that are told are just those of their trees in the file in the form of the document, and a root that is none is refused. No condition. (part 27)
-/
import Derived.Test.YtfhbmblbidcmmaaGreatVa25
import Derived.Test.YtfhbmblbidcmmaaGreatVa26
import Derived.Test.YtfhbmblbidcmmaaGreatVa13
import Derived.Test.YtfhbmblbidcmmaaGreatVa22
set_option linter.unusedSimpArgs false
set_option linter.unusedVariables false
namespace Go.Tr
theorem pageOpen_len (no : Int) (b : List UInt8) : (pageOpen no b).2.1.length ≤ b.length := by
 unfold pageOpen
 split
 · simp
 · split
   · simp
   · split
     · simp
     · simp only
       split
       · simp
       · split
         · simp
         · simp only [List.length_take, List.length_drop]
           omega
theorem ndOpen_may {kind : Int} {b : List UInt8} (h : (ndOpen kind b).2 = 0) : may (ndOpen kind b).1 = true := by
 cases b with
 | nil => simp [ndOpen] at h
 | cons b rest =>
   unfold ndOpen at h ⊢
   simp only at h ⊢
   by_cases h1 : kind ≠ 1 ∧ kind ≠ 2
   · rw [if_pos h1] at h; simp at h
   · rw [if_neg h1] at h ⊢
     by_cases h2 : rest.length ≠ b.toNat * (if kind = 1 then 13 else 16)
     · rw [if_pos h2] at h; simp at h
     · rw [if_neg h2] at h ⊢
       generalize (if kind = 1 then (⟨true, ues b.toNat rest, []⟩ : Nd) else ⟨false, [], uks b.toNat rest⟩) = n at h ⊢
       by_cases h3 : may n = true
       · rw [if_pos h3]; exact h3
       · rw [if_neg h3] at h; simp at h
end Go.Tr
namespace Go.Proofs.YtfhbmblbidcmmaaGreat
set_option linter.unusedSimpArgs false
set_option linter.unusedVariables false
open Go.RowKit Go.Sl Go.Dk Go.Tr
attribute [local go_sem ↓] Go.wp_at_zero Go.wp_at_succ
attribute [local go_sem] Go.Sl.cell_sat Go.Sl.frozen_sat
theorem openNd_may {no : Int} {b : List UInt8} {n : Nd} (h : openNd no b = some n) : may n = true := by
 unfold openNd at h
 split at h
 · split at h
   · rename_i h1
     cases h
     exact ndOpen_may h1
   · cases h
 · cases h
theorem Num.more {N M : Nat} {s : Ck} (h : Num N s) (k : N ≤ M) : Num M s := by
 obtain ⟨h1, h2, h3, h4, h5⟩ := h
 exact ⟨by omega, by omega, by omega, by omega, h5⟩
theorem release_nm (s : Ck) (no : Int) : (s.release no).2.nm = s.nm := by
 unfold Ck.release
 split <;> exact (write_same s no).1
theorem room_nm (s : Ck) : s.room.2.nm = s.nm := by
 unfold Ck.room
 split
 · rfl
 · split
   · rfl
   · exact release_nm s _
theorem take_nm (s : Ck) (no : Int) (b : List UInt8) : (s.take no b).2.nm = s.nm := by
 unfold Ck.take
 split <;> exact room_nm s
theorem get_nm (s : Ck) (no : Int) : (s.get no).2.2.nm = s.nm := by
 unfold Ck.get
 split
 · rfl
 · split
   · rfl
   · simp only
     split
     · split <;> exact take_nm s _ _
     · rfl
theorem put_nm (s : Ck) (no : Int) (b : List UInt8) : (s.put no b).2.nm = s.nm := by
 unfold Ck.put
 split
 · rfl
 · split
   · rfl
   · split <;> exact take_nm s _ _
theorem get_len {m : Nat} {s : Ck} (ok : CkOk m s) (no : Int) : (s.get no).2.1.length ≤ 256 := by
 unfold Ck.get
 split
 · simp
 · split
   · exact page_len ok no
   · simp only
     split
     · rename_i h
       split
       · have h2 : (s.d.read s.nm (no * 256) ((256 : Nat) : Int)).1 = 0 := h
         show (s.d.read s.nm (no * 256) ((256 : Nat) : Int)).2.length ≤ 256
         rw [read_len h2]
         omega
       · simp
     · simp
theorem TsI.get {s : TS} (h : TsI s) (no : Int) (ho : s.ops < opsMax) : TsI ⟨(s.ck.get no).2.2, s.sp, s.ops + 2⟩ := by
 obtain ⟨m, hm⟩ := h.ck
 exact ⟨⟨_, get_ok hm no⟩, ((h.num.step (get_nm s.ck no) (get_bp hm no).1 (get_bp hm no).2).more (by show s.ops + 1 ≤ s.ops + 2; omega)), by show s.ops + 2 ≤ _; omega, h.res, by have := h.taken; show _ ≤ s.ops + 2; simp only; omega⟩
theorem TsI.put {s : TS} (h : TsI s) (no : Int) (b : List UInt8) (ho : s.ops ≤ opsMax) : TsI ⟨(s.ck.put no b).2, s.sp, s.ops + 1⟩ := by
 obtain ⟨m, hm⟩ := h.ck
 exact ⟨⟨_, put_ok hm no b⟩, h.num.step (put_nm s.ck no b) (put_bp hm no b).1 (by have := (put_bp hm no b).2; show (s.ck.put no b).2.reads ≤ _; omega), by show s.ops + 1 ≤ _; omega, h.res, by have := h.taken; show _ ≤ s.ops + 1; simp only; omega⟩
theorem TsI.take {s : TS} (h : TsI s) (ho : s.ops < opsMax) : TsI ⟨s.ck, s.sp.take.2, s.ops + 1⟩ := by
 have hk : s.sp.take.2.reserved = s.sp.reserved ∧ s.sp.take.2.taken.length ≤ s.sp.taken.length + 1 := by
  unfold Sp.take
  split <;> simp
 exact ⟨h.ck, h.num.more (by show _ ≤ s.ops + 1; omega), by show s.ops + 1 ≤ _; omega, by simp only; rw [hk.1]; exact h.res, by have := h.taken; show _ ≤ s.ops + 1; simp only; omega⟩
theorem tRead_eq {no : Int} {s : TS} (ho : s.ops < opsMax) : tRead no s =
 if (s.ck.get no).1 = 0 then (match openNd no (s.ck.get no).2.1 with | some n => .ok n ⟨(s.ck.get no).2.2, s.sp, s.ops + 2⟩ | none => .fault 13 ⟨(s.ck.get no).2.2, s.sp, s.ops + 2⟩)
 else .fault (if (s.ck.get no).1 = 6 ∨ (s.ck.get no).1 = 1 then 13 else (s.ck.get no).1) ⟨(s.ck.get no).2.2, s.sp, s.ops + 2⟩ := by
 unfold tRead M.bind mGet
 rw [if_pos ho]
 simp only [Res.bind]
 by_cases h : (s.ck.get no).1 = 0
 · rw [if_pos h, h]
   simp only [show ¬ ((0 : Int) = 6 ∨ (0 : Int) = 1) by omega, if_false]
   unfold mFail
   rw [if_pos rfl]
   simp only [M.pure]
   cases openNd no (s.ck.get no).2.1 <;> rfl
 · rw [if_neg h]
   unfold mFail
   rw [if_neg (by split <;> omega)]
   rfl
theorem tree_parts {h : Th} {s : TS} {F : Assn} {w : World} (hs : Sat (treeP h s * F) w) : TsI s ∧ Sat (cacheP h.C h.D s.ck * (spaceP h.S s.sp * (Sl.block h.t TTr [.pointer (some ⟨h.C, 0, none⟩), .pointer (some ⟨h.S, 0, none⟩)] * F))) w := by
 obtain ⟨hi, h2⟩ := Sat.tree_open hs
 exact ⟨hi, h2.eq (by unfold treeA; ac_rfl)⟩
theorem tree_join {h : Th} {s : TS} {F : Assn} {w : World} (hi : TsI s) (hs : Sat (cacheP h.C h.D s.ck * (spaceP h.S s.sp * (Sl.block h.t TTr [.pointer (some ⟨h.C, 0, none⟩), .pointer (some ⟨h.S, 0, none⟩)] * F))) w) : Sat (treeP h s * F) w :=
 Sat.tree_shut hi (hs.eq (by unfold treeA; ac_rfl))
set_option maxRecDepth 100000 in
set_option maxHeartbeats 3200000 in
theorem tread_any (h : Th) (s : TS) (no : Int) (F : Assn) (w : World) (hs : Sat (treeP h s * F) w) (hb : tRead no s ≠ .bad) :
 Calls Tryz.prog 129 #[.pointer (some ⟨h.t, 0, none⟩), .int .i64 no] w (TEnds h F (tRead no s) fun n v B => ReadsN B v n ∧ may n = true) := by
 have ho : s.ops < opsMax := by
  rcases Nat.lt_or_ge s.ops opsMax with h | h
  · exact h
  · refine absurd ?_ hb
    unfold tRead M.bind mGet
    rw [if_neg (by omega)]
    rfl
 obtain ⟨hi, h2⟩ := tree_parts hs
 have hget := fun F w q => get_any h.C h.D s.ck 137438953472 no F w q hi.ok (by omega)
 have hlen := get_len hi.ok no
 have HI : Aside (TsI ⟨(s.ck.get no).2.2, s.sp, s.ops + 2⟩) := hi.get no ho
 rw [tRead_eq ho]
 obtain ⟨⟨er, b, k2⟩, hr⟩ : ∃ r, s.ck.get no = r := ⟨_, rfl⟩
 rw [hr] at hget hlen HI ⊢
 simp only at hlen HI ⊢
 obtain ⟨t2, ht2⟩ : ∃ t, (⟨k2, s.sp, s.ops + 2⟩ : TS) = t := ⟨_, rfl⟩
 have hk : t2.ck = k2 ∧ t2.sp = s.sp := by rw [← ht2]; exact ⟨rfl, rfl⟩
 rw [ht2] at HI ⊢
 have HJ : Aside (∀ (G : Assn) (w : World), Sat (cacheP h.C h.D k2 * (spaceP h.S s.sp * (Sl.block h.t TTr [.pointer (some ⟨h.C, 0, none⟩), .pointer (some ⟨h.S, 0, none⟩)] * G))) w → Sat (treeP h t2 * G) w) := fun G w hG => tree_join HI.out (by rw [hk.1, hk.2]; exact hG)
 haveI := h2.i
 clear hb hr ht2 hk hi ho hs
 by_cases h6 : er = 6
 · subst h6
   rw [if_neg (by omega), if_pos (by omega)]
   have hf := fail_not 13 (by omega)
   go_enter Tryz.func129, Tryz.ntmps129
   go_wp2_with fail
   refine (hget _ _ (takeI (cacheP h.C h.D s.ck))).mono ?_
   rintro e w1 ⟨v, rfl, q1⟩
   haveI := q1.i
   clear hget h2
   go_wp2_with fail
   refine (hf _).mono ?_
   rintro e w2 ⟨rfl, rfl⟩
   refine ⟨rfl, ?_⟩
   exact ⟨rfl, HJ.out _ _ (keep4 _ _ _ _)⟩
 · have g6 : (er == 6) = false := by simp [h6]
   by_cases h1 : er = 1
   · subst h1
     rw [if_neg (by omega), if_pos (by omega)]
     have hf := fail_not 13 (by omega)
     go_enter Tryz.func129, Tryz.ntmps129
     go_wp2_with fail
     refine (hget _ _ (takeI (cacheP h.C h.D s.ck))).mono ?_
     rintro e w1 ⟨v, rfl, q1⟩
     haveI := q1.i
     clear hget h2
     go_wp2_with fail
     refine (hf _).mono ?_
     rintro e w2 ⟨rfl, rfl⟩
     refine ⟨rfl, ?_⟩
     exact ⟨rfl, HJ.out _ _ (keep4 _ _ _ _)⟩
   · have g1 : (er == 1) = false := by simp [h1]
     by_cases h0 : er = 0
     · subst h0
       rw [if_pos rfl]
       have hf := fail_zero
       have hpo := fun v F w (q : Sat (rw TB 1 v (bys b) * F) w) => pageOpen_any no v b _ F w Reads.rw q (by omega)
       have hpl := pageOpen_len no b
       have hop : ∀ r, openNd no b = r → r = (if (pageOpen no b).2.2 = 0 then (if (ndOpen (pageOpen no b).1 (pageOpen no b).2.1).2 = 0 then some (ndOpen (pageOpen no b).1 (pageOpen no b).2.1).1 else none) else none) := fun r h => by rw [← h]; rfl
       have hmy := fun n => openNd_may (no := no) (b := b) (n := n)
       obtain ⟨on, hon⟩ : ∃ r, openNd no b = r := ⟨_, rfl⟩
       have hop := hop on hon
       rw [hon] at hmy ⊢
       have HMY : Aside (∀ n, on = some n → may n = true) := fun n h => hmy n h
       obtain ⟨⟨kind, body, pe⟩, hp⟩ : ∃ r, pageOpen no b = r := ⟨_, rfl⟩
       rw [hp] at hpo hop hpl
       simp only at hpo hop hpl
       have hbl : body.length ≤ 1099511627776 := by omega
       clear hmy hon hp hpl hlen h6 h1 g6 g1
       by_cases hpe : pe = 0
       · subst hpe
         rw [if_pos rfl] at hop
         have hno := fun v F w (q : Sat (rw TB 1 v (bys body) * F) w) => ndOpen_any kind body v _ F w Reads.rw q hbl
         obtain ⟨⟨nd, ne⟩, hn⟩ : ∃ r, ndOpen kind body = r := ⟨_, rfl⟩
         rw [hn] at hno hop
         simp only at hop
         clear hn hbl
         by_cases hne : ne = 0
         · subst hne
           rw [if_pos rfl] at hop
           subst hop
           have HNO : Aside (∀ (v : Value) (F : Assn) (w : World), Sat (rw TB 1 v (bys body) * F) w → Calls Tryz.prog 160 #[.int .i64 kind, v] w (NoOut (rw TB 1 v (bys body)) F (nd, 0))) := hno
           clear hno
           go_enter Tryz.func129, Tryz.ntmps129
           go_wp2_with fail
           refine (hget _ _ (takeI (cacheP h.C h.D s.ck))).mono ?_
           rintro e w1 ⟨v, rfl, q1⟩
           haveI := q1.i
           clear hget h2
           go_wp2_with fail
           refine (hf _).mono ?_
           rintro e w2 ⟨rfl, rfl⟩
           go_wp2_with fail
           refine (hpo v _ _ (takeI (rw TB 1 v (bys b)))).mono ?_
           rintro e w3 ⟨a3, c3, rfl, q3⟩
           haveI := q3.i
           clear hpo q1 hf
           go_wp2_with fail
           refine (HNO.out _ _ _ (takeI (rw TB 1 (.slice a3 body.length c3) (bys body)))).mono ?_
           rintro e w4 ⟨v', G, rfl, hG, q4⟩
           haveI := q4.i
           clear q3
           obtain ⟨vE, vK, rfl, hE, hK⟩ := id hG
           obtain ⟨aE, cE, rfl, hE1, hE2⟩ := hE.v
           obtain ⟨aK, cK, rfl, hK1, hK2⟩ := hK.v
           have HG : Aside (ReadsN G (.agg #[.bool nd.leaf, .slice aE nd.ents.length cE, .slice aK nd.kids.length cK]) nd) := hG
           clear hE hK hG hE1 hE2 hK1 hK2
           go_wp2
           go_returns
           exact ⟨_, G, rfl, ⟨HG.out, HMY.out nd rfl⟩, HJ.out _ _ (keep5 _ _ _ _ _)⟩
         · have gne : (ne == 0) = false := by simp [hne]
           rw [if_neg hne] at hop
           subst hop
           have HNO : Aside (∀ (v : Value) (F : Assn) (w : World), Sat (rw TB 1 v (bys body) * F) w → Calls Tryz.prog 160 #[.int .i64 kind, v] w (NoOut (rw TB 1 v (bys body)) F (nd, ne))) := hno
           clear hno hne
           go_enter Tryz.func129, Tryz.ntmps129
           go_wp2_with fail
           refine (hget _ _ (takeI (cacheP h.C h.D s.ck))).mono ?_
           rintro e w1 ⟨v, rfl, q1⟩
           haveI := q1.i
           clear hget h2
           go_wp2_with fail
           refine (hf _).mono ?_
           rintro e w2 ⟨rfl, rfl⟩
           go_wp2_with fail
           refine (hpo v _ _ (takeI (rw TB 1 v (bys b)))).mono ?_
           rintro e w3 ⟨a3, c3, rfl, q3⟩
           haveI := q3.i
           clear hpo q1 hf
           go_wp2_with fail
           refine (HNO.out _ _ _ (takeI (rw TB 1 (.slice a3 body.length c3) (bys body)))).mono ?_
           rintro e w4 ⟨v', G, rfl, hG, q4⟩
           haveI := q4.i
           clear q3
           obtain ⟨vE, vK, rfl, hE, hK⟩ := id hG
           obtain ⟨aE, cE, rfl, hE1, hE2⟩ := hE.v
           obtain ⟨aK, cK, rfl, hK1, hK2⟩ := hK.v
           clear hE hK hG hE1 hE2 hK1 hK2
           go_wp2
           refine ⟨rfl, ?_⟩
           exact ⟨rfl, HJ.out _ _ (keep4 _ _ _ _)⟩
       · have gpe : (pe == 0) = false := by simp [hpe]
         rw [if_neg hpe] at hop
         subst hop
         clear hbl hpe
         go_enter Tryz.func129, Tryz.ntmps129
         go_wp2_with fail
         refine (hget _ _ (takeI (cacheP h.C h.D s.ck))).mono ?_
         rintro e w1 ⟨v, rfl, q1⟩
         haveI := q1.i
         clear hget h2
         go_wp2_with fail
         refine (hf _).mono ?_
         rintro e w2 ⟨rfl, rfl⟩
         go_wp2_with fail
         refine (hpo v _ _ (takeI (rw TB 1 v (bys b)))).mono ?_
         rintro e w3 ⟨a3, c3, rfl, q3⟩
         haveI := q3.i
         clear hpo q1 hf
         go_wp2
         refine ⟨rfl, ?_⟩
         exact ⟨rfl, HJ.out _ _ (keep4 _ _ _ _)⟩
     · rw [if_neg h0, if_neg (by omega)]
       have hf := fail_not er h0
       clear h6 h1 h0
       go_enter Tryz.func129, Tryz.ntmps129
       go_wp2_with fail
       refine (hget _ _ (takeI (cacheP h.C h.D s.ck))).mono ?_
       rintro e w1 ⟨v, rfl, q1⟩
       haveI := q1.i
       clear hget h2
       go_wp2_with fail
       refine (hf _).mono ?_
       rintro e w2 ⟨rfl, rfl⟩
       refine ⟨rfl, ?_⟩
       exact ⟨rfl, HJ.out _ _ (keep4 _ _ _ _)⟩
end Go.Proofs.YtfhbmblbidcmmaaGreat
namespace Go.Proofs.YtfhbmblbidcmmaaGreat
set_option linter.unusedSimpArgs false
set_option linter.unusedVariables false
set_option linter.unusedSectionVars false
open Go.Dk Go.Tr
class TopN where
 n : Nat
 le : n ≤ 1048576
variable [TopN]
def TOP : Nat := TopN.n
theorem TOP_le : TOP ≤ 1048576 := TopN.le
theorem Has.uniq {s : Ck} {k : Int} {b c : List UInt8} (h1 : Has s k b) (h2 : Has s k c) : b = c := by
 unfold Has Filed at h1 h2
 rcases h1 with h1 | ⟨h1, _, _, e1⟩ <;> rcases h2 with h2 | ⟨h2, _, _, e2⟩
 · rw [h1] at h2; exact Option.some.inj h2
 · rw [h1] at h2; cases h2
 · rw [h1] at h2; cases h2
 · rw [← e1, ← e2]
def Stands (s : TS) (p : Int) (n : Nd) : Prop := p ∈ s.sp.used ∧ ∃ b, Has s.ck p b ∧ openNd p b = some n
theorem Stands.uniq {s : TS} {p : Int} {n m : Nd} (h1 : Stands s p n) (h2 : Stands s p m) : n = m := by
 obtain ⟨_, b, hb, e1⟩ := h1
 obtain ⟨_, c, hc, e2⟩ := h2
 obtain rfl := hb.uniq hc
 rw [e1] at e2
 exact Option.some.inj e2
open Classical in
noncomputable def nodeAt (s : TS) (p : Int) : Option Nd := if h : ∃ n, Stands s p n then some h.choose else none
theorem nodeAt_iff {s : TS} {p : Int} {n : Nd} : nodeAt s p = some n ↔ Stands s p n := by
 unfold nodeAt
 split
 · rename_i h
   constructor
   · intro e; cases e; exact h.choose_spec
   · intro hs; rw [h.choose_spec.uniq hs]
 · rename_i h
   constructor
   · intro e; cases e
   · intro hs; exact absurd ⟨n, hs⟩ h
theorem nodeAt_le {s s' : TS} (h : ∀ p n, Stands s p n → Stands s' p n) : Le (nodeAt s) (nodeAt s') := fun p n e => nodeAt_iff.2 (h p n (nodeAt_iff.1 e))
def roomOf (s : Sp) : Nat := TOP - s.reserved.toNat - s.used.length - s.waiting.length
def leftOps (s : TS) : Nat := (opsMax - s.ops) / 2
structure TInv (roomy : Bool) (s : TS) : Prop where
 ts : TsI s
 good : Good TOP s.ck
 res : 1 ≤ s.sp.reserved
 used : ∀ p ∈ s.sp.used, s.sp.reserved ≤ p ∧ p < TOP
 roomy : roomy = true → Roomy TOP s.ck
noncomputable def envT (roomy : Bool) : Env TS where
 rd := tRead
 wt := tWrite
 V := nodeAt
 inv := TInv roomy
 reads s := s.ck.reads.toNat
 room s := roomOf s.sp
 left := leftOps
 bad e := roomy = false ∧ e = 7
theorem stands_get {s : TS} {no : Int} {p : Int} {n : Nd} (h : Stands s p n) {k2 : Ck} {o : Nat} (hk : ∀ k b, Has s.ck k b → Has k2 k b) : Stands ⟨k2, s.sp, o⟩ p n := by
 obtain ⟨h1, b, h2, h3⟩ := h
 exact ⟨h1, b, hk _ _ h2, h3⟩
theorem least_all {s : Sp} : ∀ {k : Nat} {no : Int}, s.least k no = none → ∀ y, no ≤ y → y < no + k → s.busy y = true
 | 0, no, _, y, h1, h2 => by omega
 | k + 1, no, h, y, h1, h2 => by
   unfold Sp.least at h
   cases hb : s.busy no with
   | true =>
     rw [hb, if_pos rfl] at h
     by_cases e : y = no
     · rw [e]; exact hb
     · exact least_all h y (by omega) (by omega)
   | false => rw [hb, if_neg (by simp)] at h; cases h
theorem free_none {s : Sp} (h : s.free = none) : roomOf s = 0 := by
 have h1 := least_all h
 have hnd : ((List.range (1048576 - s.reserved).toNat).map fun i : Nat => s.reserved + i).Nodup := by
  refine List.Pairwise.map _ (fun a b hab => ?_) List.nodup_range
  intro e
  exact hab (by omega)
 have hsub : ((List.range (1048576 - s.reserved).toNat).map fun i : Nat => s.reserved + i) ⊆ s.used ++ s.waiting := by
  intro y hy
  obtain ⟨i, hi, rfl⟩ := List.mem_map.1 hy
  have hi := List.mem_range.1 hi
  have := h1 (s.reserved + i) (by omega) (by omega)
  unfold Sp.busy at this
  simpa using this
 have hl := List.Nodup.length_le_of_subset hnd hsub
 simp only [List.length_map, List.length_range, List.length_append] at hl
 have := TOP_le
 unfold roomOf
 omega
theorem free_low {s : Sp} {no : Int} (h : s.free = some no) (hr : 0 < roomOf s) : no < TOP := by
 obtain ⟨n1, n2, n3, n4⟩ := Sp.least_some h
 rcases Int.lt_or_le no TOP with hc | hc
 · exact hc
 exfalso
 have hnd : ((List.range ((TOP : Int) - s.reserved).toNat).map fun i : Nat => s.reserved + i).Nodup := by
  refine List.Pairwise.map _ (fun a b hab => ?_) List.nodup_range
  intro e
  exact hab (by omega)
 have hsub : ((List.range ((TOP : Int) - s.reserved).toNat).map fun i : Nat => s.reserved + i) ⊆ s.used ++ s.waiting := by
  intro y hy
  obtain ⟨i, hi, rfl⟩ := List.mem_map.1 hy
  have hi := List.mem_range.1 hi
  have := n4 (s.reserved + i) (by omega) (by omega)
  unfold Sp.busy at this
  simpa using this
 have hl := List.Nodup.length_le_of_subset hnd hsub
 simp only [List.length_map, List.length_range, List.length_append] at hl
 unfold roomOf at hr
 omega
theorem rd_ok (r : Bool) (s : TS) (p : Int) (n : Nd) (hI : TInv r s) (hV : nodeAt s p = some n) : Step (envT r) s 1 0 (tRead p) (fun m s' => m = n) := by
 obtain ⟨hu, b, hb, hn⟩ := nodeAt_iff.1 hV
 obtain ⟨u1, u2⟩ := hI.used p hu
 have u0 := hI.res
 have u3 := TOP_le
 unfold Step
 right
 by_cases ho : s.ops < opsMax
 · obtain ⟨m, hm⟩ := hI.ts.ck
   have g := get_good (no := p) hm hI.good (by omega) (by omega)
   have hts := hI.ts.get p ho
   have hbp := (get_bp hm p).2
   have hst : ∀ q x, Stands s q x → Stands ⟨(s.ck.get p).2.2, s.sp, s.ops + 2⟩ q x := fun q x h => stands_get (no := p) h g.has
   have hinv : TInv r ⟨(s.ck.get p).2.2, s.sp, s.ops + 2⟩ := ⟨hts, g.good, hI.res, hI.used, fun h => (g.roomy (hI.roomy h)).2⟩
   have hreads : (s.ck.get p).2.2.reads.toNat ≤ s.ck.reads.toNat + 1 := by omega
   have hleft : leftOps s ≤ leftOps ⟨(s.ck.get p).2.2, s.sp, s.ops + 2⟩ + 1 := by unfold leftOps; simp only; omega
   rw [tRead_eq ho]
   rcases g.got b hb with e7 | ⟨e0, ec⟩
   · rw [if_neg (by omega), if_neg (by omega)]
     refine ⟨.inl ⟨?_, e7⟩, hinv, nodeAt_le hst, hreads, hleft⟩
     cases hr : r with
     | false => rfl
     | true => exact absurd e7 (g.roomy (hI.roomy hr)).1
   · rw [if_pos e0, ec, hn]
     exact ⟨hinv, nodeAt_le hst, hreads, Nat.le_add_right _ _, hleft, rfl⟩
 · have : tRead p s = .bad := by
    unfold tRead M.bind mGet
    rw [if_neg ho]
    rfl
   rw [this]
   show leftOps s < 1
   unfold leftOps
   omega
theorem wt_ok (r : Bool) (s : TS) (n : Nd) (hI : TInv r s) (hm : may n = true) : Step (envT r) s 0 1 (tWrite n) (fun k s' => k = kdOf k.page n ∧ 1 ≤ k.page ∧ k.page < 1048576 ∧ nodeAt s' k.page = some n) := by
 obtain ⟨kind, body, hpk, hk, hbl, hop⟩ := nd_open_pack hm
 unfold Step
 by_cases hrm : roomOf s.sp < 1
 · exact .inl hrm
 right
 by_cases ho : s.ops < opsMax
 · have hr : tWrite n s = M.bind mTake (fun t => M.bind (mFail (if t.2 = 9 then 7 else t.2)) fun _ => M.bind (mFail (pagePack t.1 kind body).2) fun _ => M.bind (mPut t.1 (pagePack t.1 kind body).1) fun e => M.bind (mFail e) fun _ => M.pure ⟨t.1, (ndSum n).1, (ndSum n).2.1, (ndSum n).2.2⟩) s := by
    conv => lhs; unfold tWrite
    rw [hpk, if_neg (by simp)]
   have hts := hI.ts.take ho
   cases hf : s.sp.free with
   | none =>
     have htk : s.sp.take = ((0, 9), s.sp) := by unfold Sp.take; rw [hf]
     have hr2 : tWrite n s = .fault 7 ⟨s.ck, s.sp, s.ops + 1⟩ := by
      rw [hr]
      unfold M.bind mTake
      rw [if_pos ho, htk]
      rfl
     rw [hr2]
     rw [htk] at hts
     refine ⟨.inr ?_, ⟨hts, hI.good, hI.res, hI.used, hI.roomy⟩, nodeAt_le fun q x h => stands_get (no := 0) h (fun _ _ h => h), Nat.le_refl _, ?_⟩
     · show roomOf s.sp < 1
       rw [free_none hf]
       omega
     · show leftOps s ≤ leftOps ⟨s.ck, s.sp, s.ops + 1⟩ + (0 + 1)
       unfold leftOps
       simp only
       omega
   | some no =>
     obtain ⟨n1, n2, n3, _⟩ := Sp.least_some hf
     have u0 := hI.res
     obtain ⟨m, rfl⟩ : ∃ m : Nat, no = m := ⟨no.toNat, by omega⟩
     have hlow := free_low hf (by omega)
     have hno : (m : Int) < 1048576 := by have := TOP_le; omega
     have hpp : pagePack (m : Int) kind body = (pgPack m kind body, 0) := by
      unfold pagePack
      rw [if_neg (by omega), if_neg (by omega)]
      simp
     have hsp : s.sp.take = (((m : Int), 0), { s.sp with used := s.sp.used ++ [(m : Int)], taken := s.sp.taken ++ [(m : Int)] }) := by unfold Sp.take; rw [hf]
     obtain ⟨sp2, hsp2⟩ : ∃ x : Sp, x = { s.sp with used := s.sp.used ++ [(m : Int)], taken := s.sp.taken ++ [(m : Int)] } := ⟨_, rfl⟩
     rw [← hsp2] at hsp
     rw [hsp] at hts
     have hr2 : tWrite n s = if (s.ck.put m (pgPack m kind body)).1 = 0 then .ok ⟨m, (ndSum n).1, (ndSum n).2.1, (ndSum n).2.2⟩ ⟨(s.ck.put m (pgPack m kind body)).2, sp2, s.ops + 2⟩ else .fault (s.ck.put m (pgPack m kind body)).1 ⟨(s.ck.put m (pgPack m kind body)).2, sp2, s.ops + 2⟩ := by
      rw [hr]
      unfold M.bind mTake mPut
      rw [if_pos ho, hsp]
      simp only [Res.bind, show ¬ ((0 : Int) = 9) by omega, if_false, hpp, mFail, if_true, M.pure]
      by_cases h0 : (s.ck.put m (pgPack m kind body)).1 = 0 <;> simp [h0, M.fail, M.pure, Res.bind]
     rw [hr2]
     obtain ⟨mm, hmm⟩ := hI.ts.ck
     have g := put_good (no := (m : Int)) (c := pgPack m kind body) hmm hI.good (by omega) hno (by omega) (pgPack_len m kind hbl)
     have hts2 := hts.put m (pgPack m kind body) (by show s.ops + 1 ≤ _; omega)
     have hrd := (put_bp hmm m (pgPack m kind body)).2
     have hst : ∀ q x, Stands s q x → Stands ⟨(s.ck.put m (pgPack m kind body)).2, sp2, s.ops + 2⟩ q x := fun q x ⟨h1, b, h2, h3⟩ => by
      have hq : q ≠ (m : Int) := by
       rintro rfl
       unfold Sp.busy at n3
       simp at n3
       exact n3.1 h1
      exact ⟨by rw [hsp2]; exact List.mem_append_left _ h1, b, g.has _ _ (.inl hq) h2, h3⟩
     have hused : ∀ p ∈ sp2.used, sp2.reserved ≤ p ∧ p < TOP := by
      rw [hsp2]
      intro p hp
      rcases List.mem_append.1 hp with hp | hp
      · exact hI.used p hp
      · simp at hp; subst hp; exact ⟨n1, hlow⟩
     have hinv : TInv r ⟨(s.ck.put m (pgPack m kind body)).2, sp2, s.ops + 2⟩ := ⟨hts2, g.good, by rw [hsp2]; exact hI.res, hused, fun h => (g.roomy (hI.roomy h)).2⟩
     have hleft : leftOps s ≤ leftOps ⟨(s.ck.put m (pgPack m kind body)).2, sp2, s.ops + 2⟩ + (0 + 1) := by unfold leftOps; simp only; omega
     have hreads : (s.ck.put m (pgPack m kind body)).2.reads.toNat ≤ s.ck.reads.toNat + 0 := by omega
     by_cases h0 : (s.ck.put m (pgPack m kind body)).1 = 0
     · rw [if_pos h0]
       refine ⟨hinv, nodeAt_le hst, hreads, ?_, hleft, rfl, by show (1 : Int) ≤ m; omega, hno, ?_⟩
       · show roomOf s.sp ≤ roomOf sp2 + 1
         rw [hsp2]
         unfold roomOf
         simp only [List.length_append, List.length_cons, List.length_nil]
         omega
       · refine nodeAt_iff.2 ⟨by rw [hsp2]; simp, pgPack m kind body, g.put h0, ?_⟩
         unfold openNd
         rw [open_pack (by omega) (by omega) hbl]
         simp only [if_true, hop]
     · rw [if_neg h0]
       refine ⟨.inl ⟨?_, (g.code.resolve_left h0)⟩, hinv, nodeAt_le hst, hreads, hleft⟩
       cases hr : r with
       | false => rfl
       | true => exact absurd (g.roomy (hI.roomy hr)).1 h0
 · have : tWrite n s = .bad := by
    unfold tWrite M.bind mTake
    rw [hpk, if_neg (by simp), if_neg ho]
    rfl
   rw [this]
   show leftOps s < 0 + 1
   unfold leftOps
   omega
theorem envT_ok (r : Bool) : (envT r).Ok := ⟨rd_ok r, wt_ok r⟩
end Go.Proofs.YtfhbmblbidcmmaaGreat
