/-
  Walks and plain laws that the lines of texts lean on. No condition (part 48)
-/
import Derived.Test.YtfhbmblbidcmmaaGreatRl46
import Derived.Test.YtfhbmblbidcmmaaGreatRl47
set_option linter.unusedSimpArgs false
set_option linter.unusedVariables false
namespace Go.Proofs.YtfhbmblbidcmmaaGreat
set_option linter.unusedSimpArgs false
set_option linter.unusedVariables false
set_option linter.unusedSectionVars false
open Go.RowKit Go.Sl Go.Dk Go.Tr
open Go.Lru (ikey)
variable [TopN]
attribute [local go_sem ↓] Go.wp_at_zero Go.wp_at_succ
attribute [local go_sem] Go.Sl.cell_sat Go.Sl.frozen_sat
def StartOk (b : List UInt8) (k n er : Int) : Prop := if startI b k < 0 then n = 0 ∧ er = 2 else n = startI b k ∧ er = 0
set_option maxRecDepth 100000 in
set_option maxHeartbeats 1600000 in
theorem start_out (H : Lh) (O T : List UInt8) (s : TS) (x : Ix) (root k : Int) (l : List Ent) (F : Assn) (w : World) (hs : Sat (linesP H O T s x * F) w) (hI : LnI O T s x) (hR : Rt (nodeAt s) root l) (hr : ∀ y ∈ l, RtE O T y) (hf : 30000 ≤ leftOps s) (hc : k ≤ 0 ∨ root = 0) :
 Calls Tryz.prog 28 #[.pointer (some ⟨H.L, 0, none⟩), .int .i64 root, .int .i64 k] w fun e w' => ∃ (n er : Int) (s' : TS) (x' : Ix), e = .returned (lineV n er) ∧ Sat (linesP H O T s' x' * F) w' ∧ LnI O T s' x' ∧ Nxt s s' 30000 0 ∧ StartOk (textE O T l) k n er := by
 have hsz := fun F w q => size_call H.h s root l F w q hI.inv hR (by omega)
 have HI : Aside (LnI O T s x) := hI
 have hs2 := hs
 rw [lines_tr] at hs2
 haveI := hs2.i
 obtain ⟨sz, hszE⟩ : ∃ sz, eBytes l = sz := ⟨_, rfl⟩
 rw [hszE] at hsz
 by_cases h0 : k = 0
 · have HO : Aside (StartOk (textE O T l) 0 0 0) := (by
    have : startI (textE O T l) 0 = 0 := by unfold startI; rw [if_neg (by omega)]; simp [startOf_zero]
    unfold StartOk; rw [this, if_neg (by omega)]; exact ⟨rfl, rfl⟩ : StartOk _ _ _ _)
   subst h0
   clear hs hI hs2 hr hR hf hc
   go_enter Tryz.func28, Tryz.ntmps28
   go_wp2_with fail
   go_step3
   go_wp2_with fail
   with_reducible refine Calls.mono (hsz _ _ (takeI (treeP H.h s))) ?_
   rintro e w1 ⟨s', rfl, q1, hn⟩
   have HN : Aside (Nxt s s' 30000 0) := hn.more (by omega) (Nat.le_refl _)
   unfold vi2
   clear hn hsz
   go_wp2
   try rw [Exit.noGoto_ret]
   go_returns
   exact ⟨0, 0, s', x, rfl, q1.eq (by rw [lines_tr]), HI.out.nxt HN.out, HN.out, HO.out⟩
 · have h0' : (k == 0) = false := by simpa using h0
   have HO : Aside (StartOk (textE O T l) k 0 2) := (by
    have : startI (textE O T l) k = -1 := by
     unfold startI
     by_cases hk : k < 0
     · rw [if_pos hk]
     · rw [if_neg hk]
       have hz : root = 0 := by omega
       have hl : l = [] := (rt_zero hR).1 hz
       subst hl
       obtain ⟨j, hj⟩ : ∃ j, k.toNat = j + 1 := ⟨k.toNat - 1, by omega⟩
       rw [hj]
       rfl
    unfold StartOk; rw [this, if_pos (by omega)]; exact ⟨rfl, rfl⟩ : StartOk _ _ _ _)
   by_cases hk : k < 0
   · have hk' : decide (k < 0) = true := decide_eq_true hk
     clear hs hI hs2 hr hR hf hc
     go_enter Tryz.func28, Tryz.ntmps28
     go_wp2_with fail
     go_step3
     go_wp2_with fail
     with_reducible refine Calls.mono (hsz _ _ (takeI (treeP H.h s))) ?_
     rintro e w1 ⟨s', rfl, q1, hn⟩
     have HN : Aside (Nxt s s' 30000 0) := hn.more (by omega) (Nat.le_refl _)
     unfold vi2
     clear hn hsz
     go_wp2
     try rw [Exit.noGoto_ret]
     go_returns
     exact ⟨0, 2, s', x, rfl, q1.eq (by rw [lines_tr]), HI.out.nxt HN.out, HN.out, HO.out⟩
   · have hk' : decide (k < 0) = false := decide_eq_false hk
     have hz : root = 0 := by omega
     subst hz
     clear hs hI hs2 hr hR hf hc
     go_enter Tryz.func28, Tryz.ntmps28
     go_wp2_with fail
     go_step3
     go_wp2_with fail
     with_reducible refine Calls.mono (hsz _ _ (takeI (treeP H.h s))) ?_
     rintro e w1 ⟨s', rfl, q1, hn⟩
     have HN : Aside (Nxt s s' 30000 0) := hn.more (by omega) (Nat.le_refl _)
     unfold vi2
     clear hn hsz
     go_wp2
     try rw [Exit.noGoto_ret]
     go_returns
     exact ⟨0, 2, s', x, rfl, q1.eq (by rw [lines_tr]), HI.out.nxt HN.out, HN.out, HO.out⟩
structure StAt (O T : List UInt8) (s0 s1 : TS) (x1 : Ix) (R : Option Nat) (d h p n : Nat) (k : Kd) (l : List Ent) : Prop where
 I : LnI O T s1 x1
 sub : ∃ lo hi, Sub (nodeAt s1) h lo hi k l
 rt : ∀ y ∈ l, RtE O T y
 big : n + (textE O T l).length ≤ 1048576
 ans : (startOf (textE O T l) p).map (n + ·) = R
 deep : d + h ≤ 4
 len : l.length ≤ 1024
 nxt : Nxt s0 s1 (1 + 5000 * d) 0
structure StIn (O T : List UInt8) (s0 s1 : TS) (x1 : Ix) (R : Option Nat) (d h p n i : Nat) (its : List Itm) (ls : List (List Ent)) : Prop where
 I : LnI O T s1 x1
 its : F2 (ItR (nodeAt s1) h) its ls
 rt : ∀ y ∈ ls.flatten, RtE O T y
 big : n + (textE O T (ls.drop i).flatten).length ≤ 1048576
 ans : (startOf (textE O T (ls.drop i).flatten) p).map (n + ·) = R
 deep : d + h ≤ 4
 len : ls.flatten.length ≤ 1024
 nxt : Nxt s0 s1 (2 + 5000 * d + h * (ls.take i).flatten.length) 0
def optI : Option Nat → Int × Int
 | some p => (p, 0)
 | none => (0, 2)
set_option maxRecDepth 100000 in
set_option maxHeartbeats 6400000 in
theorem start_go (H : Lh) (O T : List UInt8) (s : TS) (x : Ix) (root : Int) (at_ : Nat) (l : List Ent) (F : Assn) (w : World) (hs : Sat (linesP H O T s x * F) w) (hI : LnI O T s x) (hR : Rt (nodeAt s) root l) (hr : ∀ y ∈ l, RtE O T y) (hf : 30000 ≤ leftOps s) (h1 : 0 < at_) (h2 : (at_ : Int) ≤ 9223372036854775807) (hz : root ≠ 0) :
 Calls Tryz.prog 28 #[.pointer (some ⟨H.L, 0, none⟩), .int .i64 root, .int .i64 (at_ : Int)] w fun e w' => ∃ (s' : TS) (x' : Ix), e = .returned (lineV (optI (startOf (textE O T l) at_)).1 (optI (startOf (textE O T l) at_)).2) ∧ Sat (linesP H O T s' x' * F) w' ∧ LnI O T s' x' ∧ Nxt s s' 30000 0 := by
 have hl := textE_len hr
 have hsz := fun F w q => size_call H.h s root l F w q hI.inv hR (by omega)
 have hb1 := hR.fit.2.1
 have hlen := rt_len hR
 have hA : ∃ (h : Nat) (k : Kd), k.page = root ∧ ∀ s', Nxt s s' 1 0 → StAt O T s s' x (startOf (textE O T l) at_) 0 h at_ 0 k l := by
  rcases hR with ⟨rfl, rfl⟩ | ⟨h, k, e, hsub⟩
  · exact absurd rfl hz
  · exact ⟨h, k, e, fun s' hn => ⟨hI.nxt hn, ⟨1, 12, hsub.le hn.le⟩, hr, by omega, by simp, by have := hsub.low; omega, hlen, hn⟩⟩
 obtain ⟨h0, k0, hk0, hA⟩ := hA
 have HA : Aside (k0.page = root ∧ ∀ s', Nxt s s' 1 0 → StAt O T s s' x (startOf (textE O T l) at_) 0 h0 at_ 0 k0 l) := ⟨hk0, hA⟩
 obtain ⟨sz, hszE⟩ : ∃ sz, eBytes l = sz := ⟨_, rfl⟩
 rw [hszE] at hsz hl hb1
 have g1 : decide ((at_ : Int) < 0) = false := decide_eq_false (by omega)
 have g2 : ((at_ : Int) == 0) = false := by simp; omega
 have g3 : (root == 0) = false := by simpa using hz
 have HNT : Aside (textE O T l = textE O T l ∧ 30000 ≤ leftOps s) := ⟨rfl, hf⟩
 obtain ⟨R, hRR⟩ : ∃ R, startOf (textE O T l) at_ = R := ⟨_, rfl⟩
 rw [hRR] at HA ⊢
 have hs2 := hs
 rw [lines_tr] at hs2
 haveI := hs2.i
 clear hs hI hs2 hr hR hf hl hA hk0 hRR
 go_enter Tryz.func28, Tryz.ntmps28
 go_wp2_with fail
 go_step3
 go_wp2_with fail
 with_reducible refine Calls.mono (hsz _ _ (takeI (treeP H.h s))) ?_
 rintro e w1 ⟨sA, rfl, q1, hn⟩
 have HL : Aside (StAt O T s sA x R 0 h0 at_ 0 k0 l ∧ k0.page = root) := ⟨HA.out.2 sA hn, HA.out.1⟩
 have q2 : Sat (linesP H O T sA x * F) w1 := q1.eq (by rw [lines_tr])
 haveI := q2.i
 unfold vi2
 clear hn hsz q1 HA
 go_wp2_with fail
 go_step3
 go_wp2_with fail
 go_loopg [2, 10, 11, 42] h0 (fun g t2 t10 t11 t42 wr => ∃ (d h p n : Nat) (s1 : TS) (x1 : Ix) (k : Kd) (l1 : List Ent), t2 = .int .i64 p ∧ t10 = .int .i64 n ∧ t11 = .int .i64 k.page ∧ t42 = .int .i64 d ∧ 0 < p ∧ (p : Int) ≤ 9223372036854775807 ∧ n ≤ 1048576 ∧ d ≤ 4 ∧ g = h ∧ Aside (StAt O T s s1 x1 R d h p n k l1) ∧ Sat (linesP H O T s1 x1 * F) wr)
 case atStart => exact ⟨0, h0, at_, 0, sA, x, k0, l, rfl, rfl, by rw [HL.out.2], rfl, h1, h2, by omega, by omega, rfl, HL.out.1, q2⟩
 case round =>
  obtain ⟨d, h, p, n, s1, x1, k, l1, rfl, rfl, rfl, rfl, hp, hp2, hn1, hd, hgk, HA, hsr⟩ := hrel
  clear q2 HL this
  obtain ⟨lo, hi, hsub⟩ := HA.out.sub
  have hsub2 := hsub
  rw [sub_its] at hsub2
  obtain ⟨y, ls, hv, hits, hma, _, _, hk, hp1, _, hfl⟩ := hsub2
  have hleft := HA.out.nxt.left
  have hl30 := HNT.out.2
  have hnode := fun F w q => node_call H.h s1 k.page y F w q HA.out.I.inv hv (by omega)
  obtain ⟨hl1, hl2⟩ := may_len hma
  have hitems := fun v B F w hN q => items_any y v B F w hN q ⟨hl1, hl2⟩
  have hF := its_items hits hma
  obtain ⟨its, hitsE⟩ : ∃ its, itemsN y = its := ⟨_, rfl⟩
  have hni : its.length ≤ 24 := by rw [← hitsE, itemsN_len]; unfold many; omega
  rw [hitsE] at hitems hF
  have HB : Aside (∀ s2, Nxt s1 s2 1 0 → StIn O T s s2 x1 R d h p n 0 its ls) := by
   intro s2 hn2
   subst hfl
   exact ⟨HA.out.I.nxt hn2, hF.mono fun _ _ z => z.le hn2.le, HA.out.rt, HA.out.big, HA.out.ans, HA.out.deep, HA.out.len, (HA.out.nxt.trans hn2).more (by simp; omega) (Nat.le_refl _)⟩
  obtain ⟨ni, hni2⟩ : ∃ ni, its.length = ni := ⟨_, rfl⟩
  have HNI : Aside (its.length = ni) := hni2
  rw [hni2] at hitems hni
  obtain ⟨page, hpage⟩ : ∃ p, k.page = p := ⟨_, rfl⟩
  rw [hpage] at hnode ⊢
  have hs2 := hsr
  rw [lines_tr] at hs2
  haveI := hs2.i
  have hd22 : (d : Int) < 22 := by omega
  clear hsr hs2 hsub hv hits hma hk hp1 hfl hleft hl30 hl1 hl2 hF hitsE hni2 HA hpage
  go_wp2_with fail
  with_reducible refine Calls.mono (hnode _ _ (takeI (treeP H.h s1))) ?_
  rintro e w2 ⟨v, B, s2, rfl, hN, q3, hn2⟩
  have HC : Aside (StIn O T s s2 x1 R d h p n 0 its ls ∧ ReadsN B v y) := ⟨HB.out s2 hn2, hN⟩
  obtain ⟨se, sk, rfl, hE, hK⟩ := hN
  obtain ⟨a1, c1, rfl, hE1, hE2⟩ := hE.v
  obtain ⟨a2, c2, rfl, hK1, hK2⟩ := ReadsR.v hK
  obtain ⟨lf, hlf⟩ : ∃ lf, y.leaf = lf := ⟨_, rfl⟩
  obtain ⟨ne, hne⟩ : ∃ ne, y.ents.length = ne := ⟨_, rfl⟩
  obtain ⟨nk, hnk⟩ : ∃ nk, y.kids.length = nk := ⟨_, rfl⟩
  rw [hlf, hne, hnk] at HC ⊢
  have q4 : Sat (B * (linesP H O T s2 x1 * F)) w2 := q3.eq (by rw [lines_tr])
  haveI := q4.i
  clear hn2 hE hK hE1 hE2 hK1 hK2 q3 hnode hlf hne hnk HB
  go_wp2_with fail
  refine (hitems _ B _ _ HC.out.2 (takeI B)).mono ?_
  rintro e w3 ⟨ai, ci, rfl, q5⟩
  have q6 : Sat (linesP H O T s2 x1 * (rw TItm 6 (.slice ai ni ci) (itcs its) * F)) w3 := by
   haveI := q5.i
   exact keep3 _ _ _
  clear q5 q4 hitems
  obtain ⟨xs, hxs⟩ : ∃ xs, itcs its = xs := ⟨_, rfl⟩
  have HX : Aside (itcs its = xs) := hxs
  rw [hxs] at q6
  haveI := q6.i
  clear hxs
  go_wp2_with fail
  go_loopg [2, 10, 60] ni (fun g t2 t10 t60 wx => ∃ (i p2 n2 : Nat) (s3 : TS) (x3 : Ix), t2 = .int .i64 p2 ∧ t10 = .int .i64 n2 ∧ t60 = .int .i64 i ∧ i ≤ ni ∧ 0 < p2 ∧ (p2 : Int) ≤ 9223372036854775807 ∧ n2 ≤ 1048576 ∧ g = ni - i ∧ Aside (StIn O T s s3 x3 R d h p2 n2 i its ls) ∧ Sat (linesP H O T s3 x3 * (rw TItm 6 (.slice ai ni ci) xs * F)) wx)
  case atStart => exact ⟨0, p, n, s2, x1, rfl, rfl, rfl, by omega, hp, hp2, hn1, by omega, HC.out.1, q6⟩
  case round =>
   obtain ⟨i, p2, n2, s3, x3, rfl, rfl, rfl, hi, hp, hp2, hn1, hg, HA, hsr⟩ := hrel
   clear q6 this HC
   haveI := hsr.i
   by_cases hini : i < ni
   · have hlt' : (i : Int) < ni := by omega
     obtain ⟨it, hit⟩ : ∃ it, its[i]? = some it := ⟨_, List.getElem?_eq_getElem (by rw [HNI.out]; exact hini)⟩
     obtain ⟨m, hm1, hm2⟩ := f2_at HA.out.its hit
     obtain ⟨g0, rfl⟩ := row_some (hsr.take (rw TItm 6 (.slice ai ni ci) xs)) (by omega)
     have hmem : ∀ y ∈ m, RtE O T y := fun y hy => HA.out.rt y (List.mem_flatten.2 ⟨m, List.mem_of_getElem? hm1, hy⟩)
     have hok := hm2.ok hmem
     have hsp := flat_split hm1
     have htx := text_drop (O := O) (T := T) hm1
     have hans := HA.out.ans
     have hbig := HA.out.big
     rw [htx, startOf_app] at hans
     rw [htx, List.length_append] at hbig
     have hml : m.length ≤ 1024 := by have := HA.out.len; omega
     have hhm : h * m.length ≤ 4096 := by
      have := Nat.mul_le_mul (show h ≤ 4 by have := HA.out.deep; omega) hml
      omega
     have hhAm : h * (ls.take i).flatten.length + h * m.length ≤ 4096 := by
      have h3 : (ls.take i).flatten.length + m.length ≤ 1024 := by have := HA.out.len; omega
      have := Nat.mul_le_mul (show h ≤ 4 by have := HA.out.deep; omega) h3
      rw [Nat.mul_add] at this
      omega
     have hleft := HA.out.nxt.left
     have hl30 := HNT.out.2
     have hdp := HA.out.deep
     have z0 := itcs_at hit 0 _ rfl (by omega)
     have z1 := itcs_at hit 1 _ rfl (by omega)
     have z2 := itcs_at hit 2 _ rfl (by omega)
     have z3 := itcs_at hit 3 _ rfl (by omega)
     have z4 := itcs_at hit 4 _ rfl (by omega)
     have z5 := itcs_at hit 5 _ rfl (by omega)
     rw [HX.out] at z0 z1 z2 z3 z4 z5
     rw [Nat.add_zero] at z0
     have hbl := hok.bytes
     have hw := fun F w q => whole_any h H O T s3 x3 it m d F w q HA.out.I hm2 hmem (by omega) (by omega) (by omega)
     have hrb : endsC (textE O T m) ≤ (textE O T m).length := endsC_le _
     have HI4 : Aside (∀ s4, Nxt s3 s4 (h * m.length) 0 → LnI O T s4 (ixList O x3 m) ∧ Nxt s s4 (5000 * (d + 1)) 0) := fun s4 hn4 => ⟨(HA.out.I.nxt hn4).at (ixList_ok HA.out.I.ix hmem), (HA.out.nxt.trans hn4).more (by omega) (Nat.le_refl _)⟩
     have HS : Aside (endsC (textE O T m) < p2 → ∀ s4, Nxt s3 s4 (h * m.length) 0 → StIn O T s s4 (ixList O x3 m) R d h (p2 - endsC (textE O T m)) (n2 + (textE O T m).length) (i + 1) its ls) := by
      intro hlt s4 hn4
      rw [if_neg (by omega)] at hans
      refine ⟨(HI4.out s4 hn4).1, HA.out.its.mono fun _ _ z => z.le hn4.le, HA.out.rt, by omega, ?_, HA.out.deep, HA.out.len, (HA.out.nxt.trans hn4).more ?_ (Nat.le_refl _)⟩
      · rw [← hans, Option.map_map]
        congr 1
        funext q
        simp [Function.comp]
        omega
      · rw [flat_take hm1, List.length_append, Nat.mul_add]
        omega
     have HD : Aside (p2 ≤ endsC (textE O T m) → (startOf (textE O T m) p2).map (n2 + ·) = R) := fun hlt => by
      rw [if_pos hlt] at hans
      exact hans
     have HM : Aside ((∀ y ∈ m, RtE O T y) ∧ m.length ≤ 1024 ∧ n2 + (textE O T m).length ≤ 1048576 ∧ d + h ≤ 4) := ⟨hmem, hml, by omega, hdp⟩
     have HL0 : Aside (h = 0 → m = [it.ent] ∧ it.page = 0 ∧ it.ent.len = it.bytes) := (by
      intro h9
      subst h9
      obtain ⟨e, rfl, rfl, _⟩ := hm2
      exact ⟨rfl, rfl, rfl⟩ : h = 0 → _)
     have HL1 : Aside (∀ h9, h = h9 + 1 → ∃ k2, k2.page = it.page ∧ 1 ≤ it.page ∧ Sub (nodeAt s3) h9 4 12 k2 m) := (by
      intro h9 h8
      subst h8
      obtain ⟨k2, rfl, hsub2⟩ := hm2
      exact ⟨k2, rfl, (mayK_facts hsub2.fine.may).1, hsub2⟩ : ∀ h9, h = h9 + 1 → _)
     obtain ⟨r, hrE⟩ : ∃ r, endsC (textE O T m) = r := ⟨_, rfl⟩
     obtain ⟨x4, hx4⟩ : ∃ x4, ixList O x3 m = x4 := ⟨_, rfl⟩
     obtain ⟨tl, htl⟩ : ∃ tl, (textE O T m).length = tl := ⟨_, rfl⟩
     have HRE : Aside (endsC (textE O T m) = r) := hrE
     rw [hrE, hx4] at hw
     rw [hx4] at HI4
     rw [hrE, hx4, htl] at HS
     rw [hrE] at HD
     rw [hrE, htl] at hrb
     rw [htl] at hbl hbig
     obtain ⟨bytes, lines, ⟨src, pos, len, el⟩, pg⟩ := it
     simp only at z0 z1 z2 z3 z4 z5 hw hbl HL0 HL1
     subst hbl
     have hw1 : IntKind.i64.wrap ((n2 : Int) + tl) = (n2 : Int) + tl := IntWalk.i64_in _ (by omega)
     have hw2 : IntKind.i64.wrap ((p2 : Int) - r) = (p2 : Int) - r := IntWalk.i64_in _ (by omega)
     clear hit hm1 hm2 hmem hok hsp htx hans hleft hl30 HA hrE hx4 htl hml hhm hhAm
     go_wp2_with fail
     refine (hw _ _ (takeI (linesP H O T s3 x3))).mono ?_
     rintro en w4 ⟨s4, rfl, q7, hn4⟩
     obtain ⟨g1, g2⟩ := HI4.out s4 hn4
     have HG : Aside (LnI O T s4 x4 ∧ Nxt s s4 (5000 * (d + 1)) 0 ∧ Nxt s3 s4 (h * m.length) 0) := ⟨g1, g2, hn4⟩
     haveI := q7.i
     clear hw hsr hn4 g1 g2 HI4
     by_cases hlt : r < p2
     · have hlt2 : (r : Int) < p2 := by omega
       have HS2 := HS.out hlt s4 HG.out.2.2
       go_wp2_with fail
       go_quiet (fail)
       go_wp2
       go_roundg (ni - (i + 1))
       case measure => omega
       case rel => exact ⟨i + 1, p2 - r, n2 + tl, s4, x4, by go_num, by go_num, by go_num, by omega, by omega, by omega, by omega, rfl, HS2, Sat.drewN _ (keep3 _ _ _)⟩
     · have hlt2 : ¬ (r : Int) < p2 := by omega
       have hRd := HD.out (by omega)
       clear HS
       cases h with
       | zero =>
         obtain ⟨rfl, rfl, hlen0⟩ := HL0.out rfl
         subst hlen0
         have hre := HM.out.1 _ (List.mem_singleton.2 rfl)
         have e2 : textE O T [⟨src, pos, (tl : Int), el⟩] = pieceE O T ⟨src, pos, (tl : Int), el⟩ := by simp [textE]
         rw [e2] at HRE hRd
         have hnth := fun F w q => nth_any H O T s4 x4 ⟨src, pos, (tl : Int), el⟩ (n2 : Int) (p2 - 1) F w q HG.out.1 hre (by have := HRE.out; omega) (by omega) (by omega) (by show (tl : Int) ≤ 1048576; omega)
         rw [show p2 - 1 + 1 = p2 by omega, show ((p2 - 1 : Nat) : Int) = (p2 : Int) - 1 by omega] at hnth
         have hw3 : IntKind.i64.wrap ((p2 : Int) - 1) = (p2 : Int) - 1 := IntWalk.i64_in _ (by omega)
         have HRD : Aside ((startOf (pieceE O T ⟨src, pos, (tl : Int), el⟩) p2).map (n2 + ·) = R) := hRd
         clear hre e2 hRd HD HL0 HL1
         try simp only at hnth
         go_wp2_with fail
         refine (hnth _ _ (takeI (linesP H O T s4 x4))).mono ?_
         rintro en w5 ⟨q, x5, hq, rfl, q8, hI5⟩
         have HQ : Aside (R = some (n2 + q) ∧ LnI O T s4 x5) := ⟨by rw [← HRD.out, hq]; rfl, hI5⟩
         haveI := q8.i
         clear hnth hq hI5
         go_wp2
         try rw [Exit.noGoto_ret]
         go_returns
         exact ⟨s4, x5, by rw [HQ.out.1]; rfl, keep2 _ _, HQ.out.2, HG.out.2.1.more (by omega) (Nat.le_refl _)⟩
       | succ h =>
         obtain ⟨k2, hk2, hpg, hsub2⟩ := HL1.out h rfl
         have HZ : Aside (StAt O T s s4 x4 R (d + 1) h p2 n2 k2 m) := ⟨HG.out.1, ⟨4, 12, hsub2.le HG.out.2.2.le⟩, HM.out.1, HM.out.2.2.1, hRd, (by have := HM.out.2.2.2; omega), HM.out.2.1, HG.out.2.1.more (by omega) (Nat.le_refl _)⟩
         have hpg' : (0 : Int) < pg := by omega
         have hd4 : d + 1 ≤ 4 := by have := HM.out.2.2.2; omega
         clear hRd HD HL0 HL1 hsub2
         go_wp2
         go_roundg h
         case measure => omega
         case rel => exact ⟨d + 1, h, p2, n2, s4, x4, k2, m, rfl, rfl, by rw [hk2], by go_num, hp, hp2, hn1, hd4, rfl, HZ.out, keep2 _ _⟩
   · have hlt' : ¬ (i : Int) < ni := by omega
     obtain rfl : i = ni := by omega
     have HE : Aside (R = none ∧ LnI O T s3 x3 ∧ Nxt s s3 30000 0) := by
      have h3 := HA.out.ans
      rw [List.drop_of_length_le (by have := HNI.out; have := HA.out.its.len; omega)] at h3
      obtain ⟨j, hj⟩ : ∃ j, p2 = j + 1 := ⟨p2 - 1, by omega⟩
      have h4 : textE O T ([] : List (List Ent)).flatten = [] := rfl
      rw [h4, hj] at h3
      refine ⟨h3.symm, HA.out.I, HA.out.nxt.more ?_ (Nat.le_refl _)⟩
      have h5 : (ls.take i).flatten.length ≤ 1024 := by
       have h6 := HA.out.len
       have h7 : ls.take i = ls := List.take_of_length_le (by have := HNI.out; have := HA.out.its.len; omega)
       rw [h7]; exact h6
      have := Nat.mul_le_mul (show h ≤ 4 by have := HA.out.deep; omega) h5
      omega
     clear HA
     go_wp2
     try rw [Exit.noGoto_ret]
     go_returns
     exact ⟨s3, x3, by rw [HE.out.1]; rfl, keep2 _ _, HE.out.2.1, HE.out.2.2⟩
theorem start_any (H : Lh) (O T : List UInt8) (s : TS) (x : Ix) (root k : Int) (l : List Ent) (F : Assn) (w : World) (hs : Sat (linesP H O T s x * F) w) (hI : LnI O T s x) (hR : Rt (nodeAt s) root l) (hr : ∀ y ∈ l, RtE O T y) (hf : 30000 ≤ leftOps s) (h2 : k ≤ 9223372036854775807) :
 Calls Tryz.prog 28 #[.pointer (some ⟨H.L, 0, none⟩), .int .i64 root, .int .i64 k] w fun e w' => ∃ (n er : Int) (s' : TS) (x' : Ix), e = .returned (lineV n er) ∧ Sat (linesP H O T s' x' * F) w' ∧ LnI O T s' x' ∧ Nxt s s' 30000 0 ∧ StartOk (textE O T l) k n er := by
 by_cases hc : k ≤ 0 ∨ root = 0
 · exact start_out H O T s x root k l F w hs hI hR hr hf hc
 · obtain ⟨p, rfl⟩ := Int.eq_ofNat_of_zero_le (show 0 ≤ k by omega)
   refine (start_go H O T s x root p l F w hs hI hR hr hf (by omega) h2 (by omega)).mono ?_
   rintro e w' ⟨s', x', e1, q, hI', hn⟩
   refine ⟨_, _, s', x', e1, q, hI', hn, ?_⟩
   have e2 : startI (textE O T l) p = match startOf (textE O T l) p with
    | some q => (q : Int)
    | none => -1 := by
    unfold startI
    rw [if_neg (by omega), Int.toNat_natCast]
    cases startOf (textE O T l) p <;> rfl
   unfold StartOk
   rw [e2]
   cases h9 : startOf (textE O T l) p with
   | none => exact (if_pos (show (-1 : Int) < 0 by omega)) ▸ ⟨rfl, rfl⟩
   | some q =>
     show if (q : Int) < 0 then _ else _
     rw [if_neg (by omega)]
     exact ⟨rfl, rfl⟩
theorem line_any (H : Lh) (O T : List UInt8) (s : TS) (x : Ix) (root at_ : Int) (l : List Ent) (F : Assn) (w : World) (hs : Sat (linesP H O T s x * F) w) (hI : LnI O T s x) (hR : Rt (nodeAt s) root l) (hr : ∀ y ∈ l, RtE O T y) (hf : 30000 ≤ leftOps s) :
 Calls Tryz.prog 26 #[.pointer (some ⟨H.L, 0, none⟩), .int .i64 root, .int .i64 at_] w fun e w' => ∃ (n er : Int) (s' : TS) (x' : Ix), e = .returned (lineV n er) ∧ Sat (linesP H O T s' x' * F) w' ∧ LnI O T s' x' ∧ Nxt s s' 30000 0 ∧ LineOk (textE O T l) at_ n er := by
 by_cases hc : at_ ≤ 0 ∨ ((textE O T l).length : Int) < at_
 · exact line_out H O T s x root at_ l F w hs hI hR hr hf hc
 · obtain ⟨p, rfl⟩ := Int.eq_ofNat_of_zero_le (show 0 ≤ at_ by omega)
   refine (line_go H O T s x root p l F w hs hI hR hr hf (by omega) (by omega)).mono ?_
   rintro e w' ⟨s', x', e1, q, hI', hn⟩
   refine ⟨_, 0, s', x', e1, q, hI', hn, ?_⟩
   unfold LineOk
   rw [if_neg (by omega), Int.toNat_natCast]
   exact ⟨rfl, rfl⟩
end Go.Proofs.YtfhbmblbidcmmaaGreat
