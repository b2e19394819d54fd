/-
  Versions are found sound just if they are in the words of the document. No condition. (part 46)
-/
import Derived.Test.YtfhbmblbidcmmaaGreatWa45
import Derived.Test.YtfhbmblbidcmmaaGreatWa39
import Derived.Test.YtfhbmblbidcmmaaGreatWa35
import Derived.Handy
import Derived.Test.YtfhbmblbidcmmaaGreatWa23
import Derived.Test.YtfhbmblbidcmmaaGreatWa43
import Derived.Test.YtfhbmblbidcmmaaGreatWa3
set_option linter.unusedSimpArgs false
set_option linter.unusedVariables false
namespace Go.Proofs.YtfhbmblbidcmmaaGreat
set_option linter.unusedSimpArgs false
set_option linter.unusedVariables false
open Go.RowKit Go.Sl Go.Dk Go.Tr
open Go.Lru (ikey)
attribute [local go_sem ↓] Go.wp_at_zero Go.wp_at_succ
attribute [local go_sem] Go.Sl.cell_sat Go.Sl.frozen_sat put_Kn
variable [TopN]
set_option maxRecDepth 100000 in
set_option maxHeartbeats 12800000 in
theorem look_leaf (f : Nat) (ih : ∀ g, f = g + 1 → LookC g) : LookL f true := by
 intro V N h s m K no top bK bT bL M F w hLV hf hno hK hV hR hm hs
 have HLV : Aside (∀ n, V no = some n → n.leaf = true) := hLV
 clear hLV
 by_cases hhit : top = false ∧ ∃ y, kget no K = some y
 · obtain ⟨rfl, y, hy⟩ := hhit
   exact look_hit f V N h s m K no bK bT bL M F w hK hR y hy hs
 have HK : Aside (KnOk V K) := hK
 have HV : Aside (∀ p n, V p = some n → may n = true ∧ p < N) := hV
 have HV1 : Aside (∀ p n, V p = some n → may n = true) := fun p n h => (hV p n h).1
 have HM : Aside (13 * fr N K + 13 * (f + 1) ≤ m ∧ no ≠ 0) := ⟨hm, hno⟩
 have HIH : Aside (∀ g, f = g + 1 → LookC g) := ih
 have HH : Aside (¬ (top = false ∧ ∃ y, kget no K = some y)) := hhit
 obtain ⟨m1, hm1⟩ : ∃ m1, m = m1 + 1 := ⟨m - 1, by omega⟩
 have HM1 : Aside (m = m1 + 1) := hm1
 have hrd := rd_call h V m1 s no
 have HRD : Aside (∀ F w, Sat (treeP h s * F) w → Calls Tryz.prog 129 #[.pointer (some ⟨h.t, 0, none⟩), .int .i64 no] w (RdEnds h V m1 s no F)) := fun F w q => hrd F w (by rw [← hm1]; exact hR) hno q
 obtain ⟨dp, hdp⟩ : ∃ d, (13 : Int) - (f : Int) = d := ⟨_, rfl⟩
 have HD : Aside (dp = 13 - (f : Int) ∧ f ≤ 13) := ⟨hdp.symm, hf⟩
 have hd0 : 0 ≤ dp ∧ dp ≤ 13 := by omega
 rw [hdp]
 obtain ⟨hd1, hd2⟩ := hd0
 have hwd : IntKind.i64.wrap (dp + 1) = dp + 1 := IntWalk.i64_in _ (by omega)
 unfold lookA at hs
 have hs1 : Sat (treeP h s * (Sl.block bK TKn [.map (some M)] * (Sl.block bT TTp [.pointer (some ⟨h.t, 0, none⟩)] * (Sl.block bL TLf [.func (Fn.func 128) #[] #[.pointer (some ⟨bK, 0, none⟩), .pointer (some ⟨bT, 0, none⟩), .pointer (some ⟨bL, 0, none⟩)]] * (mp ikey M (kn K) *  F))))) w := hs.eq (by ac_rfl)
 obtain ⟨z, ok, hz1, hz2, hz3⟩ : ∃ (z : Sn) (ok : Bool), (mget no (kn K)).getD zeroSn = snV z ∧ (mget no (kn K)).isSome = ok ∧ (ok = true → top = true) ∧ (top = false → kget no K = none) := by
  rw [mget_kn]
  cases hkg : kget no K with
  | none => exact ⟨sn0, false, rfl, rfl, fun e => Bool.noConfusion e, fun _ => rfl⟩
  | some y =>
    have ht : top = true := by
     cases top with
     | true => rfl
     | false => exact absurd ⟨rfl, y, hkg⟩ hhit
    exact ⟨y, true, rfl, rfl, fun _ => ht, fun e => by rw [ht] at e; cases e⟩
 have HZ : Aside (top = false → kget no K = none) := hz3.2
 have hz4 := hz3.1
 obtain ⟨yh, yc, ⟨a1, a2, a3, a4⟩, ⟨b1, b2, b3, b4⟩⟩ := z
 haveI := hs1.i
 have hlk : (Instr.lookup TKn (.map (some M)) (.int .i64 no) true).run Tryz.prog (w.alloc (.cells #[.int .i64 0, .int .i64 0, .int .i64 0, .int .i64 0, .int .i64 0, .int .i64 0, .int .i64 0, .int .i64 0, .int .i64 0, .int .i64 0] TSn)) = .ok (.tuple #[.agg #[.int .i64 yh, .int .i64 yc, .int .i64 a1, .int .i64 a2, .int .i64 a3, .int .i64 a4, .int .i64 b1, .int .i64 b2, .int .i64 b3, .int .i64 b4], .bool ok]) (w.alloc (.cells #[.int .i64 0, .int .i64 0, .int .i64 0, .int .i64 0, .int .i64 0, .int .i64 0, .int .i64 0, .int .i64 0, .int .i64 0, .int .i64 0] TSn)) := by
  rw [look_Kn, hz1, hz2]
  rfl
 clear hz1 hz2 hz3 hK hV hR hm hs hhit ih hrd hno hf hm1 hdp HH
 go_enter Tryz.func128, Tryz.ntmps128
 go_upto_region 2 with (fail)
 go_cut [30] (fun t30 wx => t30 = .bool false ∧ Sat (Sl.block w.heap.size TSn [.int .i64 0, .int .i64 0, .int .i64 0, .int .i64 0, .int .i64 0, .int .i64 0, .int .i64 0, .int .i64 0, .int .i64 0, .int .i64 0] * (treeP h s * (Sl.block bK TKn [.map (some M)] * (Sl.block bT TTp [.pointer (some ⟨h.t, 0, none⟩)] * (Sl.block bL TLf [.func (Fn.func 128) #[] #[.pointer (some ⟨bK, 0, none⟩), .pointer (some ⟨bT, 0, none⟩), .pointer (some ⟨bL, 0, none⟩)]] * (mp ikey M (kn K) *  F)))))) wx)
 case first =>
  cases ok with
  | false =>
    go_wp2_with fail
    go_meet
    exact ⟨rfl, satI_weak (C := Sl.block (w.heap.size + 1) TSn [.int .i64 yh, .int .i64 yc, .int .i64 a1, .int .i64 a2, .int .i64 a3, .int .i64 a4, .int .i64 b1, .int .i64 b2, .int .i64 b3, .int .i64 b4]) (by ac_rfl)⟩
  | true =>
    obtain rfl := hz4 rfl
    go_wp2_with fail
    go_meet
    exact ⟨rfl, satI_weak (C := Sl.block (w.heap.size + 1) TSn [.int .i64 yh, .int .i64 yc, .int .i64 a1, .int .i64 a2, .int .i64 a3, .int .i64 a4, .int .i64 b1, .int .i64 b2, .int .i64 b3, .int .i64 b4]) (by ac_rfl)⟩
 case rest =>
  obtain ⟨rfl, q2⟩ := hcut
  obtain ⟨N9, hN9⟩ : ∃ z, w.heap.size = z := ⟨_, rfl⟩
  rw [hN9] at q2 ⊢
  clear hs1 this hlk hN9 hz4
  haveI := q2.i
  go_wp2_with fail
  with_reducible refine Calls.mono (HRD.out _ _ (takeI (treeP h s))) ?_
  rintro e w1 ⟨s2, hR2, hsp2, hd2', hcase⟩
  have HS2 : Aside (Rdy V m1 s2 ∧ s2.sp = s.sp ∧ s2.ck.d = s.ck.d) := ⟨hR2, hsp2, hd2'⟩
  clear hR2 hsp2 hd2' q2
  rcases hcase with ⟨n, v1, B1, hvn, rfl, hN, q3⟩ | ⟨hvn, rfl, q3⟩
  rotate_left
  · haveI := q3.i
    exact ⟨rfl, s2, K, look_keep h s2 bK bT bL M K F, HS2.out.2.1, HS2.out.2.2, .inr ⟨rfl, chk_gone hvn, HS2.out.1.less (Nat.zero_le _)⟩⟩
  have hmn := HV1.out no n hvn
  have HVN : Aside (V no = some n) := hvn
  have HMN : Aside (may n = true) := hmn
  have hmany := fun F w q => many_any n v1 B1 F w hN q (by have := (SumOk.of hmn).e; omega) (by have := (SumOk.of hmn).k; omega)
  obtain ⟨vE, vK, rfl, hE, hKd⟩ := hN
  obtain ⟨aE, cE, rfl, hE1, hE2⟩ := hE.v
  obtain ⟨aK, cK, rfl, hK1, hK2⟩ := ReadsR.v hKd
  obtain ⟨le, hle⟩ : ∃ k, n.ents.length = k := ⟨_, rfl⟩
  obtain ⟨lk, hlk⟩ : ∃ k, n.kids.length = k := ⟨_, rfl⟩
  obtain ⟨lf, hlf⟩ : ∃ k, n.leaf = k := ⟨_, rfl⟩
  have HE : Aside (ReadsE B1 (.slice aE le cE) n.ents ∧ n.ents.length = le) := ⟨by rw [← hle]; exact hE, hle⟩
  have HKD : Aside (ReadsK B1 (.slice aK n.kids.length cK) n.kids ∧ n.kids.length = lk) := ⟨hKd, hlk⟩
  have HLF : Aside (n.leaf = lf) := hlf
  have hle1 : le ≤ 12 := by have := (SumOk.of hmn).e; omega
  have hlk1 : lk ≤ 12 := by have := (SumOk.of hmn).k; omega
  rw [hle, hlk, hlf] at hmany
  rw [hle] at hE1 ⊢
  rw [hlk] at hK1 ⊢
  rw [hlf]
  have HMA : Aside (∀ (F : Assn) (w : World), Sat (B1 * F) w → Calls Tryz.prog 130 #[.agg #[.bool lf, .slice aE le cE, .slice aK lk cK]] w fun e w' => e = .returned (.int .i64 (many n)) ∧ Sat (B1 * F) w') := hmany
  obtain ⟨mn, hmm⟩ : ∃ z : Nat, many n = z := ⟨_, rfl⟩
  rw [hmm] at HMA
  have HMM : Aside (many n = mn) := hmm
  haveI := q3.i
  clear hvn hmn hmany hE hKd hle hlk hlf hmm
  by_cases hf0 : f = 0
  · have hdp : dp = 13 := by have := HD.out.1; omega
    have HC0 : Aside (chk V f no top = none) := (by rw [hf0]; rfl : _ = _)
    have h12 : decide ((12 : Int) < dp) = true := decide_eq_true (by omega)
    have h12' : (12 : Int) < dp := by omega
    clear hdp hf0
    go_wp2
    exact ⟨rfl, s2, K, look_keep h s2 bK bT bL M K F, HS2.out.2.1, HS2.out.2.2, .inr ⟨rfl, HC0.out, HS2.out.1.less (Nat.zero_le _)⟩⟩
  obtain ⟨g, hg⟩ : ∃ g, f = g + 1 := ⟨f - 1, by omega⟩
  have HG : Aside (f = g + 1) := hg
  have h12 : decide ((12 : Int) < dp) = false := decide_eq_false (by have := HD.out.1; omega)
  have h12' : ¬ (12 : Int) < dp := by have := HD.out.1; omega
  obtain ⟨fw, hfw⟩ : ∃ b, decide (top = false ∧ mn < 4) = b := ⟨_, rfl⟩
  have HFW : Aside (decide (top = false ∧ mn < 4) = fw) := hfw
  clear hfw hg hf0
  go_upto_region 5 with (fail)
  go_cut [45] (fun t45 wx => t45 = .bool fw ∧ Sat (Sl.block w1.heap.size TNd [.bool lf, .slice aE le cE, .slice aK lk cK] * (B1 * (Sl.block N9 TSn [.int .i64 0, .int .i64 0, .int .i64 0, .int .i64 0, .int .i64 0, .int .i64 0, .int .i64 0, .int .i64 0, .int .i64 0, .int .i64 0] * (treeP h s2 * (Sl.block bK TKn [.map (some M)] * (Sl.block bT TTp [.pointer (some ⟨h.t, 0, none⟩)] * (Sl.block bL TLf [.func (Fn.func 128) #[] #[.pointer (some ⟨bK, 0, none⟩), .pointer (some ⟨bT, 0, none⟩), .pointer (some ⟨bL, 0, none⟩)]] * (mp ikey M (kn K) *  F)))))))) wx)
  case first =>
   cases top with
   | true =>
     have hz : fw = false := by rw [← HFW.out]; simp
     subst hz
     go_wp2_with fail
     go_meet
     exact ⟨rfl, satI_eq (by ac_rfl)⟩
   | false =>
     by_cases h4 : mn < 4
     · have hz : fw = true := by rw [← HFW.out]; simp [h4]
       subst hz
       have hf4 : (mn : Int) < 4 := by omega
       have hf4d : decide ((mn : Int) < 4) = true := decide_eq_true hf4
       go_wp2_with (go_at_call 130; with_reducible refine Calls.mono (HMA.out _ _ (takeI B1)) ?_; rintro e w4 ⟨rfl, q4⟩; haveI := q4.i)
       go_meet
       exact ⟨rfl, satI_eq (by ac_rfl)⟩
     · have hz : fw = false := by rw [← HFW.out]; simp [h4]
       subst hz
       have hf4 : ¬ (mn : Int) < 4 := by omega
       have hf4d : decide ((mn : Int) < 4) = false := decide_eq_false hf4
       go_wp2_with (go_at_call 130; with_reducible refine Calls.mono (HMA.out _ _ (takeI B1)) ?_; rintro e w4 ⟨rfl, q4⟩; haveI := q4.i)
       go_meet
       exact ⟨rfl, satI_eq (by ac_rfl)⟩
  case rest =>
   obtain ⟨rfl, q5⟩ := hcut
   obtain ⟨N12, hN12⟩ : ∃ z, w1.heap.size = z := ⟨_, rfl⟩
   rw [hN12] at q5 ⊢
   clear q3 this hN12
   haveI := q5.i
   cases fw with
   | true =>
     have HCN : Aside (chk V f no top = none) := (by
      have h9 := of_decide_eq_true HFW.out
      rw [HG.out]
      exact chk_few HVN.out ⟨h9.1, by rw [HMM.out]; exact h9.2⟩ : _ = _)
     go_wp2
     exact ⟨rfl, s2, K, look_keep h s2 bK bT bL M K F, HS2.out.2.1, HS2.out.2.2, .inr ⟨rfl, HCN.out, HS2.out.1.less (Nat.zero_le _)⟩⟩
   | false =>
     have H4 : Aside (¬ (top = false ∧ many n < 4)) := (by
      have h9 := of_decide_eq_false HFW.out
      rw [HMM.out]
      exact h9 : ¬ _)
     clear HMA HFW
     -- the leaf's own
     obtain ⟨x0, hx0⟩ : ∃ x, (if lf then (⟨0, n.ents.length, n.ents.headD e0, n.ents.getLastD e0⟩ : Sn) else sn0) = x := ⟨_, rfl⟩
     have HX0 : Aside ((if lf then (⟨0, n.ents.length, n.ents.headD e0, n.ents.getLastD e0⟩ : Sn) else sn0) = x0) := hx0
     clear hx0
     have HX1 : Aside (lf = true → Joined n.ents → Chk V no top x0) := (fun h1 h2 => by
      refine ⟨g + 1, ?_⟩
      rw [chk_leaf HVN.out (HLF.out.trans h1) H4.out, if_neg (by rw [join_len.2 h2]; simp), ← HX0.out, if_pos h1] : _ → _ → _)
     obtain ⟨N13, hN13⟩ : ∃ z, wc.heap.size = z := ⟨_, rfl⟩
     have HN13 : Aside (wc.heap.size = N13) := hN13
     clear hN13
     go_upto_if 49 with (fail)
     go_cut [49] (fun t49 wx => (lf = true → Joined n.ents) ∧ Sat (Sl.block wc.heap.size TSn (snC x0) * (Sl.block N12 TNd [.bool lf, .slice aE le cE, .slice aK lk cK] * (B1 * (Sl.block N9 TSn [.int .i64 0, .int .i64 0, .int .i64 0, .int .i64 0, .int .i64 0, .int .i64 0, .int .i64 0, .int .i64 0, .int .i64 0, .int .i64 0] * (treeP h s2 * (Sl.block bK TKn [.map (some M)] * (Sl.block bT TTp [.pointer (some ⟨h.t, 0, none⟩)] * (Sl.block bL TLf [.func (Fn.func 128) #[] #[.pointer (some ⟨bK, 0, none⟩), .pointer (some ⟨bT, 0, none⟩), .pointer (some ⟨bL, 0, none⟩)]] * (mp ikey M (kn K) *  F))))))))) wx)
     case first =>
      cases lf with
      | false =>
        have h9 := HLV.out n HVN.out
        rw [HLF.out] at h9
        cases h9
      | true =>
        have hmf := may_leaf HMN.out HLF.out
        have hle0 : 1 ≤ le := by have := hmf.2.2.1; rw [HE.out.2] at this; exact this
        have HJ : Aside (∀ (b : Nat) (F : Assn) (w : World), Sat (Sl.block b 29 [.slice aE le cE] * (B1 * F)) w → Calls Tryz.prog 80 #[.slice (some ⟨b, 0, none⟩) 1 1] w fun e w' => ∃ a c, e = .returned (.slice a (join n.ents).length c) ∧ Sat (rw TEn 4 (.slice a (join n.ents).length c) (ecs (join n.ents)) * (Sl.block b 29 [.slice aE le cE] * (B1 * F))) w') := fun b F w q => by
         have h9 := join_any [n.ents] _ _ F w (readsLL_one b HE.out.1) (q.eq (sep_assoc _ _ _).symm) (by simp) (by simp; have := hmf.2.2.2.1; omega) (by simpa using hmf.2.1) (by have := hmf.2.2.2.2; simp; omega)
         rw [List.flatten_singleton] at h9
         exact h9.mono fun e w' ⟨a, c, h1, h2⟩ => ⟨a, c, h1, h2.eq (by ac_rfl)⟩
        obtain ⟨jl, hjl⟩ : ∃ z, (join n.ents).length = z := ⟨_, rfl⟩
        simp only [hjl] at HJ
        have HJL : Aside (jl = le → Joined n.ents) := (fun e => join_len.1 (by rw [hjl, e, HE.out.2]) : _ → _)
        have HJN : Aside (jl ≠ le → chk V f no top = none) := (fun e => by rw [HG.out, chk_leaf HVN.out HLF.out H4.out, if_pos (by rw [hjl, HE.out.2]; exact e)] : _ → _)
        have hle3 : IntKind.i64.wrap ((le : Int) - 1) = ((le - 1 : Nat) : Int) := (IntWalk.i64_in _ (by omega)).trans (by omega)
        obtain ⟨lm, hlm⟩ : ∃ z, le - 1 = z := ⟨_, rfl⟩
        rw [hlm] at hle3
        obtain ⟨x, hx⟩ : ∃ x, n.ents[0]? = some x := ⟨_, List.getElem?_eq_getElem (by rw [HE.out.2]; omega)⟩
        obtain ⟨y, hy⟩ : ∃ x, n.ents[lm]? = some x := ⟨_, List.getElem?_eq_getElem (by rw [HE.out.2]; omega)⟩
        have HXY : Aside (n.ents.headD e0 = x ∧ n.ents.getLastD e0 = y) := ⟨by cases hq : n.ents with | nil => rw [hq] at hx; simp at hx | cons a l => rw [hq] at hx; simpa using hx, by rw [List.getLastD_eq_getLast?, List.getLast?_eq_getElem?, HE.out.2, hlm, hy]; rfl⟩
        have hE9 : ReadsE B1 (.slice aE n.ents.length cE) n.ents := by rw [HE.out.2]; exact HE.out.1
        obtain ⟨eb, eo, e8, r1, r2, r3, r4⟩ := readsE_at hE9 hx
        obtain ⟨eb', eo', e7, p1, p2, p3, p4⟩ := readsE_at hE9 hy
        rw [e8] at e7
        cases e7
        subst e8
        have HX2 : Aside (x0 = ⟨0, le, x, y⟩) := (by rw [← HX0.out, if_pos rfl, HXY.out.1, HXY.out.2, HE.out.2] : _ = _)
        obtain ⟨x1, x2, x3, x4⟩ := x
        obtain ⟨y1, y2, y3, y4⟩ := y
        simp only at r1 r2 r3 r4 p1 p2 p3 p4
        have hlm0 : (lm : Int) < le := by omega
        have hle4 : (0 : Int) < le := by omega
        clear hmf hjl hx hy hE9 hlm
        go_upto_region 9 with (fail)
        go_region_held3 (fun w' => w'.cell? ⟨N12, 1, none⟩ = some (.slice (some ⟨eb, eo, none⟩) le cE)) (exact (cell_sat _ _ _)) (first
         | (go_at_call 80; with_reducible refine Calls.mono (HJ.out _ _ _ (takeI2 (Sl.block _ 29 [.slice (some ⟨eb, eo, none⟩) le cE]) B1)) ?_; rintro e w7 ⟨a7, c7, rfl, q7⟩; haveI := q7.i))
        all_goals
         haveI := q7.i
         cases e9 : ((jl : Int) != (le : Int)) with
         | true =>
           have HCN : Aside (chk V f no top = none) := (by
            refine HJN.out fun e => ?_
            rw [e] at e9
            simp at e9 : _ = _)
           go_wp2
           exact ⟨rfl, s2, K, look_keep h s2 bK bT bL M K F, HS2.out.2.1, HS2.out.2.2, .inr ⟨rfl, HCN.out, HS2.out.1.less (Nat.zero_le _)⟩⟩
         | false =>
           have HJO : Aside (Joined n.ents) := (by
            have c9 : (jl : Int) = le := by simpa using e9
            exact HJL.out (by omega) : Joined _)
           go_upto_region 11 with (fail)
           go_region
           go_wp2_with fail
           go_meet
           refine ⟨fun _ => HJO.out, ?_⟩
           rw [HX2.out]
           have q8 := store10 (w := w7) (b := wc.heap.size) (e := TSn) (c0 := .int .i64 0) (c1 := .int .i64 0) (c2 := .int .i64 0) (c3 := .int .i64 0) (c4 := .int .i64 0) (c5 := .int .i64 0) (c6 := .int .i64 0) (c7 := .int .i64 0) (c8 := .int .i64 0) (c9 := .int .i64 0) (v0 := .int .i64 0) (v1 := .int .i64 le) (v2 := .int .i64 x1) (v3 := .int .i64 x2) (v4 := .int .i64 x3) (v5 := .int .i64 x4) (v6 := .int .i64 y1) (v7 := .int .i64 y2) (v8 := .int .i64 y3) (v9 := .int .i64 y4)
           haveI := q8.drew.i
           exact satI_weak (C := rw TEn 4 (.slice a7 jl c7) (ecs (join n.ents)) * Sl.block (wc.heap.size + 1) 29 [.slice (some ⟨eb, eo, none⟩) le cE]) (by unfold snC erow; ac_rfl)
     case rest =>
      obtain ⟨hjo, q6⟩ := hcut
      have HJO : Aside (lf = true → Joined n.ents) := hjo
      rw [HN13.out] at q6 ⊢
      clear q5 this hjo HN13
      obtain ⟨xh, xc, ⟨x1, x2, x3, x4⟩, ⟨x5, x6, x7, x8⟩⟩ := x0
      unfold snC erow at q6
      simp only [List.cons_append, List.nil_append] at q6
      haveI := q6.i
      go_wp2_with fail
      go_loopg [80] lk (fun gg t80 wr => ∃ (j m3 : Nat) (s3 : TS) (K3 : List (Int × Sn)) (x : Sn), t80 = .int .i64 j ∧ j ≤ lk ∧ Aside (LkI V N f g n lf m1 s K ⟨xh, xc, ⟨x1, x2, x3, x4⟩, ⟨x5, x6, x7, x8⟩⟩ gg lk j m3 s3 K3 x) ∧
       Sat (Sl.block N13 TSn (snC x) * (Sl.block N12 TNd [.bool lf, .slice aE le cE, .slice aK lk cK] * (B1 * (Sl.block N9 TSn [.int .i64 0, .int .i64 0, .int .i64 0, .int .i64 0, .int .i64 0, .int .i64 0, .int .i64 0, .int .i64 0, .int .i64 0, .int .i64 0] * (treeP h s3 * (Sl.block bK TKn [.map (some M)] * (Sl.block bT TTp [.pointer (some ⟨h.t, 0, none⟩)] * (Sl.block bL TLf [.func (Fn.func 128) #[] #[.pointer (some ⟨bK, 0, none⟩), .pointer (some ⟨bT, 0, none⟩), .pointer (some ⟨bL, 0, none⟩)]] * (mp ikey M (kn K3) *  F))))))))) wr)
      case atStart =>
       refine ⟨0, m1, s2, K, _, rfl, by omega, ⟨rfl, HS2.out.1, HS2.out.2.1, HS2.out.2.2, HK.out, by omega, fun e => ?_, fun _ => rfl, fun q hq => .inl hq, fun _ => rfl, ?_, ?_, fun e => by omega⟩, q6⟩
       · rw [← HX0.out, e]
         exact Run.zero g n
       · rw [← HX0.out]
         cases lf with
         | true => simp only [if_true]; have := HE.out.2; omega
         | false => exact ⟨by simp [sn0], by simp [sn0]⟩
       · rw [← HX0.out]
         cases lf with
         | true => exact ⟨by simp, by simp⟩
         | false => exact ⟨by simp [sn0], by simp [sn0]⟩
      case round =>
       obtain ⟨j, m3, s3, K3, x, rfl, hj, A, q7⟩ := hrel
       clear q6
       obtain ⟨zh, zc, ⟨z1, z2, z3, z4⟩, ⟨z5, z6, z7, z8⟩⟩ := x
       unfold snC erow at q7
       simp only [List.cons_append, List.nil_append] at q7
       haveI := q7.i
       by_cases hlt : j < lk
       · exfalso
         have h7 := (may_leaf HMN.out (HLV.out n HVN.out)).1
         have h9 := HKD.out.2
         rw [h7] at h9
         simp at h9
         omega
       · have hlt' : ¬ (j : Int) < lk := by omega
         obtain rfl : j = lk := by omega
         have HC : Aside (Chk V no top ⟨zh, zc, ⟨z1, z2, z3, z4⟩, ⟨z5, z6, z7, z8⟩⟩) := (by
          cases lf with
          | true =>
            have h9 := (may_leaf HMN.out HLF.out).1
            have h8 := HKD.out.2
            rw [h9] at h8
            rw [A.out.zero h8.symm]
            exact HX1.out rfl (HJO.out rfl)
          | false =>
            have h9 := A.out.run rfl
            rw [← HKD.out.2] at h9
            exact h9.done HVN.out HLF.out H4.out : Chk _ _ _ _)
         have hno0 : 0 ≤ no ∧ no < N := ⟨by
          have h9 := (HV.out no n HVN.out).2
          rcases Int.lt_or_le no 0 with h8 | h8
          · have : V no = none := A.out.rdy.out (by omega)
            rw [HVN.out] at this
            cases this
          · exact h8, (HV.out no n HVN.out).2⟩
         have HNO : Aside (0 ≤ no ∧ no < N) := hno0
         clear hno0
         have HLH : Aside (K = [] → zh < f) := (fun e => by
          by_cases c5 : j = 0
          · have h9 := A.out.zero c5
            have hG := HG.out
            have h7 := HX0.out
            rw [← h9] at h7
            cases lf with
            | true =>
              simp only [if_true] at h7
              have h6 := congrArg Sn.h h7
              simp only at h6
              omega
            | false =>
              have h6 := congrArg Sn.h h7
              have : (if false = true then (⟨0, n.ents.length, n.ents.headD e0, n.ents.getLastD e0⟩ : Sn) else sn0).h = 0 := rfl
              rw [this] at h6
              simp only at h6
              omega
          · exact (A.out.low (by omega)).2 e : _ → _)
         have HNK2 : Aside (top = false → kget no K3 = none) := (fun e => by
          cases hq : kget no K3 with
          | none => rfl
          | some z =>
            exfalso
            have h9 := kget_mem hq
            rcases A.out.newk _ h9 with h8 | h8
            · have h7 := HZ.out e
              have : ∀ (K : List (Int × Sn)), (no, z) ∈ K → kget no K ≠ none := fun K hK h6 => by
               have h5 := hasK_get (i := no.toNat) h6 (by have := HNO.out.1; omega)
               unfold hasK at h5
               rw [List.any_eq_false] at h5
               have := h5 _ hK
               simp at this
               have := HNO.out.1
               omega
              exact this K h8 h7
            · have h6 := A.out.kn.get hq
              obtain ⟨q1, q2⟩ := id HC.out
              rw [e] at q2
              have h5 := h6.of HV1.out q2
              rw [← h5] at h8
              simp only at h8
              omega : _ → _)
         have HBJ : Aside (m1 + 13 * fr N K3 ≤ m3 + j + 13 * fr N K ∧ m = m1 + 1 ∧ j ≤ 12) := ⟨A.out.bud, HM1.out, hlk1⟩
         have HA : Aside (KnOk V K3 ∧ Rdy V m3 s3 ∧ s3.sp = s.sp ∧ s3.ck.d = s.ck.d ∧ ∀ q ∈ K3, q ∈ K ∨ q.2.h + 1 ≤ zh) := ⟨A.out.kn, A.out.rdy, A.out.sp, A.out.d, A.out.newk⟩
         clear A
         cases top with
         | true =>
           go_wp2
           go_returns
           have q8 := store10 (w := wr) (b := N9) (e := TSn) (c0 := .int .i64 0) (c1 := .int .i64 0) (c2 := .int .i64 0) (c3 := .int .i64 0) (c4 := .int .i64 0) (c5 := .int .i64 0) (c6 := .int .i64 0) (c7 := .int .i64 0) (c8 := .int .i64 0) (c9 := .int .i64 0) (v0 := .int .i64 zh) (v1 := .int .i64 zc) (v2 := .int .i64 z1) (v3 := .int .i64 z2) (v4 := .int .i64 z3) (v5 := .int .i64 z4) (v6 := .int .i64 z5) (v7 := .int .i64 z6) (v8 := .int .i64 z7) (v9 := .int .i64 z8)
           haveI := q8.i
           refine ⟨s3, K3, look_keep h s3 bK bT bL M K3 F, HA.out.2.2.1, HA.out.2.2.2.1, .inl ⟨⟨zh, zc, ⟨z1, z2, z3, z4⟩, ⟨z5, z6, z7, z8⟩⟩, m3, rfl, HC.out, HLH.out, HA.out.1, fun q hq => (HA.out.2.2.2.2 q hq).imp id fun h9 => ?_, HA.out.2.1, ?_⟩⟩
           · simp only; omega
           · have := HBJ.out; simp only [if_true]; omega
         | false =>
           go_wp2
           go_returns
           have q8 := store10 (w := putW Tryz.prog TKn M (ikey no) (.agg #[.int .i64 zh, .int .i64 zc, .int .i64 z1, .int .i64 z2, .int .i64 z3, .int .i64 z4, .int .i64 z5, .int .i64 z6, .int .i64 z7, .int .i64 z8]) wr) (b := N9) (e := TSn) (c0 := .int .i64 0) (c1 := .int .i64 0) (c2 := .int .i64 0) (c3 := .int .i64 0) (c4 := .int .i64 0) (c5 := .int .i64 0) (c6 := .int .i64 0) (c7 := .int .i64 0) (c8 := .int .i64 0) (c9 := .int .i64 0) (v0 := .int .i64 zh) (v1 := .int .i64 zc) (v2 := .int .i64 z1) (v3 := .int .i64 z2) (v4 := .int .i64 z3) (v5 := .int .i64 z4) (v6 := .int .i64 z5) (v7 := .int .i64 z6) (v8 := .int .i64 z7) (v9 := .int .i64 z8)
           haveI := q8.i
           have hfr := fr_put (y := ⟨zh, zc, ⟨z1, z2, z3, z4⟩, ⟨z5, z6, z7, z8⟩⟩) (HNK2.out (by simp)) HNO.out.1 HNO.out.2
           refine ⟨s3, kput no ⟨zh, zc, ⟨z1, z2, z3, z4⟩, ⟨z5, z6, z7, z8⟩⟩ K3, ?_, HA.out.2.2.1, HA.out.2.2.2.1, .inl ⟨⟨zh, zc, ⟨z1, z2, z3, z4⟩, ⟨z5, z6, z7, z8⟩⟩, m3, rfl, HC.out, HLH.out, HA.out.1.put HC.out, fun q hq => ?_, HA.out.2.1, ?_⟩⟩
           · exact (keep6 (treeP h s3) (Sl.block bK TKn [.map (some M)]) (Sl.block bT TTp [.pointer (some ⟨h.t, 0, none⟩)]) (Sl.block bL TLf [.func (Fn.func 128) #[] #[.pointer (some ⟨bK, 0, none⟩), .pointer (some ⟨bT, 0, none⟩), .pointer (some ⟨bL, 0, none⟩)]]) (mp ikey M (mput no (.agg #[.int .i64 zh, .int .i64 zc, .int .i64 z1, .int .i64 z2, .int .i64 z3, .int .i64 z4, .int .i64 z5, .int .i64 z6, .int .i64 z7, .int .i64 z8]) (kn K3))) F).eq (by rw [look_open, ← mput_kn]; rfl)
           · rcases kput_mem hq with e | e
             · rw [e]; simp only; exact .inr (Int.le_refl _)
             · exact (HA.out.2.2.2.2 q e).imp id fun h9 => by simp only; omega
           · have := HBJ.out; simp only [Bool.false_eq_true, if_false]; omega
end Go.Proofs.YtfhbmblbidcmmaaGreat
namespace Go.Proofs.YtfhbmblbidcmmaaGreat
set_option linter.unusedSimpArgs false
set_option linter.unusedVariables false
open Go.RowKit Go.Sl Go.Dk Go.Tr
open Go.Lru (ikey)
attribute [local go_sem ↓] Go.wp_at_zero Go.wp_at_succ
attribute [local go_sem] Go.Sl.cell_sat Go.Sl.frozen_sat put_Kn
variable [TopN]
theorem look_step (f : Nat) (ih : ∀ g, f = g + 1 → LookC g) : LookC f := by
 intro V N h s m K no top bK bT bL M F w hf hno hK hV hR hm hs
 cases hn : V no with
 | none => exact look_inner f ih V N h s m K no top bK bT bL M F w (fun n e => by rw [hn] at e; cases e) hf hno hK hV hR hm hs
 | some n =>
   cases hl : n.leaf with
   | true => exact look_leaf f ih V N h s m K no top bK bT bL M F w (fun n' e => by rw [hn] at e; cases e; exact hl) hf hno hK hV hR hm hs
   | false => exact look_inner f ih V N h s m K no top bK bT bL M F w (fun n' e => by rw [hn] at e; cases e; exact hl) hf hno hK hV hR hm hs
theorem look_all : ∀ f, LookC f
 | 0 => look_step 0 fun g h => by omega
 | f + 1 => look_step (f + 1) fun g h => by
   have : g = f := by omega
   subst this
   exact look_all g
end Go.Proofs.YtfhbmblbidcmmaaGreat
namespace Go.Proofs.YtfhbmblbidcmmaaGreat
set_option linter.unusedSimpArgs false
set_option linter.unusedVariables false
open Go.RowKit Go.Sl Go.Dk Go.Tr
open Go.Lru (ikey)
attribute [local go_sem ↓] Go.wp_at_zero Go.wp_at_succ
attribute [local go_sem] Go.Sl.cell_sat Go.Sl.frozen_sat
theorem run_store_func {P : Program} {w : World} {a : Addr} {m : Mode} (f : Fn) (x y : Array Value) : (store a (.func f x y) m).run P w = stored P w a (.func f x y) m := run_store P w a _ m rfl
attribute [local go_sem] run_store_func
theorem checkC_idle (E : Nat) (w : World) :
 CallsD Tryz.prog 73 #[.pointer (some ⟨E, 0, none⟩)] .returning w fun e u' w' => e = .returned (.tuple #[]) ∧ u' = .returning ∧ w' = w := by
 refine callsD_of_wpS Tryz.func73 rfl fun c₀ cs hu => ?_
 apply wpS_seq
 apply wpS_region
 simp [wpOpsS, go_sem, recoverD, hu, Tryz.ntmps73, Exit.thenS]
 apply wpS_seq
 apply wpS_region
 simp [wpOpsS, go_sem, Exit.thenS]
 refine wpS_cond (t := false) (by simp [Act.eval, Array.replicate]) ?_
 simp only [Bool.false_eq_true, if_false]
 refine wpS_of_wp (wp_skip ?_)
 cases c₀
 simp_all [bodyPostS, results, Tryz.results73, Exit.thenS]
theorem checkC_caught (E : Nat) (er : Int) (b : Value) (F : Assn) (w : World) (hs : Sat (Sl.block E TEr [b] * F) w) :
 CallsD Tryz.prog 73 #[.pointer (some ⟨E, 0, none⟩)] (.panicking (faultC er)) w fun e u' w' => e = .returned (.tuple #[]) ∧ u' = .panicking [{ v := .iface TFa (.agg #[.int .i64 er]), recovered := true }] ∧ Sat (Sl.block E TEr [.int .i64 er] * F) w' := by
 haveI := hs.i
 refine callsD_of_wpS Tryz.func73 rfl fun c₀ cs hu => ?_
 unfold faultC at hu
 apply wpS_seq
 apply wpS_region
 simp [wpOpsS, go_sem, recoverD, hu, Tryz.ntmps73, Exit.thenS]
 apply wpS_seq
 apply wpS_region
 simp [wpOpsS, go_sem, Exit.thenS]
 refine wpS_cond (t := true) (by simp [Act.eval, Array.replicate]) ?_
 simp only [if_true]
 refine wpS_of_wp ?_
 go_wp2_with fail
 refine Calls.mono (given_any er _ _ hs) ?_
 rintro en w2 ⟨rfl, q2⟩
 haveI := q2.i
 go_wp2
 simp [bodyPostS, results, Tryz.results73]
 exact satI_eq (by ac_rfl)
theorem field_Sn1 (yh yc a1 a2 a3 a4 b1 b2 b3 b4 : Int) (w : World) : (Instr.field TSn (.agg #[.int .i64 yh, .int .i64 yc, .int .i64 a1, .int .i64 a2, .int .i64 a3, .int .i64 a4, .int .i64 b1, .int .i64 b2, .int .i64 b3, .int .i64 b4]) 1).run Tryz.prog w = .ok (.int .i64 yc) w := by kernel_rfl
instance (priority := 20000) mapKn_alloc {A : Assn} {w : World} {n : Nat} [q : SatI A w] [z : Sz w n] : SatI (mp ikey n (kn []) * A) (w.alloc (.map #[] 0)) := ⟨by
 have h := q.out.alloc_raw (.map #[] 0)
 rw [z.out] at h
 exact Sat.mp_shut (kf := ikey) (ms := []) (b := n) (o := .map #[] 0) ⟨#[], 0, rfl, rfl, by simp, by simp⟩ h⟩
variable [TopN]
def SoundOut (V : Int → Option Nd) (N : Nat) (h : Th) (m : Nat) (s : TS) (no : Int) (F : Assn) (e : Ending) (w' : World) : Prop := ∃ s', Sat (treeP h s' * F) w' ∧ s'.sp = s.sp ∧ s'.ck.d = s.ck.d ∧
 ((∃ y m', e = .returned (snV y) ∧ chk V 13 no true = some y ∧ Rdy V m' s' ∧ m ≤ m' + 13 * N + 13) ∨ (e = .panicked (faultC 13) ∧ chk V 13 no true = none ∧ Rdy V 0 s'))
set_option maxRecDepth 100000 in
set_option maxHeartbeats 3200000 in
theorem sound_any (V : Int → Option Nd) (N : Nat) (h : Th) (m : Nat) (s : TS) (no : Int) (F : Assn) (w : World) (hno : no ≠ 0) (hV : ∀ p n, V p = some n → may n = true ∧ p < N) (hR : Rdy V m s) (hm : 13 * N + 182 ≤ m) (hs : Sat (treeP h s * F) w) :
 Calls Tryz.prog 75 #[.pointer (some ⟨h.t, 0, none⟩), .int .i64 no, .bool true] w (SoundOut V N h m s no F) := by
 have hmf : ∀ (fn : Fn) (first cap : Array Value) (w : World), (Instr.makeFunc fn first cap).run Tryz.prog w = .ok (.func fn first cap) w := fun _ _ _ _ => rfl
 have hmm := @run_makeMap Tryz.prog
 have hlook := fun bK bT bL M F w q => look_all 13 V N h s m [] no true bK bT bL M F w (by omega) hno (fun p hp => by cases hp) hV hR (by have := fr_le N []; omega) q
 have e13 : (13 : Int) - ((13 : Nat) : Int) = 0 := rfl
 rw [e13] at hlook
 have HLK : Aside (∀ (bK bT bL M : Nat) (F : Assn) (w : World), Sat (treeP h s * (lookA bK bT bL M h [] * F)) w → Calls Tryz.prog 128 #[.int .i64 no, .bool true, .int .i64 0, .pointer (some ⟨bK, 0, none⟩), .pointer (some ⟨bT, 0, none⟩), .pointer (some ⟨bL, 0, none⟩)] w (LookOut V N h bK bT bL M 13 m s [] no true F)) := hlook
 have HV1 : Aside (∀ p n, V p = some n → may n = true) := fun p n h => (hV p n h).1
 haveI := hs.i
 clear hlook hno hV hR hm
 go_enter Tryz.func75, Tryz.ntmps75
 go_wp2_with fail
 with_reducible refine Calls.mono (HLK.out (w.heap.size + 1 + 1 + 1) w.heap.size (w.heap.size + 1 + 1 + 1 + 1) (w.heap.size + 1 + 1) _ _ (look_take h s (w.heap.size + 1 + 1 + 1) w.heap.size (w.heap.size + 1 + 1 + 1 + 1) (w.heap.size + 1 + 1) [])) ?_
 rintro e w2 ⟨s2, K2, q2, hsp, hd, hcase⟩
 have q3 := q2.eq (look_open h s2 (w.heap.size + 1 + 1 + 1) w.heap.size (w.heap.size + 1 + 1 + 1 + 1) (w.heap.size + 1 + 1) K2 _)
 haveI := q3.i
 clear q2 hs
 rcases hcase with ⟨y, m2, rfl, hc, hh, _, _, hr, hb⟩ | ⟨rfl, hc, hr⟩
 · have HC : Aside (chk V 13 no true = some y ∧ Rdy V m2 s2 ∧ s2.sp = s.sp ∧ s2.ck.d = s.ck.d ∧ m ≤ m2 + 13 * N + 13) := ⟨hc.at HV1.out (by simpa using hh rfl), hr, hsp, hd, by
    have := fr_le N []
    simp only [if_true] at hb
    omega⟩
   obtain ⟨N6, hN6⟩ : ∃ z, w.heap.size + 1 = z := ⟨_, rfl⟩
   have HN6 : Aside (w.heap.size + 1 = N6) := hN6
   clear hc hh hr hb hsp hd hN6
   obtain ⟨yh, yc, ⟨a1, a2, a3, a4⟩, ⟨b1, b2, b3, b4⟩⟩ := y
   unfold snV
   simp only
   go_wp2
   go_returns
   have q8 := store10 (w := w2) (b := w.heap.size + 1) (e := TSn) (c0 := .int .i64 0) (c1 := .int .i64 0) (c2 := .int .i64 0) (c3 := .int .i64 0) (c4 := .int .i64 0) (c5 := .int .i64 0) (c6 := .int .i64 0) (c7 := .int .i64 0) (c8 := .int .i64 0) (c9 := .int .i64 0) (v0 := .int .i64 yh) (v1 := .int .i64 yc) (v2 := .int .i64 a1) (v3 := .int .i64 a2) (v4 := .int .i64 a3) (v5 := .int .i64 a4) (v6 := .int .i64 b1) (v7 := .int .i64 b2) (v8 := .int .i64 b3) (v9 := .int .i64 b4)
   haveI := q8.i
   exact ⟨s2, keep2 _ _, HC.out.2.2.1, HC.out.2.2.2.1, .inl ⟨⟨yh, yc, ⟨a1, a2, a3, a4⟩, ⟨b1, b2, b3, b4⟩⟩, m2, rfl, HC.out.1, HC.out.2.1, HC.out.2.2.2.2⟩⟩
 · exact ⟨rfl, s2, keep2 _ _, hsp, hd, .inr ⟨rfl, hc, hr⟩⟩
def CheckOut (V : Int → Option Nd) (N : Nat) (h : Th) (m : Nat) (s : TS) (root : Int) (F : Assn) (e : Ending) (w' : World) : Prop := ∃ s' m', Sat (treeP h s' * F) w' ∧ s'.sp = s.sp ∧ s'.ck.d = s.ck.d ∧ Rdy V m' s' ∧
 e = .returned (.int .i64 (if (rTree V root).ok then 0 else 13)) ∧ ((rTree V root).ok = true → m ≤ m' + 13 * N + 13)
set_option maxRecDepth 100000 in
set_option maxHeartbeats 3200000 in
theorem check_any (V : Int → Option Nd) (N : Nat) (h : Th) (m : Nat) (s : TS) (root : Int) (F : Assn) (w : World) (hV : ∀ p n, V p = some n → may n = true ∧ p < N) (hR : Rdy V m s) (hm : 13 * N + 182 ≤ m) (hs : Sat (treeP h s * F) w) :
 Calls Tryz.prog 17 #[.pointer (some ⟨h.t, 0, none⟩), .int .i64 root] w (CheckOut V N h m s root F) := by
 have hmf : ∀ (fn : Fn) (first cap : Array Value) (w : World), (Instr.makeFunc fn first cap).run Tryz.prog w = .ok (.func fn first cap) w := fun _ _ _ _ => rfl
 haveI := hs.i
 by_cases hz : root = 0
 · subst hz
   have HR : Aside (Rdy V m s) := hR
   clear hR hV hm hs
   go_enter_defers Tryz.func17, Tryz.ntmps17
   go_wp2
   refine leaves_cons (f := 73) (args := #[.pointer (some ⟨w.heap.size, 0, none⟩)]) (by simp) (by simp [go_sem]) ?_
   refine (checkC_idle _ _).mono ?_
   rintro e u' w'' ⟨rfl, rfl, rfl⟩
   simp [Leaves, settle, results, Tryz.results17, go_sem]
   exact ⟨s, m, keep2 _ _, rfl, rfl, HR.out, rfl, fun _ => by omega⟩
 · have hz' : ((root : Int) == 0) = false := by simpa using hz
   have HV1 : Aside (∀ p n, V p = some n → may n = true) := fun p n h => (hV p n h).1
   have hso := fun F w q => sound_any V N h m s root F w hz hV hR hm q
   have HSO : Aside (∀ F w, Sat (treeP h s * F) w → Calls Tryz.prog 75 #[.pointer (some ⟨h.t, 0, none⟩), .int .i64 root, .bool true] w (SoundOut V N h m s root F)) := hso
   have HT : Aside ((rTree V root).ok = true ↔ ∃ y, chk V 13 root true = some y) := chk_tree HV1.out hz
   obtain ⟨E, hE⟩ : ∃ N, w.heap.size = N := ⟨_, rfl⟩
   have HE : Aside (w.heap.size = E) := hE
   clear hso hV hR hm hs hz hE
   go_enter_defers Tryz.func17, Tryz.ntmps17
   go_wp2_with fail
   with_reducible refine Calls.mono (HSO.out _ _ (takeI (treeP h s))) ?_
   rintro e w2 ⟨s2, q2, hsp, hd, hcase⟩
   haveI := q2.i
   rcases hcase with ⟨y, m2, rfl, hc, hr, hb⟩ | ⟨rfl, hc, hr⟩
   · have hlo : Low y := Chk.low HV1.out ⟨13, hc⟩
     have hcc : y.count ≤ 1024 := chk_most HV1.out hc
     have HC : Aside ((rTree V root).ok = true ∧ Rdy V m2 s2 ∧ s2.sp = s.sp ∧ s2.ck.d = s.ck.d ∧ m ≤ m2 + 13 * N + 13) := ⟨HT.out.2 ⟨y, hc⟩, hr, hsp, hd, hb⟩
     clear hc hr hb hsp hd hlo HSO HT
     obtain ⟨yh, yc, ⟨a1, a2, a3, a4⟩, ⟨b1, b2, b3, b4⟩⟩ := y
     simp only at hcc
     unfold snV
     simp only
     have hb1 : decide ((1024 : Int) < yc) = false := decide_eq_false (by omega)
     have hfl := fun w => field_Sn1 yh yc a1 a2 a3 a4 b1 b2 b3 b4 w
     go_wp2
     refine leaves_cons (f := 73) (args := #[.pointer (some ⟨w.heap.size, 0, none⟩)]) (by simp) (by simp [go_sem]) ?_
     refine (checkC_idle _ _).mono ?_
     rintro e u' w'' ⟨rfl, rfl, rfl⟩
     simp [Leaves, settle, results, Tryz.results17, go_sem]
     exact ⟨s2, m2, keep2 _ _, HC.out.2.2.1, HC.out.2.2.2.1, HC.out.2.1, by rw [HC.out.1]; rfl, fun _ => HC.out.2.2.2.2⟩
   · have hno : (rTree V root).ok = false := by
      cases hq : (rTree V root).ok with
      | false => rfl
      | true =>
        obtain ⟨y, hy⟩ := HT.out.1 hq
        rw [hc] at hy
        cases hy
     show bodyPostD _ _ _ (.panic (faultC 13)) _ w2
     refine leaves_cons (f := 73) (args := #[.pointer (some ⟨w.heap.size, 0, none⟩)]) (by simp) (by simp [go_sem]) ?_
     refine (checkC_caught w.heap.size 13 (.int .i64 0) _ w2 (takeI (Sl.block w.heap.size TEr [.int .i64 0]))).mono ?_
     rintro e u' w3 ⟨rfl, rfl, q3⟩
     haveI := q3.i
     simp [Leaves, settle, results, Tryz.results17, go_sem]
     exact ⟨s2, 0, keep2 _ _, hsp, hd, hr, by rw [hno]; rfl, fun e => by rw [hno] at e; cases e⟩
end Go.Proofs.YtfhbmblbidcmmaaGreat
namespace Go.Proofs.YtfhbmblbidcmmaaGreat
set_option linter.unusedSimpArgs false
set_option linter.unusedVariables false
set_option linter.unusedSectionVars false
open Go.RowKit Go.Sl Go.Dk Go.Tr
attribute [local go_sem ↓] Go.wp_at_zero Go.wp_at_succ
attribute [local go_sem] Go.Sl.cell_sat Go.Sl.frozen_sat
abbrev TVr : TypeId := 230
theorem rKids_most {V : Int → Option Nd} {bl : Int → Lk} : ∀ (ks : List Kd) (first : Bool) (o : Lk), o.ents.length ≤ 1024 → (rKids V bl ks first o).ents.length ≤ 1024
 | [], first, o, h => by unfold rKids; exact h
 | k :: ks, first, o, h => by
   unfold rKids
   cases hr : rKid (bl k.page) (rSum (nodeOr V k.page)) first k o with
   | none => simp [lk0]
   | some o' =>
     simp only
     obtain ⟨a, b, c, d, rfl⟩ := rKid_ok hr
     exact rKids_most ks false _ d
theorem rBelow_most {V : Int → Option Nd} (hV : ∀ p n, V p = some n → may n = true) (f : Nat) (no : Int) (top : Bool) : (rBelow V f no top).ents.length ≤ 1024 := by
 cases f with
 | zero => simp [rBelow, lk0]
 | succ f =>
   unfold rBelow
   cases hn : V no with
   | none => simp [lk0]
   | some n =>
     simp only
     split
     · simp [lk0]
     · refine rKids_most n.kids true _ ?_
       have := (may_len (hV no n hn)).1
       simp only
       omega
theorem rTree_most {V : Int → Option Nd} (hV : ∀ p n, V p = some n → may n = true) (r : Int) : (rTree V r).ents.length ≤ 1024 := by
 unfold rTree
 split
 · simp
 · split
   · simp [lk0]
   · exact rBelow_most hV 13 r true
def Known (d : Dk) (eo et : Nat) (kn : List Ent) : Prop := ∀ x ∈ kn, entOk (cutE d eo et x.src) x = true
def verOk (V : Int → Option Nd) (d : Dk) (eo et : Nat) (v : Int × Int) : Bool := (rTree V v.1).ok && (decide (eBytes (rTree V v.1).ents = v.2) && (rTree V v.1).ents.all fun x => entOk (cutE d eo et x.src) x)
theorem Known.add {d : Dk} {eo et : Nat} {kn : List Ent} (h : Known d eo et kn) {x : Ent} (hx : entOk (cutE d eo et x.src) x = true) : Known d eo et (addK kn x) := by
 unfold addK
 split
 · exact h
 · intro y hy
   rcases List.mem_append.1 hy with hy | hy
   · exact h y hy
   · simp at hy; subst hy; exact hx
theorem cen_open {L M : Nat} {h : Th} {s : TS} {eo et : Nat} {kn : List Ent} {F : Assn} {w : World} (hs : Sat (treeP h s * (cenA L M h eo et kn * F)) w) : Sat (treeP h s * (Sl.block L TLo [.pointer (some ⟨h.t, 0, none⟩), .pointer (some ⟨h.D, 0, none⟩), .string nmO, .string nmT, .int .i64 eo, .int .i64 et, .map (some M)] * (mp eKey M (inKn kn) * F))) w := hs.eq (by unfold cenA; rw [sep_assoc])
def VerOut [TopN] (V : Int → Option Nd) (L M : Nat) (h : Th) (m : Nat) (s : TS) (v : Int × Int) (eo et : Nat) (F : Assn) (e : Ending) (w' : World) : Prop := ∃ (s' : TS) (kn' : List Ent) (m' : Nat), Sat (treeP h s' * (cenA L M h eo et kn' * F)) w' ∧ s'.sp = s.sp ∧ s'.ck.d = s.ck.d ∧ Rdy V m' s' ∧ Known s.ck.d eo et kn' ∧
 e = .returned (.int .i64 (if verOk V s.ck.d eo et v then 0 else 13)) ∧ (verOk V s.ck.d eo et v = true → m ≤ m')
theorem all_take {l : List Ent} {p : Ent → Bool} {i : Nat} {x : Ent} (hx : l[i]? = some x) (h : ∀ y ∈ l.take i, p y = true) (hp : p x = true) : ∀ y ∈ l.take (i + 1), p y = true := by
 intro y hy
 rw [List.take_add_one, hx] at hy
 rcases List.mem_append.1 hy with hy | hy
 · exact h y hy
 · simp at hy; subst hy; exact hp
set_option maxRecDepth 100000 in
set_option maxHeartbeats 6400000 in
theorem version_any [TopN] (V : Int → Option Nd) (N L M : Nat) (h : Th) (m : Nat) (s : TS) (r n : Int) (eo et : Nat) (kn : List Ent) (F : Assn) (w : World) (hV : ∀ p n, V p = some n → may n = true ∧ 1 ≤ p ∧ p < N) (hR : Rdy V (m + (13 * N + 1051)) s)
 (ho : eo ≤ 1099511627776) (ht : et ≤ 1099511627776) (hf : Fine s.ck.d nmO ∧ Fine s.ck.d nmT) (hkn : Known s.ck.d eo et kn) (hs : Sat (treeP h s * (cenA L M h eo et kn * F)) w) :
 Calls Tryz.prog 124 #[.pointer (some ⟨L, 0, none⟩), .agg #[.int .i64 r, .int .i64 n]] w (VerOut V L M h m s (r, n) eo et F) := by
 have HKN : Aside (Known s.ck.d eo et kn) := hkn
 have hck := fun F w q => check_any V N h (m + (13 * N + 1051)) s r F w (fun p n hp => ⟨(hV p n hp).1, (hV p n hp).2.2⟩) hR (by omega) q
 have hmost := rTree_most (fun p n hp => (hV p n hp).1) r
 have hlk : LkOk true 13 (rTree V r) := rTree_ok (fun p n h => (hV p n h).1) r
 obtain ⟨ok, hok⟩ : ∃ x, (rTree V r).ok = x := ⟨_, rfl⟩
 obtain ⟨es, hes⟩ : ∃ x, (rTree V r).ents = x := ⟨_, rfl⟩
 have HVO : Aside (verOk V s.ck.d eo et (r, n) = (ok && (decide (eBytes es = n) && es.all fun x => entOk (cutE s.ck.d eo et x.src) x))) := by
  show _ = _
  unfold verOk
  rw [hok, hes]
 obtain ⟨cd, hcd⟩ : ∃ x : Int, (if ok = true then (0 : Int) else 13) = x := ⟨_, rfl⟩
 have HCD : Aside ((if ok = true then (0 : Int) else 13) = cd) := hcd
 have HCK : Aside (∀ F w, Sat (treeP h s * F) w → Calls Tryz.prog 17 #[.pointer (some ⟨h.t, 0, none⟩), .int .i64 r] w fun e w' => ∃ (s1 : TS) (m1 : Nat), e = .returned (.int .i64 cd) ∧ Aside (s1.sp = s.sp ∧ s1.ck.d = s.ck.d ∧ Rdy V m1 s1 ∧ (ok = true → m + 1038 ≤ m1)) ∧ Sat (treeP h s1 * F) w') := fun F w q => (hck F w q).mono fun e w' ⟨s1, m1, k1, k2, k3, k4, k5, k6⟩ => ⟨s1, m1, by rw [k5, hok, hcd], ⟨k2, k3, k4, fun e => by rw [← hok] at e; have := k6 e; omega⟩, k1⟩
 have HST : Aside (ok = true → ∀ s1 : TS, s1.sp = s.sp → s1.ck.d = s.ck.d → Rdy V (m + 1038) s1 → ∃ s2 s3 : TS, tSize tRead r s1 = .ok (eBytes es) s2 ∧ tList tRead r s2 = .ok es s3 ∧ Rdy V m s3 ∧ s3.sp = s.sp ∧ s3.ck.d = s.ck.d ∧ Rdy V m s2 ∧ s2.sp = s.sp ∧ s2.ck.d = s.ck.d) := by
  intro e s1 h1 h2 h3
  rw [← hok] at e
  obtain ⟨s2, a1, a2⟩ := tSize_tree (fun p n hp => ⟨(hV p n hp).1, (hV p n hp).2.1⟩) (m := m + 1037) (s := s1) h3 e
  obtain ⟨s3, b1, b2⟩ := tList_tree (fun p n hp => ⟨(hV p n hp).1, (hV p n hp).2.1⟩) (m := m) a2.rdy e hmost
  rw [hes] at a1 b1
  exact ⟨s2, s3, a1, b1, b2.rdy, by rw [b2.sp, a2.sp, h1], by rw [b2.dk, a2.dk, h2], a2.rdy.less (by omega), by rw [a2.sp, h1], by rw [a2.dk, h2]⟩
 rw [hes] at hmost
 have HES : Aside (es.length ≤ 1024 ∧ ∀ x ∈ es, mayEnt x = true) := ⟨hmost, by rw [← hes]; exact hlk.may⟩
 have HSF : Aside (Fine s.ck.d nmO ∧ Fine s.ck.d nmT ∧ eo ≤ 1099511627776 ∧ et ≤ 1099511627776) := ⟨hf.1, hf.2, ho, ht⟩
 have h0 := cen_open hs
 obtain ⟨VB, hVB⟩ : ∃ x, w.heap.size = x := ⟨_, rfl⟩
 haveI := h0.i
 clear hs hkn hck hmost hlk hok hes hf hR ho ht hV hcd
 go_enter Tryz.func124, Tryz.ntmps124
 go_wp2_with fail
 have q1 : Sat (treeP h s * (Sl.block L TLo [.pointer (some ⟨h.t, 0, none⟩), .pointer (some ⟨h.D, 0, none⟩), .string nmO, .string nmT, .int .i64 eo, .int .i64 et, .map (some M)] * (mp eKey M (inKn kn) * (Sl.block VB TVr [.int .i64 r, .int .i64 n] * F)))) (w.alloc (.cells #[.int .i64 r, .int .i64 n] TVr)) := by
  rw [← hVB]
  exact satI_eq (by ac_rfl)
 try rw [hVB]
 generalize w.alloc (.cells #[.int .i64 r, .int .i64 n] TVr) = w1 at q1 ⊢
 clear hVB h0 this
 haveI := q1.i
 go_cut [5] (fun t5 wx => ∃ (s1 : TS) (m1 : Nat), t5 = .int .i64 cd ∧ Aside (s1.sp = s.sp ∧ s1.ck.d = s.ck.d ∧ Rdy V m1 s1 ∧ (ok = true → m + 1038 ≤ m1)) ∧ Sat (treeP h s1 * (Sl.block L TLo [.pointer (some ⟨h.t, 0, none⟩), .pointer (some ⟨h.D, 0, none⟩), .string nmO, .string nmT, .int .i64 eo, .int .i64 et, .map (some M)] * (mp eKey M (inKn kn) * (Sl.block VB TVr [.int .i64 r, .int .i64 n] * F)))) wx)
 case first =>
  go_region_held3 (fun w' => w'.cell? ⟨L, 0, none⟩ = some (.pointer (some ⟨h.t, 0, none⟩)) ∧ w'.cell? ⟨VB, 0, none⟩ = some (.int .i64 r)) (exact ⟨cell_sat _ _ _, cell_sat _ _ _⟩) (first
   | (go_at_call 17; with_reducible refine Calls.mono (HCK.out _ _ (takeI (treeP h s))) ?_; rintro e w2 ⟨s1, m1, rfl, H1, q2⟩; haveI := q2.i))
  all_goals
   go_wp2_with fail
   go_meet
   exact ⟨s1, m1, rfl, H1, keep5 _ _ _ _ _⟩
 case rest =>
  obtain ⟨s1, m1, rfl, H1, q2⟩ := hcut
  clear q1 HCK this
  haveI := q2.i
  cases ok with
  | false =>
    have HB : Aside (verOk V s.ck.d eo et (r, n) = false) := by
     show _ = _
     rw [HVO.out]
     rfl
    obtain rfl : (13 : Int) = cd := HCD.out
    go_wp2
    go_ret
    refine ⟨s1, kn, m1, (cen_shut (satI_weak (C := Sl.block VB TVr [.int .i64 r, .int .i64 n]) (by ac_rfl))), H1.out.1, H1.out.2.1, H1.out.2.2.1, HKN.out, by rw [HB.out]; rfl, fun e => ?_⟩
    rw [HB.out] at e
    cases e
  | true =>
    obtain rfl : (0 : Int) = cd := HCD.out
    obtain ⟨s2, s3, a1, a2, a3, a4, a5, a6⟩ := HST.out rfl s1 H1.out.1 H1.out.2.1 (H1.out.2.2.1.less (H1.out.2.2.2 rfl))
    have hsz := fun F w q => size_tany h s1 r F w q (by rw [a1]; simp)
    have hls := fun F w q => list_tany h s2 r F w q (by rw [a2]; simp)
    rw [a1] at hsz
    rw [a2] at hls
    obtain ⟨z, hz⟩ : ∃ x, eBytes es = x := ⟨_, rfl⟩
    obtain ⟨nl, hnl⟩ : ∃ x, es.length = x := ⟨_, rfl⟩
    rw [hz] at hsz
    have HSZ : Aside (∀ F w, Sat (treeP h s1 * F) w → Calls Tryz.prog 86 #[.pointer (some ⟨h.t, 0, none⟩), .int .i64 r] w fun e w' => e = .returned (.tuple #[.int .i64 z, .int .i64 0]) ∧ Sat (treeP h s2 * F) w') := hsz
    have HLS : Aside (∀ F w, Sat (treeP h s2 * F) w → Calls Tryz.prog 44 #[.pointer (some ⟨h.t, 0, none⟩), .int .i64 r] w fun e w' => ∃ (a : Option Addr) (c : Nat), e = .returned (.tuple #[.slice a nl c, .int .i64 0]) ∧ Sat (rw TEn 4 (.slice a nl c) (ecs es) * (treeP h s3 * F)) w') := fun F w q => by
     have := hls F w q
     rw [← hnl]
     exact this
    have HA : Aside (Rdy V m s3 ∧ s3.sp = s.sp ∧ s3.ck.d = s.ck.d ∧ es.length = nl ∧ nl ≤ 1024 ∧ ∀ x ∈ es, mayEnt x = true) := ⟨a3, a4, a5, hnl, by have := HES.out.1; omega, HES.out.2⟩
    have HZ : Aside (eBytes es = z) := hz
    have H2 : Aside (Rdy V m s2 ∧ s2.sp = s.sp ∧ s2.ck.d = s.ck.d) := a6
    clear hsz hls hz hnl a1 a2 a3 a4 a5 a6 HST HES
    go_wp2_with fail
    go_cut [6, 7] (fun t6 t7 wx => t6 = .int .i64 z ∧ t7 = .int .i64 0 ∧ Sat (treeP h s2 * (Sl.block L TLo [.pointer (some ⟨h.t, 0, none⟩), .pointer (some ⟨h.D, 0, none⟩), .string nmO, .string nmT, .int .i64 eo, .int .i64 et, .map (some M)] * (mp eKey M (inKn kn) * (Sl.block VB TVr [.int .i64 r, .int .i64 n] * F)))) wx)
    case first =>
     go_region_held3 (fun w' => w'.cell? ⟨L, 0, none⟩ = some (.pointer (some ⟨h.t, 0, none⟩)) ∧ w'.cell? ⟨VB, 0, none⟩ = some (.int .i64 r)) (exact ⟨cell_sat _ _ _, cell_sat _ _ _⟩) (first
      | (go_at_call 86; with_reducible refine Calls.mono (HSZ.out _ _ (takeI (treeP h s1))) ?_; rintro e w3 ⟨rfl, q3⟩; haveI := q3.i))
     all_goals
      go_wp2_with fail
      go_meet
      exact ⟨rfl, rfl, keep5 _ _ _ _ _⟩
    case rest =>
     obtain ⟨rfl, rfl, q3⟩ := hcut
     clear q2 HSZ this
     haveI := q3.i
     cases ezn : (z != n) with
     | true =>
       have HB : Aside (verOk V s.ck.d eo et (r, n) = false) := by
        show _ = _
        rw [HVO.out, HZ.out, decide_eq_false (by simpa using ezn : ¬ z = n)]
        rfl
       go_wp2
       go_ret
       refine ⟨s2, kn, m, cen_shut (satI_weak (C := Sl.block VB TVr [.int .i64 r, .int .i64 n]) (by ac_rfl)), H2.out.2.1, H2.out.2.2, H2.out.1, HKN.out, by rw [HB.out]; rfl, fun _ => Nat.le_refl _⟩
     | false =>
       have HVO2 : Aside (verOk V s.ck.d eo et (r, n) = es.all fun x => entOk (cutE s.ck.d eo et x.src) x) := by
        show _ = _
        rw [HVO.out, HZ.out, decide_eq_true (by simpa using ezn : z = n)]
        simp
       clear HVO HZ H1 H2
       go_wp2_with fail
       go_cut [8, 7] (fun t8 t7 wx => ∃ (a : Option Addr) (c : Nat), t8 = .slice a nl c ∧ t7 = .int .i64 0 ∧ Sat (rw TEn 4 (.slice a nl c) (ecs es) * (treeP h s3 * (Sl.block L TLo [.pointer (some ⟨h.t, 0, none⟩), .pointer (some ⟨h.D, 0, none⟩), .string nmO, .string nmT, .int .i64 eo, .int .i64 et, .map (some M)] * (mp eKey M (inKn kn) * (Sl.block VB TVr [.int .i64 r, .int .i64 n] * F))))) wx)
       case first =>
        go_region_held3 (fun w' => w'.cell? ⟨L, 0, none⟩ = some (.pointer (some ⟨h.t, 0, none⟩)) ∧ w'.cell? ⟨VB, 0, none⟩ = some (.int .i64 r)) (exact ⟨cell_sat _ _ _, cell_sat _ _ _⟩) (first
         | (go_at_call 44; with_reducible refine Calls.mono (HLS.out _ _ (takeI (treeP h s2))) ?_; rintro e w4 ⟨a, c, rfl, q4⟩; haveI := q4.i))
        all_goals
         go_wp2_with fail
         go_meet
         exact ⟨a, c, rfl, rfl, keep6 _ _ _ _ _ _⟩
       case rest =>
        obtain ⟨a, c, rfl, rfl, q4⟩ := hcut
        clear q3 HLS this
        haveI := q4.i
        go_wp2_with fail
        go_loopg [9, 7] nl (fun g t9 t7 wr => ∃ (i : Nat) (cd : Int) (kn' : List Ent), t9 = .int .i64 i ∧ t7 = .int .i64 cd ∧ i ≤ nl ∧ Aside (g = nl - i ∧ Known s.ck.d eo et kn' ∧ ((cd = 0 ∧ ∀ x ∈ es.take i, entOk (cutE s.ck.d eo et x.src) x = true) ∨ (cd = 13 ∧ ¬ ∀ x ∈ es, entOk (cutE s.ck.d eo et x.src) x = true))) ∧ Sat (rw TEn 4 (.slice a nl c) (ecs es) * (treeP h s3 * (Sl.block L TLo [.pointer (some ⟨h.t, 0, none⟩), .pointer (some ⟨h.D, 0, none⟩), .string nmO, .string nmT, .int .i64 eo, .int .i64 et, .map (some M)] * (mp eKey M (inKn kn') * (Sl.block VB TVr [.int .i64 r, .int .i64 n] * F))))) wr)
        case atStart => exact ⟨0, 0, kn, rfl, rfl, by omega, ⟨rfl, HKN.out, .inl ⟨rfl, by simp⟩⟩, q4⟩
        case round =>
         obtain ⟨i, cd, kn', rfl, rfl, hi, A, q5⟩ := hrel
         clear q4 HKN
         haveI := q5.i
         have hcd : cd = 0 ∨ cd = 13 := by rcases A.out.2.2 with ⟨h1, _⟩ | ⟨h1, _⟩ <;> omega
         rcases hcd with rfl | rfl
         · have HAL : Aside (∀ x ∈ es.take i, entOk (cutE s.ck.d eo et x.src) x = true) := by
            rcases A.out.2.2 with ⟨_, h2⟩ | ⟨h1, _⟩
            · exact h2
            · omega
           by_cases hin : i < nl
           · have hin' : (i : Int) < nl := by omega
             have hnb : nl ≤ 1024 := HA.out.2.2.2.2.1
             obtain ⟨⟨x1, x2, x3, x4⟩, hx⟩ : ∃ x, es[i]? = some x := ⟨_, List.getElem?_eq_getElem (by rw [HA.out.2.2.2.1]; exact hin)⟩
             have hrd : ReadsE (rw TEn 4 (.slice a nl c) (ecs es)) (.slice a es.length c) es := by
              have := ReadsR.rw q5 ⟨a, c, rfl⟩
              show ReadsR 4 _ _ es.length _
              rw [HA.out.2.2.2.1]
              exact this
             obtain ⟨bl, ol, hal, y1, y2, y3, y4⟩ := readsE_at hrd hx
             subst hal
             simp only at y1 y2 y3 y4
             have HEN : Aside (∀ F w, Sat (treeP h s3 * (Sl.block L TLo [.pointer (some ⟨h.t, 0, none⟩), .pointer (some ⟨h.D, 0, none⟩), .string nmO, .string nmT, .int .i64 eo, .int .i64 et, .map (some M)] * (mp eKey M (inKn kn') * F))) w → Calls Tryz.prog 154 #[.pointer (some ⟨L, 0, none⟩), .agg #[.int .i64 x1, .int .i64 x2, .int .i64 x3, .int .i64 x4]] w (EntryOut L M h s3 ⟨x1, x2, x3, x4⟩ eo et kn' F)) := fun F w q => by
              have hm := HA.out.2.2.2.2.2 _ (List.mem_of_getElem? hx)
              have hfs : Fine s3.ck.d nmO ∧ Fine s3.ck.d nmT := by rw [HA.out.2.2.1]; exact ⟨HSF.out.1, HSF.out.2.1⟩
              have h9 := mayE_iff.1 hm
              simp only at h9
              have : x1 = 0 ∨ x1 = 1 := by omega
              rcases this with rfl | rfl
              · exact entry0_any L M h s3 x2 x3 x4 eo et kn' F w hm HA.out.1.ts HSF.out.2.2.1 HSF.out.2.2.2 hfs q
              · exact entry1_any L M h s3 x2 x3 x4 eo et kn' F w hm HA.out.1.ts HSF.out.2.2.1 HSF.out.2.2.2 hfs q
             have HX : Aside (es[i]? = some ⟨x1, x2, x3, x4⟩) := hx
             clear hx hrd
             go_wp2_with fail
             with_reducible refine Calls.mono (HEN.out _ _ (q5.eq (show _ = treeP h s3 * (Sl.block L TLo [.pointer (some ⟨h.t, 0, none⟩), .pointer (some ⟨h.D, 0, none⟩), .string nmO, .string nmT, .int .i64 eo, .int .i64 et, .map (some M)] * (mp eKey M (inKn kn') * (rw TEn 4 (.slice (some ⟨bl, ol, none⟩) nl c) (ecs es) * (Sl.block VB TVr [.int .i64 r, .int .i64 n] * F)))) by ac_rfl))) ?_
             rintro e w6 (⟨hk2, rfl, q6⟩ | ⟨hk2, rfl, q6⟩ | ⟨hk3, hk2, rfl, q6⟩)
             · have q7 := cen_open q6
               have HK2 : Aside ((⟨x1, x2, x3, x4⟩ : Ent) ∈ kn') := hk2
               haveI := q7.i
               clear q5 HEN hk2
               go_wp2_with fail
               go_roundg (nl - (i + 1))
               case measure => have := A.out.1; omega
               case rel => exact ⟨i + 1, 0, kn', by go_num, rfl, by omega, ⟨rfl, A.out.2.1, .inl ⟨rfl, all_take HX.out HAL.out (A.out.2.1 _ HK2.out)⟩⟩, keep6 _ _ _ _ _ _⟩
             · have q7 := cen_open q6
               have HK2 : Aside (entOk (cutE s.ck.d eo et x1) ⟨x1, x2, x3, x4⟩ = true) := (by rw [← HA.out.2.2.1]; exact hk2 : entOk (cutE s.ck.d eo et x1) ⟨x1, x2, x3, x4⟩ = true)
               haveI := q7.i
               clear q5 HEN hk2
               go_wp2_with fail
               go_roundg (nl - (i + 1))
               case measure => have := A.out.1; omega
               case rel => exact ⟨i + 1, 0, addK kn' ⟨x1, x2, x3, x4⟩, by go_num, rfl, by omega, ⟨rfl, A.out.2.1.add HK2.out, .inl ⟨rfl, all_take HX.out HAL.out HK2.out⟩⟩, keep6 _ _ _ _ _ _⟩
             · have q7 := cen_open q6
               have HK2 : Aside (entOk (cutE s.ck.d eo et x1) ⟨x1, x2, x3, x4⟩ = false) := (by rw [← HA.out.2.2.1]; exact hk2 : entOk (cutE s.ck.d eo et x1) ⟨x1, x2, x3, x4⟩ = false)
               haveI := q7.i
               clear q5 HEN hk2 hk3
               go_wp2_with fail
               go_roundg (nl - (i + 1))
               case measure => have := A.out.1; omega
               case rel => exact ⟨i + 1, 13, kn', by go_num, rfl, by omega, ⟨rfl, A.out.2.1, .inr ⟨rfl, fun h => by have := h _ (List.mem_of_getElem? HX.out); rw [HK2.out] at this; cases this⟩⟩, keep6 _ _ _ _ _ _⟩
           · have hin' : ¬ (i : Int) < nl := by omega
             have HB : Aside (verOk V s.ck.d eo et (r, n) = true) := by
              show _ = _
              rw [HVO2.out, List.all_eq_true]
              have := HAL.out
              rwa [List.take_of_length_le (by rw [HA.out.2.2.2.1]; omega)] at this
             go_wp2_with fail
             go_ret
             exact ⟨s3, kn', m, cen_shut (satI_weak (C := rw TEn 4 (.slice a nl c) (ecs es) * Sl.block VB TVr [.int .i64 r, .int .i64 n]) (by ac_rfl)), HA.out.2.1, HA.out.2.2.1, HA.out.1, A.out.2.1, by rw [HB.out]; rfl, fun _ => Nat.le_refl _⟩
         · have HB : Aside (verOk V s.ck.d eo et (r, n) = false) := by
            show _ = _
            rw [HVO2.out]
            rcases A.out.2.2 with ⟨h1, _⟩ | ⟨_, h2⟩
            · omega
            · cases e : es.all fun x => entOk (cutE s.ck.d eo et x.src) x with
              | false => rfl
              | true => exact absurd (List.all_eq_true.1 e) h2
           go_wp2_with fail
           go_ret
           exact ⟨s3, kn', m, cen_shut (satI_weak (C := rw TEn 4 (.slice a nl c) (ecs es) * Sl.block VB TVr [.int .i64 r, .int .i64 n]) (by ac_rfl)), HA.out.2.1, HA.out.2.2.1, HA.out.1, A.out.2.1, by rw [HB.out]; rfl, fun _ => Nat.le_refl _⟩
end Go.Proofs.YtfhbmblbidcmmaaGreat
namespace Go.Proofs.YtfhbmblbidcmmaaGreat
set_option linter.unusedSimpArgs false
set_option linter.unusedVariables false
set_option linter.unusedSectionVars false
open Go.RowKit Go.Sl Go.Dk Go.Tr
attribute [local go_sem ↓] Go.wp_at_zero Go.wp_at_succ
attribute [local go_sem] Go.Sl.cell_sat Go.Sl.frozen_sat
def CSoundOut [TopN] (V : Int → Option Nd) (h : Th) (m : Nat) (s : TS) (vl : List (Int × Int)) (eo et : Nat) (F : Assn) (e : Ending) (w' : World) : Prop := ∃ (s' : TS) (m' : Nat), Sat (treeP h s' * F) w' ∧ s'.sp = s.sp ∧ s'.ck.d = s.ck.d ∧ Rdy V m' s' ∧
 e = .returned (.int .i64 (if vl.all (verOk V s.ck.d eo et) then 0 else 13)) ∧ (vl.all (verOk V s.ck.d eo et) = true → m ≤ m')
theorem all_takeV {l : List (Int × Int)} {p : Int × Int → Bool} {i : Nat} {x : Int × Int} (hx : l[i]? = some x) (h : ∀ y ∈ l.take i, p y = true) (hp : p x = true) : ∀ y ∈ l.take (i + 1), p y = true := by
 intro y hy
 rw [List.take_add_one, hx] at hy
 rcases List.mem_append.1 hy with hy | hy
 · exact h y hy
 · simp at hy; subst hy; exact hp
set_option maxRecDepth 100000 in
set_option maxHeartbeats 6400000 in
theorem csound_any [TopN] (V : Int → Option Nd) (N : Nat) (h : Th) (m : Nat) (s : TS) (v : Value) (vl : List (Int × Int)) (B F : Assn) (eo et : Nat) (w : World) (hV : ∀ p n, V p = some n → may n = true ∧ 1 ≤ p ∧ p < N) (hR : Rdy V (m + vl.length * (13 * N + 1051)) s)
 (ho : eo ≤ 1099511627776) (ht : et ≤ 1099511627776) (hf : Fine s.ck.d nmO ∧ Fine s.ck.d nmT) (hB : ReadsR 2 B v vl.length (rgs vl)) (hl : vl.length ≤ 64) (hs : Sat (treeP h s * (B * F)) w) :
 Calls Tryz.prog 60 #[.pointer (some ⟨h.t, 0, none⟩), v, .pointer (some ⟨h.D, 0, none⟩), .int .i64 eo, .int .i64 et] w (CSoundOut V h m s vl eo et (B * F)) := by
 have hmm := @run_makeMap Tryz.prog
 obtain ⟨_, av, cv, rfl, hcv1, hcv2, _⟩ := id hB
 obtain ⟨K, hK⟩ : ∃ K, 13 * N + 1051 = K := ⟨_, rfl⟩
 have HVE : Aside (∀ (L M : Nat) (m : Nat) (s2 : TS) (r n : Int) (kn : List Ent) (F : Assn) (w : World), Rdy V (m + K) s2 → s2.ck.d = s.ck.d → Known s.ck.d eo et kn → Sat (treeP h s2 * (cenA L M h eo et kn * F)) w → Calls Tryz.prog 124 #[.pointer (some ⟨L, 0, none⟩), .agg #[.int .i64 r, .int .i64 n]] w (VerOut V L M h m s2 (r, n) eo et F)) := fun L M m s2 r n kn F w h1 h2 h3 h4 => version_any V N L M h m s2 r n eo et kn F w hV (by rw [hK]; exact h1) ho ht (by rw [h2]; exact hf) (by rw [h2]; exact h3) h4
 rw [hK] at hR
 obtain ⟨n, hn⟩ : ∃ n, vl.length = n := ⟨_, rfl⟩
 have HB : Aside (ReadsR 2 B (.slice av n cv) n (rgs vl) ∧ vl.length = n) := (by rw [← hn]; exact ⟨hB, rfl⟩ : _)
 rw [hn] at hR hl hcv1 ⊢
 have HR : Aside (Rdy V (m + n * K) s) := hR
 have hp1 : ¬ (eo : Int) < 0 := by omega
 have hp2 : ¬ (et : Int) < 0 := by omega
 haveI := hs.i
 clear hB hR hV hK hn hf ho ht
 go_enter Tryz.func60, Tryz.ntmps60
 go_wp2_with fail
 obtain ⟨M, hM⟩ : ∃ M, w.heap.size = M := ⟨_, rfl⟩
 obtain ⟨L, hL⟩ : ∃ L, M + 1 = L := ⟨_, rfl⟩
 have q0 : Sat (mp eKey M (inKn []) * (treeP h s * (B * F))) (w.alloc (.map #[] 0)) := by
  rw [← hM]
  exact satI_eq (by ac_rfl)
 have hsz : (w.alloc (.map #[] 0)).heap.size = L := by rw [← hL, ← hM]; simp
 try rw [hM]
 try rw [hL]
 generalize w.alloc (.map #[] 0) = w0 at q0 hsz ⊢
 clear hM hL hs this
 haveI := q0.i
 have q1 : Sat (treeP h s * (Sl.block L TLo [.pointer (some ⟨h.t, 0, none⟩), .pointer (some ⟨h.D, 0, none⟩), .string nmO, .string nmT, .int .i64 eo, .int .i64 et, .map (some M)] * (mp eKey M (inKn []) * (B * F)))) (w0.alloc (.cells #[.pointer (some ⟨h.t, 0, none⟩), .pointer (some ⟨h.D, 0, none⟩), .string ⟨#[111, 114, 105, 103, 105, 110, 97, 108]⟩, .string ⟨#[116, 97, 105, 108]⟩, .int .i64 eo, .int .i64 et, .map (some M)] TLo)) := by
  rw [← hsz]
  unfold nmO nmT
  exact satI_eq (by ac_rfl)
 try rw [hsz]
 generalize w0.alloc (.cells #[.pointer (some ⟨h.t, 0, none⟩), .pointer (some ⟨h.D, 0, none⟩), .string ⟨#[111, 114, 105, 103, 105, 110, 97, 108]⟩, .string ⟨#[116, 97, 105, 108]⟩, .int .i64 eo, .int .i64 et, .map (some M)] TLo) = w1 at q1 ⊢
 clear hsz q0 this
 haveI := q1.i
 go_loopg [40] n (fun g t40 wr => ∃ (i : Nat) (s2 : TS) (kn : List Ent), t40 = .int .i64 i ∧ i ≤ n ∧ Aside (g = n - i ∧ Rdy V (m + (n - i) * K) s2 ∧ s2.sp = s.sp ∧ s2.ck.d = s.ck.d ∧ Known s.ck.d eo et kn ∧ ∀ v ∈ vl.take i, verOk V s.ck.d eo et v = true) ∧ Sat (treeP h s2 * (Sl.block L TLo [.pointer (some ⟨h.t, 0, none⟩), .pointer (some ⟨h.D, 0, none⟩), .string nmO, .string nmT, .int .i64 eo, .int .i64 et, .map (some M)] * (mp eKey M (inKn kn) * (B * F)))) wr)
 case atStart => exact ⟨0, s, [], rfl, by omega, ⟨rfl, by simpa using HR.out, rfl, rfl, by intro x hx; simp at hx, by simp⟩, q1⟩
 case round =>
  obtain ⟨i, s2, kn, rfl, hi, A, q2⟩ := hrel
  clear q1
  haveI := q2.i
  by_cases hlt : i < n
  · have hlt' : (i : Int) < n := by omega
    obtain ⟨⟨r, by_⟩, hp⟩ : ∃ p, vl[i]? = some p := ⟨_, List.getElem?_eq_getElem (by rw [HB.out.2]; exact hlt)⟩
    obtain ⟨b1, o1, ha1, r1⟩ := ReadsR.at HB.out.1 (i * 2) (.int .i64 r) (rgs_at hp 0 (by omega))
    obtain ⟨b2, o2, ha2, r2⟩ := ReadsR.at HB.out.1 (i * 2 + 1) (.int .i64 by_) (rgs_at hp 1 (by omega))
    subst ha1
    cases ha2
    have HP : Aside (vl[i]? = some (r, by_)) := hp
    have hstep : m + (n - i) * K = m + (n - (i + 1)) * K + K := by
     rw [show n - i = (n - (i + 1)) + 1 by omega, Nat.add_mul, Nat.one_mul, Nat.add_assoc]
    have HVI : Aside (∀ (F : Assn) (w : World), Sat (treeP h s2 * (Sl.block L TLo [.pointer (some ⟨h.t, 0, none⟩), .pointer (some ⟨h.D, 0, none⟩), .string nmO, .string nmT, .int .i64 eo, .int .i64 et, .map (some M)] * (mp eKey M (inKn kn) * F))) w → Calls Tryz.prog 124 #[.pointer (some ⟨L, 0, none⟩), .agg #[.int .i64 r, .int .i64 by_]] w (VerOut V L M h (m + (n - (i + 1)) * K) s2 (r, by_) eo et F)) := fun F w q => HVE.out L M _ s2 r by_ kn F w (by rw [← hstep]; exact A.out.2.1) A.out.2.2.2.1 A.out.2.2.2.2.1 (cen_shut q)
    obtain ⟨VB, hVB⟩ : ∃ x, wr.heap.size = x := ⟨_, rfl⟩
    clear hp hstep
    go_wp2_with fail
    have q3 : Sat (treeP h s2 * (Sl.block L TLo [.pointer (some ⟨h.t, 0, none⟩), .pointer (some ⟨h.D, 0, none⟩), .string nmO, .string nmT, .int .i64 eo, .int .i64 et, .map (some M)] * (mp eKey M (inKn kn) * (Sl.block VB TVr [.int .i64 r, .int .i64 by_] * (B * F))))) (wr.alloc (.cells #[.int .i64 r, .int .i64 by_] TVr)) := by
     rw [← hVB]
     exact satI_eq (by ac_rfl)
    try rw [hVB]
    with_reducible refine Calls.mono (HVI.out _ _ q3) ?_
    rintro e w3 ⟨s3, kn3, m3, q4, k1, k2, k3, k4, hee, k5⟩
    rw [A.out.2.2.2.1] at k4 k5 hee
    have q5 := cen_open q4
    cases hvo : verOk V s.ck.d eo et (r, by_) with
    | true =>
      rw [hvo, if_pos rfl] at hee
      subst hee
      have HN : Aside (Rdy V (m + (n - (i + 1)) * K) s3 ∧ s3.sp = s.sp ∧ s3.ck.d = s.ck.d ∧ Known s.ck.d eo et kn3 ∧ ∀ v ∈ vl.take (i + 1), verOk V s.ck.d eo et v = true) := ⟨k3.less (k5 hvo), k1.trans A.out.2.2.1, k2.trans A.out.2.2.2.1, k4, all_takeV HP.out A.out.2.2.2.2.2 hvo⟩
      clear q2 q3 q4 this k1 k2 k3 k4 k5 HVI hvo hVB
      haveI := q5.i
      go_wp2_with fail
      go_roundg (n - (i + 1))
      case measure => have := A.out.1; omega
      case rel => exact ⟨i + 1, s3, kn3, by go_num, by omega, ⟨rfl, HN.out⟩, satI_weak (C := Sl.block VB TVr [.int .i64 r, .int .i64 by_]) (by ac_rfl)⟩
    | false =>
      rw [hvo, if_neg (by simp)] at hee
      subst hee
      have HN : Aside (Rdy V m3 s3 ∧ s3.sp = s.sp ∧ s3.ck.d = s.ck.d ∧ vl.all (verOk V s.ck.d eo et) = false) := ⟨k3, k1.trans A.out.2.2.1, k2.trans A.out.2.2.2.1, by
       cases e : vl.all (verOk V s.ck.d eo et) with
       | false => rfl
       | true => rw [List.all_eq_true.1 e _ (List.mem_of_getElem? HP.out)] at hvo; cases hvo⟩
      clear q2 q3 q4 this k1 k2 k3 k4 k5 HVI hvo hVB
      haveI := q5.i
      go_wp2
      go_ret
      exact ⟨s3, m3, satI_weak (C := Sl.block L TLo [.pointer (some ⟨h.t, 0, none⟩), .pointer (some ⟨h.D, 0, none⟩), .string nmO, .string nmT, .int .i64 eo, .int .i64 et, .map (some M)] * (mp eKey M (inKn kn3) * Sl.block VB TVr [.int .i64 r, .int .i64 by_])) (by ac_rfl), HN.out.2.1, HN.out.2.2.1, HN.out.1, by rw [HN.out.2.2.2]; rfl, fun e => by rw [HN.out.2.2.2] at e; cases e⟩
  · have hlt' : ¬ (i : Int) < n := by omega
    have HAL : Aside (vl.all (verOk V s.ck.d eo et) = true) := by
     show _ = _
     rw [List.all_eq_true]
     have := A.out.2.2.2.2.2
     rwa [List.take_of_length_le (by rw [HB.out.2]; omega)] at this
    have HN : Aside (Rdy V m s2) := A.out.2.1.less (by omega)
    go_wp2_with fail
    go_ret
    exact ⟨s2, m, satI_weak (C := Sl.block L TLo [.pointer (some ⟨h.t, 0, none⟩), .pointer (some ⟨h.D, 0, none⟩), .string nmO, .string nmT, .int .i64 eo, .int .i64 et, .map (some M)] * mp eKey M (inKn kn)) (by ac_rfl), A.out.2.2.1, A.out.2.2.2.1, HN.out, by rw [HAL.out]; rfl, fun _ => Nat.le_refl _⟩
end Go.Proofs.YtfhbmblbidcmmaaGreat
namespace Go.Proofs.YtfhbmblbidcmmaaGreat
set_option linter.unusedSimpArgs false
set_option linter.unusedVariables false
open Go.RowKit Go.Sl Go.Dk Go.Tr
open Go.Lru (ikey)
attribute [local go_sem ↓] Go.wp_at_zero Go.wp_at_succ
attribute [local go_sem] Go.Sl.cell_sat Go.Sl.frozen_sat
def tPages {σ : Type} (rd : Int → M σ Nd) (root : Int) : M σ (List Int) := if root = 0 then M.pure [] else pagesTo rd 21 root []
def PagesOut (h : Th) (F : Assn) (r : Res TS (List Int)) (e : Ending) (w' : World) : Prop := match r with
 | .ok l s => ∃ ns : List Int, ns.Pairwise (· < ·) ∧ (∀ x, x ∈ ns ↔ x ∈ l) ∧ ∃ (a : Option Addr) (c : Nat), e = .returned (.tuple #[.slice a ns.length c, .int .i64 0]) ∧ Sat (rw TIn 1 (.slice a ns.length c) (ints ns) * (treeP h s * F)) w'
 | .fault n s => e = .returned (.tuple #[.slice none 0 0, .int .i64 n]) ∧ Sat (treeP h s * F) w'
 | .bad => False
instance (priority := 20000) mapInU_alloc {A : Assn} {w : World} {n : Nat} [q : SatI A w] [z : Sz w n] : SatI (mp ikey n (inU []) * A) (w.alloc (.map #[] 0)) := ⟨by
 have h := q.out.alloc_raw (.map #[] 0)
 rw [z.out] at h
 exact Sat.mp_shut (kf := ikey) (ms := []) (b := n) (o := .map #[] 0) ⟨#[], 0, rfl, rfl, by simp, by simp⟩ h⟩
set_option maxRecDepth 100000 in
set_option maxHeartbeats 6400000 in
theorem pages_tany (h : Th) (s : TS) (root : Int) (F : Assn) (w : World) (hs : Sat (treeP h s * F) w) (hb : tPages tRead root s ≠ .bad) :
 Calls Tryz.prog 51 #[.pointer (some ⟨h.t, 0, none⟩), .int .i64 root] w (PagesOut h F (tPages tRead root s)) := by
 have hmf : ∀ (fn : Fn) (first cap : Array Value) (w : World), (Instr.makeFunc fn first cap).run Tryz.prog w = .ok (.func fn first cap) w := fun _ _ _ _ => rfl
 have hmm := @run_makeMap Tryz.prog
 obtain ⟨R, hR⟩ : ∃ R, tPages tRead root s = R := ⟨_, rfl⟩
 rw [hR] at hb ⊢
 have HB : Aside (R ≠ .bad) := hb
 unfold tPages at hR
 have h0 := Sat.rw_nil (e := TRg) (s := 2) (hs.rw_nil (e := TIn) (s := 1))
 haveI := h0.i
 clear hb hs
 by_cases hz : root = 0
 · rw [if_pos hz] at hR
   have hRR : R = .ok [] s := hR.symm
   subst hRR
   subst hz
   clear hR HB
   go_enter_defers Tryz.func51, Tryz.ntmps51
   go_wp2
   refine leaves_cons (f := 118) (args := #[.pointer (some ⟨w.heap.size, 0, none⟩), .pointer (some ⟨w.heap.size + 1, 0, none⟩)]) (by simp) (by simp [go_sem]) ?_
   refine (pgC_idle _ _ _).mono ?_
   rintro e u' w'' ⟨rfl, rfl, rfl⟩
   simp [Leaves, settle, results, Tryz.results51, go_sem]
   refine ⟨[], List.Pairwise.nil, fun x => Iff.rfl, none, 0, rfl, ?_⟩
   show Sat (rw TIn 1 (.slice none 0 0) [] * (treeP h s * F)) _
   exact keep3 _ _ _
 · rw [if_neg hz] at hR
   have hz' : ((root : Int) == 0) = false := by simpa using hz
   have HRR : Aside (pagesTo tRead 21 root [] s = R) := hR
   have hwk := fun S M N F w q => walkP_any 21 h s root [] S M N (.slice none 0 0) F w (by omega) q (by rw [hR]; exact HB.out)
   rw [hR, show (21 : Int) - ((21 : Nat) : Int) = 0 from rfl] at hwk
   obtain ⟨N, hN⟩ : ∃ N, w.heap.size = N := ⟨_, rfl⟩
   clear hR
   go_enter_defers Tryz.func51, Tryz.ntmps51
   go_wp2_with fail
   have q1 : Sat (treeP h s * (pgsA (N + 3) (N + 2) (N + 4) (.slice none 0 0) [] * (Sl.block N TIs [.slice none 0 0] * (rw TIn 1 (.slice none 0 0) [] * (Sl.block (N + 1) TEr [.int .i64 0] * F))))) (((((w.alloc (.cells #[.slice none 0 0] TIs)).alloc (.cells #[.int .i64 0] TEr)).alloc (.map #[] 0)).alloc (.cells #[.map (some (N + 2))] TMB)).alloc (.cells #[.slice none 0 0] TRs)) := by
    rw [← hN]
    show Sat (treeP h s * (Sl.block (w.heap.size + 1 + 1 + 1) TMB [.map (some (w.heap.size + 2))] * (mp ikey (w.heap.size + 1 + 1) (inU []) * (Sl.block (w.heap.size + 1 + 1 + 1 + 1) TRs [.slice none 0 0] * rw TRg 2 (.slice none 0 0) [])) * _)) _
    exact satI_eq (by ac_rfl)
   try rw [hN]
   clear hN
   with_reducible refine Calls.mono (hwk (N + 3) (N + 2) (N + 4) _ _ q1) ?_
   rintro e w2 h2
   cases R with
   | bad => exact absurd rfl HB.out
   | fault er s2 =>
     obtain ⟨rfl, v2, o2, q2⟩ := h2
     haveI := q2.i
     show bodyPostD _ _ _ (.panic (faultC er)) _ w2
     refine leaves_cons (f := 118) (args := #[.pointer (some ⟨N, 0, none⟩), .pointer (some ⟨N + 1, 0, none⟩)]) (by simp) (by simp [go_sem]) ?_
     refine (pgC_caught N (N + 1) er _ _ _ w2 (takeI2 (Sl.block N TIs [.slice none 0 0]) (Sl.block (N + 1) TEr [.int .i64 0]))).mono ?_
     rintro e u' w3 ⟨rfl, rfl, q3⟩
     haveI := q3.i
     simp [Leaves, settle, results, Tryz.results51, go_sem]
     exact ⟨rfl, keep2 _ _⟩
   | ok l s2 =>
     obtain ⟨rfl, v2, q2⟩ := h2
     have hok := pagesTo_ok HRR.out
     have q3 : Sat (rw TRg 2 v2 (rgs (pageR l)) * (treeP h s2 * (Sl.block (N + 3) TMB [.map (some (N + 2))] * (mp ikey (N + 2) (inU l) * (Sl.block (N + 4) TRs [v2] * (Sl.block N TIs [.slice none 0 0] * (rw TIn 1 (.slice none 0 0) [] * (Sl.block (N + 1) TEr [.int .i64 0] * F)))))))) w2 := q2.eq (by unfold pgsA; ac_rfl)
     obtain ⟨a2, m2, c2, rfl, h3, _⟩ := rw_v q3
     have hm : (pageR l).length = m2 := by rw [rgs_len] at h3; omega
     have hml : m2 ≤ 1048577 := by rw [← hm]; unfold pageR; rw [List.length_map]; exact hok.1
     have hno := fun F w q => normal_go a2 c2 (pageR l) F w (by rw [hm]; omega) q
     rw [hm] at hno
     have HNO : Aside (∀ (F0 : Assn) (w : World), Sat (rw TRg 2 (.slice a2 m2 c2) (rgs (pageR l)) * F0) w → Calls Tryz.prog 120 #[.slice a2 m2 c2] w fun e w' => ∃ l' : List (Int × Int), l'.Perm (keepR (pageR l)) ∧ UpR l' ∧ ∃ (a' : Option Addr) (c' : Nat), e = .returned (.slice a' (joinR [] l').length c') ∧
      Sat (rw TRg 2 (.slice a' (joinR [] l').length c') (rgs (joinR [] l')) * (rw TRg 2 (.slice a2 m2 c2) (rgs (pageR l)) * F0)) w') := hno
     have HL : Aside (pagesOk l) := hok
     clear hno hok q2 q1 h3 hm hwk this
     haveI := q3.i
     go_wp2_with fail
     with_reducible refine Calls.mono (HNO.out _ _ (takeI (rw TRg 2 (.slice a2 m2 c2) (rgs (pageR l))))) ?_
     rintro e w4 ⟨l', hp', hu', a4, c4, rfl, q4⟩
     have hlaw := normal_law hp' hu'
     obtain ⟨rs, hrs⟩ : ∃ rs, joinR [] l' = rs := ⟨_, rfl⟩
     rw [hrs] at hlaw q4
     rw [hrs]
     have hin : ∀ x, x ∈ nums rs ↔ x ∈ l := fun x => by
      rw [nums_mem, hlaw.2 x, cov_page]
      exact ⟨fun h => h.2, fun h => ⟨(HL.out.2 x h).1, h⟩⟩
     have HRS : Aside (NormL rs ∧ (∀ x, x ∈ nums rs ↔ x ∈ l) ∧ RsOk rs) := ⟨hlaw.1, hin, rsOk_of hlaw.1 (fun x hx => HL.out.2 x ((hin x).1 hx)) (Nat.le_trans (List.Nodup.length_le_of_subset ((nums_sorted hlaw.1).imp fun h => by omega) fun x hx => (hin x).1 hx) HL.out.1)⟩
     obtain ⟨nr, hnr⟩ : ∃ n, rs.length = n := ⟨_, rfl⟩
     have HNR : Aside (rs.length = nr) := hnr
     have hnrb : nr ≤ 1048577 := by
      rw [← hnr]
      exact Nat.le_trans (normL_le hlaw.1) (Nat.le_trans (List.Nodup.length_le_of_subset ((nums_sorted hlaw.1).imp fun h => by omega) fun x hx => (hin x).1 hx) HL.out.1)
     rw [hnr] at q4 ⊢
     have q5 : Sat (Sl.block N TIs [.slice none 0 0] * (rw TIn 1 (.slice none 0 0) (ints (nums (rs.take 0))) * (rw TRg 2 (.slice a4 nr c4) (rgs rs) * (Sl.block (N + 1) TEr [.int .i64 0] * (treeP h s2 * F))))) w4 := (q4.eq (show _ = Sl.block N TIs [.slice none 0 0] * (rw TIn 1 (.slice none 0 0) [] * (rw TRg 2 (.slice a4 nr c4) (rgs rs) * (Sl.block (N + 1) TEr [.int .i64 0] * (treeP h s2 * F)))) * (rw TRg 2 (.slice a2 m2 c2) (rgs (pageR l)) * (Sl.block (N + 3) TMB [.map (some (N + 2))] * (mp ikey (N + 2) (inU l) * Sl.block (N + 4) TRs [.slice a2 m2 c2]))) by ac_rfl)).weak
     haveI := q5.i
     obtain ⟨iI, EI⟩ := elemIS
     clear hp' hu' hlaw hrs hin hnr q3 q4 HNO
     go_wp2_with fail
     go_loopg [24] nr (fun g t24 wr => ∃ (i : Nat) (x : Option Addr) (k cx : Nat), t24 = .int .i64 i ∧ i ≤ nr ∧ Aside (g = nr - i ∧ (nums (rs.take i)).length = k) ∧ Sat (Sl.block N TIs [.slice x k cx] * (rw TIn 1 (.slice x k cx) (ints (nums (rs.take i))) * (rw TRg 2 (.slice a4 nr c4) (rgs rs) * (Sl.block (N + 1) TEr [.int .i64 0] * (treeP h s2 * F))))) wr)
     case atStart => exact ⟨0, none, 0, 0, rfl, by omega, ⟨rfl, rfl⟩, q5⟩
     case round =>
      obtain ⟨i, x, k, cx, rfl, hi, A, q6⟩ := hrel
      clear q5
      haveI := q6.i
      by_cases hlt : i < nr
      · have hlt' : (i : Int) < nr := by omega
        obtain ⟨⟨y, z⟩, hp⟩ : ∃ p, rs[i]? = some p := ⟨_, List.getElem?_eq_getElem (by rw [HNR.out]; exact hlt)⟩
        obtain ⟨g0, rfl⟩ := row_some (q6.take (rw TRg 2 (.slice a4 nr c4) (rgs rs))) (by omega)
        haveI := q6.i
        haveI : At (rgs rs) (i * 2) (.int .i64 y) := ⟨rgs_at hp 0 (by omega)⟩
        haveI : At (rgs rs) (i * 2 + 1) (.int .i64 z) := ⟨rgs_at hp 1 (by omega)⟩
        obtain ⟨b1, b2, b3, b4⟩ := HRS.out.2.2 i y z hp
        have HP : Aside (rs[i]? = some (y, z)) := hp
        clear hp
        go_wp2_with fail
        obtain ⟨T, hT⟩ : ∃ T, wr.heap.size = T := ⟨_, rfl⟩
        have q8 : Sat (Sl.block N TIs [.slice x k cx] * (rw TIn 1 (.slice x k cx) (ints (nums (rs.take i) ++ numsR (y, y))) * (Sl.block T TRg [.int .i64 y, .int .i64 z] * (rw TRg 2 (.slice (some ⟨g0, 0, none⟩) nr c4) (rgs rs) * (Sl.block (N + 1) TEr [.int .i64 0] * (treeP h s2 * F)))))) (wr.alloc (.cells #[.int .i64 y, .int .i64 z] TRg)) := by
         rw [numsR_nil, List.append_nil, ← hT]
         exact satI_eq (by ac_rfl)
        try rw [hT]
        generalize wr.alloc (.cells #[.int .i64 y, .int .i64 z] TRg) = wq at q8 ⊢
        clear hT q6
        haveI := q8.i
        go_loopg [10] (z - y).toNat (fun g t10 wr2 => ∃ (u : Int) (xa : Option Addr) (k2 ca : Nat), t10 = .int .i64 u ∧ y ≤ u ∧ u ≤ z ∧ Aside (g = (z - u).toNat ∧ (nums (rs.take i) ++ numsR (y, u)).length = k2) ∧ Sat (Sl.block N TIs [.slice xa k2 ca] * (rw TIn 1 (.slice xa k2 ca) (ints (nums (rs.take i) ++ numsR (y, u))) * (Sl.block T TRg [.int .i64 y, .int .i64 z] * (rw TRg 2 (.slice (some ⟨g0, 0, none⟩) nr c4) (rgs rs) * (Sl.block (N + 1) TEr [.int .i64 0] * (treeP h s2 * F)))))) wr2)
        case atStart => exact ⟨y, x, k, cx, rfl, Int.le_refl _, by omega, ⟨rfl, by rw [numsR_nil, List.append_nil]; exact A.out.2⟩, q8⟩
        case round =>
         obtain ⟨u, xa, k2, ca, rfl, hu1, hu2, A3, q9⟩ := hrel
         clear q8
         haveI := q9.i
         by_cases huz : u < z
         · have hk2 : k2 ≤ 1048577 := by
            have := A3.out.2
            rw [List.length_append, numsR_len] at this
            omega
           have hw : IntKind.i64.wrap (u + 1) = u + 1 := IntWalk.i64_in _ (by omega)
           have HN : Aside ((nums (rs.take i) ++ numsR (y, u + 1)).length = k2 + 1 ∧ ints (nums (rs.take i) ++ numsR (y, u + 1)) = ints (nums (rs.take i) ++ numsR (y, u)) ++ [.int .i64 u]) := by
            rw [← numsR_snoc hu1, ← List.append_assoc]
            exact ⟨by rw [List.length_append, A3.out.2]; rfl, by simp [ints]⟩
           have HM : Aside ((z - (u + 1)).toNat < (z - u).toNat) := (by omega : (z - (u + 1)).toNat < (z - u).toNat)
           go_wp2_with (at_builtin; refine wpl_append_same EI rfl (.tmp 36) (.tmp 38) rfl rfl rfl (takeI (rw TIn 1 (.slice xa k2 ca) (ints (nums (rs.take i) ++ numsR (y, u))))) (Src.new (e := TIn) (s := 1) (vs := [.int .i64 u]) (takeI (Sl.block _ TIn [.int .i64 u])) rfl (by intro v hv; simp at hv; rcases hv with rfl; rfl)) (by unfold maxLen; omega) (by omega) ?_; intro a7 c7 w7 q7 z7; clear z7; haveI := q7.i)
           go_roundg ((z - (u + 1)).toNat)
           case measure => have := A3.out.1; have := HM.out; omega
           case rel => exact ⟨u + 1, a7, k2 + 1, c7, by go_num, by omega, by omega, ⟨rfl, HN.out.1⟩, by rw [HN.out.2]; exact keep6 _ _ _ _ _ _⟩
         · have huz' : u = z := by omega
           subst huz'
           have HN : Aside ((nums (rs.take (i + 1))).length = k2 ∧ nums (rs.take i) ++ numsR (y, u) = nums (rs.take (i + 1))) := by
            rw [nums_take HP.out]
            exact ⟨A3.out.2, rfl⟩
           rw [HN.out.2] at q9
           haveI := q9.i
           go_wp2_with fail
           go_roundg (nr - (i + 1))
           case measure => have := A.out.1; omega
           case rel => exact ⟨i + 1, xa, k2, ca, by go_num, by omega, ⟨rfl, HN.out.1⟩, keep5 _ _ _ _ _⟩
      · have hlt' : ¬ (i : Int) < nr := by omega
        obtain rfl : i = nr := by omega
        have HF : Aside ((nums rs).length = k) := by have := A.out.2; rwa [List.take_of_length_le (by rw [HNR.out]; exact Nat.le_refl _)] at this
        rw [List.take_of_length_le (by rw [HNR.out]; exact Nat.le_refl _)] at q6
        haveI := q6.i
        clear A
        go_wp2
        refine leaves_cons (f := 118) (args := #[.pointer (some ⟨N, 0, none⟩), .pointer (some ⟨N + 1, 0, none⟩)]) (by simp) (by simp [go_sem]) ?_
        refine (pgC_idle _ _ _).mono ?_
        rintro e u' w3 ⟨rfl, rfl, rfl⟩
        simp [Leaves, settle, results, Tryz.results51, go_sem]
        refine ⟨nums rs, nums_sorted HRS.out.1, HRS.out.2.1, x, cx, ?_, ?_⟩
        · rw [HF.out]
        · rw [HF.out]
          exact keep3 _ _ _
end Go.Proofs.YtfhbmblbidcmmaaGreat
namespace Go.Tr
open Go.Proofs.YtfhbmblbidcmmaaGreat
variable [TopN]
theorem tPages_any {V : Int → Option Nd} {U : List Int} (hV : ∀ p n, V p = some n → 1 ≤ p ∧ p < 1048576 ∧ may n = true ∧ p ∈ U) (hU : U.length ≤ 1048576) {m : Nat} {s : TS} (hR : Rdy V (m + (13 * U.length + 1038)) s) (r : Int) :
 (∃ l' s', tPages tRead r s = .ok l' s' ∧ Rdy V m s' ∧ s'.sp = s.sp ∧ s'.ck.d = s.ck.d ∧ ((rTree V r).ok = true → ∀ x, x ∈ l' ↔ x ∈ (rTree V r).pages)) ∨ (∃ s', tPages tRead r s = .fault 13 s' ∧ Rdy V 0 s' ∧ s'.sp = s.sp ∧ s'.ck.d = s.ck.d ∧ (rTree V r).ok = false) := by
 by_cases h0 : r = 0
 · subst h0
   refine .inl ⟨[], s, rfl, hR.less (by omega), rfl, rfl, fun _ x => ?_⟩
   unfold rTree
   rw [if_pos rfl]
 · unfold tPages
   rw [if_neg h0]
   cases hok : (rTree V r).ok with
   | true =>
     obtain ⟨hh, h1, h2, h3⟩ := tree_pt (fun p n h => (hV p n h).2.2.1) h0 hok
     obtain ⟨l', s', e, o⟩ := pagesTo_pt (fun p n h => ⟨(hV p n h).1, (hV p n h).2.1⟩) 21 hh r (rTree V r).pages [] m s (by omega) h2 (hR.less (by omega)) (Whl.nil _) (by simp; omega)
     refine .inl ⟨l', s', e, o.rdy, o.sp, o.dk, fun _ x => ⟨fun h => ?_, o.all x⟩⟩
     rcases o.just x h with h | h
     · cases h
     · exact h
   | false =>
     have g := pagesTo_safe hV hU 21 r [] m s h0 (by simp) List.nodup_nil (hR.less (by simp; omega))
     cases hm : pagesTo tRead 21 r [] s with
     | bad => rw [hm] at g; exact g.elim
     | fault e s1 =>
       rw [hm] at g
       obtain ⟨rfl, g2, g3, g4⟩ := g
       exact .inr ⟨s1, rfl, g2, g3, g4, rfl⟩
     | ok l1 s1 =>
       rw [hm] at g
       exact .inl ⟨l1, s1, rfl, g.2.2.2.1.less (by omega), g.2.2.2.2.1, g.2.2.2.2.2, fun h => by cases h⟩
end Go.Tr
namespace Go.Proofs.YtfhbmblbidcmmaaGreat
set_option linter.unusedSimpArgs false
set_option linter.unusedVariables false
open Go.RowKit Go.Sl Go.Dk Go.Tr Go.Sort
open Go.Lru (ikey)
attribute [local go_sem ↓] Go.wp_at_zero Go.wp_at_succ
attribute [local go_sem] Go.Sl.cell_sat Go.Sl.frozen_sat
abbrev TVe : TypeId := 230
def addZ (Z : List Int) (x : Int) : List Int := if Z.contains x then Z else Z ++ [x]
theorem mput_addZ (x : Int) : ∀ Z : List Int, mput x (.bool true) (inU Z) = inU (addZ Z x)
 | [] => rfl
 | y :: Z => by
   have ih := mput_addZ x Z
   show (if x = y then (x, Value.bool true) :: inU Z else (y, Value.bool true) :: mput x (.bool true) (inU Z)) = _
   by_cases h : x = y
   · subst h
     rw [if_pos rfl]
     unfold addZ
     rw [if_pos (by simp)]
     rfl
   · rw [if_neg h, ih]
     unfold addZ
     have e : (y :: Z).contains x = Z.contains x := by simp [h]
     rw [e]
     split <;> rfl
theorem mem_addZ (Z : List Int) (x y : Int) : y ∈ addZ Z x ↔ y ∈ Z ∨ y = x := by
 unfold addZ
 split
 · next h =>
   constructor
   · exact .inl
   · rintro (h1 | rfl)
     · exact h1
     · simpa using h
 · simp
theorem addZ_nodup {Z : List Int} (h : Z.Nodup) (x : Int) : (addZ Z x).Nodup := by
 unfold addZ
 split
 · exact h
 · next h1 =>
   rw [List.nodup_append]
   exact ⟨h, by simp, fun a ha b hb => by rw [List.mem_singleton.1 hb]; intro e; exact h1 (by simpa using e ▸ ha)⟩
theorem addZ_len (Z : List Int) (x : Int) : (addZ Z x).length ≤ Z.length + 1 := by
 unfold addZ
 split <;> simp
theorem sortI_len (l : List Int) : (sortI l).length = l.length := (List.mergeSort_perm l _).length_eq
theorem sortI_strict {l : List Int} (h : l.Nodup) : (sortI l).Pairwise (· < ·) := by
 have h1 : (sortI l).Pairwise fun x y => decide (x ≤ y) = true := List.pairwise_mergeSort (fun a b c h1 h2 => by simp at *; omega) (fun a b => by simp; omega) l
 have h2 : (sortI l).Nodup := (List.mergeSort_perm l _).nodup_iff.2 h
 exact (h1.and h2).imp fun ⟨a, b⟩ => by simp at a; omega
theorem tPages_len {σ : Type} {rd : Int → M σ Nd} {r : Int} {s s' : σ} {l : List Int} (h : tPages rd r s = .ok l s') : l.length ≤ 1048577 := by
 unfold tPages at h
 split at h
 · have : (Res.ok [] s : Res σ (List Int)) = .ok l s' := h
   cases this
   simp
 · exact (pagesTo_ok h).1
def CpOut [TopN] (V : Int → Option Nd) (h : Th) (m : Nat) (s : TS) (vl : List (Int × Int)) (B F : Assn) (e : Ending) (w' : World) : Prop := ∃ s', s'.sp = s.sp ∧ s'.ck.d = s.ck.d ∧
 ((∃ (ns : List Int) (a : Option Addr) (c : Nat), e = .returned (.tuple #[.slice a ns.length c, .int .i64 0]) ∧ ns.Pairwise (· < ·) ∧ Rdy V m s' ∧ ((∀ v ∈ vl, (rTree V v.1).ok = true) → ∀ x, x ∈ ns ↔ ∃ v ∈ vl, x ∈ (rTree V v.1).pages) ∧ Sat (rw TIn 1 (.slice a ns.length c) (ints ns) * (treeP h s' * (B * F))) w') ∨
  (e = .returned (.tuple #[.slice none 0 0, .int .i64 13]) ∧ Rdy V 0 s' ∧ (∃ v ∈ vl, (rTree V v.1).ok = false) ∧ Sat (treeP h s' * (B * F)) w'))
structure Met (V : Int → Option Nd) (vl : List (Int × Int)) (i : Nat) (Z : List Int) : Prop where
 nd : Z.Nodup
 len : Z.length ≤ 1048577 * i
 mem : (∀ v ∈ vl.take i, (rTree V v.1).ok = true) → ∀ x, x ∈ Z ↔ ∃ v ∈ vl.take i, x ∈ (rTree V v.1).pages
theorem foldZ_mem (l : List Int) : ∀ (Z : List Int) (x : Int), x ∈ l.foldl addZ Z ↔ x ∈ Z ∨ x ∈ l := by
 induction l with
 | nil => intro Z x; simp
 | cons a l ih =>
   intro Z x
   rw [List.foldl_cons, ih, mem_addZ, List.mem_cons, or_assoc]
theorem foldZ_nodup (l : List Int) : ∀ {Z : List Int}, Z.Nodup → (l.foldl addZ Z).Nodup := by
 induction l with
 | nil => intro Z h; exact h
 | cons a l ih => intro Z h; exact ih (addZ_nodup h a)
theorem foldZ_len (l : List Int) : ∀ (Z : List Int), (l.foldl addZ Z).length ≤ Z.length + l.length := by
 induction l with
 | nil => intro Z; simp
 | cons a l ih =>
   intro Z
   have h1 := ih (addZ Z a)
   have h2 := addZ_len Z a
   rw [List.foldl_cons, List.length_cons]
   omega
theorem foldZ_at {l : List Int} {k : Nat} {x : Int} (h : l[k]? = some x) (Z : List Int) : (l.take (k + 1)).foldl addZ Z = addZ ((l.take k).foldl addZ Z) x := by
 rw [List.take_add_one, h, List.foldl_append]
 rfl
theorem Met.next {V : Int → Option Nd} {vl : List (Int × Int)} {i : Nat} {Z : List Int} (h : Met V vl i Z) {v : Int × Int} (hv : vl[i]? = some v) {ns : List Int} (hn : ns.length ≤ 1048577) (hm : (rTree V v.1).ok = true → ∀ x, x ∈ ns ↔ x ∈ (rTree V v.1).pages) : Met V vl (i + 1) (ns.foldl addZ Z) := by
 refine ⟨foldZ_nodup ns h.nd, by have := foldZ_len ns Z; have := h.len; omega, fun ho x => ?_⟩
 rw [List.take_add_one, hv] at ho ⊢
 have h1 := h.mem (fun u hu => ho u (List.mem_append_left _ hu)) x
 have h2 := hm (ho v (List.mem_append_right _ (by simp))) x
 rw [foldZ_mem, h1, h2]
 constructor
 · rintro (⟨u, hu, hx⟩ | hx)
   · exact ⟨u, List.mem_append_left _ hu, hx⟩
   · exact ⟨v, List.mem_append_right _ (by simp), hx⟩
 · rintro ⟨u, hu, hx⟩
   rcases List.mem_append.1 hu with hu | hu
   · exact .inl ⟨u, hu, hx⟩
   · simp at hu; subst hu; exact .inr hx
set_option maxRecDepth 100000 in
set_option maxHeartbeats 6400000 in
theorem cpages_any [TopN] (V : Int → Option Nd) (U : List Int) (h : Th) (m : Nat) (s : TS) (v : Value) (vl : List (Int × Int)) (B F : Assn) (w : World) (hV : ∀ p n, V p = some n → 1 ≤ p ∧ p < 1048576 ∧ may n = true ∧ p ∈ U) (hU : U.length ≤ 1048576)
 (hR : Rdy V (m + vl.length * (13 * U.length + 1038)) s) (hB : ReadsR 2 B v vl.length (rgs vl)) (hl : vl.length ≤ 64) (hs : Sat (treeP h s * (B * F)) w) :
 Calls Tryz.prog 57 #[.pointer (some ⟨h.t, 0, none⟩), v] w (CpOut V h m s vl B F) := by
 have hmm := @run_makeMap Tryz.prog
 obtain ⟨_, av, cv, rfl, hcv1, hcv2, _⟩ := id hB
 obtain ⟨K, hK⟩ : ∃ K, 13 * U.length + 1038 = K := ⟨_, rfl⟩
 rw [hK] at hR
 have HV : Aside (∀ (m : Nat) (s : TS) (r : Int), Rdy V (m + K) s → (∃ l' s', tPages tRead r s = .ok l' s' ∧ Rdy V m s' ∧ s'.sp = s.sp ∧ s'.ck.d = s.ck.d ∧ ((rTree V r).ok = true → ∀ x, x ∈ l' ↔ x ∈ (rTree V r).pages)) ∨ (∃ s', tPages tRead r s = .fault 13 s' ∧ Rdy V 0 s' ∧ s'.sp = s.sp ∧ s'.ck.d = s.ck.d ∧ (rTree V r).ok = false)) := (by rw [← hK]; exact fun m s r hR => tPages_any hV hU hR r : _)
 obtain ⟨n, hn⟩ : ∃ n, vl.length = n := ⟨_, rfl⟩
 have HB : Aside (ReadsR 2 B (.slice av n cv) n (rgs vl) ∧ vl.length = n) := (by rw [← hn]; exact ⟨hB, rfl⟩ : _)
 rw [hn] at hR hl hcv1 ⊢
 have HR : Aside (Rdy V (m + n * K) s) := hR
 obtain ⟨iI, EI⟩ := elemIS
 haveI := hs.i
 clear hB hR hV hU hK hn
 go_enter Tryz.func57, Tryz.ntmps57
 go_wp2_with fail
 obtain ⟨M, hM⟩ : ∃ M, w.heap.size = M := ⟨_, rfl⟩
 have q1 : Sat (mp ikey M (inU []) * (treeP h s * (B * F))) (w.alloc (.map #[] 0)) := by
  rw [← hM]
  exact satI_eq (by ac_rfl)
 try rw [hM]
 generalize w.alloc (.map #[] 0) = w1 at q1 ⊢
 clear hM hs this
 haveI := q1.i
 go_loopg [20] n (fun g t20 wr => ∃ (i : Nat) (s2 : TS) (Z : List Int), t20 = .int .i64 i ∧ i ≤ n ∧ Aside (g = n - i ∧ Rdy V (m + (n - i) * K) s2 ∧ s2.sp = s.sp ∧ s2.ck.d = s.ck.d ∧ Met V vl i Z) ∧ Sat (mp ikey M (inU Z) * (treeP h s2 * (B * F))) wr)
 case atStart => exact ⟨0, s, [], rfl, by omega, ⟨rfl, by simpa using HR.out, rfl, rfl, List.nodup_nil, by simp, fun _ x => by simp⟩, q1⟩
 case round =>
  obtain ⟨i, s2, Z, rfl, hi, A, q2⟩ := hrel
  clear q1
  haveI := q2.i
  by_cases hlt : i < n
  · have hlt' : (i : Int) < n := by omega
    obtain ⟨⟨r, by_⟩, hp⟩ : ∃ p, vl[i]? = some p := ⟨_, List.getElem?_eq_getElem (by rw [HB.out.2]; exact hlt)⟩
    obtain ⟨b1, o1, ha1, r1⟩ := ReadsR.at HB.out.1 (i * 2) (.int .i64 r) (rgs_at hp 0 (by omega))
    obtain ⟨b2, o2, ha2, r2⟩ := ReadsR.at HB.out.1 (i * 2 + 1) (.int .i64 by_) (rgs_at hp 1 (by omega))
    subst ha1
    cases ha2
    have HP : Aside (vl[i]? = some (r, by_)) := hp
    have hstep : m + (n - i) * K = m + (n - (i + 1)) * K + K := by
     rw [show n - i = (n - (i + 1)) + 1 by omega, Nat.add_mul, Nat.one_mul, Nat.add_assoc]
    have hpg := HV.out (m + (n - (i + 1)) * K) s2 r (by rw [← hstep]; exact A.out.2.1)
    have hcall := fun F w q => pages_tany h s2 r F w q (by
     rcases hpg with ⟨l', s', e, _⟩ | ⟨s', e, _⟩
     · rw [e]; simp
     · rw [e]; simp)
    have HPG : Aside (∀ (F : Assn) w, Sat (treeP h s2 * F) w → Calls Tryz.prog 51 #[.pointer (some ⟨h.t, 0, none⟩), .int .i64 r] w fun e w' =>
     (∃ (s3 : TS) (ns : List Int) (a : Option Addr) (c : Nat), e = .returned (.tuple #[.slice a ns.length c, .int .i64 0]) ∧ Aside (ns.length ≤ 1048577 ∧ Rdy V (m + (n - (i + 1)) * K) s3 ∧ s3.sp = s.sp ∧ s3.ck.d = s.ck.d ∧ ((rTree V r).ok = true → ∀ x, x ∈ ns ↔ x ∈ (rTree V r).pages)) ∧ Sat (rw TIn 1 (.slice a ns.length c) (ints ns) * (treeP h s3 * F)) w') ∨
     (∃ s3 : TS, e = .returned (.tuple #[.slice none 0 0, .int .i64 13]) ∧ Aside (Rdy V 0 s3 ∧ s3.sp = s.sp ∧ s3.ck.d = s.ck.d ∧ (rTree V r).ok = false) ∧ Sat (treeP h s3 * F) w')) := fun F w q => (hcall F w q).mono fun e w' hx => by
     rcases hpg with ⟨l', s', e1, k1, k2, k3, k4⟩ | ⟨s', e1, k1, k2, k3, k4⟩
     · rw [e1] at hx
       obtain ⟨ns, g1, g2, a, c, g3, g4⟩ := hx
       refine .inl ⟨s', ns, a, c, g3, ⟨?_, k1, k2.trans A.out.2.2.1, k3.trans A.out.2.2.2.1, fun ho x => (g2 x).trans (k4 ho x)⟩, g4⟩
       exact Nat.le_trans (List.Nodup.length_le_of_subset (g1.imp fun h => by omega) fun x hx => (g2 x).1 hx) (tPages_len e1)
     · rw [e1] at hx
       exact .inr ⟨s', hx.1, ⟨k1, k2.trans A.out.2.2.1, k3.trans A.out.2.2.2.1, k4⟩, hx.2⟩
    clear hp hpg hcall hstep
    go_wp2_with fail
    with_reducible refine Calls.mono (HPG.out _ _ (takeI (treeP h s2))) ?_
    rintro e w3 (⟨s3, ns, a3, c3, rfl, H3, q3⟩ | ⟨s3, rfl, H3, q3⟩)
    · obtain ⟨kn, hkn⟩ : ∃ x, ns.length = x := ⟨_, rfl⟩
      have HN : Aside (ns.length = kn) := hkn
      have hkb : kn ≤ 1048577 := by rw [← hkn]; exact H3.out.1
      rw [hkn] at q3 ⊢
      have q4 : Sat (mp ikey M (inU ((ns.take 0).foldl addZ Z)) * (rw TIn 1 (.slice a3 kn c3) (ints ns) * (treeP h s3 * (B * F)))) w3 := by
       haveI := q3.i
       show Sat (mp ikey M (inU Z) * _) _
       exact keep5 _ _ _ _ _
      clear hkn q3 q2 this
      haveI := q4.i
      go_wp2_with fail
      go_loopg [36] kn (fun g t36 wr => ∃ (k : Nat), t36 = .int .i64 k ∧ k ≤ kn ∧ Aside (g = kn - k) ∧ Sat (mp ikey M (inU ((ns.take k).foldl addZ Z)) * (rw TIn 1 (.slice a3 kn c3) (ints ns) * (treeP h s3 * (B * F)))) wr)
      case atStart => exact ⟨0, rfl, by omega, rfl, q4⟩
      case round =>
       obtain ⟨k, rfl, hk, A2, q5⟩ := hrel
       clear q4
       by_cases hkk : k < kn
       · have hkk' : (k : Int) < kn := by omega
         obtain ⟨x, hx⟩ : ∃ x, ns[k]? = some x := ⟨_, List.getElem?_eq_getElem (by rw [HN.out]; exact hkk)⟩
         obtain ⟨g3, rfl⟩ := row_some (hs := q5.take (rw TIn 1 (.slice a3 kn c3) (ints ns))) (by omega)
         obtain ⟨Zk, hZk⟩ : ∃ z, (ns.take k).foldl addZ Z = z := ⟨_, rfl⟩
         have HZ : Aside ((ns.take (k + 1)).foldl addZ Z = addZ Zk x) := by rw [← hZk]; exact foldZ_at hx Z
         rw [hZk] at q5
         haveI := q5.i
         haveI : At (ints ns) k (.int .i64 x) := ⟨by unfold ints; rw [List.getElem?_map, hx]; rfl⟩
         have p1 := fun w => @put_MB w M x (.bool true)
         have mp1 := mput_addZ x Zk
         clear hx hZk
         go_wp2
         go_roundg (kn - (k + 1))
         case measure => have := A2.out; omega
         case rel => exact ⟨k + 1, by go_num, by omega, rfl, by rw [HZ.out, ← mp1]; exact keep5 _ _ _ _ _⟩
       · have hkk' : ¬ (k : Int) < kn := by omega
         obtain rfl : k = kn := by omega
         rw [List.take_of_length_le (by rw [HN.out]; exact Nat.le_refl _)] at q5
         haveI := q5.i
         have HM : Aside (Met V vl (i + 1) (ns.foldl addZ Z)) := A.out.2.2.2.2.next HP.out H3.out.1 H3.out.2.2.2.2
         clear A2
         go_wp2_with fail
         go_roundg (n - (i + 1))
         case measure => have := A.out.1; omega
         case rel => exact ⟨i + 1, s3, ns.foldl addZ Z, by go_num, by omega, ⟨rfl, H3.out.2.1, H3.out.2.2.1, H3.out.2.2.2.1, HM.out⟩, keep4 _ _ _ _⟩
    · have HNO : Aside (∃ v ∈ vl, (rTree V v.1).ok = false) := ⟨_, List.mem_of_getElem? HP.out, H3.out.2.2.2⟩
      haveI := q3.i
      clear q2 A HPG
      go_wp2
      go_ret2
      exact ⟨s3, H3.out.2.1, H3.out.2.2.1, .inr ⟨rfl, H3.out.1, HNO.out, keep3 _ _ _⟩⟩
  · have hlt' : ¬ (i : Int) < n := by omega
    obtain rfl : i = n := by omega
    have HM : Aside (Rdy V m s2 ∧ s2.sp = s.sp ∧ s2.ck.d = s.ck.d ∧ Met V vl i Z ∧ vl.take i = vl) := ⟨by have := A.out.2.1; simpa using this, A.out.2.2.1, A.out.2.2.2.1, A.out.2.2.2.2, List.take_of_length_le (by rw [HB.out.2]; exact Nat.le_refl _)⟩
    have hzl : Z.length ≤ 1048577 * 64 := by have := A.out.2.2.2.2.len; have : 1048577 * i ≤ 1048577 * 64 := Nat.mul_le_mul_left _ hl; omega
    obtain ⟨o, ho, hs0⟩ := q2.mp_open
    have hMo : w1.heap.size = w1.heap.size := rfl
    have hMM : wr.heap[M]? = some o := hs0.obj
    obtain ⟨ms, hms⟩ : ∃ ms, inU Z = ms := ⟨_, rfl⟩
    have HMs : Aside (inU Z = ms ∧ MapIs ikey o ms) := ⟨hms, hms ▸ ho⟩
    have hml : ms.length ≤ 67108928 := by rw [← hms]; simp [inU]; omega
    have HF : Aside (∀ ks : List Int, ks.Perm (ms.map (·.1)) → ks.Perm Z) := (by
     intro ks h
     rw [← hms] at h
     simpa [inU, List.map_map, Function.comp_def] using h : _)
    rw [hms] at ho
    clear hms hzl hMo this A q2
    obtain ⟨oi, hI, hrange⟩ := run_range_mp (P := Tryz.prog) Tryz.underlying206 hMM ho
    have hs3 : Sat (raw wr.heap.size oi * (raw M o * (treeP h s2 * (B * F)))) (wr.alloc oi) := hs0.alloc_raw oi
    go_wp2_with fail
    obtain ⟨I, hI0⟩ : ∃ I, wr.heap.size = I := ⟨_, rfl⟩
    rw [hI0] at hs3
    try rw [hI0]
    generalize wr.alloc oi = wq at hs3 ⊢
    clear hI0 hrange hs0 hMM
    go_loopg [13] ms.length (fun g t13 wr2 => ∃ (a : Option Addr) (ks : List Int) (c : Nat) (oi' : Obj) (rem : List (Int × Value)), t13 = .slice a ks.length c ∧ Aside (g = rem.length ∧ Iter ikey M o oi' ms rem ∧ (rem.map (·.1) ++ ks).Perm (ms.map (·.1))) ∧
     Sat (rw TIn 1 (.slice a ks.length c) (ints ks) * (raw I oi' * (raw M o * (treeP h s2 * (B * F))))) wr2)
    case atStart => exact ⟨none, [], 0, oi, ms, rfl, ⟨rfl, hI, by simp⟩, by simpa [ints] using hs3.rw_nil (e := TIn) (s := 1)⟩
    case round =>
     obtain ⟨a, ks, c, oi', rem, rfl, A, hsr⟩ := hrel
     obtain ⟨hgk, hI', hR⟩ := A.out
     have hsn := hsr.eq (B := raw M o * (raw I oi' * (treeP h s2 * (B * F) * rw TIn 1 (.slice a ks.length c) (ints ks)))) (by ac_rfl)
     clear hI hs3
     rcases run_next_sl (P := Tryz.prog) hsn hI' with ⟨hrem, hnext⟩ | ⟨j, k, u, oi2, w2, hj, hnext, hI2, hs4, hentry⟩
     · subst hrem
       have hks : ks.Perm Z := HF.out ks (by simpa using hR)
       have hkl : ks.length ≤ 67108928 := by have := hR.length_eq; simp at this; omega
       have hso := fun F w q => sortInts_sl a ks.length c ks F w q (by omega)
       obtain ⟨kn, hkn⟩ : ∃ x, ks.length = x := ⟨_, rfl⟩
       rw [hkn] at hso hsr hkl
       simp only [hkn]
       have HSO : Aside (∀ (F : Assn) w, Sat (rw TIn 1 (.slice a kn c) (ints ks) * F) w → Calls Tryz.prog 122 #[.slice a kn c] w fun e w' => e = .returned (.tuple #[]) ∧ Sat (rw TIn 1 (.slice a kn c) (ints (sortI ks)) * F) w') := hso
       have HK : Aside (ks.Perm Z ∧ (sortI ks).length = kn) := ⟨hks, by rw [sortI_len]; exact hkn⟩
       haveI := hsr.i
       clear hsn hI' A hks hR hkn hso
       go_wp2_with fail
       with_reducible refine Calls.mono (HSO.out _ _ (takeI (rw TIn 1 (.slice a kn c) (ints ks)))) ?_
       rintro e w3 ⟨rfl, q6⟩
       have HE : Aside (Sat (rw TIn 1 (.slice a kn c) (ints (sortI ks)) * (treeP h s2 * (B * F))) w3) := by
        show Sat _ _
        haveI := q6.i
        exact keep4 _ _ _ _
       clear q6 hsr this
       go_wp2
       go_ret2
       refine ⟨s2, HM.out.2.1, HM.out.2.2.1, .inl ⟨sortI ks, a, c, by rw [HK.out.2]; rfl, sortI_strict (HK.out.1.nodup_iff.2 HM.out.2.2.2.1.nd), HM.out.1, fun ho x => ?_, by rw [HK.out.2]; exact HE.out⟩⟩
       have h9 := HM.out.2.2.2.1.mem
       rw [HM.out.2.2.2.2] at h9
       rw [sortI_mem, HK.out.1.mem_iff]
       exact h9 ho x
     · have hmem : (k, u) ∈ rem := List.mem_of_getElem? hj
       have hlt : (rem.eraseIdx j).length < rem.length := by
        have := (List.getElem?_eq_some_iff.1 hj).1
        rw [List.length_eraseIdx]; split <;> omega
       have hlen : rem.length + ks.length = ms.length := by simpa using hR.length_eq
       have hR2 : ((rem.eraseIdx j).map (·.1) ++ (ks ++ [k])).Perm (ms.map (·.1)) := by
        refine List.Perm.trans ?_ hR
        have h1 := (perm_eraseIdx rem j _ hj).map (·.1)
        simp only [List.map_cons] at h1
        have h2 : ((rem.eraseIdx j).map (·.1) ++ (ks ++ [k])).Perm (k :: ((rem.eraseIdx j).map (·.1) ++ ks)) := by
         rw [← List.append_assoc]
         exact List.perm_append_singleton _ _
        exact h2.trans ((h1.append_right ks).symm)
       have HL : Aside ((rem.eraseIdx j).length < rem.length ∧ gk = rem.length) := ⟨hlt, hgk⟩
       have HI : Aside (Iter ikey M o oi2 ms (rem.eraseIdx j) ∧ ((rem.eraseIdx j).map (·.1) ++ (ks ++ [k])).Perm (ms.map (·.1))) := ⟨hI2, hR2⟩
       have hs5 : Sat (rw TIn 1 (.slice a ks.length c) (ints ks) * (raw I oi2 * (raw M o * (treeP h s2 * (B * F))))) w2 := hs4.eq (by ac_rfl)
       have hkl : ks.length ≤ 67108928 := by omega
       clear hsn hI' A hsr hlt hgk hI2 hj hR hR2 hmem hlen hs4
       haveI := hs5.i
       go_wp2_with (at_builtin; go_loud (refine wpl_append_same EI rfl (.tmp 50) (.tmp 52) rfl rfl rfl (takeI (rw TIn 1 (.slice a ks.length c) (ints ks))) (Src.new (e := TIn) (s := 1) (vs := [.int .i64 k]) (takeI _) rfl (by intro u hu; simp at hu; rcases hu with rfl; rfl)) (by unfold maxLen; omega) (by omega) ?_; intro a' c' w3 hs6 hnil; haveI := hs6.i; clear hnil))
       go_roundg (rem.eraseIdx j).length
       case measure => have := HL.out; omega
       case rel =>
        refine ⟨a', ks ++ [k], c', oi2, _, by simp, ⟨rfl, HI.out.1, HI.out.2⟩, ?_⟩
        rw [show ints (ks ++ [k]) = ints ks ++ [.int .i64 k] by simp [ints], List.length_append]
        exact keep6 _ _ _ _ _ _
end Go.Proofs.YtfhbmblbidcmmaaGreat
namespace Go.Proofs.YtfhbmblbidcmmaaGreat
set_option linter.unusedSimpArgs false
set_option linter.unusedVariables false
open Go.RowKit Go.Sl Go.Dk Go.Tr
attribute [local go_sem ↓] Go.wp_at_zero Go.wp_at_succ
attribute [local go_sem] Go.Sl.cell_sat Go.Sl.frozen_sat
def insL (n : Int) : List Int → List Int
 | [] => [n]
 | x :: l => if n < x then n :: x :: l else x :: insL n l
theorem insL_new {n x : Int} (hx : n < x) : ∀ {l : List Int}, (∀ x ∈ l, ¬ n < x) → insL n (l ++ [x]) = l ++ [n] ++ [x]
 | [], _ => by
  show (if n < x then _ else _) = _
  rw [if_pos hx]
  rfl
 | y :: l, h => by
   show (if n < y then n :: y :: (l ++ [x]) else y :: insL n (l ++ [x])) = _
   rw [if_neg (h y List.mem_cons_self), insL_new hx fun y hy => h y (List.mem_cons_of_mem _ hy)]
   rfl
theorem insL_len (n : Int) : ∀ l : List Int, (insL n l).length = l.length + 1
 | [] => rfl
 | x :: l => by
   unfold insL
   split
   · rfl
   · rw [List.length_cons, insL_len n l, List.length_cons]
structure WSt (n : Int) (p out : List Int) (d : Bool) : Prop where
 no : d = false → out = p ∧ ∀ x ∈ p, ¬ n < x
 yes : d = true → out = insL n p ∧ ∃ x ∈ p, n < x
 new : n ∉ p
theorem WSt.put {n x : Int} {p out : List Int} (h : WSt n p out false) (hx : n < x) : WSt n (p ++ [x]) (out ++ [n] ++ [x]) true := by
 obtain ⟨rfl, h2⟩ := h.no rfl
 refine ⟨fun e => (by cases e), fun _ => ⟨(insL_new hx h2).symm, x, List.mem_append_right _ (List.mem_singleton.2 rfl), hx⟩, fun hm => ?_⟩
 rcases List.mem_append.1 hm with hm | hm
 · exact h.new hm
 · have := List.mem_singleton.1 hm; omega
theorem WSt.skip {n x : Int} {p out : List Int} (h : WSt n p out false) (hx : ¬ n < x) (hne : x ≠ n) : WSt n (p ++ [x]) (out ++ [x]) false := by
 obtain ⟨rfl, h2⟩ := h.no rfl
 refine ⟨fun _ => ⟨rfl, fun y hy => ?_⟩, fun e => (by cases e), fun hm => ?_⟩
 · rcases List.mem_append.1 hy with hy | hy
   · exact h2 y hy
   · rw [List.mem_singleton.1 hy]; exact hx
 · rcases List.mem_append.1 hm with hm | hm
   · exact h.new hm
   · exact hne (List.mem_singleton.1 hm).symm
theorem WSt.len {n : Int} {p out : List Int} {d : Bool} (h : WSt n p out d) : out.length ≤ p.length + 1 := by
 cases d with
 | false => rw [(h.no rfl).1]; omega
 | true => rw [(h.yes rfl).1, insL_len]; omega
end Go.Proofs.YtfhbmblbidcmmaaGreat
