/-
  Versions are found sound just if they are in the words of the document. No condition. (part 51)
-/
import Derived.Test.YtfhbmblbidcmmaaGreatWa46
import Derived.Test.YtfhbmblbidcmmaaGreatWa50
import Derived.Test.YtfhbmblbidcmmaaGreatWa35
import Derived.Test.YtfhbmblbidcmmaaGreatWa37
import Derived.Test.YtfhbmblbidcmmaaGreatWa44
set_option linter.unusedSimpArgs false
set_option linter.unusedVariables false
namespace Go.Proofs.YtfhbmblbidcmmaaGreat
set_option linter.unusedSimpArgs false
set_option linter.unusedVariables false
open Go.RowKit Go.Sl Go.Dk Go.Tr
attribute [local go_sem ↓] Go.wp_at_zero Go.wp_at_succ
attribute [local go_sem] Go.Sl.cell_sat Go.Sl.frozen_sat
theorem rising_eq : ∀ {a b : List Int}, a.Pairwise (· < ·) → b.Pairwise (· < ·) → (∀ x, x ∈ a ↔ x ∈ b) → a = b
 | [], [], _, _, _ => rfl
 | [], y :: b, _, _, h => by have := (h y).2 List.mem_cons_self; cases this
 | x :: a, [], _, _, h => by have := (h x).1 List.mem_cons_self; cases this
 | x :: a, y :: b, ha, hb, h => by
   obtain ⟨h1, h2⟩ := List.pairwise_cons.1 ha
   obtain ⟨h3, h4⟩ := List.pairwise_cons.1 hb
   have e : x = y := by
    rcases List.mem_cons.1 ((h x).1 List.mem_cons_self) with e | e
    · exact e
    · rcases List.mem_cons.1 ((h y).2 List.mem_cons_self) with e2 | e2
      · exact e2.symm
      · have := h1 y e2; have := h3 x e; omega
   subst e
   rw [rising_eq h2 h4 fun z => ?_]
   constructor
   · intro hz
     rcases List.mem_cons.1 ((h z).1 (List.mem_cons_of_mem _ hz)) with e | e
     · have := h1 z hz; omega
     · exact e
   · intro hz
     rcases List.mem_cons.1 ((h z).2 (List.mem_cons_of_mem _ hz)) with e | e
     · have := h3 z hz; omega
     · exact e
end Go.Proofs.YtfhbmblbidcmmaaGreat
namespace Go.Proofs.YtfhbmblbidcmmaaGreat
set_option linter.unusedSimpArgs false
set_option linter.unusedVariables false
open Go.RowKit Go.Sl Go.Dk Go.Tr
def aw18O : List UInt8 := [97, 98, 10, 99, 100]
def aw18T : List UInt8 := [120]
def viewS (s : Ck) (p : Int) : Option Nd := if p < 1 then none else match pget p s.pgs with | some b => openNd p b | none => none
def aw18B (r : Int) (s : TS) : Bool := decide (r = 1) && ((s.ck.d.get nmS).isNone && (decide ((s.ck.its.length : Int) < s.ck.cap) && (decide (s.ck.pgs.map (·.1) = [1]) && ((rTree (viewS s.ck) 1).ok && (decide ((rTree (viewS s.ck) 1).pages = [1]) && ((rTree (viewS s.ck) 1).ents.map fun e => (e.src, e.pos, e.len, e.lines)) == [(0, 0, 5, -1)])))))
set_option maxRecDepth 1000000
theorem aw18_run : (match mBuild [⟨0, 0, 5, -1⟩] (tsL aw18O aw18T 7) with | .ok r s => aw18B r s | _ => false) = true := by kernel_rfl
theorem pget_key {p : Int} {b : List UInt8} : ∀ {l : Pgs}, pget p l = some b → p ∈ l.map (·.1)
 | [], h => by cases h
 | x :: l, h => by
   unfold pget at h
   split at h
   · next e => rw [e]; simp
   · exact List.mem_cons_of_mem _ (pget_key h)
theorem fine_other {d : Dk} {nm n : ByteArray} (h : Fine d nm) (hn : Dk.named n = true) (hs : (d.get n).isSome = true) : Fine d n := ⟨h.down, h.armed, hn, by have := h.nf; rw [hs]; simp only [if_true]; omega⟩
structure Aw18 (s : TS) (V : Int → Option Nd) : Prop where
 run : mBuild [⟨0, 0, 5, -1⟩] (tsL aw18O aw18T 7) = .ok 1 s
 rdy : Rdy V 60000000 s
 fine : Fine s.ck.d nmO ∧ Fine s.ck.d nmT
 tree : rTree V 1 = ⟨true, (rTree V 1).height, [⟨0, 0, 5, -1⟩], [1]⟩
 view : ∀ p n, V p = some n → 1 ≤ p ∧ p < 1048576 ∧ may n = true ∧ p ∈ [(1 : Int)]
 cutO : fnow s.ck.d nmO = aw18O
theorem aw18_facts : ∃ s V, Aw18 s V := by
 have hI := tsL_inv aw18O aw18T 7 (by decide) (by decide) (by omega) (by omega)
 have hr0 := tsL_room aw18O aw18T 7
 have hf0 : 66000000 ≤ leftOps (tsL aw18O aw18T 7) := by decide +kernel
 have hrun := aw18_run
 have hm : mayList [⟨0, 0, 5, -1⟩] = true := by decide +kernel
 have hj : ¬ 1024 < (join [⟨0, 0, 5, -1⟩]).length := by decide +kernel
 obtain ⟨r, s', hx, h1, h2, h3, h4, h5, h6⟩ := step_get (build_ok (envT_ok true) (s := tsL aw18O aw18T 7) hI (fit_join hm hj)) (by show 2048 ≤ roomOf _; rw [hr0]; omega) (by show 2048 ≤ leftOps _; omega)
 have hx' : tBuild tWrite (join [⟨0, 0, 5, -1⟩]) (tsL aw18O aw18T 7) = .ok r s' := hx
 have hM : mBuild [⟨0, 0, 5, -1⟩] (tsL aw18O aw18T 7) = .ok r s' := by unfold mBuild; rw [if_neg (by rw [hm]; decide), if_neg hj, hx']; rfl
 have hcap := Keeps.ok (tBuild_keeps sameCap_goes tWrite_cap (join [⟨0, 0, 5, -1⟩])) hx'
 rw [hM] at hrun
 unfold aw18B at hrun
 simp only [Bool.and_eq_true, decide_eq_true_eq] at hrun
 obtain ⟨rfl, g1, g2, g3, g4, g5, g6⟩ := hrun
 have g1' : s'.ck.d.get nmS = none := by simpa using g1
 have hnm : s'.ck.nm = nmS := hcap.nm
 have hoth : ∀ n, n ≠ nmS → s'.ck.d.get n = (dkOT aw18O aw18T).get n := hcap.oth
 have hO : s'.ck.d.get nmO = some ⟨aw18O, aw18O, true⟩ := by rw [hoth nmO nmSO.symm]; exact get_O _ _
 have hT : s'.ck.d.get nmT = some ⟨aw18T, aw18T, true⟩ := by rw [hoth nmT nmST.symm]; exact get_T _ _
 have hview : ∀ p n, viewS s'.ck p = some n → 1 ≤ p ∧ p < 1048576 ∧ may n = true ∧ p ∈ [(1 : Int)] := by
  intro p n hp
  unfold viewS at hp
  split at hp
  · cases hp
  · split at hp
    · next b hb =>
      have hk := pget_key hb
      rw [g3] at hk
      have e : p = 1 := by simpa using hk
      exact ⟨by omega, by omega, openNd_may hp, hk⟩
    · cases hp
 refine ⟨s', viewS s'.ck, hM, ⟨h1.ts, h1.good.pf, h1.good.fine.down, .inr ⟨by rw [hnm]; exact g1', g2, fun p => rfl⟩, by have : leftOps (tsL aw18O aw18T 7) ≤ leftOps s' + (0 + 2048) := h5; omega⟩, ⟨fine_other h1.good.fine (by decide +kernel) (by rw [hO]; rfl), fine_other h1.good.fine (by decide +kernel) (by rw [hT]; rfl)⟩, ?_, hview, by unfold fnow; rw [hO]; rfl⟩
 obtain ⟨x, hx⟩ : ∃ x, rTree (viewS s'.ck) 1 = x := ⟨_, rfl⟩
 rw [hx] at g4 g5 g6 ⊢
 obtain ⟨ok, ht, es, ps⟩ := x
 simp only at g4 g5 g6
 have g7 := eq_of_beq g6
 have hes : es = [⟨0, 0, 5, -1⟩] := by
  have e : (es.map fun e : Ent => (e.src, e.pos, e.len, e.lines)).map (fun t : Int × Int × Int × Int => (⟨t.1, t.2.1, t.2.2.1, t.2.2.2⟩ : Ent)) = es := by
   rw [List.map_map]
   exact List.map_id'' (fun _ => rfl) es
  rw [g7] at e
  exact e.symm
 rw [g4, g5, hes]
end Go.Proofs.YtfhbmblbidcmmaaGreat
namespace Go.Proofs.YtfhbmblbidcmmaaGreat
set_option linter.unusedSimpArgs false
set_option linter.unusedVariables false
set_option linter.unusedSectionVars false
open Go.RowKit Go.Sl Go.Dk Go.Tr
attribute [local go_sem ↓] Go.wp_at_zero Go.wp_at_succ
attribute [local go_sem] Go.Sl.cell_sat Go.Sl.frozen_sat
def cutC (O T : List UInt8) (src : Int) : List UInt8 := if src = 0 then O else T
def verOkC (V : Int → Option Nd) (C : Int → List UInt8) (v : Int × Int) : Bool := (rTree V v.1).ok && (decide (eBytes (rTree V v.1).ents = v.2) && (rTree V v.1).ents.all fun x => entOk (C x.src) x)
theorem all_bad {vl : List (Int × Int)} {f : Int × Int → Bool} {i : Nat} {v : Int × Int} (h : vl[i]? = some v) (hf : f v = false) : vl.all f = false := by
 cases e : vl.all f with
 | false => rfl
 | true => rw [List.all_eq_true.1 e _ (List.mem_of_getElem? h)] at hf; cases hf
theorem all_badE {l : List Ent} {f : Ent → Bool} {i : Nat} {v : Ent} (h : l[i]? = some v) (hf : f v = false) : l.all f = false := by
 cases e : l.all f with
 | false => rfl
 | true => rw [List.all_eq_true.1 e _ (List.mem_of_getElem? h)] at hf; cases hf
set_option maxRecDepth 100000 in
set_option maxHeartbeats 6400000 in
theorem rsound18_any (file O T : List UInt8) (vf v : Value) (aO : Option Addr) (nO cO : Nat) (aT : Option Addr) (nT cT : Nat) (vl : List (Int × Int)) (Bf B Bo F : Assn) (w : World) (hf : Reads Bf vf file) (hfl : file.length ≤ 1099511627776) (hO : Reads Bo (.slice aO nO cO) O) (hT : Reads Bo (.slice aT nT cT) T) (hOn : O.length = nO) (hTn : T.length = nT) (hnO : nO ≤ 3000) (hnT : nT ≤ 3000) (hB : ReadsR 2 B v vl.length (rgs vl)) (hl : vl.length ≤ 64) (hs : Sat (Bf * (B * (Bo * F))) w) :
 Calls Tryz.prog 61 #[vf, v, .slice aO nO cO, .slice aT nT cT] w fun e w' => e = .returned (.bool (vl.all (verOkC (fileNode file) (cutC O T)))) ∧ Sat (Bf * (B * (Bo * F))) w' := by
 obtain ⟨_, av, cv, rfl, hcv1, hcv2, _⟩ := id hB
 obtain ⟨hcO1, hcO2⟩ : nO ≤ cO ∧ cO ≤ 9223372036854775807 := by
  obtain ⟨_, _, e0, h1, h2⟩ := readsB hO (hs.take Bo)
  cases e0
  exact ⟨by omega, h2⟩
 obtain ⟨hcT1, hcT2⟩ : nT ≤ cT ∧ cT ≤ 9223372036854775807 := by
  obtain ⟨_, _, e0, h1, h2⟩ := readsB hT (hs.take Bo)
  cases e0
  exact ⟨by omega, h2⟩
 obtain ⟨n, hn⟩ : ∃ n, vl.length = n := ⟨_, rfl⟩
 have HB : Aside (ReadsR 2 B (.slice av n cv) n (rgs vl) ∧ vl.length = n) := (by rw [← hn]; exact ⟨hB, rfl⟩ : _)
 rw [hn] at hl hcv1 ⊢
 have HT : Aside (∀ (r : Int) F w, Sat (Bf * F) w → Calls Tryz.prog 16 #[vf, .int .i64 r] w (LkOut Bf F (rTree (fileNode file) r)) ∧ LkOk true 13 (rTree (fileNode file) r)) := fun r F w q => ⟨r14tree_any file vf Bf r F w hf hfl q, rTree_ok (V := fileNode file) (fun p n h => fileNode_may h) r⟩
 have HBO : Aside (Reads Bo (.slice aO nO cO) O ∧ O.length = nO ∧ Reads Bo (.slice aT nT cT) T ∧ T.length = nT) := ⟨hO, hOn, hT, hTn⟩
 haveI := hs.i
 have h0 := hs
 clear hB hn hf hs hO hT hOn hTn
 go_enter Tryz.func61, Tryz.ntmps61
 go_wp2_with fail
 go_loopg [9] n (fun g t9 wr => ∃ (i : Nat), t9 = .int .i64 i ∧ i ≤ n ∧ Aside (g = n - i ∧ ∀ u ∈ vl.take i, verOkC (fileNode file) (cutC O T) u = true) ∧ Sat (Bf * (B * (Bo * F))) wr)
 case atStart => exact ⟨0, rfl, by omega, ⟨rfl, by simp⟩, h0⟩
 case round =>
  obtain ⟨i, rfl, hi, A, q1⟩ := hrel
  clear h0
  haveI := q1.i
  by_cases hlt : i < n
  · have hlt' : (i : Int) < n := by omega
    obtain ⟨⟨r, by_⟩, hp⟩ : ∃ p, vl[i]? = some p := ⟨_, List.getElem?_eq_getElem (by rw [HB.out.2]; exact hlt)⟩
    obtain ⟨b1, o1, ha1, r1⟩ := ReadsR.at HB.out.1 (i * 2) (.int .i64 r) (rgs_at hp 0 (by omega))
    obtain ⟨b2, o2, ha2, r2⟩ := ReadsR.at HB.out.1 (i * 2 + 1) (.int .i64 by_) (rgs_at hp 1 (by omega))
    subst ha1
    cases ha2
    have HP : Aside (vl[i]? = some (r, by_)) := hp
    have htr := fun F w q => (HT.out r F w q).1
    have hlk := (HT.out r _ wr (q1.take Bf)).2
    have hvo : verOkC (fileNode file) (cutC O T) (r, by_) = ((rTree (fileNode file) r).ok && (decide (eBytes (rTree (fileNode file) r).ents = by_) && (rTree (fileNode file) r).ents.all fun x => entOk (cutC O T x.src) x)) := rfl
    obtain ⟨x, hx⟩ : ∃ x, rTree (fileNode file) r = x := ⟨_, rfl⟩
    rw [hx] at htr hlk hvo
    have HTR : Aside (∀ F w, Sat (Bf * F) w → Calls Tryz.prog 16 #[vf, .int .i64 r] w (LkOut Bf F x)) := htr
    have HLK : Aside (LkOk true 13 x) := hlk
    have HVO : Aside (verOkC (fileNode file) (cutC O T) (r, by_) = (x.ok && (decide (eBytes x.ents = by_) && x.ents.all fun x => entOk (cutC O T x.src) x))) := hvo
    clear hp htr hx hlk hvo
    go_wp2_with fail
    with_reducible refine Calls.mono (HTR.out _ _ (takeI Bf)) ?_
    rintro e w3 ⟨v6, G6, rfl, hL6, q3⟩
    obtain ⟨vE, vP, rfl, hE6, hP6⟩ := hL6
    obtain ⟨xP, dP, rfl, hP1, hP2⟩ := hP6.v
    obtain ⟨xE, dE, rfl, hE1, hE2⟩ := hE6.v
    obtain ⟨xo, xh, xe, xp⟩ := x
    simp only at hP6 hP1 hE6 hE1
    obtain ⟨ne, hne⟩ : ∃ z, xe.length = z := ⟨_, rfl⟩
    obtain ⟨np, hnp⟩ : ∃ z, xp.length = z := ⟨_, rfl⟩
    have HE : Aside (ReadsE G6 (.slice xE xe.length dE) xe ∧ xe.length = ne ∧ ne ≤ 1036 ∧ ∀ x ∈ xe, mayEnt x = true) := ⟨hE6, hne, by have := HLK.out.ents; simp only at this; omega, HLK.out.may⟩
    simp only [hnp, hne] at q3 ⊢
    rw [hne] at hE1
    have hne2 := HE.out.2.2.1
    obtain ⟨T0, hT0⟩ : ∃ z, w3.heap.size = z := ⟨_, rfl⟩
    have hq4 := fun (KB : Nat) (hT : w3.heap.size = KB) => (show Sat (Sl.block KB TLk [.bool xo, .int .i64 xh, .slice xE ne dE, .slice xP np dP] * (G6 * (Bf * (B * (Bo * F))))) (w3.alloc (.cells #[.bool xo, .int .i64 xh, .slice xE ne dE, .slice xP np dP] TLk)) by
     haveI := q3.i
     rw [← hT]
     exact satI_eq (by ac_rfl))
    haveI := q3.i
    clear hE6 hP6 hnp hne HTR q1
    obtain ⟨z, hz⟩ : ∃ z, eBytes xe = z := ⟨_, rfl⟩
    cases xo with
    | false =>
      have HNO : Aside (vl.all (verOkC (fileNode file) (cutC O T)) = false) := all_bad HP.out (by rw [HVO.out]; rfl)
      go_wp2_with fail
      try rw [hT0]
      have q4 := hq4 T0 hT0
      generalize w3.alloc (.cells #[.bool false, .int .i64 xh, .slice xE ne dE, .slice xP np dP] TLk) = wq at q4 ⊢
      clear hT0 hq4 q3 this
      haveI := q4.i
      go_region
      go_wp2
      go_ret
      exact ⟨by rw [HNO.out]; rfl, satI_weak (C := Sl.block T0 TLk [.bool false, .int .i64 xh, .slice xE ne dE, .slice xP np dP] * G6) (by ac_rfl)⟩
    | true =>
      have HVO2 : Aside (verOkC (fileNode file) (cutC O T) (r, by_) = (decide (z = by_) && xe.all fun x => entOk (cutC O T x.src) x)) := by
       show _ = _
       rw [HVO.out, ← hz]
       rfl
      have HSZ : Aside (∀ F w, Sat (G6 * F) w → Calls Tryz.prog 31 #[.slice xE ne dE] w fun e w' => e = .returned (.int .i64 z) ∧ Sat (G6 * F) w') := fun F w q => by
       have h1 := HE.out.1
       rw [HE.out.2.1] at h1
       rw [← hz]
       exact rsize_any xe (.slice xE ne dE) G6 F w h1 q (by rw [HE.out.2.1]; omega) (fun x hx => by have := mayE_bounds (HE.out.2.2.2 x hx); omega)
      clear HVO hz
      go_wp2_with fail
      try rw [hT0]
      have q4 := hq4 T0 hT0
      generalize w3.alloc (.cells #[.bool true, .int .i64 xh, .slice xE ne dE, .slice xP np dP] TLk) = wq at q4 ⊢
      obtain ⟨KB, rfl⟩ : ∃ KB, KB = T0 := ⟨_, rfl⟩
      clear hT0 hq4 q3 this
      haveI := q4.i
      go_cut [40] (fun t40 wx => t40 = .bool (z != by_) ∧ Sat (Sl.block KB TLk [.bool true, .int .i64 xh, .slice xE ne dE, .slice xP np dP] * (G6 * (Bf * (B * (Bo * F))))) wx)
      case first =>
       go_region_held3 (fun w' => w'.cell? ⟨KB, 0, none⟩ = some (.bool true) ∧ w'.cell? ⟨KB, 2, none⟩ = some (.slice xE ne dE) ∧ w'.cell? ⟨b1, o1 + i * 2 + 1, none⟩ = some (.int .i64 by_)) (exact ⟨cell_sat _ _ _, cell_sat _ _ _, cell_sat _ _ _⟩) (first
        | (go_at_call 31; with_reducible refine Calls.mono (HSZ.out _ _ (takeI G6)) ?_; rintro e w5 ⟨rfl, q5⟩; haveI := q5.i))
       all_goals
        go_wp2_with fail
        go_meet
        exact ⟨rfl, keep5 _ _ _ _ _⟩
      case rest =>
       obtain ⟨rfl, q5⟩ := hcut
       clear q4 HSZ this
       haveI := q5.i
       cases ezn : (z != by_) with
       | true =>
         have HNO : Aside (vl.all (verOkC (fileNode file) (cutC O T)) = false) := all_bad HP.out (by rw [HVO2.out, decide_eq_false (by simpa using ezn : ¬ z = by_)]; rfl)
         go_wp2
         go_ret
         exact ⟨by rw [HNO.out]; rfl, satI_weak (C := Sl.block KB TLk [.bool true, .int .i64 xh, .slice xE ne dE, .slice xP np dP] * G6) (by ac_rfl)⟩
       | false =>
         have HVO3 : Aside (verOkC (fileNode file) (cutC O T) (r, by_) = xe.all fun x => entOk (cutC O T x.src) x) := by
          show _ = _
          rw [HVO2.out, decide_eq_true (by simpa using ezn : z = by_)]
          rfl
         clear HVO2 ezn
         go_wp2_with fail
         go_loopg [11] ne (fun g t11 wr2 => ∃ (k : Nat), t11 = .int .i64 k ∧ k ≤ ne ∧ Aside (g = ne - k ∧ ∀ x ∈ xe.take k, entOk (cutC O T x.src) x = true) ∧ Sat (Sl.block KB TLk [.bool true, .int .i64 xh, .slice xE ne dE, .slice xP np dP] * (G6 * (Bf * (B * (Bo * F))))) wr2)
         case atStart => exact ⟨0, rfl, by omega, ⟨rfl, by simp⟩, q5⟩
         case round =>
          obtain ⟨k, rfl, hk, A2, q6⟩ := hrel
          clear q5
          haveI := q6.i
          by_cases hkn : k < ne
          · have hkn' : (k : Int) < ne := by omega
            obtain ⟨⟨x1, x2, x3, x4⟩, hx⟩ : ∃ x, xe[k]? = some x := ⟨_, List.getElem?_eq_getElem (by rw [HE.out.2.1]; exact hkn)⟩
            obtain ⟨bl, ol, hal, y1, y2, y3, y4⟩ := readsE_at HE.out.1 hx
            subst hal
            simp only at y1 y2 y3 y4
            have hme := mayE_iff.1 (HE.out.2.2.2 _ (List.mem_of_getElem? hx))
            simp only at hme
            obtain ⟨p, rfl⟩ : ∃ p : Nat, x2 = p := ⟨x2.toNat, by omega⟩
            obtain ⟨q, rfl⟩ : ∃ q : Nat, x3 = q := ⟨x3.toNat, by omega⟩
            have HX : Aside (xe[k]? = some ⟨x1, p, q, x4⟩) := hx
            have hsrc : x1 = 0 ∨ x1 = 1 := by omega
            have hq1 : 1 ≤ q := by omega
            have hpq1 : p ≤ 1099511627776 ∧ q ≤ 1048576 := by omega
            obtain ⟨SB, hSB⟩ : ∃ x, wr.heap.size = x := ⟨_, rfl⟩
            clear hx hme
            go_upto_region 11 with (fail)
            have q7 : Sat (Sl.block SB TSc [.int .i64 x1, .int .i64 (p : Int), .int .i64 (q : Int)] * (Sl.block KB TLk [.bool true, .int .i64 xh, .slice (some ⟨bl, ol, none⟩) ne dE, .slice xP np dP] * (G6 * (Bf * (B * (Bo * F)))))) (wr.alloc (.cells #[.int .i64 x1, .int .i64 (p : Int), .int .i64 (q : Int)] TSc)) := by
             rw [← hSB]
             exact satI_eq (by ac_rfl)
            try rw [hSB]
            generalize wr.alloc (.cells #[.int .i64 x1, .int .i64 (p : Int), .int .i64 (q : Int)] TSc) = w7 at q7 ⊢
            clear hSB q6 this
            haveI := q7.i
            rcases hsrc with rfl | rfl
            · have HBl : Aside (Reads Bo (.slice aO nO cO) O ∧ O.length = nO ∧ cutC O T 0 = O) := ⟨HBO.out.1, HBO.out.2.1, rfl⟩
              by_cases h1n : nO < p
              · have h1 : (nO : Int) < p := by omega
                have HBAD : Aside (vl.all (verOkC (fileNode file) (cutC O T)) = false) := all_bad HP.out (by
                 rw [HVO3.out]
                 refine all_badE HX.out ?_
                 show entOk (cutC O T 0) _ = false
                 rw [HBl.out.2.2]
                 exact decide_eq_false fun h => by have := h.1; simp only at this; have := HBl.out.2.1; omega)
                go_wp2
                go_ret
                exact ⟨by rw [HBAD.out]; rfl, satI_weak (C := Sl.block SB TSc [.int .i64 0, .int .i64 (p : Int), .int .i64 (q : Int)] * (Sl.block KB TLk [.bool true, .int .i64 xh, .slice (some ⟨bl, ol, none⟩) ne dE, .slice xP np dP] * G6)) (by ac_rfl)⟩
              have h1 : ¬ (nO : Int) < p := by omega
              have hw1 : IntKind.i64.wrap ((nO : Int) - p) = (nO : Int) - p := IntWalk.i64_in _ (by omega)
              by_cases h2 : (nO : Int) - p < q
              · have HBAD : Aside (vl.all (verOkC (fileNode file) (cutC O T)) = false) := all_bad HP.out (by
                 rw [HVO3.out]
                 refine all_badE HX.out ?_
                 show entOk (cutC O T 0) _ = false
                 rw [HBl.out.2.2]
                 exact decide_eq_false fun h => by have := h.2.1; simp only at this; have := HBl.out.2.1; omega)
                go_wp2
                go_ret
                exact ⟨by rw [HBAD.out]; rfl, satI_weak (C := Sl.block SB TSc [.int .i64 0, .int .i64 (p : Int), .int .i64 (q : Int)] * (Sl.block KB TLk [.bool true, .int .i64 xh, .slice (some ⟨bl, ol, none⟩) ne dE, .slice xP np dP] * G6)) (by ac_rfl)⟩
              have hpq : p + q ≤ nO := by omega
              by_cases h3 : 0 ≤ x4
              · obtain ⟨cut, hct⟩ : ∃ x, (O.drop p).take q = x := ⟨_, rfl⟩
                have hcl : cut.length = q := by rw [← hct, List.length_take, List.length_drop, HBl.out.2.1]; omega
                have hw2 : IntKind.i64.wrap ((p : Int) + (q : Int)) = ((p + q : Nat) : Int) := by rw [IntWalk.i64_in _ (by omega)]; omega
                have HEN : Aside (∀ F w, Sat (Bo * F) w → Calls Tryz.prog 25 #[.slice (aO.map fun x => x.add p) q (cO - p)] w fun e w' => ∃ (a : Option Addr) (c : Nat), e = .returned (.slice a (endsC cut) c) ∧ Sat (Bo * F) w') := fun F w s => by
                 have hcr := Reads.cut HBl.out.1 p (p + q) (by omega) hpq
                 have e1 : cutA aO cO p 1 = aO.map fun x => x.add p := by unfold cutA; rw [if_neg (by omega), Nat.mul_one]
                 rw [e1, show p + q - p = q by omega, hct] at hcr
                 exact ends_any _ cut Bo F w hcr s (by omega)
                have HOK : Aside (entOk (cutC O T 0) ⟨0, p, q, x4⟩ = decide ((endsC cut : Int) = x4)) := by
                 show _ = _
                 rw [HBl.out.2.2]
                 unfold entOk
                 have e1 : (⟨0, (p : Int), (q : Int), x4⟩ : Ent).pos.toNat = p := by simp
                 have e2 : (⟨0, (p : Int), (q : Int), x4⟩ : Ent).len.toNat = q := by simp
                 rw [e1, e2, hct, HBl.out.2.1]
                 by_cases h9 : (endsC cut : Int) = x4
                 · rw [decide_eq_true h9]
                   exact decide_eq_true ⟨by simp only; omega, by simp only; omega, fun _ => h9⟩
                 · rw [decide_eq_false h9]
                   exact decide_eq_false fun h => h9 (h.2.2 h3)
                obtain ⟨el, hel⟩ : ∃ x, endsC cut = x := ⟨_, rfl⟩
                rw [hel] at HEN HOK
                clear hct hcl hel
                go_wp2_with fail
                go_cut [100] (fun t100 wx => t100 = .bool ((el : Int) != x4) ∧ Sat (Sl.block SB TSc [.int .i64 0, .int .i64 (p : Int), .int .i64 (q : Int)] * (Sl.block KB TLk [.bool true, .int .i64 xh, .slice (some ⟨bl, ol, none⟩) ne dE, .slice xP np dP] * (G6 * (Bf * (B * (Bo * F)))))) wx)
                case first =>
                 go_region_held3 (fun w' => w'.cell? ⟨KB, 2, none⟩ = some (.slice (some ⟨bl, ol, none⟩) ne dE) ∧ w'.cell? ⟨SB, 1, none⟩ = some (.int .i64 (p : Int)) ∧ w'.cell? ⟨SB, 2, none⟩ = some (.int .i64 (q : Int)) ∧ w'.cell? ⟨bl, ol + k * 4 + 3, none⟩ = some (.int .i64 x4)) (exact ⟨cell_sat _ _ _, cell_sat _ _ _, cell_sat _ _ _, cell_sat _ _ _⟩) (first
                  | (go_at_call 25; with_reducible refine Calls.mono (HEN.out _ _ (takeI Bo)) ?_; rintro e w9 ⟨a9, c9, rfl, q9⟩; haveI := q9.i))
                 all_goals
                  go_wp2_with fail
                  go_meet
                  exact ⟨rfl, keep6 _ _ _ _ _ _⟩
                case rest =>
                 obtain ⟨rfl, q9⟩ := hcut
                 clear q7 HEN this
                 haveI := q9.i
                 cases ee : ((el : Int) != x4) with
                 | true =>
                   have HBAD : Aside (vl.all (verOkC (fileNode file) (cutC O T)) = false) := all_bad HP.out (by
                    rw [HVO3.out]
                    refine all_badE HX.out ?_
                    rw [HOK.out]
                    exact decide_eq_false (by simpa using ee))
                   go_wp2
                   go_ret
                   exact ⟨by rw [HBAD.out]; rfl, satI_weak (C := Sl.block SB TSc [.int .i64 0, .int .i64 (p : Int), .int .i64 (q : Int)] * (Sl.block KB TLk [.bool true, .int .i64 xh, .slice (some ⟨bl, ol, none⟩) ne dE, .slice xP np dP] * G6)) (by ac_rfl)⟩
                 | false =>
                   have HGD : Aside (∀ x ∈ xe.take (k + 1), entOk (cutC O T x.src) x = true) := all_take HX.out A2.out.2 (by
                    rw [HOK.out]
                    exact decide_eq_true (by simpa using ee))
                   go_wp2_with fail
                   go_roundg (ne - (k + 1))
                   case measure => have := A2.out.1; omega
                   case rel => exact ⟨k + 1, by go_num, by omega, ⟨rfl, HGD.out⟩, satI_weak (C := Sl.block SB TSc [.int .i64 0, .int .i64 (p : Int), .int .i64 (q : Int)]) (by ac_rfl)⟩
              · have h3' : x4 < 0 := by omega
                have HGD : Aside (∀ x ∈ xe.take (k + 1), entOk (cutC O T x.src) x = true) := all_take HX.out A2.out.2 (by
                 show entOk (cutC O T 0) _ = true
                 rw [HBl.out.2.2]
                 exact decide_eq_true ⟨by simp only; have := HBl.out.2.1; omega, by simp only; have := HBl.out.2.1; omega, fun h => absurd h h3⟩)
                go_wp2_with fail
                have h3n : ¬ 0 ≤ x4 := by omega
                refine Dr.wpB_start (fun w' => w'.cell? ⟨KB, 2, none⟩ = some (.slice (some ⟨bl, ol, none⟩) ne dE) ∧ w'.cell? ⟨bl, ol + k * 4 + 3, none⟩ = some (.int .i64 x4)) [] (by kernel_rfl) ⟨cell_sat _ _ _, cell_sat _ _ _⟩ (fun hHeld => ?_)
                refine Dr.wpB_pure 0 (v := ?v0) (by simp only [List.getElem?_toArray, List.getElem?_cons_succ, List.getElem?_cons_zero]; rfl) (by kernel_rfl) ?hQ0 (.inl ⟨?hw0, fun w' => ?hy0⟩) ?_
                case hy0 => go_simp; try (with_reducible rfl)
                case hQ0 => exact fun _ _ _ h => h
                case hw0 => rfl
                simp only [Act.put, List.setIfInBounds_toArray, List.set_cons_zero, List.set_cons_succ]
                refine Dr.wpB_take 1 (v := ?v1) (by simp only [List.getElem?_toArray, List.getElem?_cons_succ, List.getElem?_cons_zero]; rfl) (by kernel_rfl) ?hQ1 (.inl ⟨?hw1, fun w' hw => ?hy1⟩) hHeld ?_
                case hy1 => (try dsimp only at hw); go_simp; try (with_reducible rfl)
                case hQ1 => exact fun _ _ _ h => h
                case hw1 => rfl
                simp only [Act.put, List.setIfInBounds_toArray, List.set_cons_zero, List.set_cons_succ]
                refine Dr.wpB_pure 2 (v := ?v2) (by simp only [List.getElem?_toArray, List.getElem?_cons_succ, List.getElem?_cons_zero]; rfl) (by kernel_rfl) ?hQ2 (.inl ⟨?hw2, fun w' => ?hy2⟩) ?_
                case hy2 => go_simp; try (with_reducible rfl)
                case hQ2 => exact fun _ _ _ h => h
                case hw2 => rfl
                simp only [Act.put, List.setIfInBounds_toArray, List.set_cons_zero, List.set_cons_succ]
                refine Dr.wpB_pure 3 (v := ?v3) (by simp only [List.getElem?_toArray, List.getElem?_cons_succ, List.getElem?_cons_zero]; rfl) (by kernel_rfl) ?hQ3 (.inl ⟨?hw3, fun w' => ?hy3⟩) ?_
                case hy3 => go_simp; try (with_reducible rfl)
                case hQ3 => exact fun _ _ _ h => h
                case hw3 => rfl
                simp only [Act.put, List.setIfInBounds_toArray, List.set_cons_zero, List.set_cons_succ]
                refine Dr.wpB_pure 4 (v := ?v4) (by simp only [List.getElem?_toArray, List.getElem?_cons_succ, List.getElem?_cons_zero]; rfl) (by kernel_rfl) ?hQ4 (.inl ⟨?hw4, fun w' => ?hy4⟩) ?_
                case hy4 => go_simp; try (with_reducible rfl)
                case hQ4 => exact fun _ _ _ h => h
                case hw4 => rfl
                simp only [Act.put, List.setIfInBounds_toArray, List.set_cons_zero, List.set_cons_succ]
                refine Dr.wpB_take 5 (v := ?v5) (by simp only [List.getElem?_toArray, List.getElem?_cons_succ, List.getElem?_cons_zero]; rfl) (by kernel_rfl) ?hQ5 (.inl ⟨?hw5, fun w' hw => ?hy5⟩) hHeld ?_
                case hy5 => (try dsimp only at hw); go_simp; try (with_reducible rfl)
                case hQ5 => exact fun _ _ _ h => h
                case hw5 => rfl
                simp only [Act.put, List.setIfInBounds_toArray, List.set_cons_zero, List.set_cons_succ]
                refine Dr.wpB_pure 6 (v := ?v6) (by simp only [List.getElem?_toArray, List.getElem?_cons_succ, List.getElem?_cons_zero]; rfl) (by kernel_rfl) ?hQ6 (.inl ⟨?hw6, fun w' => ?hy6⟩) ?_
                case hy6 => go_simp; try (with_reducible rfl)
                case hQ6 => exact fun _ _ _ h => h
                case hw6 => rfl
                simp only [Act.put, List.setIfInBounds_toArray, List.set_cons_zero, List.set_cons_succ]
                refine Dr.wpB_pure 7 (v := ?v7) (by simp only [List.getElem?_toArray, List.getElem?_cons_succ, List.getElem?_cons_zero]; rfl) (by kernel_rfl) ?hQ7 (.inl ⟨?hw7, fun w' => ?hy7⟩) ?_
                case hy7 => go_simp; try (with_reducible rfl)
                case hQ7 => exact fun _ _ _ h => h
                case hw7 => rfl
                simp only [Act.put, List.setIfInBounds_toArray, List.set_cons_zero, List.set_cons_succ]
                refine Dr.wpB_pure 8 (v := undef) (by simp only [List.getElem?_toArray, List.getElem?_cons_succ, List.getElem?_cons_zero]; rfl) (by kernel_rfl) ?hQ8 (.inr ⟨?hw8, rfl⟩) ?_
                case hQ8 => exact fun _ _ _ h => h
                case hw8 => rfl
                simp only [Act.put, List.setIfInBounds_toArray, List.set_cons_zero, List.set_cons_succ]
                refine Dr.wpB_pure 9 (v := undef) (by simp only [List.getElem?_toArray, List.getElem?_cons_succ, List.getElem?_cons_zero]; rfl) (by kernel_rfl) ?hQ9 (.inr ⟨?hw9, rfl⟩) ?_
                case hQ9 => exact fun _ _ _ h => h
                case hw9 => rfl
                simp only [Act.put, List.setIfInBounds_toArray, List.set_cons_zero, List.set_cons_succ]
                refine Dr.wpB_pure 10 (v := undef) (by simp only [List.getElem?_toArray, List.getElem?_cons_succ, List.getElem?_cons_zero]; rfl) (by kernel_rfl) ?hQ10 (.inr ⟨?hw10, rfl⟩) ?_
                case hQ10 => exact fun _ _ _ h => h
                case hw10 => rfl
                simp only [Act.put, List.setIfInBounds_toArray, List.set_cons_zero, List.set_cons_succ]
                refine Dr.wpB_pure 11 (v := undef) (by simp only [List.getElem?_toArray, List.getElem?_cons_succ, List.getElem?_cons_zero]; rfl) (by kernel_rfl) ?hQ11 (.inr ⟨?hw11, rfl⟩) ?_
                case hQ11 => exact fun _ _ _ h => h
                case hw11 => rfl
                simp only [Act.put, List.setIfInBounds_toArray, List.set_cons_zero, List.set_cons_succ]
                refine Dr.wpB_pure 12 (v := undef) (by simp only [List.getElem?_toArray, List.getElem?_cons_succ, List.getElem?_cons_zero]; rfl) (by kernel_rfl) ?hQ12 (.inr ⟨?hw12, rfl⟩) ?_
                case hQ12 => exact fun _ _ _ h => h
                case hw12 => rfl
                simp only [Act.put, List.setIfInBounds_toArray, List.set_cons_zero, List.set_cons_succ]
                refine Dr.wpB_pure 13 (v := undef) (by simp only [List.getElem?_toArray, List.getElem?_cons_succ, List.getElem?_cons_zero]; rfl) (by kernel_rfl) ?hQ13 (.inr ⟨?hw13, rfl⟩) ?_
                case hQ13 => exact fun _ _ _ h => h
                case hw13 => rfl
                simp only [Act.put, List.setIfInBounds_toArray, List.set_cons_zero, List.set_cons_succ]
                refine Dr.wpB_pure 14 (v := undef) (by simp only [List.getElem?_toArray, List.getElem?_cons_succ, List.getElem?_cons_zero]; rfl) (by kernel_rfl) ?hQ14 (.inr ⟨?hw14, rfl⟩) ?_
                case hQ14 => exact fun _ _ _ h => h
                case hw14 => rfl
                simp only [Act.put, List.setIfInBounds_toArray, List.set_cons_zero, List.set_cons_succ]
                refine Dr.wpB_pure 15 (v := undef) (by simp only [List.getElem?_toArray, List.getElem?_cons_succ, List.getElem?_cons_zero]; rfl) (by kernel_rfl) ?hQ15 (.inr ⟨?hw15, rfl⟩) ?_
                case hQ15 => exact fun _ _ _ h => h
                case hw15 => rfl
                simp only [Act.put, List.setIfInBounds_toArray, List.set_cons_zero, List.set_cons_succ]
                refine Dr.wpB_pure 16 (v := undef) (by simp only [List.getElem?_toArray, List.getElem?_cons_succ, List.getElem?_cons_zero]; rfl) (by kernel_rfl) ?hQ16 (.inr ⟨?hw16, rfl⟩) ?_
                case hQ16 => exact fun _ _ _ h => h
                case hw16 => rfl
                simp only [Act.put, List.setIfInBounds_toArray, List.set_cons_zero, List.set_cons_succ]
                refine Dr.wpB_pure 17 (v := undef) (by simp only [List.getElem?_toArray, List.getElem?_cons_succ, List.getElem?_cons_zero]; rfl) (by kernel_rfl) ?hQ17 (.inr ⟨?hw17, rfl⟩) ?_
                case hQ17 => exact fun _ _ _ h => h
                case hw17 => rfl
                simp only [Act.put, List.setIfInBounds_toArray, List.set_cons_zero, List.set_cons_succ]
                refine Dr.wpB_pure 18 (v := undef) (by simp only [List.getElem?_toArray, List.getElem?_cons_succ, List.getElem?_cons_zero]; rfl) (by kernel_rfl) ?hQ18 (.inr ⟨?hw18, rfl⟩) ?_
                case hQ18 => exact fun _ _ _ h => h
                case hw18 => rfl
                simp only [Act.put, List.setIfInBounds_toArray, List.set_cons_zero, List.set_cons_succ]
                refine Dr.wpB_pure 19 (v := undef) (by simp only [List.getElem?_toArray, List.getElem?_cons_succ, List.getElem?_cons_zero]; rfl) (by kernel_rfl) ?hQ19 (.inr ⟨?hw19, rfl⟩) ?_
                case hQ19 => exact fun _ _ _ h => h
                case hw19 => rfl
                simp only [Act.put, List.setIfInBounds_toArray, List.set_cons_zero, List.set_cons_succ]
                refine Dr.wpB_pure 20 (v := undef) (by simp only [List.getElem?_toArray, List.getElem?_cons_succ, List.getElem?_cons_zero]; rfl) (by kernel_rfl) ?hQ20 (.inr ⟨?hw20, rfl⟩) ?_
                case hQ20 => exact fun _ _ _ h => h
                case hw20 => rfl
                simp only [Act.put, List.setIfInBounds_toArray, List.set_cons_zero, List.set_cons_succ]
                refine Dr.wpB_pure 21 (v := undef) (by simp only [List.getElem?_toArray, List.getElem?_cons_succ, List.getElem?_cons_zero]; rfl) (by kernel_rfl) ?hQ21 (.inr ⟨?hw21, rfl⟩) ?_
                case hQ21 => exact fun _ _ _ h => h
                case hw21 => rfl
                simp only [Act.put, List.setIfInBounds_toArray, List.set_cons_zero, List.set_cons_succ]
                refine Dr.wpB_pure 22 (v := undef) (by simp only [List.getElem?_toArray, List.getElem?_cons_succ, List.getElem?_cons_zero]; rfl) (by kernel_rfl) ?hQ22 (.inr ⟨?hw22, rfl⟩) ?_
                case hQ22 => exact fun _ _ _ h => h
                case hw22 => rfl
                simp only [Act.put, List.setIfInBounds_toArray, List.set_cons_zero, List.set_cons_succ]
                refine Dr.wpB_pure 23 (v := undef) (by simp only [List.getElem?_toArray, List.getElem?_cons_succ, List.getElem?_cons_zero]; rfl) (by kernel_rfl) ?hQ23 (.inr ⟨?hw23, rfl⟩) ?_
                case hQ23 => exact fun _ _ _ h => h
                case hw23 => rfl
                simp only [Act.put, List.setIfInBounds_toArray, List.set_cons_zero, List.set_cons_succ]
                refine Dr.wpB_pure 24 (v := undef) (by simp only [List.getElem?_toArray, List.getElem?_cons_succ, List.getElem?_cons_zero]; rfl) (by kernel_rfl) ?hQ24 (.inr ⟨?hw24, rfl⟩) ?_
                case hQ24 => exact fun _ _ _ h => h
                case hw24 => rfl
                simp only [Act.put, List.setIfInBounds_toArray, List.set_cons_zero, List.set_cons_succ]
                refine Dr.wpB_pure 25 (v := undef) (by simp only [List.getElem?_toArray, List.getElem?_cons_succ, List.getElem?_cons_zero]; rfl) (by kernel_rfl) ?hQ25 (.inr ⟨?hw25, rfl⟩) ?_
                case hQ25 => exact fun _ _ _ h => h
                case hw25 => rfl
                simp only [Act.put, List.setIfInBounds_toArray, List.set_cons_zero, List.set_cons_succ]
                refine Dr.wpB_pure 26 (v := ?v26) (by simp only [List.getElem?_toArray, List.getElem?_cons_succ, List.getElem?_cons_zero]; rfl) (by kernel_rfl) ?hQ26 (.inl ⟨?hw26, fun w' => ?hy26⟩) ?_
                case hy26 => go_simp; try (with_reducible rfl)
                case hQ26 => exact fun _ _ _ h => h
                case hw26 => rfl
                simp only [Act.put, List.setIfInBounds_toArray, List.set_cons_zero, List.set_cons_succ]
                refine Dr.wpB_tail [] (os := []) (by decide) rfl (by kernel_rfl) ?_
                go_wp2_with fail
                go_roundg (ne - (k + 1))
                case measure => have := A2.out.1; omega
                case rel => exact ⟨k + 1, by go_num, by omega, ⟨rfl, HGD.out⟩, satI_weak (C := Sl.block SB TSc [.int .i64 0, .int .i64 (p : Int), .int .i64 (q : Int)]) (by ac_rfl)⟩
            · have HBl : Aside (Reads Bo (.slice aT nT cT) T ∧ T.length = nT ∧ cutC O T 1 = T) := ⟨HBO.out.2.2.1, HBO.out.2.2.2, rfl⟩
              by_cases h1n : nT < p
              · have h1 : (nT : Int) < p := by omega
                have HBAD : Aside (vl.all (verOkC (fileNode file) (cutC O T)) = false) := all_bad HP.out (by
                 rw [HVO3.out]
                 refine all_badE HX.out ?_
                 show entOk (cutC O T 1) _ = false
                 rw [HBl.out.2.2]
                 exact decide_eq_false fun h => by have := h.1; simp only at this; have := HBl.out.2.1; omega)
                go_wp2
                go_ret
                exact ⟨by rw [HBAD.out]; rfl, satI_weak (C := Sl.block SB TSc [.int .i64 1, .int .i64 (p : Int), .int .i64 (q : Int)] * (Sl.block KB TLk [.bool true, .int .i64 xh, .slice (some ⟨bl, ol, none⟩) ne dE, .slice xP np dP] * G6)) (by ac_rfl)⟩
              have h1 : ¬ (nT : Int) < p := by omega
              have hw1 : IntKind.i64.wrap ((nT : Int) - p) = (nT : Int) - p := IntWalk.i64_in _ (by omega)
              by_cases h2 : (nT : Int) - p < q
              · have HBAD : Aside (vl.all (verOkC (fileNode file) (cutC O T)) = false) := all_bad HP.out (by
                 rw [HVO3.out]
                 refine all_badE HX.out ?_
                 show entOk (cutC O T 1) _ = false
                 rw [HBl.out.2.2]
                 exact decide_eq_false fun h => by have := h.2.1; simp only at this; have := HBl.out.2.1; omega)
                go_wp2
                go_ret
                exact ⟨by rw [HBAD.out]; rfl, satI_weak (C := Sl.block SB TSc [.int .i64 1, .int .i64 (p : Int), .int .i64 (q : Int)] * (Sl.block KB TLk [.bool true, .int .i64 xh, .slice (some ⟨bl, ol, none⟩) ne dE, .slice xP np dP] * G6)) (by ac_rfl)⟩
              have hpq : p + q ≤ nT := by omega
              by_cases h3 : 0 ≤ x4
              · obtain ⟨cut, hct⟩ : ∃ x, (T.drop p).take q = x := ⟨_, rfl⟩
                have hcl : cut.length = q := by rw [← hct, List.length_take, List.length_drop, HBl.out.2.1]; omega
                have hw2 : IntKind.i64.wrap ((p : Int) + (q : Int)) = ((p + q : Nat) : Int) := by rw [IntWalk.i64_in _ (by omega)]; omega
                have HEN : Aside (∀ F w, Sat (Bo * F) w → Calls Tryz.prog 25 #[.slice (aT.map fun x => x.add p) q (cT - p)] w fun e w' => ∃ (a : Option Addr) (c : Nat), e = .returned (.slice a (endsC cut) c) ∧ Sat (Bo * F) w') := fun F w s => by
                 have hcr := Reads.cut HBl.out.1 p (p + q) (by omega) hpq
                 have e1 : cutA aT cT p 1 = aT.map fun x => x.add p := by unfold cutA; rw [if_neg (by omega), Nat.mul_one]
                 rw [e1, show p + q - p = q by omega, hct] at hcr
                 exact ends_any _ cut Bo F w hcr s (by omega)
                have HOK : Aside (entOk (cutC O T 1) ⟨1, p, q, x4⟩ = decide ((endsC cut : Int) = x4)) := by
                 show _ = _
                 rw [HBl.out.2.2]
                 unfold entOk
                 have e1 : (⟨1, (p : Int), (q : Int), x4⟩ : Ent).pos.toNat = p := by simp
                 have e2 : (⟨1, (p : Int), (q : Int), x4⟩ : Ent).len.toNat = q := by simp
                 rw [e1, e2, hct, HBl.out.2.1]
                 by_cases h9 : (endsC cut : Int) = x4
                 · rw [decide_eq_true h9]
                   exact decide_eq_true ⟨by simp only; omega, by simp only; omega, fun _ => h9⟩
                 · rw [decide_eq_false h9]
                   exact decide_eq_false fun h => h9 (h.2.2 h3)
                obtain ⟨el, hel⟩ : ∃ x, endsC cut = x := ⟨_, rfl⟩
                rw [hel] at HEN HOK
                clear hct hcl hel
                go_wp2_with fail
                go_cut [100] (fun t100 wx => t100 = .bool ((el : Int) != x4) ∧ Sat (Sl.block SB TSc [.int .i64 1, .int .i64 (p : Int), .int .i64 (q : Int)] * (Sl.block KB TLk [.bool true, .int .i64 xh, .slice (some ⟨bl, ol, none⟩) ne dE, .slice xP np dP] * (G6 * (Bf * (B * (Bo * F)))))) wx)
                case first =>
                 go_region_held3 (fun w' => w'.cell? ⟨KB, 2, none⟩ = some (.slice (some ⟨bl, ol, none⟩) ne dE) ∧ w'.cell? ⟨SB, 1, none⟩ = some (.int .i64 (p : Int)) ∧ w'.cell? ⟨SB, 2, none⟩ = some (.int .i64 (q : Int)) ∧ w'.cell? ⟨bl, ol + k * 4 + 3, none⟩ = some (.int .i64 x4)) (exact ⟨cell_sat _ _ _, cell_sat _ _ _, cell_sat _ _ _, cell_sat _ _ _⟩) (first
                  | (go_at_call 25; with_reducible refine Calls.mono (HEN.out _ _ (takeI Bo)) ?_; rintro e w9 ⟨a9, c9, rfl, q9⟩; haveI := q9.i))
                 all_goals
                  go_wp2_with fail
                  go_meet
                  exact ⟨rfl, keep6 _ _ _ _ _ _⟩
                case rest =>
                 obtain ⟨rfl, q9⟩ := hcut
                 clear q7 HEN this
                 haveI := q9.i
                 cases ee : ((el : Int) != x4) with
                 | true =>
                   have HBAD : Aside (vl.all (verOkC (fileNode file) (cutC O T)) = false) := all_bad HP.out (by
                    rw [HVO3.out]
                    refine all_badE HX.out ?_
                    rw [HOK.out]
                    exact decide_eq_false (by simpa using ee))
                   go_wp2
                   go_ret
                   exact ⟨by rw [HBAD.out]; rfl, satI_weak (C := Sl.block SB TSc [.int .i64 1, .int .i64 (p : Int), .int .i64 (q : Int)] * (Sl.block KB TLk [.bool true, .int .i64 xh, .slice (some ⟨bl, ol, none⟩) ne dE, .slice xP np dP] * G6)) (by ac_rfl)⟩
                 | false =>
                   have HGD : Aside (∀ x ∈ xe.take (k + 1), entOk (cutC O T x.src) x = true) := all_take HX.out A2.out.2 (by
                    rw [HOK.out]
                    exact decide_eq_true (by simpa using ee))
                   go_wp2_with fail
                   go_roundg (ne - (k + 1))
                   case measure => have := A2.out.1; omega
                   case rel => exact ⟨k + 1, by go_num, by omega, ⟨rfl, HGD.out⟩, satI_weak (C := Sl.block SB TSc [.int .i64 1, .int .i64 (p : Int), .int .i64 (q : Int)]) (by ac_rfl)⟩
              · have h3' : x4 < 0 := by omega
                have HGD : Aside (∀ x ∈ xe.take (k + 1), entOk (cutC O T x.src) x = true) := all_take HX.out A2.out.2 (by
                 show entOk (cutC O T 1) _ = true
                 rw [HBl.out.2.2]
                 exact decide_eq_true ⟨by simp only; have := HBl.out.2.1; omega, by simp only; have := HBl.out.2.1; omega, fun h => absurd h h3⟩)
                go_wp2_with fail
                have h3n : ¬ 0 ≤ x4 := by omega
                refine Dr.wpB_start (fun w' => w'.cell? ⟨KB, 2, none⟩ = some (.slice (some ⟨bl, ol, none⟩) ne dE) ∧ w'.cell? ⟨bl, ol + k * 4 + 3, none⟩ = some (.int .i64 x4)) [] (by kernel_rfl) ⟨cell_sat _ _ _, cell_sat _ _ _⟩ (fun hHeld => ?_)
                refine Dr.wpB_pure 0 (v := ?v0) (by simp only [List.getElem?_toArray, List.getElem?_cons_succ, List.getElem?_cons_zero]; rfl) (by kernel_rfl) ?hQ0 (.inl ⟨?hw0, fun w' => ?hy0⟩) ?_
                case hy0 => go_simp; try (with_reducible rfl)
                case hQ0 => exact fun _ _ _ h => h
                case hw0 => rfl
                simp only [Act.put, List.setIfInBounds_toArray, List.set_cons_zero, List.set_cons_succ]
                refine Dr.wpB_take 1 (v := ?v1) (by simp only [List.getElem?_toArray, List.getElem?_cons_succ, List.getElem?_cons_zero]; rfl) (by kernel_rfl) ?hQ1 (.inl ⟨?hw1, fun w' hw => ?hy1⟩) hHeld ?_
                case hy1 => (try dsimp only at hw); go_simp; try (with_reducible rfl)
                case hQ1 => exact fun _ _ _ h => h
                case hw1 => rfl
                simp only [Act.put, List.setIfInBounds_toArray, List.set_cons_zero, List.set_cons_succ]
                refine Dr.wpB_pure 2 (v := ?v2) (by simp only [List.getElem?_toArray, List.getElem?_cons_succ, List.getElem?_cons_zero]; rfl) (by kernel_rfl) ?hQ2 (.inl ⟨?hw2, fun w' => ?hy2⟩) ?_
                case hy2 => go_simp; try (with_reducible rfl)
                case hQ2 => exact fun _ _ _ h => h
                case hw2 => rfl
                simp only [Act.put, List.setIfInBounds_toArray, List.set_cons_zero, List.set_cons_succ]
                refine Dr.wpB_pure 3 (v := ?v3) (by simp only [List.getElem?_toArray, List.getElem?_cons_succ, List.getElem?_cons_zero]; rfl) (by kernel_rfl) ?hQ3 (.inl ⟨?hw3, fun w' => ?hy3⟩) ?_
                case hy3 => go_simp; try (with_reducible rfl)
                case hQ3 => exact fun _ _ _ h => h
                case hw3 => rfl
                simp only [Act.put, List.setIfInBounds_toArray, List.set_cons_zero, List.set_cons_succ]
                refine Dr.wpB_pure 4 (v := ?v4) (by simp only [List.getElem?_toArray, List.getElem?_cons_succ, List.getElem?_cons_zero]; rfl) (by kernel_rfl) ?hQ4 (.inl ⟨?hw4, fun w' => ?hy4⟩) ?_
                case hy4 => go_simp; try (with_reducible rfl)
                case hQ4 => exact fun _ _ _ h => h
                case hw4 => rfl
                simp only [Act.put, List.setIfInBounds_toArray, List.set_cons_zero, List.set_cons_succ]
                refine Dr.wpB_take 5 (v := ?v5) (by simp only [List.getElem?_toArray, List.getElem?_cons_succ, List.getElem?_cons_zero]; rfl) (by kernel_rfl) ?hQ5 (.inl ⟨?hw5, fun w' hw => ?hy5⟩) hHeld ?_
                case hy5 => (try dsimp only at hw); go_simp; try (with_reducible rfl)
                case hQ5 => exact fun _ _ _ h => h
                case hw5 => rfl
                simp only [Act.put, List.setIfInBounds_toArray, List.set_cons_zero, List.set_cons_succ]
                refine Dr.wpB_pure 6 (v := ?v6) (by simp only [List.getElem?_toArray, List.getElem?_cons_succ, List.getElem?_cons_zero]; rfl) (by kernel_rfl) ?hQ6 (.inl ⟨?hw6, fun w' => ?hy6⟩) ?_
                case hy6 => go_simp; try (with_reducible rfl)
                case hQ6 => exact fun _ _ _ h => h
                case hw6 => rfl
                simp only [Act.put, List.setIfInBounds_toArray, List.set_cons_zero, List.set_cons_succ]
                refine Dr.wpB_pure 7 (v := ?v7) (by simp only [List.getElem?_toArray, List.getElem?_cons_succ, List.getElem?_cons_zero]; rfl) (by kernel_rfl) ?hQ7 (.inl ⟨?hw7, fun w' => ?hy7⟩) ?_
                case hy7 => go_simp; try (with_reducible rfl)
                case hQ7 => exact fun _ _ _ h => h
                case hw7 => rfl
                simp only [Act.put, List.setIfInBounds_toArray, List.set_cons_zero, List.set_cons_succ]
                refine Dr.wpB_pure 8 (v := undef) (by simp only [List.getElem?_toArray, List.getElem?_cons_succ, List.getElem?_cons_zero]; rfl) (by kernel_rfl) ?hQ8 (.inr ⟨?hw8, rfl⟩) ?_
                case hQ8 => exact fun _ _ _ h => h
                case hw8 => rfl
                simp only [Act.put, List.setIfInBounds_toArray, List.set_cons_zero, List.set_cons_succ]
                refine Dr.wpB_pure 9 (v := undef) (by simp only [List.getElem?_toArray, List.getElem?_cons_succ, List.getElem?_cons_zero]; rfl) (by kernel_rfl) ?hQ9 (.inr ⟨?hw9, rfl⟩) ?_
                case hQ9 => exact fun _ _ _ h => h
                case hw9 => rfl
                simp only [Act.put, List.setIfInBounds_toArray, List.set_cons_zero, List.set_cons_succ]
                refine Dr.wpB_pure 10 (v := undef) (by simp only [List.getElem?_toArray, List.getElem?_cons_succ, List.getElem?_cons_zero]; rfl) (by kernel_rfl) ?hQ10 (.inr ⟨?hw10, rfl⟩) ?_
                case hQ10 => exact fun _ _ _ h => h
                case hw10 => rfl
                simp only [Act.put, List.setIfInBounds_toArray, List.set_cons_zero, List.set_cons_succ]
                refine Dr.wpB_pure 11 (v := undef) (by simp only [List.getElem?_toArray, List.getElem?_cons_succ, List.getElem?_cons_zero]; rfl) (by kernel_rfl) ?hQ11 (.inr ⟨?hw11, rfl⟩) ?_
                case hQ11 => exact fun _ _ _ h => h
                case hw11 => rfl
                simp only [Act.put, List.setIfInBounds_toArray, List.set_cons_zero, List.set_cons_succ]
                refine Dr.wpB_pure 12 (v := undef) (by simp only [List.getElem?_toArray, List.getElem?_cons_succ, List.getElem?_cons_zero]; rfl) (by kernel_rfl) ?hQ12 (.inr ⟨?hw12, rfl⟩) ?_
                case hQ12 => exact fun _ _ _ h => h
                case hw12 => rfl
                simp only [Act.put, List.setIfInBounds_toArray, List.set_cons_zero, List.set_cons_succ]
                refine Dr.wpB_pure 13 (v := undef) (by simp only [List.getElem?_toArray, List.getElem?_cons_succ, List.getElem?_cons_zero]; rfl) (by kernel_rfl) ?hQ13 (.inr ⟨?hw13, rfl⟩) ?_
                case hQ13 => exact fun _ _ _ h => h
                case hw13 => rfl
                simp only [Act.put, List.setIfInBounds_toArray, List.set_cons_zero, List.set_cons_succ]
                refine Dr.wpB_pure 14 (v := undef) (by simp only [List.getElem?_toArray, List.getElem?_cons_succ, List.getElem?_cons_zero]; rfl) (by kernel_rfl) ?hQ14 (.inr ⟨?hw14, rfl⟩) ?_
                case hQ14 => exact fun _ _ _ h => h
                case hw14 => rfl
                simp only [Act.put, List.setIfInBounds_toArray, List.set_cons_zero, List.set_cons_succ]
                refine Dr.wpB_pure 15 (v := undef) (by simp only [List.getElem?_toArray, List.getElem?_cons_succ, List.getElem?_cons_zero]; rfl) (by kernel_rfl) ?hQ15 (.inr ⟨?hw15, rfl⟩) ?_
                case hQ15 => exact fun _ _ _ h => h
                case hw15 => rfl
                simp only [Act.put, List.setIfInBounds_toArray, List.set_cons_zero, List.set_cons_succ]
                refine Dr.wpB_pure 16 (v := undef) (by simp only [List.getElem?_toArray, List.getElem?_cons_succ, List.getElem?_cons_zero]; rfl) (by kernel_rfl) ?hQ16 (.inr ⟨?hw16, rfl⟩) ?_
                case hQ16 => exact fun _ _ _ h => h
                case hw16 => rfl
                simp only [Act.put, List.setIfInBounds_toArray, List.set_cons_zero, List.set_cons_succ]
                refine Dr.wpB_pure 17 (v := undef) (by simp only [List.getElem?_toArray, List.getElem?_cons_succ, List.getElem?_cons_zero]; rfl) (by kernel_rfl) ?hQ17 (.inr ⟨?hw17, rfl⟩) ?_
                case hQ17 => exact fun _ _ _ h => h
                case hw17 => rfl
                simp only [Act.put, List.setIfInBounds_toArray, List.set_cons_zero, List.set_cons_succ]
                refine Dr.wpB_pure 18 (v := undef) (by simp only [List.getElem?_toArray, List.getElem?_cons_succ, List.getElem?_cons_zero]; rfl) (by kernel_rfl) ?hQ18 (.inr ⟨?hw18, rfl⟩) ?_
                case hQ18 => exact fun _ _ _ h => h
                case hw18 => rfl
                simp only [Act.put, List.setIfInBounds_toArray, List.set_cons_zero, List.set_cons_succ]
                refine Dr.wpB_pure 19 (v := undef) (by simp only [List.getElem?_toArray, List.getElem?_cons_succ, List.getElem?_cons_zero]; rfl) (by kernel_rfl) ?hQ19 (.inr ⟨?hw19, rfl⟩) ?_
                case hQ19 => exact fun _ _ _ h => h
                case hw19 => rfl
                simp only [Act.put, List.setIfInBounds_toArray, List.set_cons_zero, List.set_cons_succ]
                refine Dr.wpB_pure 20 (v := undef) (by simp only [List.getElem?_toArray, List.getElem?_cons_succ, List.getElem?_cons_zero]; rfl) (by kernel_rfl) ?hQ20 (.inr ⟨?hw20, rfl⟩) ?_
                case hQ20 => exact fun _ _ _ h => h
                case hw20 => rfl
                simp only [Act.put, List.setIfInBounds_toArray, List.set_cons_zero, List.set_cons_succ]
                refine Dr.wpB_pure 21 (v := undef) (by simp only [List.getElem?_toArray, List.getElem?_cons_succ, List.getElem?_cons_zero]; rfl) (by kernel_rfl) ?hQ21 (.inr ⟨?hw21, rfl⟩) ?_
                case hQ21 => exact fun _ _ _ h => h
                case hw21 => rfl
                simp only [Act.put, List.setIfInBounds_toArray, List.set_cons_zero, List.set_cons_succ]
                refine Dr.wpB_pure 22 (v := undef) (by simp only [List.getElem?_toArray, List.getElem?_cons_succ, List.getElem?_cons_zero]; rfl) (by kernel_rfl) ?hQ22 (.inr ⟨?hw22, rfl⟩) ?_
                case hQ22 => exact fun _ _ _ h => h
                case hw22 => rfl
                simp only [Act.put, List.setIfInBounds_toArray, List.set_cons_zero, List.set_cons_succ]
                refine Dr.wpB_pure 23 (v := undef) (by simp only [List.getElem?_toArray, List.getElem?_cons_succ, List.getElem?_cons_zero]; rfl) (by kernel_rfl) ?hQ23 (.inr ⟨?hw23, rfl⟩) ?_
                case hQ23 => exact fun _ _ _ h => h
                case hw23 => rfl
                simp only [Act.put, List.setIfInBounds_toArray, List.set_cons_zero, List.set_cons_succ]
                refine Dr.wpB_pure 24 (v := undef) (by simp only [List.getElem?_toArray, List.getElem?_cons_succ, List.getElem?_cons_zero]; rfl) (by kernel_rfl) ?hQ24 (.inr ⟨?hw24, rfl⟩) ?_
                case hQ24 => exact fun _ _ _ h => h
                case hw24 => rfl
                simp only [Act.put, List.setIfInBounds_toArray, List.set_cons_zero, List.set_cons_succ]
                refine Dr.wpB_pure 25 (v := undef) (by simp only [List.getElem?_toArray, List.getElem?_cons_succ, List.getElem?_cons_zero]; rfl) (by kernel_rfl) ?hQ25 (.inr ⟨?hw25, rfl⟩) ?_
                case hQ25 => exact fun _ _ _ h => h
                case hw25 => rfl
                simp only [Act.put, List.setIfInBounds_toArray, List.set_cons_zero, List.set_cons_succ]
                refine Dr.wpB_pure 26 (v := ?v26) (by simp only [List.getElem?_toArray, List.getElem?_cons_succ, List.getElem?_cons_zero]; rfl) (by kernel_rfl) ?hQ26 (.inl ⟨?hw26, fun w' => ?hy26⟩) ?_
                case hy26 => go_simp; try (with_reducible rfl)
                case hQ26 => exact fun _ _ _ h => h
                case hw26 => rfl
                simp only [Act.put, List.setIfInBounds_toArray, List.set_cons_zero, List.set_cons_succ]
                refine Dr.wpB_tail [] (os := []) (by decide) rfl (by kernel_rfl) ?_
                go_wp2_with fail
                go_roundg (ne - (k + 1))
                case measure => have := A2.out.1; omega
                case rel => exact ⟨k + 1, by go_num, by omega, ⟨rfl, HGD.out⟩, satI_weak (C := Sl.block SB TSc [.int .i64 1, .int .i64 (p : Int), .int .i64 (q : Int)]) (by ac_rfl)⟩
          · have hkn' : ¬ (k : Int) < ne := by omega
            have HAL : Aside (∀ u ∈ vl.take (i + 1), verOkC (fileNode file) (cutC O T) u = true) := all_takeV HP.out A.out.2 (by
             rw [HVO3.out, List.all_eq_true]
             have := A2.out.2
             rwa [List.take_of_length_le (by rw [HE.out.2.1]; omega)] at this)
            clear A2
            go_wp2_with fail
            go_roundg (n - (i + 1))
            case measure => have := A.out.1; omega
            case rel => exact ⟨i + 1, by go_num, by omega, ⟨rfl, HAL.out⟩, satI_weak (C := Sl.block KB TLk [.bool true, .int .i64 xh, .slice xE ne dE, .slice xP np dP] * G6) (by ac_rfl)⟩
  · have hlt' : ¬ (i : Int) < n := by omega
    have HAL : Aside (vl.all (verOkC (fileNode file) (cutC O T)) = true) := by
     show _ = _
     rw [List.all_eq_true]
     have := A.out.2
     rwa [List.take_of_length_le (by rw [HB.out.2]; omega)] at this
    go_wp2_with fail
    go_ret
    exact ⟨by rw [HAL.out]; rfl, keep4 _ _ _ _⟩
end Go.Proofs.YtfhbmblbidcmmaaGreat
