/-
  Of all versions the pages that are told are just those of their trees in the file in the form of the document, and a root that is none is refused. No condition. (part 51)
-/
import Derived.Test.YtfhbmblbidcmmaaGreatVa46
import Derived.Test.YtfhbmblbidcmmaaGreatVa50
import Derived.Test.YtfhbmblbidcmmaaGreatVa35
import Derived.Test.YtfhbmblbidcmmaaGreatVa37
import Derived.Test.YtfhbmblbidcmmaaGreatVa44
set_option linter.unusedSimpArgs false
set_option linter.unusedVariables false
namespace Go.Proofs.YtfhbmblbidcmmaaGreat
set_option linter.unusedSimpArgs false
set_option linter.unusedVariables false
open Go.RowKit Go.Sl Go.Dk Go.Tr
attribute [local go_sem ↓] Go.wp_at_zero Go.wp_at_succ
attribute [local go_sem] Go.Sl.cell_sat Go.Sl.frozen_sat
def rpTo (V : Int → Option Nd) (vl : List (Int × Int)) : List Int := vl.foldl (fun o v => (rTree V v.1).pages.foldl withL o) []
theorem foldW_len (l : List Int) : ∀ o : List Int, (l.foldl withL o).length ≤ o.length + l.length := by
 induction l with
 | nil => intro o; simp
 | cons a l ih =>
   intro o
   have h1 := ih (withL o a)
   have h2 := withL_len o a
   rw [List.foldl_cons, List.length_cons]
   omega
theorem foldW_mem (l : List Int) : ∀ (o : List Int) (x : Int), x ∈ l.foldl withL o ↔ x ∈ o ∨ x ∈ l := by
 induction l with
 | nil => intro o x; simp
 | cons a l ih =>
   intro o x
   rw [List.foldl_cons, ih, withL_mem, List.mem_cons, or_assoc]
theorem foldW_up (l : List Int) : ∀ {o : List Int}, o.Pairwise (· < ·) → (l.foldl withL o).Pairwise (· < ·) := by
 induction l with
 | nil => intro o h; exact h
 | cons a l ih => intro o h; exact ih (withL_up h a)
theorem rpTo_snoc {V : Int → Option Nd} {vl : List (Int × Int)} {i : Nat} {v : Int × Int} (h : vl[i]? = some v) : rpTo V (vl.take (i + 1)) = (rTree V v.1).pages.foldl withL (rpTo V (vl.take i)) := by
 unfold rpTo
 rw [List.take_add_one, h, List.foldl_append]
 rfl
theorem rpTo_mem (V : Int → Option Nd) : ∀ (vl : List (Int × Int)) (o : List Int) (x : Int), x ∈ vl.foldl (fun o v => (rTree V v.1).pages.foldl withL o) o ↔ x ∈ o ∨ ∃ v ∈ vl, x ∈ (rTree V v.1).pages
 | [], o, x => by simp
 | v :: vl, o, x => by
   rw [List.foldl_cons, rpTo_mem V vl, foldW_mem, or_assoc]
   simp
theorem rpTo_up (V : Int → Option Nd) : ∀ (vl : List (Int × Int)) {o : List Int}, o.Pairwise (· < ·) → (vl.foldl (fun o v => (rTree V v.1).pages.foldl withL o) o).Pairwise (· < ·)
 | [], o, h => h
 | v :: vl, o, h => rpTo_up V vl (foldW_up _ h)
theorem rising_eq : ∀ {a b : List Int}, a.Pairwise (· < ·) → b.Pairwise (· < ·) → (∀ x, x ∈ a ↔ x ∈ b) → a = b
 | [], [], _, _, _ => rfl
 | [], y :: b, _, _, h => by have := (h y).2 List.mem_cons_self; cases this
 | x :: a, [], _, _, h => by have := (h x).1 List.mem_cons_self; cases this
 | x :: a, y :: b, ha, hb, h => by
   obtain ⟨h1, h2⟩ := List.pairwise_cons.1 ha
   obtain ⟨h3, h4⟩ := List.pairwise_cons.1 hb
   have e : x = y := by
    rcases List.mem_cons.1 ((h x).1 List.mem_cons_self) with e | e
    · exact e
    · rcases List.mem_cons.1 ((h y).2 List.mem_cons_self) with e2 | e2
      · exact e2.symm
      · have := h1 y e2; have := h3 x e; omega
   subst e
   rw [rising_eq h2 h4 fun z => ?_]
   constructor
   · intro hz
     rcases List.mem_cons.1 ((h z).1 (List.mem_cons_of_mem _ hz)) with e | e
     · have := h1 z hz; omega
     · exact e
   · intro hz
     rcases List.mem_cons.1 ((h z).2 (List.mem_cons_of_mem _ hz)) with e | e
     · have := h3 z hz; omega
     · exact e
def RpOut (V : Int → Option Nd) (vl : List (Int × Int)) (F : Assn) (e : Ending) (w' : World) : Prop :=
 ((∀ v ∈ vl, (rTree V v.1).ok = true) ∧ ∃ (a : Option Addr) (c : Nat), e = .returned (.tuple #[.slice a (rpTo V vl).length c, .bool true]) ∧ Sat (rw TIn 1 (.slice a (rpTo V vl).length c) (ints (rpTo V vl)) * F) w') ∨
 ((∃ v ∈ vl, (rTree V v.1).ok = false) ∧ e = .returned (.tuple #[.slice none 0 0, .bool false]) ∧ Sat F w')
set_option maxRecDepth 100000 in
set_option maxHeartbeats 6400000 in
theorem rp18_any (file : List UInt8) (vf v : Value) (vl : List (Int × Int)) (Bf B F : Assn) (w : World) (hf : Reads Bf vf file) (hfl : file.length ≤ 1099511627776) (hB : ReadsR 2 B v vl.length (rgs vl)) (hl : vl.length ≤ 64) (hs : Sat (Bf * (B * F)) w) :
 Calls Tryz.prog 58 #[vf, v] w (RpOut (fileNode file) vl (Bf * (B * F))) := by
 obtain ⟨_, av, cv, rfl, hcv1, hcv2, _⟩ := id hB
 obtain ⟨n, hn⟩ : ∃ n, vl.length = n := ⟨_, rfl⟩
 have HB : Aside (ReadsR 2 B (.slice av n cv) n (rgs vl) ∧ vl.length = n) := (by rw [← hn]; exact ⟨hB, rfl⟩ : _)
 rw [hn] at hl hcv1 ⊢
 have HT : Aside (∀ (r : Int) F w, Sat (Bf * F) w → Calls Tryz.prog 16 #[vf, .int .i64 r] w (LkOut Bf F (rTree (fileNode file) r)) ∧ (rTree (fileNode file) r).pages.length ≤ 1037) := fun r F w q => ⟨r14tree_any file vf Bf r F w hf hfl q, by
  have h1 := rTree_ok (V := fileNode file) (fun p n h => fileNode_may h) r
  have := h1.pages
  have := h1.ents
  omega⟩
 have h0 := Sat.rw_nil (e := TIn) (s := 1) hs
 haveI := h0.i
 clear hB hn hf hs
 go_enter Tryz.func58, Tryz.ntmps58
 go_wp2_with fail
 go_loopg [7, 6] n (fun g t7 t6 wr => ∃ (i k : Nat) (o : List Int) (a2 : Option Addr) (c2 : Nat), t7 = .int .i64 i ∧ t6 = .slice a2 k c2 ∧ i ≤ n ∧ k ≤ 1037 * i ∧ Aside (g = n - i ∧ o = rpTo (fileNode file) (vl.take i) ∧ o.length = k ∧ ∀ u ∈ vl.take i, (rTree (fileNode file) u.1).ok = true) ∧ Sat (rw TIn 1 (.slice a2 k c2) (ints o) * (Bf * (B * F))) wr)
 case atStart => exact ⟨0, 0, [], none, 0, rfl, rfl, by omega, by omega, ⟨rfl, rfl, rfl, by simp⟩, h0⟩
 case round =>
  obtain ⟨i, k, o, a2, c2, rfl, rfl, hi, hk, A, q1⟩ := hrel
  clear h0
  haveI := q1.i
  by_cases hlt : i < n
  · have hlt' : (i : Int) < n := by omega
    have hki : 1037 * i ≤ 1037 * 64 := Nat.mul_le_mul_left _ (by omega)
    obtain ⟨⟨r, by_⟩, hp⟩ : ∃ p, vl[i]? = some p := ⟨_, List.getElem?_eq_getElem (by rw [HB.out.2]; exact hlt)⟩
    obtain ⟨b1, o1, ha1, r1⟩ := ReadsR.at HB.out.1 (i * 2) (.int .i64 r) (rgs_at hp 0 (by omega))
    subst ha1
    have HP : Aside (vl[i]? = some (r, by_)) := hp
    have htr := fun F w q => (HT.out r F w q).1
    obtain ⟨x, hx⟩ : ∃ x, rTree (fileNode file) r = x := ⟨_, rfl⟩
    have HX : Aside (rTree (fileNode file) r = x ∧ x.pages.length ≤ 1037) := ⟨hx, by rw [← hx]; exact (HT.out r _ wr (q1.take Bf)).2⟩
    rw [hx] at htr
    have HTR : Aside (∀ F w, Sat (Bf * F) w → Calls Tryz.prog 16 #[vf, .int .i64 r] w (LkOut Bf F x)) := htr
    clear hp htr hx
    go_wp2_with fail
    with_reducible refine Calls.mono (HTR.out _ _ (takeI Bf)) ?_
    rintro e w3 ⟨v6, G6, rfl, hL6, q3⟩
    obtain ⟨vE, vP, rfl, hE6, hP6⟩ := hL6
    obtain ⟨_, xP, dP, rfl, hP1, hP2, _⟩ := id hP6
    obtain ⟨xE, dE, rfl, hE1, hE2⟩ := hE6.v
    obtain ⟨xo, xh, xe, xp⟩ := x
    have hxp := HX.out.2
    simp only at hP6 hP1 hxp hE1
    obtain ⟨ne, hne⟩ : ∃ z, xe.length = z := ⟨_, rfl⟩
    obtain ⟨np, hnp⟩ : ∃ z, xp.length = z := ⟨_, rfl⟩
    have HI : Aside (ReadsR 1 G6 (.slice xP np dP) np (icv xp) ∧ xp.length = np) := (by rw [← hnp]; exact ⟨hP6, rfl⟩ : _)
    simp only [hnp, hne] at q3 ⊢
    rw [hne] at hE1
    rw [hnp] at hP1 hxp
    obtain ⟨T, hT⟩ : ∃ z, w3.heap.size = z := ⟨_, rfl⟩
    haveI := q3.i
    clear hE6 hP6 hnp hne HTR q1
    cases xo with
    | false =>
      have HNO : Aside (∃ u ∈ vl, (rTree (fileNode file) u.1).ok = false) := ⟨_, List.mem_of_getElem? HP.out, by rw [HX.out.1]⟩
      go_wp2
      go_ret2
      exact .inr ⟨HNO.out, rfl, keep3 _ _ _⟩
    | true =>
      go_wp2_with fail
      have q4 : Sat (rw TIn 1 (.slice a2 k c2) (ints ((xp.take 0).foldl withL o)) * (Sl.block T TLk [.bool true, .int .i64 xh, .slice xE ne dE, .slice xP np dP] * (G6 * (Bf * (B * F))))) (w3.alloc (.cells #[.bool true, .int .i64 xh, .slice xE ne dE, .slice xP np dP] TLk)) := by
       rw [← hT]
       show Sat (rw TIn 1 (.slice a2 k c2) (ints o) * _) _
       exact satI_eq (by ac_rfl)
      try rw [hT]
      generalize w3.alloc (.cells #[.bool true, .int .i64 xh, .slice xE ne dE, .slice xP np dP] TLk) = wq at q4 ⊢
      clear hT q3 this
      haveI := q4.i
      go_loopg [9, 6] np (fun g t9 t6 wr => ∃ (j k2 : Nat) (a3 : Option Addr) (c3 : Nat), t9 = .int .i64 j ∧ t6 = .slice a3 k2 c3 ∧ j ≤ np ∧ k2 ≤ k + j ∧ Aside (g = np - j ∧ ((xp.take j).foldl withL o).length = k2) ∧ Sat (rw TIn 1 (.slice a3 k2 c3) (ints ((xp.take j).foldl withL o)) * (Sl.block T TLk [.bool true, .int .i64 xh, .slice xE ne dE, .slice xP np dP] * (G6 * (Bf * (B * F))))) wr)
      case atStart => exact ⟨0, k, a2, c2, rfl, rfl, by omega, by omega, ⟨rfl, A.out.2.2.1⟩, q4⟩
      case round =>
       obtain ⟨j, k2, a3, c3, rfl, rfl, hj, hk2, A2, q5⟩ := hrel
       clear q4
       haveI := q5.i
       by_cases hjn : j < np
       · have hjn' : (j : Int) < np := by omega
         obtain ⟨y, hy⟩ : ∃ y, xp[j]? = some y := ⟨_, List.getElem?_eq_getElem (by rw [HI.out.2]; exact hjn)⟩
         obtain ⟨b2, o2, ha2, r2⟩ := ReadsR.at HI.out.1 j (.int .i64 y) (by unfold icv; rw [List.getElem?_map, hy]; rfl)
         subst ha2
         obtain ⟨oj, hoj⟩ : ∃ z, (xp.take j).foldl withL o = z := ⟨_, rfl⟩
         have HOJ : Aside ((xp.take (j + 1)).foldl withL o = withL oj y ∧ oj.length = k2 ∧ (withL oj y).length ≤ k2 + 1) := ⟨by rw [← hoj, List.take_add_one, hy, List.foldl_append]; rfl, by rw [← hoj]; exact A2.out.2, by have := withL_len oj y; rw [← hoj, A2.out.2] at this; rw [← hoj]; exact this⟩
         rw [hoj] at q5
         have hw := fun F w q => rwith_any a3 c3 oj y F w q (by rw [HOJ.out.2.1]; omega)
         rw [HOJ.out.2.1] at hw
         obtain ⟨k3, hk3⟩ : ∃ z, (withL oj y).length = z := ⟨_, rfl⟩
         have hk3b : k3 ≤ k2 + 1 := by rw [← hk3]; exact HOJ.out.2.2
         have HK3 : Aside ((withL oj y).length = k3) := hk3
         rw [hk3] at hw
         have HW : Aside (∀ (F : Assn) w, Sat (rw TIn 1 (.slice a3 k2 c3) (ints oj) * F) w → Calls Tryz.prog 123 #[.slice a3 k2 c3, .int .i64 y] w fun e w' => ∃ (a' : Option Addr) (c' : Nat), e = .returned (.slice a' k3 c') ∧ Sat (rw TIn 1 (.slice a' k3 c') (ints (withL oj y)) * F) w') := hw
         haveI := q5.i
         clear hy hoj hw hk3
         go_wp2_with fail
         with_reducible refine Calls.mono (HW.out _ _ (takeI (rw TIn 1 (.slice a3 k2 c3) (ints oj)))) ?_
         rintro e w7 ⟨a7, c7, rfl, q7⟩
         haveI := q7.i
         clear q5
         go_wp2_with fail
         go_roundg (np - (j + 1))
         case measure => have := A2.out.1; omega
         case rel => exact ⟨j + 1, k3, a7, c7, by go_num, rfl, by omega, by omega, ⟨rfl, by rw [HOJ.out.1]; exact HK3.out⟩, by rw [HOJ.out.1]; exact keep5 _ _ _ _ _⟩
       · have hjn' : ¬ (j : Int) < np := by omega
         obtain rfl : j = np := by omega
         rw [List.take_of_length_le (by rw [HI.out.2]; exact Nat.le_refl _)] at q5
         have HA2 : Aside ((xp.foldl withL o).length = k2) := by have := A2.out.2; rwa [List.take_of_length_le (by rw [HI.out.2]; exact Nat.le_refl _)] at this
         haveI := q5.i
         clear A2
         go_wp2_with fail
         go_roundg (n - (i + 1))
         case measure => have := A.out.1; omega
         case rel =>
          refine ⟨i + 1, k2, xp.foldl withL o, a3, c3, by go_num, rfl, by omega, by omega, ⟨rfl, ?_, HA2.out, ?_⟩, keep4 _ _ _ _⟩
          · rw [rpTo_snoc HP.out, HX.out.1, A.out.2.1]
          · intro u hu
            rw [take_snoc' HP.out] at hu
            rcases List.mem_append.1 hu with hu | hu
            · exact A.out.2.2.2 u hu
            · rw [List.mem_singleton.1 hu, HX.out.1]
  · have hlt' : ¬ (i : Int) < n := by omega
    obtain rfl : i = n := by omega
    have htk : vl.take i = vl := List.take_of_length_le (by rw [HB.out.2]; exact Nat.le_refl _)
    have HE : Aside (o = rpTo (fileNode file) vl ∧ o.length = k ∧ ∀ u ∈ vl, (rTree (fileNode file) u.1).ok = true) := by
     have := A.out
     rw [htk] at this
     exact this.2
    clear A htk
    go_wp2
    go_ret2
    refine .inl ⟨HE.out.2.2, a2, c2, by rw [← HE.out.1, HE.out.2.1]; rfl, ?_⟩
    rw [← HE.out.1, HE.out.2.1]
    exact keep4 _ _ _ _
end Go.Proofs.YtfhbmblbidcmmaaGreat
namespace Go.Proofs.YtfhbmblbidcmmaaGreat
set_option linter.unusedSimpArgs false
set_option linter.unusedVariables false
open Go.RowKit Go.Sl Go.Dk Go.Tr
def aw18O : List UInt8 := [97, 98, 10, 99, 100]
def aw18T : List UInt8 := [120]
def viewS (s : Ck) (p : Int) : Option Nd := if p < 1 then none else match pget p s.pgs with | some b => openNd p b | none => none
def aw18B (r : Int) (s : TS) : Bool := decide (r = 1) && ((s.ck.d.get nmS).isNone && (decide ((s.ck.its.length : Int) < s.ck.cap) && (decide (s.ck.pgs.map (·.1) = [1]) && ((rTree (viewS s.ck) 1).ok && (decide ((rTree (viewS s.ck) 1).pages = [1]) && ((rTree (viewS s.ck) 1).ents.map fun e => (e.src, e.pos, e.len, e.lines)) == [(0, 0, 5, -1)])))))
set_option maxRecDepth 1000000
theorem aw18_run : (match mBuild [⟨0, 0, 5, -1⟩] (tsL aw18O aw18T 7) with | .ok r s => aw18B r s | _ => false) = true := by kernel_rfl
theorem pget_key {p : Int} {b : List UInt8} : ∀ {l : Pgs}, pget p l = some b → p ∈ l.map (·.1)
 | [], h => by cases h
 | x :: l, h => by
   unfold pget at h
   split at h
   · next e => rw [e]; simp
   · exact List.mem_cons_of_mem _ (pget_key h)
theorem fine_other {d : Dk} {nm n : ByteArray} (h : Fine d nm) (hn : Dk.named n = true) (hs : (d.get n).isSome = true) : Fine d n := ⟨h.down, h.armed, hn, by have := h.nf; rw [hs]; simp only [if_true]; omega⟩
structure Aw18 (s : TS) (V : Int → Option Nd) : Prop where
 run : mBuild [⟨0, 0, 5, -1⟩] (tsL aw18O aw18T 7) = .ok 1 s
 rdy : Rdy V 60000000 s
 fine : Fine s.ck.d nmO ∧ Fine s.ck.d nmT
 tree : rTree V 1 = ⟨true, (rTree V 1).height, [⟨0, 0, 5, -1⟩], [1]⟩
 view : ∀ p n, V p = some n → 1 ≤ p ∧ p < 1048576 ∧ may n = true ∧ p ∈ [(1 : Int)]
 cutO : fnow s.ck.d nmO = aw18O
theorem aw18_facts : ∃ s V, Aw18 s V := by
 have hI := tsL_inv aw18O aw18T 7 (by decide) (by decide) (by omega) (by omega)
 have hr0 := tsL_room aw18O aw18T 7
 have hf0 : 66000000 ≤ leftOps (tsL aw18O aw18T 7) := by decide +kernel
 have hrun := aw18_run
 have hm : mayList [⟨0, 0, 5, -1⟩] = true := by decide +kernel
 have hj : ¬ 1024 < (join [⟨0, 0, 5, -1⟩]).length := by decide +kernel
 obtain ⟨r, s', hx, h1, h2, h3, h4, h5, h6⟩ := step_get (build_ok (envT_ok true) (s := tsL aw18O aw18T 7) hI (fit_join hm hj)) (by show 2048 ≤ roomOf _; rw [hr0]; omega) (by show 2048 ≤ leftOps _; omega)
 have hx' : tBuild tWrite (join [⟨0, 0, 5, -1⟩]) (tsL aw18O aw18T 7) = .ok r s' := hx
 have hM : mBuild [⟨0, 0, 5, -1⟩] (tsL aw18O aw18T 7) = .ok r s' := by unfold mBuild; rw [if_neg (by rw [hm]; decide), if_neg hj, hx']; rfl
 have hcap := Keeps.ok (tBuild_keeps sameCap_goes tWrite_cap (join [⟨0, 0, 5, -1⟩])) hx'
 rw [hM] at hrun
 unfold aw18B at hrun
 simp only [Bool.and_eq_true, decide_eq_true_eq] at hrun
 obtain ⟨rfl, g1, g2, g3, g4, g5, g6⟩ := hrun
 have g1' : s'.ck.d.get nmS = none := by simpa using g1
 have hnm : s'.ck.nm = nmS := hcap.nm
 have hoth : ∀ n, n ≠ nmS → s'.ck.d.get n = (dkOT aw18O aw18T).get n := hcap.oth
 have hO : s'.ck.d.get nmO = some ⟨aw18O, aw18O, true⟩ := by rw [hoth nmO nmSO.symm]; exact get_O _ _
 have hT : s'.ck.d.get nmT = some ⟨aw18T, aw18T, true⟩ := by rw [hoth nmT nmST.symm]; exact get_T _ _
 have hview : ∀ p n, viewS s'.ck p = some n → 1 ≤ p ∧ p < 1048576 ∧ may n = true ∧ p ∈ [(1 : Int)] := by
  intro p n hp
  unfold viewS at hp
  split at hp
  · cases hp
  · split at hp
    · next b hb =>
      have hk := pget_key hb
      rw [g3] at hk
      have e : p = 1 := by simpa using hk
      exact ⟨by omega, by omega, openNd_may hp, hk⟩
    · cases hp
 refine ⟨s', viewS s'.ck, hM, ⟨h1.ts, h1.good.pf, h1.good.fine.down, .inr ⟨by rw [hnm]; exact g1', g2, fun p => rfl⟩, by have : leftOps (tsL aw18O aw18T 7) ≤ leftOps s' + (0 + 2048) := h5; omega⟩, ⟨fine_other h1.good.fine (by decide +kernel) (by rw [hO]; rfl), fine_other h1.good.fine (by decide +kernel) (by rw [hT]; rfl)⟩, ?_, hview, by unfold fnow; rw [hO]; rfl⟩
 obtain ⟨x, hx⟩ : ∃ x, rTree (viewS s'.ck) 1 = x := ⟨_, rfl⟩
 rw [hx] at g4 g5 g6 ⊢
 obtain ⟨ok, ht, es, ps⟩ := x
 simp only at g4 g5 g6
 have g7 := eq_of_beq g6
 have hes : es = [⟨0, 0, 5, -1⟩] := by
  have e : (es.map fun e : Ent => (e.src, e.pos, e.len, e.lines)).map (fun t : Int × Int × Int × Int => (⟨t.1, t.2.1, t.2.2.1, t.2.2.2⟩ : Ent)) = es := by
   rw [List.map_map]
   exact List.map_id'' (fun _ => rfl) es
  rw [g7] at e
  exact e.symm
 rw [g4, g5, hes]
end Go.Proofs.YtfhbmblbidcmmaaGreat
namespace Go.Proofs.YtfhbmblbidcmmaaGreat
set_option linter.unusedSimpArgs false
set_option linter.unusedVariables false
set_option linter.unusedSectionVars false
open Go.RowKit Go.Sl Go.Dk Go.Tr
attribute [local go_sem ↓] Go.wp_at_zero Go.wp_at_succ
attribute [local go_sem] Go.Sl.cell_sat Go.Sl.frozen_sat
end Go.Proofs.YtfhbmblbidcmmaaGreat
