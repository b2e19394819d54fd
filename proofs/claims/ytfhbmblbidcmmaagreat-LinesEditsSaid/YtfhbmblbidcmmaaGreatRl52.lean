/-
  Walks and plain laws that the lines of texts lean on. No condition (part 52)
-/
import Derived.Test.YtfhbmblbidcmmaaGreatRl50
import Derived.Test.YtfhbmblbidcmmaaGreatRl51
set_option linter.unusedSimpArgs false
set_option linter.unusedVariables false
namespace Go.Proofs.YtfhbmblbidcmmaaGreat
set_option linter.unusedSimpArgs false
set_option linter.unusedVariables false
set_option linter.unusedSectionVars false
open Go.RowKit Go.Sl Go.Dk Go.Tr
open Go.Lru (ikey)
attribute [local go_sem ↓] Go.wp_at_zero Go.wp_at_succ
attribute [local go_sem] Go.Sl.cell_sat Go.Sl.frozen_sat
theorem join_len (l : List Ent) : (join l).length ≤ l.length := by
 have key : ∀ (l o : List Ent), (l.foldl joinTo o).length ≤ o.length + l.length := by
  intro l
  induction l with
  | nil => intro o; simp
  | cons x l ih =>
    intro o
    rw [List.foldl_cons, List.length_cons]
    have h1 := ih (joinTo o x)
    have h2 := joinTo_len o x
    omega
 have := key l []
 simpa [join] using this
theorem buildR_ok {l : List Ent} (hm : mayList l = true) (hl : l.length ≤ 1000) : buildR l = (0, join l) := by
 unfold buildR
 have := join_len l
 rw [if_neg (by rw [hm]; simp), if_neg (by omega)]
theorem build15 (H : Lh) (O T : List UInt8) (s : TS) (x : Ix) (l : List Ent) (v : Value) (B F : Assn) (w : World) (hE : ReadsE B v l) (hs : Sat (linesP H O T s x * (B * F)) w) (hI : LnI O T s x) (hm : mayList l = true) (hl : l.length ≤ 1000) (hr : 2048 ≤ roomOf s.sp) (hf : 2048 ≤ leftOps s) :
 Calls Tryz.prog 23 #[.pointer (some ⟨H.h.t, 0, none⟩), v] w fun e w' => ∃ (r : Int) (s' : TS), e = .returned (vi2 r 0) ∧ Sat (linesP H O T s' x * (B * F)) w' ∧ LnI O T s' x ∧ Nxt s s' 0 2048 ∧ Rt (nodeAt s') r (join l) := by
 rw [lines_tr] at hs
 have hs2 : Sat (treeP H.h s * (B * (Sl.block H.L TLn [.pointer (some ⟨H.h.t, 0, none⟩), .pointer (some ⟨H.X, 0, none⟩), .pointer (some ⟨H.A, 0, none⟩)] * (indexA H.X H.M H.h.D O.length x * (tailA H.A H.h.D T.length * F))))) w := hs.eq (by ac_rfl)
 refine (bld_any H.h s l v B _ w hE hs2 hI.inv (by omega) hr hf).mono ?_
 rintro e w' ⟨r, s', e1, q, hn, h1, h2⟩
 rw [buildR_ok hm hl] at e1 h1
 refine ⟨r, s', e1, ?_, hI.nxt hn, hn, h1 rfl⟩
 rw [lines_tr]
 exact q.eq (by ac_rfl)
theorem readsEB (l : List Ent) (b : Nat) (h : l.length ≤ 1000) : ReadsE (Sl.block b TEn (ecs l)) (.slice (some ⟨b, 0, none⟩) l.length l.length) l := by
 refine ⟨ecs_len l, _, _, rfl, Nat.le_refl _, by omega, fun j u hj => ⟨b, 0, rfl, ?_⟩⟩
 haveI : At (ecs l) j u := ⟨hj⟩
 rw [Nat.zero_add]
 infer_instance
def aw15O : List UInt8 := [97, 10, 98]
def aw15T : List UInt8 := [10]
def aw15L : List Ent := [⟨0, 0, 2, -1⟩, ⟨1, 0, 1, 1⟩, ⟨0, 2, 1, -1⟩]
theorem aw15_join : join aw15L = aw15L := by decide +kernel
theorem aw15_may : mayList aw15L = true := by decide +kernel
theorem aw15_text : textE aw15O aw15T aw15L = [97, 10, 10, 98] := by decide +kernel
theorem aw15_rt : ∀ y ∈ aw15L, RtE aw15O aw15T y := by
 intro y hy
 simp only [aw15L, List.mem_cons, List.not_mem_nil, or_false] at hy
 rcases hy with rfl | rfl | rfl
 · exact ⟨by decide, by decide, by decide, .inl rfl⟩
 · exact ⟨by decide, by decide, by decide, .inr (by decide)⟩
 · exact ⟨by decide, by decide, by decide, .inl rfl⟩
set_option maxRecDepth 100000 in
set_option maxHeartbeats 6400000 in
theorem awake15_any (F : Assn) (w : World) (hs : Sat F w) : Calls Tryz.prog 18 #[] w fun e w' => e = .returned (.bool true) ∧ Sat F w' := by
 obtain ⟨N, hN⟩ : ∃ N, w.heap.size = N := ⟨_, rfl⟩
 have hset := fun w q => set15_any aw15O aw15T (.slice (some ⟨N, 0, none⟩) 3 3) (.slice (some ⟨N + 1, 0, none⟩) 1 1) 4 (Sl.block N TB (bys aw15O) * Sl.block (N + 1) TB (bys aw15T)) F w (Reads.left (Reads.block0 (l := aw15O) (by decide))) (Reads.right (Reads.block0 (l := aw15T) (by decide))) q (by decide) (by decide) (by omega) (by omega)
 have hI0 := lnI0 aw15O aw15T 4 (by decide) (by decide) (by omega) (by omega)
 have hr0 := tsL_room aw15O aw15T 4
 have hf0 : 1000000 ≤ leftOps (tsL aw15O aw15T 4) := by decide +kernel
 obtain ⟨s0, hs0⟩ : ∃ s0, tsL aw15O aw15T 4 = s0 := ⟨_, rfl⟩
 rw [hs0] at hset hI0 hr0 hf0
 have HI : Aside (LnI aw15O aw15T s0 ix0 ∧ roomOf s0.sp = 64999 ∧ 1000000 ≤ leftOps s0) := ⟨hI0, hr0, hf0⟩
 have q0 : Sat ((Sl.block N TB (bys aw15O) * Sl.block (N + 1) TB (bys aw15T)) * F) ((w.alloc (.cells #[.int .u8 97, .int .u8 10, .int .u8 98] TB)).alloc (.cells #[.int .u8 10] TB)) := by
  subst hN
  have h1 := (hs.alloc #[.int .u8 97, .int .u8 10, .int .u8 98] TB).alloc #[.int .u8 10] TB
  have e : (w.alloc (.cells #[.int .u8 97, .int .u8 10, .int .u8 98] TB)).heap.size = w.heap.size + 1 := by simp
  rw [e] at h1
  refine h1.eq ?_
  show Sl.block (w.heap.size + 1) TB [.int .u8 10] * (Sl.block w.heap.size TB [.int .u8 97, .int .u8 10, .int .u8 98] * F) = (Sl.block w.heap.size TB [.int .u8 97, .int .u8 10, .int .u8 98] * Sl.block (w.heap.size + 1) TB [.int .u8 10]) * F
  ac_rfl
 have hset2 := hset _ q0
 haveI := hs.i
 clear hset hs0 hI0 hr0 hf0 q0
 go_enter Tryz.func18, Tryz.ntmps18
 go_wp2_with fail
 refine hset2.mono ?_
 rintro e w1 ⟨b, H, rfl, q1⟩
 unfold benchA at q1
 obtain ⟨BB, hBB⟩ : ∃ BB, Sl.block N TB (bys aw15O) * Sl.block (N + 1) TB (bys aw15T) = BB := ⟨_, rfl⟩
 rw [hBB] at q1
 haveI := q1.i
 clear hset2 hBB
 go_wp2_with fail
 have q2 : Sat (linesP H aw15O aw15T s0 ix0 * (Sl.block w1.heap.size TEn (ecs aw15L) * (Sl.block b TB15 [.pointer (some ⟨H.h.D, 0, none⟩), .pointer (some ⟨H.h.C, 0, none⟩), .pointer (some ⟨H.h.t, 0, none⟩), .pointer (some ⟨H.X, 0, none⟩), .pointer (some ⟨H.L, 0, none⟩)] * F))) (w1.alloc (.cells #[.int .i64 0, .int .i64 0, .int .i64 2, .int .i64 (-1), .int .i64 1, .int .i64 0, .int .i64 1, .int .i64 1, .int .i64 0, .int .i64 2, .int .i64 1, .int .i64 (-1)] TEn)) := by
  show Sat (linesP H aw15O aw15T s0 ix0 * (Sl.block w1.heap.size TEn [.int .i64 0, .int .i64 0, .int .i64 2, .int .i64 (-1), .int .i64 1, .int .i64 0, .int .i64 1, .int .i64 1, .int .i64 0, .int .i64 2, .int .i64 1, .int .i64 (-1)] * _)) _
  exact satI_weak (C := BB) (by ac_rfl)
 refine (build15 H aw15O aw15T s0 ix0 aw15L _ _ _ _ (readsEB aw15L w1.heap.size (by decide)) q2 HI.out.1 aw15_may (by decide) (by have := HI.out; omega) (by have := HI.out; omega)).mono ?_
 rintro e w2 ⟨r, s1, rfl, q3, i1, n1, rt1⟩
 rw [aw15_join] at rt1
 have H1 : Aside (LnI aw15O aw15T s1 ix0 ∧ Rt (nodeAt s1) r aw15L ∧ 900000 ≤ leftOps s1) := ⟨i1, rt1, by have := HI.out; have := n1.left; omega⟩
 haveI := q3.i
 clear q1 q2 i1 n1 rt1
 unfold vi2
 go_wp2_with fail
 have hc := fun F w q => lcount_any H aw15O aw15T s1 ix0 r aw15L F w q H1.out.1 H1.out.2.1 aw15_rt (by have := H1.out; omega)
 rw [aw15_text] at hc
 have e2 : endsC [97, 10, 10, 98] = 2 := by decide
 rw [e2] at hc
 refine (hc _ _ (takeI (linesP H aw15O aw15T s1 ix0))).mono ?_
 rintro e w3 ⟨s2, rfl, q4, n2⟩
 obtain ⟨x2, hx2⟩ : ∃ x2, ixList aw15O ix0 aw15L = x2 := ⟨_, rfl⟩
 rw [hx2] at q4
 have H2 : Aside (LnI aw15O aw15T s2 x2 ∧ Rt (nodeAt s2) r aw15L ∧ 800000 ≤ leftOps s2) := ⟨(H1.out.1.nxt n2).at (by rw [← hx2]; exact ixList_ok H1.out.1.ix aw15_rt), H1.out.2.1.le n2.le, by have := H1.out; have := n2.left; omega⟩
 haveI := q4.i
 clear q3 hc n2 hx2
 go_wp2_with fail
 refine (line_any H aw15O aw15T s2 x2 r 3 aw15L _ _ (takeI (linesP H aw15O aw15T s2 x2)) H2.out.1 H2.out.2.1 aw15_rt (by have := H2.out; omega)).mono ?_
 rintro e w4 ⟨n3, er3, s3, x3, rfl, q5, i3, nx3, ok3⟩
 rw [aw15_text] at ok3
 have hok3 : er3 = 0 ∧ n3 = 2 := by
  unfold LineOk at ok3
  rw [if_neg (by simp)] at ok3
  exact ⟨ok3.1, by rw [ok3.2]; decide⟩
 obtain ⟨rfl, rfl⟩ := hok3
 have H3 : Aside (LnI aw15O aw15T s3 x3 ∧ Rt (nodeAt s3) r aw15L ∧ 700000 ≤ leftOps s3) := ⟨i3, H2.out.2.1.le nx3.le, by have := H2.out; have := nx3.left; omega⟩
 haveI := q5.i
 clear q4 i3 nx3 ok3
 unfold lineV
 go_wp2_with fail
 refine (start_any H aw15O aw15T s3 x3 r 2 aw15L _ _ (takeI (linesP H aw15O aw15T s3 x3)) H3.out.1 H3.out.2.1 aw15_rt (by have := H3.out; omega) (by omega)).mono ?_
 rintro e w5 ⟨n4, er4, s4, x4, rfl, q6, i4, nx4, ok4⟩
 rw [aw15_text] at ok4
 have hok4 : n4 = 3 ∧ er4 = 0 := by
  have e4 : startI [97, 10, 10, 98] 2 = 3 := by decide
  unfold StartOk at ok4
  rw [e4, if_neg (by omega)] at ok4
  exact ok4
 obtain ⟨rfl, rfl⟩ := hok4
 have H4 : Aside (LnI aw15O aw15T s4 x4 ∧ Rt (nodeAt s4) r aw15L ∧ 600000 ≤ leftOps s4) := ⟨i4, H3.out.2.1.le nx4.le, by have := H3.out; have := nx4.left; omega⟩
 haveI := q6.i
 clear q5 i4 nx4 ok4
 unfold lineV
 go_wp2_with fail
 refine (start_any H aw15O aw15T s4 x4 r 3 aw15L _ _ (takeI (linesP H aw15O aw15T s4 x4)) H4.out.1 H4.out.2.1 aw15_rt (by have := H4.out; omega) (by omega)).mono ?_
 rintro e w6 ⟨n5, er5, s5, x5, rfl, q7, i5, nx5, ok5⟩
 rw [aw15_text] at ok5
 have hok5 : n5 = 0 ∧ er5 = 2 := by
  have e4 : startI [97, 10, 10, 98] 3 = -1 := by decide
  unfold StartOk at ok5
  rw [e4, if_pos (by omega)] at ok5
  exact ok5
 obtain ⟨rfl, rfl⟩ := hok5
 haveI := q7.i
 clear q6 i5 nx5 ok5
 unfold lineV
 go_wp2
 go_ret
 exact ⟨rfl, keep1 F⟩
end Go.Proofs.YtfhbmblbidcmmaaGreat
