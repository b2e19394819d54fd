/-
  Of all versions the pages that are told are just those of their trees in the file in the form of the document, and a root that is none is refused. No condition. (part 36)
-/
import Derived.Test.YtfhbmblbidcmmaaGreatVa32
import Derived.IntWalk
import Derived.WalkLawsBesides
set_option linter.unusedSimpArgs false
set_option linter.unusedVariables false
namespace Go.Tr
def rootedK {σ : Type} (rd : Int → M σ Nd) (k : Kd) (f : Nat) (n : Nd) (h : Int) : M σ Tall := M.bind (rootedTo rd f n h) fun h => M.pure ⟨k, h⟩
theorem rk_leaf {σ : Type} {rd : Int → M σ Nd} {k : Kd} {n : Nd} (hl : n.leaf = true) (f : Nat) (h : Int) (s : σ) : rootedK rd k f n h s = .ok ⟨k, h⟩ s := by
 unfold rootedK M.bind
 cases f <;> (unfold rootedTo; rw [if_pos hl]; rfl)
theorem rk_zero {σ : Type} {rd : Int → M σ Nd} {k : Kd} {n : Nd} (hl : n.leaf = false) (h : Int) (s : σ) : rootedK rd k 0 n h s = .fault 13 s := by
 unfold rootedK M.bind rootedTo
 rw [if_neg (by rw [hl]; exact Bool.false_ne_true)]
 rfl
theorem rk_nil {σ : Type} {rd : Int → M σ Nd} {k : Kd} {n : Nd} (hl : n.leaf = false) (hk : n.kids = []) (f : Nat) (h : Int) (s : σ) : rootedK rd k (f + 1) n h s = .bad := by
 unfold rootedK M.bind rootedTo
 rw [if_neg (by rw [hl]; exact Bool.false_ne_true), hk]
 rfl
theorem rk_step {σ : Type} {rd : Int → M σ Nd} {k : Kd} {n : Nd} {z : Kd} {zs : List Kd} (hl : n.leaf = false) (hk : n.kids = z :: zs) (f : Nat) (h : Int) (s : σ) : rootedK rd k (f + 1) n h s = M.bind (rd z.page) (fun m => rootedK rd k f m (h + 1)) s := by
 unfold rootedK
 rw [rootedTo]
 rw [if_neg (by rw [hl]; exact Bool.false_ne_true), hk]
 unfold M.bind
 simp only
 cases rd z.page s <;> rfl
end Go.Tr
namespace Go.Proofs.YtfhbmblbidcmmaaGreat
set_option linter.unusedSimpArgs false
set_option linter.unusedVariables false
open Go.RowKit Go.Sl Go.Dk Go.Tr
attribute [local go_sem ↓] Go.wp_at_zero Go.wp_at_succ
attribute [local go_sem] Go.Sl.cell_sat Go.Sl.frozen_sat
set_option maxRecDepth 100000 in
set_option maxHeartbeats 3200000 in
theorem rooted_any (h : Th) (s : TS) (root : Int) (F : Assn) (w : World) (hs : Sat (treeP h s * F) w) (hnb : tRooted tRead root s ≠ .bad) :
 Calls Tryz.prog 96 #[.pointer (some ⟨h.t, 0, none⟩), .int .i64 root] w (TEnds h F (tRooted tRead root s) TallR) := by
 obtain ⟨R, hR⟩ : ∃ R, tRooted tRead root s = R := ⟨_, rfl⟩
 rw [hR] at hnb ⊢
 have HB : Aside (R ≠ .bad) := hnb
 clear hnb
 unfold tRooted at hR
 haveI := hs.i
 by_cases h0 : root = 0
 · rw [if_pos h0] at hR
   have hRR : R = .ok noTall s := hR.symm
   subst hRR
   subst h0
   clear hR HB
   go_enter Tryz.func96, Tryz.ntmps96
   go_wp2_with fail
   with_reducible refine Calls.mono (none_any _ _ (takeI (treeP h s))) ?_
   rintro e w2 ⟨rfl, q2⟩
   haveI := q2.i
   unfold tallV noTall kd0
   go_wp2
   go_returns
   exact ⟨_, 1, rfl, ⟨rfl, rfl⟩, by rw [one_sep]; exact keep2 _ _⟩
 · rw [if_neg h0] at hR
   have HR : Aside (M.bind (tRead root) (fun n => rootedK tRead (kdOf root n) 20 n 0) s = R) := hR
   obtain ⟨m, hm⟩ : ∃ m, tRead root s = m := ⟨_, rfl⟩
   have hn := bind_nb HR.out HB.out
   have hrd := fun F w q n => tread_any h s root F w q n
   rw [hm] at hn hrd
   have HM : Aside (tRead root s = m) := hm
   clear hR hm
   go_enter Tryz.func96, Tryz.ntmps96
   go_wp2_with fail
   with_reducible refine Calls.mono (hrd _ _ (takeI (treeP h s)) hn) ?_
   rintro e w2 h2
   cases m with
   | bad => exact absurd rfl hn
   | fault er s2 =>
     obtain ⟨rfl, q2⟩ := h2
     haveI := q2.i
     have hRR := bind_up HR.out HM.out
     subst hRR
     exact ⟨rfl, rfl, keep2 _ _⟩
   | ok n s2 =>
     obtain ⟨v2, B2, rfl, ⟨hN, hma⟩, q2⟩ := h2
     have hg0 := bind_go HR.out HM.out
     have HG : Aside (rootedK tRead (kdOf root n) 20 n 0 s2 = R) := hg0
     clear hg0 hrd hn HR HM
     have HMa : Aside (may n = true) := hma
     obtain ⟨se, sk, rfl, hE, hK⟩ := hN
     obtain ⟨a1, c1, rfl, hE1, hE2⟩ := hE.v
     obtain ⟨a2, c2, rfl, hK1, hK2⟩ := ReadsR.v hK
     obtain ⟨hl1, hl2⟩ := may_len hma
     have hsum := fun F w q => ndSum_any n (.agg #[.bool n.leaf, .slice a1 n.ents.length c1, .slice a2 n.kids.length c2]) B2 F w ⟨_, _, rfl, hE, hK⟩ q (by omega) (by omega)
     have HN : Aside (ReadsN (1 * B2) (.agg #[.bool n.leaf, .slice a1 n.ents.length c1, .slice a2 n.kids.length c2]) n) := by
      refine ⟨_, _, rfl, ?_, ?_⟩
      · exact ReadsR.right hE
      · exact ReadsR.right hK
     haveI := q2.i
     clear hE hK hma
     go_wp2_with fail
     with_reducible refine Calls.mono (hsum _ _ (takeI B2)) ?_
     rintro e w3 ⟨rfl, q3⟩
     haveI := q3.i
     clear hsum
     go_wp2_with fail
     have HG2 : Aside (rootedK tRead ⟨root, (ndSum n).1, (ndSum n).2.1, (ndSum n).2.2⟩ 20 n 0 s2 = R) := HG.out
     obtain ⟨b1, hb1⟩ : ∃ b1, (ndSum n).1 = b1 := ⟨_, rfl⟩
     obtain ⟨b2, hb2⟩ : ∃ b2, (ndSum n).2.1 = b2 := ⟨_, rfl⟩
     obtain ⟨b3, hb3⟩ : ∃ b3, (ndSum n).2.2 = b3 := ⟨_, rfl⟩
     rw [hb1, hb2, hb3] at HG2 ⊢
     clear hb1 hb2 hb3 HG
     have q4 : Sat (treeP h s2 * ((1 * B2) * (Sl.block w3.heap.size TTl [.int .i64 root, .int .i64 b1, .int .i64 b2, .int .i64 b3, .int .i64 0] * (Sl.block w2.heap.size TNd [.bool n.leaf, .slice a1 n.ents.length c1, .slice a2 n.kids.length c2] * (Sl.block w.heap.size TTl [.int .i64 0, .int .i64 0, .int .i64 0, .int .i64 0, .int .i64 0] * F)))))
      (w3.alloc (.cells #[.int .i64 root, .int .i64 b1, .int .i64 b2, .int .i64 b3, .int .i64 0] TTl)) := by rw [one_sep]; exact satI_eq (by ac_rfl)
     obtain ⟨N0, hN0⟩ : ∃ N, w.heap.size = N := ⟨_, rfl⟩
     obtain ⟨N5, hN5⟩ : ∃ N, w2.heap.size = N := ⟨_, rfl⟩
     obtain ⟨N9, hN9⟩ : ∃ N, w3.heap.size = N := ⟨_, rfl⟩
     rw [hN0, hN5, hN9] at q4 ⊢
     clear hN0 hN5 hN9 q3 q2 hs this
     go_loopg [28] 20 (fun g t28 wr => ∃ (f : Nat) (m : Nd) (ht : Int) (a1 : Option Addr) (c1 : Nat) (a2 : Option Addr) (c2 : Nat) (G : Assn) (s' : TS), 0 ≤ ht ∧ ht + f = 20 ∧ Aside (g = f ∧ rootedK tRead ⟨root, b1, b2, b3⟩ f m ht s' = R) ∧ Aside (may m = true ∧ ReadsN G (.agg #[.bool m.leaf, .slice a1 m.ents.length c1, .slice a2 m.kids.length c2]) m) ∧
      Sat (treeP h s' * (G * (Sl.block N9 TTl [.int .i64 root, .int .i64 b1, .int .i64 b2, .int .i64 b3, .int .i64 ht] * (Sl.block N5 TNd [.bool m.leaf, .slice a1 m.ents.length c1, .slice a2 m.kids.length c2] * (Sl.block N0 TTl [.int .i64 0, .int .i64 0, .int .i64 0, .int .i64 0, .int .i64 0] * F))))) wr)
     case atStart => exact ⟨20, n, 0, a1, c1, a2, c2, 1 * B2, s2, by omega, by omega, ⟨rfl, HG2.out⟩, ⟨HMa.out, HN.out⟩, q4⟩
     case round =>
      obtain ⟨f, m, ht, a1, c1, a2, c2, G, s', hh1, hh2, A, HR2, hsr⟩ := hrel
      clear q4 HN HMa HG2
      haveI := hsr.i
      cases hlf : m.leaf with
      | true =>
        have hRR : R = .ok ⟨⟨root, b1, b2, b3⟩, ht⟩ s' := by rw [← A.out.2, rk_leaf hlf]
        subst hRR
        rw [hlf] at hsr
        haveI := hsr.i
        clear A HR2 HB
        go_wp2
        go_returns
        exact ⟨_, 1, rfl, ⟨rfl, rfl⟩, by rw [one_sep]; exact keep2 _ _⟩
      | false =>
        have hw : IntKind.i64.wrap (ht + 1) = ht + 1 := IntWalk.i64_in _ (by omega)
        rw [hlf] at hsr
        haveI := hsr.i
        cases f with
        | zero =>
          have hRR : R = .fault 13 s' := by rw [← A.out.2, rk_zero hlf]
          subst hRR
          have hgt : (20 : Int) < ht + 1 := by omega
          clear A HR2 HB
          go_wp2_with fail
          exact ⟨rfl, rfl, keep2 _ _⟩
        | succ f =>
          have hgt : ¬ (20 : Int) < ht + 1 := by omega
          have HA : Aside (gk = f + 1) := A.out.1
          cases hk : m.kids with
          | nil => exact absurd ((rk_nil hlf hk f ht s').symm.trans A.out.2).symm HB.out
          | cons z zs =>
            have HS : Aside (M.bind (tRead z.page) (fun m => rootedK tRead ⟨root, b1, b2, b3⟩ f m (ht + 1)) s' = R) := (by rw [← rk_step hlf hk]; exact A.out.2 : _ = _)
            obtain ⟨vE, vK, hv, hE, hK⟩ := HR2.out.2
            cases hv
            obtain ⟨b, q, rfl, r1, r2, r3, r4⟩ := readsK_at hK (i := 0) (x := z) (by rw [hk]; rfl)
            have hpos : (0 : Int) < (m.kids.length : Nat) := by rw [hk]; simp
            obtain ⟨r, hr⟩ : ∃ r, tRead z.page s' = r := ⟨_, rfl⟩
            have hn := bind_nb HS.out HB.out
            have hrd := fun F w q n => tread_any h s' z.page F w q n
            rw [hr] at hn hrd
            have HM : Aside (tRead z.page s' = r) := hr
            obtain ⟨z1, z2, z3, z4⟩ := z
            clear A hE hK hk HR2 hr
            haveI := hsr.i
            go_wp2_with fail
            with_reducible refine Calls.mono (hrd _ _ (takeI (treeP h s')) hn) ?_
            rintro e w4 h4
            cases r with
            | bad => exact absurd rfl hn
            | fault er s3 =>
              obtain ⟨rfl, q5⟩ := h4
              haveI := q5.i
              have hRR := bind_up HS.out HM.out
              subst hRR
              exact ⟨rfl, rfl, keep2 _ _⟩
            | ok m2 s3 =>
              obtain ⟨v5, B5, rfl, ⟨hN5, hma5⟩, q5⟩ := h4
              have hg0 := bind_go HS.out HM.out
              have HG : Aside (rootedK tRead ⟨root, b1, b2, b3⟩ f m2 (ht + 1) s3 = R) := hg0
              obtain ⟨se, sk, rfl, hE, hK⟩ := hN5
              obtain ⟨a7, c7, rfl, hE1, hE2⟩ := hE.v
              obtain ⟨a8, c8, rfl, hK1, hK2⟩ := ReadsR.v hK
              have HN5 : Aside (may m2 = true ∧ ReadsN B5 (.agg #[.bool m2.leaf, .slice a7 m2.ents.length c7, .slice a8 m2.kids.length c8]) m2) := ⟨hma5, _, _, rfl, hE, hK⟩
              haveI := q5.i
              clear hg0 hrd hn HS HM hE hK hma5
              go_wp2_with fail
              go_roundg f
              case measure => have := HA.out; omega
              case rel =>
               refine ⟨f, m2, ht + 1, a7, c7, a8, c8, B5, s3, by omega, by omega, ⟨rfl, HG.out⟩, HN5.out, ?_⟩
               show Sat (treeP h s3 * (B5 * (Sl.block N9 TTl ([.int .i64 root, .int .i64 b1, .int .i64 b2, .int .i64 b3, .int .i64 ht].set 4 (.int .i64 (ht + 1))) * (Sl.block N5 TNd ((([.bool false, .slice a1 m.ents.length c1, .slice (some ⟨b, q, none⟩) m.kids.length c2].set 0 (.bool m2.leaf)).set 1 (.slice a7 m2.ents.length c7)).set 2 (.slice a8 m2.kids.length c8)) * (Sl.block N0 TTl [.int .i64 0, .int .i64 0, .int .i64 0, .int .i64 0, .int .i64 0] * F))))) _
               exact keep6 _ _ _ _ _ _
end Go.Proofs.YtfhbmblbidcmmaaGreat
