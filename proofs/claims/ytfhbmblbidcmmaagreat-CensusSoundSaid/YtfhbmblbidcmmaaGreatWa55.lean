/-
  Versions are found sound just if they are in the words of the document. No condition. (part 55)
-/
import Derived.Test.YtfhbmblbidcmmaaGreatWa53
import Derived.Test.YtfhbmblbidcmmaaGreatWa39
import Derived.Test.YtfhbmblbidcmmaaGreatWa8
import Derived.Test.YtfhbmblbidcmmaaGreatWa54
import Derived.Deep.RegionHeld3
import Derived.Test.YtfhbmblbidcmmaaGreatWa44
import Derived.Test.YtfhbmblbidcmmaaGreatWa45
import Derived.Test.YtfhbmblbidcmmaaGreatWa46
import Derived.Test.YtfhbmblbidcmmaaGreatWa43
import Derived.Test.YtfhbmblbidcmmaaGreatWa51
import Derived.Test.YtfhbmblbidcmmaaGreatWa33
import Derived.WideShapes
set_option linter.unusedSimpArgs false
set_option linter.unusedVariables false
namespace Go.Proofs.YtfhbmblbidcmmaaGreat
set_option linter.unusedSimpArgs false
set_option linter.unusedVariables false
open Go.RowKit Go.Sl Go.Dk Go.Tr
attribute [local go_sem ↓] Go.wp_at_zero Go.wp_at_succ
attribute [local go_sem] Go.Sl.cell_sat Go.Sl.frozen_sat
variable [TopN]
abbrev TLe : TypeId := 29
theorem elemEs : ∃ i, ElemOk Tryz.prog 103 TLe 1 24 i (.slice none 0 0) := elemOk Tryz.underlying103 (by kernel_rfl) rfl (by omega)
structure Played (s : TS) (ms : List (Int × List Ent)) (vs : List Value) (G : Assn) : Prop where
 len : vs.length = ms.length
 each : ∀ (i : Nat) (v : Value) (p : Int × List Ent), vs[i]? = some v → ms[i]? = some p → ReadsE G v p.2 ∧ Rt (nodeAt s) p.1 p.2 ∧ GoodL p.2
def rootC (ms : List (Int × List Ent)) : List Value := ms.map fun p => .int .i64 p.1
theorem Played.more {s s' : TS} {ms : List (Int × List Ent)} {vs : List Value} {G G' : Assn} (h : Played s ms vs G) (hle : Le (nodeAt s) (nodeAt s')) {r : Int} {l : List Ent} {v : Value} (h1 : ReadsE (G' * G) v l) (h2 : Rt (nodeAt s') r l) (h3 : GoodL l) :
 Played s' (ms ++ [(r, l)]) (vs ++ [v]) (G' * G) :=
 ⟨by rw [List.length_append, List.length_append, h.len]; rfl, fun i u p k1 k2 => by
   by_cases hi : i < ms.length
   · rw [List.getElem?_append_left (by rw [h.len]; exact hi)] at k1
     rw [List.getElem?_append_left hi] at k2
     obtain ⟨m1, m2, m3⟩ := h.each i u p k1 k2
     exact ⟨ReadsR.right m1, m2.le hle, m3⟩
   · rw [List.getElem?_append_right (by rw [h.len]; omega), h.len] at k1
     rw [List.getElem?_append_right (by omega)] at k2
     by_cases hz : i - ms.length = 0
     · rw [hz] at k1 k2
       cases k1
       cases k2
       exact ⟨h1, h2, h3⟩
     · rw [List.getElem?_eq_none (by simp; omega)] at k2
       cases k2⟩
theorem Played.at {s : TS} {ms : List (Int × List Ent)} {vs : List Value} {G : Assn} (h : Played s ms vs G) {i : Nat} (hi : i < ms.length) : ∃ v r l, vs[i]? = some v ∧ (rootC ms)[i]? = some (.int .i64 r) ∧ ReadsE G v l ∧ Rt (nodeAt s) r l ∧ GoodL l ∧ ms[i]? = some (r, l) := by
 obtain ⟨v, hv⟩ : ∃ v, vs[i]? = some v := ⟨_, List.getElem?_eq_getElem (by rw [h.len]; exact hi)⟩
 obtain ⟨⟨r, l⟩, hp⟩ : ∃ p, ms[i]? = some p := ⟨_, List.getElem?_eq_getElem hi⟩
 obtain ⟨k1, k2, k3⟩ := h.each i v _ hv hp
 exact ⟨v, r, l, hv, by unfold rootC; rw [List.getElem?_map, hp]; rfl, k1, k2, k3, hp⟩
end Go.Proofs.YtfhbmblbidcmmaaGreat
namespace Go.Proofs.YtfhbmblbidcmmaaGreat
set_option linter.unusedSimpArgs false
set_option linter.unusedVariables false
open Go.RowKit Go.Sl Go.Dk Go.Tr
attribute [local go_sem ↓] Go.wp_at_zero Go.wp_at_succ
attribute [local go_sem] Go.Sl.cell_sat Go.Sl.frozen_sat
variable [TopN]
end Go.Proofs.YtfhbmblbidcmmaaGreat
namespace Go.Proofs.YtfhbmblbidcmmaaGreat
set_option linter.unusedSimpArgs false
set_option linter.unusedVariables false
open Go.RowKit Go.Sl Go.Dk Go.Tr
attribute [local go_sem ↓] Go.wp_at_zero Go.wp_at_succ
attribute [local go_sem] Go.Sl.cell_sat Go.Sl.frozen_sat
instance (priority := 28000) store2I {A R : Assn} {b T : Nat} {a0 a1 v0 v1 : Value} {w : World} [h : SatI A w] [t : TakeB A b T [a0, a1] R] :
 SatI (Sl.block b T [v0, v1] * R) ((w.setCell ⟨b, 0, none⟩ v0).setCell ⟨b, 1, none⟩ v1) := ⟨store2 (h.out.eq t.out)⟩
theorem sep_swap (A B C : Assn) : A * (B * C) = B * (A * C) := by ac_rfl
theorem keep10 {A R1 R2 R3 R4 R5 R6 R7 R8 R9 R10 : Assn} {w : World} [h : SatI A w] (X1 X2 X3 X4 X5 X6 X7 X8 X9 X10 : Assn) [t1 : Take A X1 R1] [t2 : Take R1 X2 R2] [t3 : Take R2 X3 R3] [t4 : Take R3 X4 R4] [t5 : Take R4 X5 R5] [t6 : Take R5 X6 R6] [t7 : Take R6 X7 R7] [t8 : Take R7 X8 R8] [t9 : Take R8 X9 R9] [t10 : Take R9 X10 R10] : Sat (X1 * (X2 * (X3 * (X4 * (X5 * (X6 * (X7 * (X8 * (X9 * X10))))))))) w := Sat.weak (B := R10) ((h.out.take3 X1 X2 X3).eq (by rw [t4.out, t5.out, t6.out, t7.out, t8.out, t9.out, t10.out]; ac_rfl))
theorem buildR_bad {l : List Ent} (h : (buildR l).1 ≠ 0) : (buildR l).2 = [] := by
 unfold buildR at h ⊢
 by_cases hm : mayList l = false
 · rw [if_pos hm]
 · rw [if_neg hm] at h ⊢
   by_cases hj : 1024 < (join l).length
   · rw [if_pos hj]
   · rw [if_neg hj] at h; exact absurd rfl h
variable [TopN]
end Go.Proofs.YtfhbmblbidcmmaaGreat
namespace Go.Proofs.YtfhbmblbidcmmaaGreat
set_option linter.unusedSimpArgs false
set_option linter.unusedVariables false
set_option linter.unusedSectionVars false
open Go.RowKit Go.Sl Go.Dk Go.Tr
attribute [local go_sem ↓] Go.wp_at_zero Go.wp_at_succ
attribute [local go_sem] Go.Sl.cell_sat Go.Sl.frozen_sat
abbrev TMk : TypeId := 232
structure MakeT where
 f : Int
 pos : Int
 n : Int
 a : Option Addr
 c : Nat
 put : List Ent
 by_ : Int
 rt : Int
def mrow (x : MakeT) : List Value := [.int .i64 x.f, .int .i64 x.pos, .int .i64 x.n, .slice x.a x.put.length x.c, .int .i64 x.by_, .int .i64 x.rt]
def mcs (l : List MakeT) : List Value := l.flatMap mrow
abbrev ReadsM (B : Assn) (v : Value) (l : List MakeT) : Prop := ReadsR 6 B v l.length (mcs l)
theorem readsM_at {B : Assn} {a : Option Addr} {c : Nat} {l : List MakeT} (h : ReadsM B (.slice a l.length c) l) {i : Nat} {x : MakeT} (hi : l[i]? = some x) :
 ∃ b o, a = some ⟨b, o, none⟩ ∧ RdC B b (o + i * 6) (.int .i64 x.f) ∧ RdC B b (o + i * 6 + 1) (.int .i64 x.pos) ∧ RdC B b (o + i * 6 + 2) (.int .i64 x.n) ∧ RdC B b (o + i * 6 + 3) (.slice x.a x.put.length x.c) ∧ RdC B b (o + i * 6 + 4) (.int .i64 x.by_) ∧ RdC B b (o + i * 6 + 5) (.int .i64 x.rt) := by
 obtain ⟨b, o, e, r⟩ := ReadsR.row (f := mrow) (fun _ => rfl) (by omega) h hi
 exact ⟨b, o, e, r 0 _ rfl, r 1 _ rfl, r 2 _ rfl, r 3 _ rfl, r 4 _ rfl, r 5 _ rfl⟩
theorem elemVe : ∃ i, ElemOk Tryz.prog 121 TVe 2 16 i (.agg #[.int .i64 0, .int .i64 0]) := elemOk Tryz.underlying121 (by kernel_rfl) rfl (by omega)
def vlO (ms : List (Int × List Ent)) : List (Int × Int) := ms.map fun p => (p.1, eBytes p.2)
structure B18 (s0 s : TS) (ms : List (Int × List Ent)) (vs : List Value) (G : Assn) (i : Nat) : Prop where
 pl : Played s ms vs G
 inv : TInv true s
 len : ms.length = i
 ops : 60000000 + (12 - i) * 5600 ≤ leftOps s
 room : 5000 + (12 - i) * 2600 ≤ roomOf s.sp
 cap : SameCap s0 s
def Build18 (h : Th) (s0 : TS) (b : Nat) (F : Assn) (e : Ending) (w' : World) : Prop :=
 (e = .returned (.tuple #[.slice none 0 0, .bool false]) ∧ ∃ s', Sat (treeP h s' * (bench18 b h * F)) w') ∨
 (∃ (s' : TS) (vl : List (Int × Int)) (a : Option Addr) (c : Nat), e = .returned (.tuple #[.slice a vl.length c, .bool true]) ∧ vl.length ≤ 12 ∧ TInv true s' ∧ Clean s'.ck ∧ 59000000 ≤ leftOps s' ∧ SameCap s0 s' ∧ Sat (rw TVe 2 (.slice a vl.length c) (rgs vl) * (treeP h s' * (bench18 b h * F))) w')
theorem ecs_snoc (l : List Ent) (x1 x2 x3 x4 : Int) : ecs (l ++ [⟨x1, x2, x3, x4⟩]) = ecs l ++ [.int .i64 x1, .int .i64 x2, .int .i64 x3, .int .i64 x4] := by simp [ecs, erow]
theorem good_bounds {cd : Int} {out : List Ent} (h : (cd ≠ 0 → out = []) ∧ (cd = 0 → GoodL out)) : ∀ x ∈ out, 0 ≤ x.len ∧ x.len ≤ 1048576 := by
 by_cases hc : cd = 0
 · intro x hx
   have := mayE_bounds ((h.2 hc).1.1 x hx)
   omega
 · rw [h.1 hc]
   simp
theorem good_len {cd : Int} {out : List Ent} (h : (cd ≠ 0 → out = []) ∧ (cd = 0 → GoodL out)) : out.length ≤ 65536 := by
 by_cases hc : cd = 0
 · have := (h.2 hc).1.2.2
   omega
 · rw [h.1 hc]
   simp
theorem rgs_set1 : ∀ {vl : List (Int × Int)} {k : Nat} {r b : Int}, vl[k]? = some (r, b) → ∀ z : Int, (rgs vl).set (k * 2 + 1) (.int .i64 z) = rgs (vl.set k (r, z))
 | [], k, r, b, h, z => by simp at h
 | p :: vl, 0, r, b, h, z => by
   simp at h
   subst h
   simp [rgs, rgR]
 | p :: vl, k + 1, r, b, h, z => by
   have ih := rgs_set1 (vl := vl) (k := k) (r := r) (b := b) (by simpa using h) z
   have e : rgs (p :: vl) = rgR p ++ rgs vl := by simp [rgs]
   have e2 : rgs ((p :: vl).set (k + 1) (r, z)) = rgR p ++ rgs (vl.set k (r, z)) := by simp [rgs]
   rw [e, e2, ← ih]
   unfold rgR
   rw [show (k + 1) * 2 + 1 = (k * 2 + 1) + 2 by omega]
   rfl
theorem rgs_set0 : ∀ {vl : List (Int × Int)} {k : Nat} {r b : Int}, vl[k]? = some (r, b) → ∀ z : Int, (rgs vl).set (k * 2) (.int .i64 z) = rgs (vl.set k (z, b))
 | [], k, r, b, h, z => by simp at h
 | p :: vl, 0, r, b, h, z => by
   simp at h
   subst h
   simp [rgs, rgR]
 | p :: vl, k + 1, r, b, h, z => by
   have ih := rgs_set0 (vl := vl) (k := k) (r := r) (b := b) (by simpa using h) z
   have e : rgs (p :: vl) = rgR p ++ rgs vl := by simp [rgs]
   have e2 : rgs ((p :: vl).set (k + 1) (z, b)) = rgR p ++ rgs (vl.set k (z, b)) := by simp [rgs]
   rw [e, e2, ← ih]
   unfold rgR
   rw [show (k + 1) * 2 = (k * 2) + 2 by omega]
   rfl
theorem spliceR_none {l put : List Ent} {at_ n : Int} (h : (spliceR l at_ n put).1 ≠ 0) : (spliceR l at_ n put).2 = [] := by
 unfold spliceR at h ⊢
 split
 · rfl
 rename_i h1
 rw [if_neg h1] at h
 split
 · rfl
 rename_i h2
 rw [if_neg h2] at h
 split
 · rfl
 rename_i h3
 rw [if_neg h3] at h
 split
 · rename_i h4
   rw [if_pos h4] at h
   exact absurd rfl h
 rename_i h4
 rw [if_neg h4] at h
 split
 · rfl
 · rename_i h5
   rw [if_neg h5] at h
   exact absurd rfl h
theorem vlO_at {ms : List (Int × List Ent)} {j : Nat} {r : Int} {l : List Ent} (h : ms[j]? = some (r, l)) : (vlO ms)[j]? = some (r, eBytes l) := by
 unfold vlO
 rw [List.getElem?_map, h]
 rfl
set_option maxRecDepth 100000 in
set_option maxHeartbeats 12800000 in
theorem build18_any (h : Th) (s0 : TS) (b : Nat) (aO : Option Addr) (nO cO : Nat) (aT : Option Addr) (nT cT : Nat) (T : List UInt8) (cs : List MakeT) (v : Value) (Bp F : Assn) (w : World) (hI : TInv true s0) (hf : 66000000 ≤ leftOps s0) (hrm : 50000 ≤ roomOf s0.sp) (hcap : s0.ck.cap ≤ 1000)
 (hT : Reads Bp (.slice aT nT cT) T) (hTn : T.length = nT) (hnT : nT ≤ 3000) (hM : ReadsM Bp v cs) (hM2 : ∀ c ∈ cs, ReadsE Bp (.slice c.a c.put.length c.c) c.put) (hM3 : cs.length ≤ 9223372036854775807)
 (hs : Sat (treeP h s0 * (bench18 b h * (Bp * F))) w) :
 Calls Tryz.prog 56 #[.pointer (some ⟨b, 0, none⟩), v, .agg #[.slice aO nO cO, .slice aT nT cT]] w (Build18 h s0 b (Bp * F)) := by
 obtain ⟨_, av, cv, rfl, hcv1, hcv2, _⟩ := id hM
 obtain ⟨n, hn⟩ : ∃ x, cs.length = x := ⟨_, rfl⟩
 have HM : Aside (ReadsM Bp (.slice av cs.length cv) cs ∧ cs.length = n ∧ ∀ c ∈ cs, ReadsE Bp (.slice c.a c.put.length c.c) c.put) := ⟨hM, hn, hM2⟩
 rw [hn] at hcv1 hM3 ⊢
 have HFT : Aside (∀ (x1 x2 x3 x4 : Int) F w, Sat (Bp * F) w → Calls Tryz.prog 121 #[.agg #[.int .i64 x1, .int .i64 x2, .int .i64 x3, .int .i64 x4], .agg #[.slice aO nO cO, .slice aT nT cT]] w fun e w' => ∃ y1 y2 y3 y4 : Int, e = .returned (.agg #[.int .i64 y1, .int .i64 y2, .int .i64 y3, .int .i64 y4]) ∧ Sat (Bp * F) w') := fun x1 x2 x3 x4 F w q => fit18_any x1 x2 x3 x4 aO nO cO aT nT cT T Bp F w hT q hnT hTn
 have HS0 : Aside (B18 s0 s0 [] [] 1 0) := ⟨⟨rfl, fun i v p h1 h2 => by cases h1⟩, hI, rfl, by omega, by omega, sameCap_goes.same _⟩
 obtain ⟨iV, EV⟩ := elemVe
 obtain ⟨iL, EL⟩ := elemEs
 obtain ⟨iE, EE⟩ := elemEn
 obtain ⟨NF, hNF⟩ : ∃ x, w.heap.size = x := ⟨_, rfl⟩
 unfold bench18 at hs
 have h0 := Sat.rw_nil (e := TLe) (s := 1) (Sat.rw_nil (e := TVe) (s := 2) hs)
 haveI := h0.i
 clear hM hM2 hn hT hTn hs hI hf hrm
 go_enter Tryz.func56, Tryz.ntmps56
 go_wp2_with fail
 have q1 : Sat (treeP h s0 * (1 * (rw TVe 2 (.slice none 0 0) (rgs (vlO [])) * (rw TLe 1 (.slice none 0 0) [] * (Sl.block b TB18 [.pointer (some ⟨h.D, 0, none⟩), .pointer (some ⟨h.C, 0, none⟩), .pointer (some ⟨h.t, 0, none⟩)] * (Sl.block NF TF18 [.slice aO nO cO, .slice aT nT cT] * (Bp * F))))))) (w.alloc (.cells #[.slice aO nO cO, .slice aT nT cT] TF18)) := by
  rw [← hNF, one_sep]
  show Sat (_ * (rw TVe 2 (.slice none 0 0) [] * _)) _
  exact satI_eq (by ac_rfl)
 try rw [hNF]
 generalize w.alloc (.cells #[.slice aO nO cO, .slice aT nT cT] TF18) = w1 at q1 ⊢
 clear hNF h0 this
 haveI := q1.i
 go_loopg [10, 8, 9] 12 (fun g t10 t8 t9 wr => ∃ (i : Nat) (s : TS) (a1 : Option Addr) (c1 : Nat) (a2 : Option Addr) (c2 : Nat) (ms : List (Int × List Ent)) (vs : List Value) (G : Assn), t10 = .int .i64 i ∧ t8 = .slice a1 i c1 ∧ t9 = .slice a2 i c2 ∧ i ≤ 12 ∧ i ≤ n ∧ Aside (g = 12 - i) ∧ Aside (B18 s0 s ms vs G i) ∧ Sat (treeP h s * (G * (rw TVe 2 (.slice a1 i c1) (rgs (vlO ms)) * (rw TLe 1 (.slice a2 i c2) vs * (Sl.block b TB18 [.pointer (some ⟨h.D, 0, none⟩), .pointer (some ⟨h.C, 0, none⟩), .pointer (some ⟨h.t, 0, none⟩)] * (Sl.block NF TF18 [.slice aO nO cO, .slice aT nT cT] * (Bp * F))))))) wr)
 case atStart => exact ⟨0, s0, none, 0, none, 0, [], [], 1, rfl, rfl, rfl, by omega, by omega, rfl, HS0, q1⟩
 case round =>
  clear q1 HS0
  obtain ⟨i, s, a1, c1, a2, c2, ms, vs, G, rfl, rfl, rfl, hi, hin, A, P, q2⟩ := hrel
  haveI := q2.i
  by_cases hgo : i < n ∧ i < 12
  · obtain ⟨hil, hi2⟩ := hgo
    have hi3 : (i : Int) < n := by omega
    have hi4 : (i : Int) < 12 := by omega
    obtain ⟨⟨k1, k2, k3, ap, cp, put, k5, k6⟩, hx⟩ : ∃ x, cs[i]? = some x := ⟨_, List.getElem?_eq_getElem (by rw [HM.out.2.1]; exact hil)⟩
    obtain ⟨bm, om, e1, r0, r1, r2, r3, r4, r5⟩ := readsM_at HM.out.1 hx
    subst e1
    have hE := HM.out.2.2 _ (List.mem_of_getElem? hx)
    simp only at hE r0 r1 r2 r3 r4 r5
    obtain ⟨_, _, e0, hp1, hp2⟩ := hE.v
    cases e0
    obtain ⟨np, hnp⟩ : ∃ x, put.length = x := ⟨_, rfl⟩
    have HE : Aside (ReadsE Bp (.slice ap put.length cp) put ∧ put.length = np) := ⟨hE, hnp⟩
    rw [hnp] at r3 hp1
    obtain ⟨NM, hNM⟩ : ∃ x, wr.heap.size = x := ⟨_, rfl⟩
    clear hx hE hnp
    by_cases hlong : 60 < np
    · have hlong' : (60 : Int) < np := by omega
      go_wp2
      go_ret2
      exact .inl ⟨rfl, s, by unfold bench18; exact keep4 _ _ _ _⟩
    have hlong' : ¬ (60 : Int) < np := by omega
    have h1 := Sat.rw_nil (e := TEn) (s := 4) q2
    clear this
    haveI := h1.i
    go_wp2_with fail
    have q3 : Sat (rw TEn 4 (.slice none 0 0) (ecs []) * (treeP h s * (G * (rw TVe 2 (.slice a1 i c1) (rgs (vlO ms)) * (rw TLe 1 (.slice a2 i c2) vs * (Sl.block NM TMk [.int .i64 k1, .int .i64 k2, .int .i64 k3, .slice ap np cp, .int .i64 k5, .int .i64 k6] * (Sl.block b TB18 [.pointer (some ⟨h.D, 0, none⟩), .pointer (some ⟨h.C, 0, none⟩), .pointer (some ⟨h.t, 0, none⟩)] * (Sl.block NF TF18 [.slice aO nO cO, .slice aT nT cT] * (Bp * F))))))))) (wr.alloc (.cells #[.int .i64 k1, .int .i64 k2, .int .i64 k3, .slice ap np cp, .int .i64 k5, .int .i64 k6] TMk)) := by
     rw [← hNM]
     show Sat (rw TEn 4 (.slice none 0 0) [] * _) _
     exact satI_eq (by ac_rfl)
    try rw [hNM]
    generalize wr.alloc (.cells #[.int .i64 k1, .int .i64 k2, .int .i64 k3, .slice ap np cp, .int .i64 k5, .int .i64 k6] TMk) = w3 at q3 ⊢
    clear hNM h1 q2 this
    haveI := q3.i
    go_loopg [13, 12] np (fun g t13 t12 wx => ∃ (k : Nat) (aq : Option Addr) (cq : Nat) (pq : List Ent), t13 = .int .i64 k ∧ t12 = .slice aq k cq ∧ k ≤ np ∧ Aside (g = np - k ∧ pq.length = k) ∧ Sat (rw TEn 4 (.slice aq k cq) (ecs pq) * (treeP h s * (G * (rw TVe 2 (.slice a1 i c1) (rgs (vlO ms)) * (rw TLe 1 (.slice a2 i c2) vs * (Sl.block NM TMk [.int .i64 k1, .int .i64 k2, .int .i64 k3, .slice ap np cp, .int .i64 k5, .int .i64 k6] * (Sl.block b TB18 [.pointer (some ⟨h.D, 0, none⟩), .pointer (some ⟨h.C, 0, none⟩), .pointer (some ⟨h.t, 0, none⟩)] * (Sl.block NF TF18 [.slice aO nO cO, .slice aT nT cT] * (Bp * F))))))))) wx)
    case atStart => exact ⟨0, none, 0, [], rfl, rfl, by omega, ⟨rfl, rfl⟩, q3⟩
    case round =>
     obtain ⟨k, aq, cq, pq, rfl, rfl, hk, A2, q4⟩ := hrel
     clear q3
     haveI := q4.i
     by_cases hkn : k < np
     · have hkn' : (k : Int) < np := by omega
       obtain ⟨⟨x1, x2, x3, x4⟩, hy⟩ : ∃ y, put[k]? = some y := ⟨_, List.getElem?_eq_getElem (by rw [HE.out.2]; exact hkn)⟩
       obtain ⟨bl, ol, hal, y1, y2, y3, y4⟩ := readsE_at HE.out.1 hy
       subst hal
       simp only at y1 y2 y3 y4
       clear hy
       go_wp2_with fail
       go_region_held3 (fun w' => w'.cell? ⟨NM, 3, none⟩ = some (.slice (some ⟨bl, ol, none⟩) np cp) ∧ w'.cell? ⟨NF, 0, none⟩ = some (.slice aO nO cO) ∧ w'.cell? ⟨NF, 1, none⟩ = some (.slice aT nT cT) ∧ w'.cell? ⟨bl, ol + k * 4, none⟩ = some (.int .i64 x1) ∧ w'.cell? ⟨bl, ol + k * 4 + 1, none⟩ = some (.int .i64 x2) ∧ w'.cell? ⟨bl, ol + k * 4 + 2, none⟩ = some (.int .i64 x3) ∧ w'.cell? ⟨bl, ol + k * 4 + 3, none⟩ = some (.int .i64 x4)) (first | exact ⟨cell_sat _ _ _, cell_sat _ _ _, cell_sat _ _ _, cell_sat _ _ _, cell_sat _ _ _, cell_sat _ _ _, cell_sat _ _ _⟩) (first
        | (go_at_call 121; with_reducible refine Calls.mono (HFT.out x1 x2 x3 x4 _ _ (takeI Bp)) ?_; rintro e w5 ⟨y1, y2, y3, y4, rfl, q5⟩; haveI := q5.i)
        | (refine step_append_sl EE rfl (.tmp 47) (.tmp 55) rfl rfl rfl (takeI (rw TEn 4 (.slice aq k cq) (ecs pq))) (Src.new (e := TEn) (s := 4) (vs := [.int .i64 y1, .int .i64 y2, .int .i64 y3, .int .i64 y4]) (takeI _) rfl (by intro u hu; simp at hu; rcases hu with rfl | rfl | rfl | rfl <;> rfl)) (by unfold maxLen; omega) (by omega) ?_; intro a9 c9 w9 hs9 hnil; clear hnil; haveI := hs9.i))
       all_goals
        go_wp2_with fail
        go_roundg (np - (k + 1))
        case measure => have := A2.out.1; omega
        case rel => exact ⟨k + 1, a9, c9, pq ++ [⟨y1, y2, y3, y4⟩], by go_num, rfl, by omega, ⟨rfl, by rw [List.length_append, A2.out.2]; rfl⟩, by rw [ecs_snoc]; exact keep9 _ _ _ _ _ _ _ _ _⟩
     · have hkn' : ¬ (k : Int) < np := by omega
       obtain rfl : np = k := by omega
       have hrq : ReadsE (rw TEn 4 (.slice aq np cq) (ecs pq)) (.slice aq np cq) pq := by
        have := ReadsR.rw q4 ⟨aq, cq, rfl⟩
        show ReadsR 4 _ _ pq.length _
        rw [A2.out.2]
        exact this
       have HQ : Aside (ReadsE (rw TEn 4 (.slice aq np cq) (ecs pq)) (.slice aq np cq) pq ∧ pq.length = np) := ⟨hrq, A2.out.2⟩
       have HMY : Aside (∀ F w, Sat (rw TEn 4 (.slice aq np cq) (ecs pq) * F) w → Calls Tryz.prog 105 #[.slice aq np cq] w fun e w' => e = .returned (.bool (mayList pq)) ∧ Sat (rw TEn 4 (.slice aq np cq) (ecs pq) * F) w') := fun F w q => rmay_any pq (.slice aq np cq) (rw TEn 4 (.slice aq np cq) (ecs pq)) F w HQ.out.1 q (by rw [HQ.out.2]; omega)
       obtain ⟨mb, hmb⟩ : ∃ x, mayList pq = x := ⟨_, rfl⟩
       rw [hmb] at HMY
       clear hrq A2 hkn hkn' hk
       go_wp2_with fail
       with_reducible refine Calls.mono (HMY.out _ _ (takeI (rw TEn 4 (.slice aq np cq) (ecs pq)))) ?_
       rintro e w5 ⟨rfl, q5⟩
       haveI := q5.i
       clear q4 HMY
       cases mb with
       | false =>
         go_wp2
         go_ret2
         exact .inl ⟨rfl, s, by unfold bench18; exact keep4 _ _ _ _⟩
       | true =>
         obtain ⟨j, hj, hjn⟩ : ∃ j : Nat, k1 % ((i : Int) + 1) = (j : Int) ∧ j ≤ i := ⟨(k1 % ((i : Int) + 1)).toNat, by have := Int.emod_nonneg k1 (show (i : Int) + 1 ≠ 0 by omega); omega, by have := Int.emod_lt_of_pos k1 (show (0 : Int) < (i : Int) + 1 by omega); omega⟩
         have hwi : IntKind.i64.wrap ((i : Int) + 1) = (i : Int) + 1 := IntWalk.i64_in _ (by omega)
         have hpk := fun w => pick_any k1 ((i : Int) + 1) w (by omega) (by omega)
         rw [hj] at hpk
         clear hj
         go_wp2_with fail
         with_reducible refine Calls.mono (hpk _) ?_
         rintro e w6 ⟨rfl, hw6⟩
         subst hw6
         clear hpk
         obtain ⟨bA, hbA⟩ : ∃ x : Bool, x = true ↔ ∃ r l, ms[j]? = some (r, l) ∧ 0 < r := ⟨@decide (∃ r l, ms[j]? = some (r, l) ∧ 0 < r) (Classical.propDecidable _), @decide_eq_true_iff _ (Classical.propDecidable _)⟩
         have HA : Aside (bA = true ↔ ∃ r l, ms[j]? = some (r, l) ∧ 0 < r) := hbA
         clear hbA
         go_upto_region 19 with (fail)
         go_cut [77] (fun t77 wx => t77 = .bool bA ∧ Sat (rw TEn 4 (.slice aq np cq) (ecs pq) * (treeP h s * (G * (rw TVe 2 (.slice a1 i c1) (rgs (vlO ms)) * (rw TLe 1 (.slice a2 i c2) vs * (Sl.block NM TMk [.int .i64 k1, .int .i64 k2, .int .i64 k3, .slice ap np cp, .int .i64 k5, .int .i64 k6] * (Sl.block b TB18 [.pointer (some ⟨h.D, 0, none⟩), .pointer (some ⟨h.C, 0, none⟩), .pointer (some ⟨h.t, 0, none⟩)] * (Sl.block NF TF18 [.slice aO nO cO, .slice aT nT cT] * (Bp * F))))))))) wx)
         case first =>
          by_cases hji : j < i
          · have hji' : (j : Int) < i := by omega
            obtain ⟨⟨r, l⟩, hp⟩ : ∃ p, ms[j]? = some p := ⟨_, List.getElem?_eq_getElem (by rw [P.out.len]; exact hji)⟩
            obtain ⟨ga, rfl⟩ := row_some (hs := q5.take (rw TVe 2 (.slice a1 i c1) (rgs (vlO ms)))) (by omega)
            haveI := q5.i
            haveI : At (rgs (vlO ms)) (j * 2) (.int .i64 r) := ⟨rgs_at (vlO_at hp) 0 (by omega)⟩
            by_cases hr : 0 < r
            · have hb : bA = true := HA.out.2 ⟨r, l, hp, hr⟩
              subst hb
              clear hp
              go_wp2
              go_meet
              exact ⟨rfl, keep9 _ _ _ _ _ _ _ _ _⟩
            · have hb : bA = false := by
               cases bA with
               | false => rfl
               | true =>
                 obtain ⟨r', l', h1, h2⟩ := HA.out.1 rfl
                 rw [hp] at h1
                 cases h1
                 exact absurd h2 hr
              subst hb
              clear hp
              go_wp2
              go_meet
              exact ⟨rfl, keep9 _ _ _ _ _ _ _ _ _⟩
          · have hji' : ¬ (j : Int) < i := by omega
            have hb : bA = false := by
             cases bA with
             | false => rfl
             | true =>
               obtain ⟨r', l', h1, h2⟩ := HA.out.1 rfl
               rw [List.getElem?_eq_none (by rw [P.out.len]; omega)] at h1
               cases h1
            subst hb
            go_wp2
            go_meet
            exact ⟨rfl, keep9 _ _ _ _ _ _ _ _ _⟩
         case rest =>
          obtain ⟨rfl, q6⟩ := hcut
          clear q5 this
          haveI := q6.i
          go_upto_if 77 with (fail)
          go_cut [14, 15, 16] (fun t14 t15 t16 wx => ∃ (r' cd : Int) (out : List Ent) (mo : Nat) (ao : Option Addr) (co : Nat) (s1 : TS) (Gn : Assn), t14 = .int .i64 r' ∧ t15 = .int .i64 cd ∧ t16 = .slice ao mo co ∧ Aside (Nxt s s1 200 2600 ∧ (cd = 0 → Rt (nodeAt s1) r' out ∧ GoodL out) ∧ ReadsE (Gn * G) (.slice ao mo co) out ∧ out.length = mo ∧ (∀ x ∈ out, 0 ≤ x.len ∧ x.len ≤ 1048576) ∧ out.length ≤ 65536) ∧ Sat (treeP h s1 * (Gn * (G * (rw TVe 2 (.slice a1 i c1) (rgs (vlO ms)) * (rw TLe 1 (.slice a2 i c2) vs * (Sl.block NM TMk [.int .i64 k1, .int .i64 k2, .int .i64 k3, .slice ap np cp, .int .i64 k5, .int .i64 k6] * (Sl.block b TB18 [.pointer (some ⟨h.D, 0, none⟩), .pointer (some ⟨h.C, 0, none⟩), .pointer (some ⟨h.t, 0, none⟩)] * (Sl.block NF TF18 [.slice aO nO cO, .slice aT nT cT] * (Bp * F))))))))) wx)
          case first =>
           cases bA with
           | true => as_aux_lemma =>
             obtain ⟨r, l, hp, hr⟩ := HA.out.1 rfl
             have hji : j < i := by have := (List.getElem?_eq_some_iff.1 hp).1; rw [P.out.len] at this; exact this
             have hji' : (j : Int) < i := by omega
             obtain ⟨vj, r', l', hv, hrr, hle, hrt, hg, hms⟩ := P.out.pl.at (i := j) (by rw [P.out.len]; exact hji)
             rw [hp] at hms
             cases hms
             obtain ⟨al, cl, rfl, hl1, hl2⟩ := hle.v
             have hgm := hg.1.1
             have hgl := hg.1.2.2
             have hz1 : eBytes l ≤ 1048576 := hg.1.2.1
             have hz0 : 0 ≤ eBytes l := by have := eBytes_ge hgm; omega
             have hL4 : ∀ h : Nat, 2 * 4 ^ h ≤ l.length → h ≤ 4 := fun q hq => by
              rcases Nat.lt_or_ge 4 q with h1 | h1
              · have : 4 ^ 5 ≤ 4 ^ q := Nat.pow_le_pow_right (by omega) h1
                omega
              · exact h1
             obtain ⟨ga, rfl⟩ := row_some (hs := q6.take (rw TVe 2 (.slice a1 i c1) (rgs (vlO ms)))) (by omega)
             obtain ⟨gb, rfl⟩ := row_some (hs := q6.take (rw TLe 1 (.slice a2 i c2) vs)) (by omega)
             have HSZ : Aside (∀ F w, Sat (G * F) w → Calls Tryz.prog 31 #[.slice al l.length cl] w fun e w' => e = .returned (.int .i64 (eBytes l)) ∧ Sat (G * F) w') := fun F w q => rsize_any l (.slice al l.length cl) G F w hle q (by omega) (fun x hx => by have := mayE_bounds (hgm x hx); omega)
             have HSP : Aside (∀ (at_ n' : Int) F w, Sat (treeP h s * (rw TEn 4 (.slice aq np cq) (ecs pq) * F)) w → Calls Tryz.prog 33 #[.pointer (some ⟨h.t, 0, none⟩), .int .i64 r, .int .i64 at_, .int .i64 n', .slice aq np cq] w fun e w' => ∃ (r' : Int) (s1 : TS), e = .returned (.tuple #[.int .i64 r', .int .i64 (spliceR l at_ n' pq).1]) ∧ Sat (treeP h s1 * (rw TEn 4 (.slice aq np cq) (ecs pq) * F)) w' ∧ Aside (Nxt s s1 200 2600 ∧ ((spliceR l at_ n' pq).1 = 0 → Rt (nodeAt s1) r' (spliceR l at_ n' pq).2))) := fun at_ n' F w q => (splice_call h s r at_ n' l pq (.slice aq np cq) (rw TEn 4 (.slice aq np cq) (ecs pq)) F w HQ.out.1 q (by rw [HQ.out.2]; omega) P.out.inv hrt hg.2 4 (by omega) hL4 (by have := P.out.room; omega) (by have := P.out.ops; omega)).mono fun e w' ⟨r', s1, g1, g2, g3, g4, _⟩ => ⟨r', s1, g1, g2, g3.more (by omega) (by omega), g4⟩
             have HRS : Aside (∀ (at_ n' : Int) F w, Sat (G * (rw TEn 4 (.slice aq np cq) (ecs pq) * F)) w → Calls Tryz.prog 40 #[.slice al l.length cl, .int .i64 at_, .int .i64 n', .slice aq np cq] w (ListCode G (G * rw TEn 4 (.slice aq np cq) (ecs pq)) F (spliceR l at_ n' pq))) := fun at_ n' F w q => rsplice_any l pq at_ n' (.slice al l.length cl) (.slice aq np cq) G (G * rw TEn 4 (.slice aq np cq) (ecs pq)) F w hle (ReadsR.left hle) (ReadsR.right HQ.out.1) (q.eq (sep_assoc _ _ _).symm) hg (by rw [HQ.out.2]; omega)
             have HGD : Aside (∀ at_ n' : Int, ((spliceR l at_ n' pq).1 ≠ 0 → (spliceR l at_ n' pq).2 = []) ∧ ((spliceR l at_ n' pq).1 = 0 → GoodL (spliceR l at_ n' pq).2)) := fun at_ n' => ⟨spliceR_none, spliceR_good hg⟩
             obtain ⟨nl, hnl⟩ : ∃ x, l.length = x := ⟨_, rfl⟩
             obtain ⟨z, hz⟩ : ∃ x, eBytes l = x := ⟨_, rfl⟩
             rw [hz] at HSZ hz0 hz1
             have hvr : (rgs (vlO ms))[j * 2]? = some (.int .i64 r) := rgs_at (vlO_at hp) 0 (by omega)
             rw [hnl] at HSZ HRS hl1 hv
             haveI := q6.i
             haveI : At (rgs (vlO ms)) (j * 2) (.int .i64 r) := ⟨hvr⟩
             haveI : At vs j (.slice al nl cl) := ⟨hv⟩
             obtain ⟨p2, hp2, hp3, hp4⟩ : ∃ y : Int, k2 % (z + 1) = y ∧ 0 ≤ y ∧ y ≤ z := ⟨_, rfl, Int.emod_nonneg k2 (by omega), by have := Int.emod_lt_of_pos k2 (show (0 : Int) < z + 1 by omega); omega⟩
             have hw1 : IntKind.i64.wrap (z + 1) = z + 1 := IntWalk.i64_in _ (by omega)
             have hw2 : IntKind.i64.wrap (z - p2) = z - p2 := IntWalk.i64_in _ (by omega)
             have hw3 : IntKind.i64.wrap (z - p2 + 1) = z - p2 + 1 := IntWalk.i64_in _ (by omega)
             have hk1 := fun w => pick_any k2 (z + 1) w (by omega) (by omega)
             have hk2 := fun w => pick_any k3 (z - p2 + 1) w (by omega) (by omega)
             rw [hp2] at hk1
             obtain ⟨n2, hn2⟩ : ∃ y : Int, k3 % (z - p2 + 1) = y := ⟨_, rfl⟩
             rw [hn2] at hk2
             clear hp hv hrr hle hrt hg hgm hgl hL4 hvr hp2 hn2 hnl hz
             go_wp2_with fail
             with_reducible refine Calls.mono (HSZ.out _ _ (takeI G)) ?_
             rintro e w7 ⟨rfl, q7⟩
             haveI := q7.i
             clear q6 HSZ
             go_wp2_with fail
             with_reducible refine Calls.mono (hk1 _) ?_
             rintro e w8 ⟨rfl, hw8⟩
             subst hw8
             go_wp2_with fail
             with_reducible refine Calls.mono (hk2 _) ?_
             rintro e w8 ⟨rfl, hw8⟩
             subst hw8
             clear hk1 hk2
             go_wp2_with fail
             obtain ⟨⟨cd, out⟩, hco⟩ : ∃ x, spliceR l p2 n2 pq = x := ⟨_, rfl⟩
             have HSP' := HSP.out p2 n2
             have HRS' := HRS.out p2 n2
             have HGD' := HGD.out p2 n2
             rw [hco] at HSP' HRS' HGD'
             have HS2 : Aside (∀ F w, Sat (treeP h s * (rw TEn 4 (.slice aq np cq) (ecs pq) * F)) w → Calls Tryz.prog 33 #[.pointer (some ⟨h.t, 0, none⟩), .int .i64 r, .int .i64 p2, .int .i64 n2, .slice aq np cq] w fun e w' => ∃ (r' : Int) (s1 : TS), e = .returned (.tuple #[.int .i64 r', .int .i64 cd]) ∧ Sat (treeP h s1 * (rw TEn 4 (.slice aq np cq) (ecs pq) * F)) w' ∧ Aside (Nxt s s1 200 2600 ∧ (cd = 0 → Rt (nodeAt s1) r' out))) := HSP'
             have HR2 : Aside (∀ F w, Sat (G * (rw TEn 4 (.slice aq np cq) (ecs pq) * F)) w → Calls Tryz.prog 40 #[.slice al nl cl, .int .i64 p2, .int .i64 n2, .slice aq np cq] w (ListCode G (G * rw TEn 4 (.slice aq np cq) (ecs pq)) F (cd, out))) := HRS'
             have HG2 : Aside ((cd ≠ 0 → out = []) ∧ (cd = 0 → GoodL out)) := HGD'
             clear HSP HRS HGD HSP' HRS' HGD' hco
             go_cut [14, 15] (fun t14 t15 wx => ∃ (r' : Int) (s1 : TS), t14 = .int .i64 r' ∧ t15 = .int .i64 cd ∧ Aside (Nxt s s1 200 2600 ∧ (cd = 0 → Rt (nodeAt s1) r' out)) ∧ Sat (rw TEn 4 (.slice aq np cq) (ecs pq) * (treeP h s1 * (G * (rw TVe 2 (.slice (some ⟨ga, 0, none⟩) i c1) (rgs (vlO ms)) * (rw TLe 1 (.slice (some ⟨gb, 0, none⟩) i c2) vs * (Sl.block NM TMk [.int .i64 k1, .int .i64 k2, .int .i64 k3, .slice ap np cp, .int .i64 k5, .int .i64 k6] * (Sl.block b TB18 [.pointer (some ⟨h.D, 0, none⟩), .pointer (some ⟨h.C, 0, none⟩), .pointer (some ⟨h.t, 0, none⟩)] * (Sl.block NF TF18 [.slice aO nO cO, .slice aT nT cT] * (Bp * F))))))))) wx)
             case first =>
              go_region_held3 (fun w' => w'.cell? ⟨b, 2, none⟩ = some (.pointer (some ⟨h.t, 0, none⟩)) ∧ w'.cell? ⟨ga, j * 2, none⟩ = some (.int .i64 r)) (first | exact ⟨cell_sat _ _ _, cell_sat _ _ _⟩) (first
               | (go_at_call 33; with_reducible refine Calls.mono (HS2.out _ _ (takeI2 (treeP h s) (rw TEn 4 (.slice aq np cq) (ecs pq)))) ?_; rintro e w9 ⟨r', s1, rfl, q9, hs1⟩; haveI := q9.i))
              all_goals
               go_wp2_with fail
               go_meet
               exact ⟨r', s1, rfl, rfl, hs1, keep9 _ _ _ _ _ _ _ _ _⟩
             case rest =>
              obtain ⟨r', s1, rfl, rfl, HS1, q9⟩ := hcut
              clear q7 HS2 this
              haveI := q9.i
              go_wp2_with fail
              with_reducible refine Calls.mono (HR2.out _ _ (takeI2 G (rw TEn 4 (.slice aq np cq) (ecs pq)))) ?_
              rintro e w10 ⟨ao, co, Gn, rfl, hrd, q10⟩
              simp only at hrd q10 ⊢
              obtain ⟨mo, hmo⟩ : ∃ x, out.length = x := ⟨_, rfl⟩
              have HRD : Aside (ReadsE (Gn * G) (.slice ao out.length co) out ∧ out.length = mo) := ⟨hrd, hmo⟩
              rw [hmo]
              haveI := q10.i
              clear hrd hmo
              go_wp2_with fail
              go_meet
              refine ⟨r', cd, out, mo, ao, co, s1, Gn, rfl, rfl, rfl, ⟨HS1.out.1, fun hc => ⟨HS1.out.2 hc, HG2.out.2 hc⟩, by have := HRD.out.1; rwa [HRD.out.2] at this, HRD.out.2, good_bounds HG2.out, good_len HG2.out⟩, keep9 _ _ _ _ _ _ _ _ _⟩
           | false => as_aux_lemma =>
             have HBD : Aside (∀ F w, Sat (treeP h s * (rw TEn 4 (.slice aq np cq) (ecs pq) * F)) w → Calls Tryz.prog 23 #[.pointer (some ⟨h.t, 0, none⟩), .slice aq np cq] w fun e w' => ∃ (r' : Int) (s1 : TS), e = .returned (.tuple #[.int .i64 r', .int .i64 (buildR pq).1]) ∧ Sat (treeP h s1 * (rw TEn 4 (.slice aq np cq) (ecs pq) * F)) w' ∧ Aside (Nxt s s1 200 2600 ∧ ((buildR pq).1 = 0 → Rt (nodeAt s1) r' (buildR pq).2))) := fun F w q => (bld_any h s pq (.slice aq np cq) (rw TEn 4 (.slice aq np cq) (ecs pq)) F w HQ.out.1 q P.out.inv (by rw [HQ.out.2]; omega) (by have := P.out.room; omega) (by have := P.out.ops; omega)).mono fun e w' ⟨r', s1, g1, g2, g3, g4, _⟩ => ⟨r', s1, g1, g2, g3.more (by omega) (by omega), g4⟩
             have HRB : Aside (∀ F w, Sat (rw TEn 4 (.slice aq np cq) (ecs pq) * F) w → Calls Tryz.prog 114 #[.slice aq np cq] w (ListCode (rw TEn 4 (.slice aq np cq) (ecs pq)) (rw TEn 4 (.slice aq np cq) (ecs pq)) F (buildR pq))) := fun F w q => rbuild_any pq (.slice aq np cq) (rw TEn 4 (.slice aq np cq) (ecs pq)) F w HQ.out.1 q (by rw [HQ.out.2]; omega)
             have HGD : Aside (((buildR pq).1 ≠ 0 → (buildR pq).2 = []) ∧ ((buildR pq).1 = 0 → GoodL (buildR pq).2)) := ⟨buildR_bad, buildR_good⟩
             obtain ⟨⟨cd, out⟩, hco⟩ : ∃ x, buildR pq = x := ⟨_, rfl⟩
             rw [hco] at HBD HRB HGD
             have HG2 : Aside ((cd ≠ 0 → out = []) ∧ (cd = 0 → GoodL out)) := HGD.out
             have HBD : Aside (∀ F w, Sat (treeP h s * (rw TEn 4 (.slice aq np cq) (ecs pq) * F)) w → Calls Tryz.prog 23 #[.pointer (some ⟨h.t, 0, none⟩), .slice aq np cq] w fun e w' => ∃ (r' : Int) (s1 : TS), e = .returned (.tuple #[.int .i64 r', .int .i64 cd]) ∧ Sat (treeP h s1 * (rw TEn 4 (.slice aq np cq) (ecs pq) * F)) w' ∧ Aside (Nxt s s1 200 2600 ∧ (cd = 0 → Rt (nodeAt s1) r' out))) := HBD.out
             clear HGD hco
             go_wp2_with fail
             with_reducible refine Calls.mono (HBD.out _ _ (takeI2 (treeP h s) (rw TEn 4 (.slice aq np cq) (ecs pq)))) ?_
             rintro e w9 ⟨r', s1, rfl, q9, HS1⟩
             haveI := q9.i
             clear q6
             go_wp2_with fail
             with_reducible refine Calls.mono (HRB.out _ _ (takeI (rw TEn 4 (.slice aq np cq) (ecs pq)))) ?_
             rintro e w10 ⟨ao, co, Gn, rfl, hrd, q10⟩
             simp only at hrd q10 ⊢
             obtain ⟨mo, hmo⟩ : ∃ x, out.length = x := ⟨_, rfl⟩
             have HRD : Aside (ReadsE (Gn * rw TEn 4 (.slice aq np cq) (ecs pq)) (.slice ao out.length co) out ∧ out.length = mo) := ⟨hrd, hmo⟩
             rw [hmo]
             haveI := q10.i
             clear hrd hmo q9
             go_wp2_with fail
             go_meet
             refine ⟨r', cd, out, mo, ao, co, s1, Gn * rw TEn 4 (.slice aq np cq) (ecs pq), rfl, rfl, rfl, ⟨HS1.out.1, fun hc => ⟨HS1.out.2 hc, HG2.out.2 hc⟩, by have := ReadsR.left (B := G) HRD.out.1; rw [HRD.out.2] at this; show ReadsR 4 _ _ out.length _; rw [HRD.out.2]; exact this, HRD.out.2, good_bounds HG2.out, good_len HG2.out⟩, ?_⟩
             rw [sep_assoc]
             exact keep10 _ _ _ _ _ _ _ _ _ _
          case rest =>
           obtain ⟨r', cd, out, mo, ao, co, s1, Gn, rfl, rfl, rfl, HO, q7⟩ := hcut
           clear q6 this
           haveI := q7.i
           by_cases hcd : cd = 0
           · subst hcd
             have HSO : Aside (∀ F w, Sat (Gn * (G * F)) w → Calls Tryz.prog 31 #[.slice ao mo co] w fun e w' => e = .returned (.int .i64 (eBytes out)) ∧ Sat (Gn * (G * F)) w') := fun F w q => by
              have h9 := HO.out.2.2.1
              have e9 := HO.out.2.2.2.1
              subst e9
              refine (rsize_any out (.slice ao out.length co) (Gn * G) F w h9 (q.eq (sep_assoc _ _ _).symm) HO.out.2.2.2.2.2 HO.out.2.2.2.2.1).mono ?_
              rintro e w' ⟨rfl, q'⟩
              exact ⟨rfl, q'.eq (sep_assoc _ _ _)⟩
             have HNX : Aside (B18 s0 s1 (ms ++ [(r', out)]) (vs ++ [.slice ao mo co]) (Gn * G) (i + 1) ∧ rgs (vlO (ms ++ [(r', out)])) = rgs (vlO ms) ++ [.int .i64 r', .int .i64 (eBytes out)]) := ⟨⟨by
              have h9 := HO.out.2.2.1
              have e9 := HO.out.2.2.2.1
              subst e9
              exact P.out.pl.more HO.out.1.le h9 (HO.out.2.1 rfl).1 (HO.out.2.1 rfl).2, HO.out.1.inv, by rw [List.length_append, P.out.len]; rfl, by have := HO.out.1.left; have := P.out.ops; omega, by have := HO.out.1.room; have := P.out.room; omega, sameCap_goes.next _ _ _ P.out.cap HO.out.1.cap⟩, by simp [vlO, rgs, rgR]⟩
             obtain ⟨zo, hzo⟩ : ∃ x, eBytes out = x := ⟨_, rfl⟩
             rw [hzo] at HSO HNX
             clear hzo
             go_wp2_with fail
             with_reducible refine Calls.mono (HSO.out _ _ (takeI2 Gn G)) ?_
             rintro e w9 ⟨rfl, q9⟩
             haveI := q9.i
             clear q7 HSO
             go_wp2_with (at_builtin; first | (refine wpl_append_same EV rfl (.tmp 138) (.tmp 143) rfl rfl rfl (takeI (rw TVe 2 (.slice a1 i c1) (rgs (vlO ms)))) (Src.new (e := TVe) (s := 2) (vs := [.int .i64 r', .int .i64 zo]) (takeI _) rfl (by intro u hu; simp at hu; rcases hu with rfl | rfl <;> rfl)) (by unfold maxLen; omega) (by omega) ?_; intro a3 c3 w11 q11 z11; clear z11; haveI := q11.i) | (refine wpl_append_same EL rfl (.tmp 145) (.tmp 147) rfl rfl rfl (takeI (rw TLe 1 (.slice a2 i c2) vs)) (Src.new (e := TLe) (s := 1) (vs := [.slice ao mo co]) (takeI _) rfl (by intro u hu; simp at hu; rcases hu with rfl; rfl)) (by unfold maxLen; omega) (by omega) ?_; intro a4 c4 w12 q12 z12; clear z12; haveI := q12.i))
             go_roundg (12 - (i + 1))
             case measure => have := A.out; omega
             case rel =>
              refine ⟨i + 1, s1, a3, c3, a4, c4, ms ++ [(r', out)], vs ++ [Value.slice ao mo co], Gn * G, by go_num, rfl, rfl, by omega, by omega, rfl, HNX.out.1, ?_⟩
              rw [HNX.out.2, sep_assoc]
              exact keep9 _ _ _ _ _ _ _ _ _
           · have hcd' : (cd != 0) = true := by simp [hcd]
             go_wp2
             go_ret2
             exact .inl ⟨rfl, s1, by unfold bench18; exact keep4 _ _ _ _⟩
  · have hways : (¬ (i : Int) < n) ∨ ((i : Int) < n ∧ ¬ (i : Int) < 12) := by omega
    go_upto_region 4 with (fail)
    go_cut [29] (fun t29 wx => t29 = .bool false ∧ Sat (treeP h s * (G * (rw TVe 2 (.slice a1 i c1) (rgs (vlO ms)) * (rw TLe 1 (.slice a2 i c2) vs * (Sl.block b TB18 [.pointer (some ⟨h.D, 0, none⟩), .pointer (some ⟨h.C, 0, none⟩), .pointer (some ⟨h.t, 0, none⟩)] * (Sl.block NF TF18 [.slice aO nO cO, .slice aT nT cT] * (Bp * F))))))) wx)
    case first =>
     rcases hways with h1 | ⟨h1, h2⟩
     all_goals
      go_wp2
      go_meet
      exact ⟨rfl, keep8 _ _ _ _ _ _ _ _⟩
    case rest =>
     obtain ⟨rfl, q3⟩ := hcut
     have hf := flush_ts P.out.inv (by have := P.out.ops; unfold leftOps opsMax at this; unfold opsMax; omega)
     have hfl := fun F w q => flush_tany h s F w P.out.inv (by have := P.out.ops; unfold leftOps opsMax at this; unfold opsMax; omega) (by rw [P.out.cap.cap]; exact hcap) q
     have HFL : Aside ((∀ F w, Sat (treeP h s * F) w → Calls Tryz.prog 36 #[.pointer (some ⟨h.C, 0, none⟩)] w fun e w' => e = .returned (.int .i64 0) ∧ Sat (treeP h s.flushed * F) w') ∧ FlushT s s.flushed ∧ 60000000 ≤ leftOps s ∧ SameCap s0 s) := ⟨hfl, hf, by have := P.out.ops; omega, P.out.cap⟩
     have HV0 : Aside ((vlO ms).length = i ∧ ∀ q p, 0 ≤ q → (vlO ms)[q]? = some p → 0 ≤ p.2 ∧ p.2 ≤ 1048576) := ⟨by unfold vlO; rw [List.length_map, P.out.len], fun q p _ hp => by
      obtain ⟨⟨r, l⟩, h1, rfl⟩ := List.mem_map.1 (List.mem_of_getElem? hp)
      obtain ⟨q2, h2⟩ := List.getElem?_of_mem h1
      have hq := (List.getElem?_eq_some_iff.1 h2).1
      obtain ⟨_, _, _, _, _, _, _, hg, hms⟩ := P.out.pl.at hq
      rw [h2] at hms
      cases hms
      have h3 := hg.1.2.1
      have h4 := eBytes_ge hg.1.1
      simp only
      omega⟩
     haveI := q3.i
     clear q2 hways A hf hfl P
     go_wp2_with fail
     go_loopg [21] i (fun g t21 wx => ∃ (k : Nat) (vl : List (Int × Int)), t21 = .int .i64 k ∧ k ≤ i ∧ Aside (g = i - k ∧ vl.length = i ∧ ∀ q p, k ≤ q → vl[q]? = some p → 0 ≤ p.2 ∧ p.2 ≤ 1048576) ∧ Sat (treeP h s * (G * (rw TVe 2 (.slice a1 i c1) (rgs vl) * (rw TLe 1 (.slice a2 i c2) vs * (Sl.block b TB18 [.pointer (some ⟨h.D, 0, none⟩), .pointer (some ⟨h.C, 0, none⟩), .pointer (some ⟨h.t, 0, none⟩)] * (Sl.block NF TF18 [.slice aO nO cO, .slice aT nT cT] * (Bp * F))))))) wx)
     case atStart => exact ⟨0, vlO ms, rfl, by omega, ⟨rfl, HV0.out.1, HV0.out.2⟩, q3⟩
     case round =>
      obtain ⟨k, vl, rfl, hk, A2, q4⟩ := hrel
      clear q3
      haveI := q4.i
      by_cases hki : k < i
      · have hki' : (k : Int) < i := by omega
        have hkn : (k : Int) < n := by omega
        obtain ⟨⟨k1, k2, k3, ap, cp, put, k5, k6⟩, hx⟩ : ∃ x, cs[k]? = some x := ⟨_, List.getElem?_eq_getElem (by rw [HM.out.2.1]; omega)⟩
        obtain ⟨bm, om, e1, r0, r1, r2, r3, r4, r5⟩ := readsM_at HM.out.1 hx
        subst e1
        simp only at r4 r5
        obtain ⟨⟨ro, bo⟩, hv⟩ : ∃ p, vl[k]? = some p := ⟨_, List.getElem?_eq_getElem (by rw [A2.out.2.1]; exact hki)⟩
        obtain ⟨hb0, hb1⟩ := A2.out.2.2 k _ (Nat.le_refl _) hv
        simp only at hb0 hb1
        obtain ⟨ga, rfl⟩ := row_some (hs := q4.take (rw TVe 2 (.slice a1 i c1) (rgs vl))) (by omega)
        obtain ⟨y, hy, hy0, hy1⟩ : ∃ y : Int, k5 % 100 = y ∧ 0 ≤ y ∧ y < 100 := ⟨_, rfl, Int.emod_nonneg k5 (by omega), Int.emod_lt_of_pos k5 (by omega)⟩
        have hpk := fun w => pick_any k5 100 w (by omega) (by omega)
        rw [hy] at hpk
        have hw1 : IntKind.i64.wrap (bo + y) = bo + y := IntWalk.i64_in _ (by omega)
        haveI := q4.i
        have i0 : At (rgs vl) (k * 2) (.int .i64 ro) := ⟨rgs_at hv 0 (by omega)⟩
        have i1 : At (rgs vl) (k * 2 + 1) (.int .i64 bo) := ⟨rgs_at hv 1 (by omega)⟩
        haveI := i0
        haveI := i1
        have HV : Aside (vl[k]? = some (ro, bo)) := hv
        have hz : ∀ z : Int, (rgs vl).set (k * 2 + 1) (.int .i64 z) = rgs (vl.set k (ro, z)) := fun z => rgs_set1 hv z
        clear hv hx hy r0 r1 r2 r3
        have i2 : At ((rgs vl).set (k * 2 + 1) (.int .i64 (bo + y))) (k * 2) (.int .i64 ro) := ⟨by rw [List.getElem?_set_ne (by omega)]; exact rgs_at HV.out 0 (by omega)⟩
        haveI := i2
        have hz2 : ∀ z : Int, ((rgs vl).set (k * 2 + 1) (.int .i64 (bo + y))).set (k * 2) (.int .i64 z) = rgs ((vl.set k (ro, bo + y)).set k (z, bo + y)) := fun z => by
         rw [hz]
         exact rgs_set0 (by rw [List.getElem?_set_self (List.getElem?_eq_some_iff.1 HV.out).1]) z
        have HZ : Aside ((∀ z : Int, (rgs vl).set (k * 2 + 1) (.int .i64 z) = rgs (vl.set k (ro, z))) ∧ ∀ z : Int, ((rgs vl).set (k * 2 + 1) (.int .i64 (bo + y))).set (k * 2) (.int .i64 z) = rgs ((vl.set k (ro, bo + y)).set k (z, bo + y))) := ⟨hz, hz2⟩
        have HL1 : Aside (∀ z : Int × Int, (vl.set k z).length = i ∧ ∀ q p, k + 1 ≤ q → (vl.set k z)[q]? = some p → 0 ≤ p.2 ∧ p.2 ≤ 1048576) := fun z => ⟨by rw [List.length_set]; exact A2.out.2.1, fun q p hq hp => by
         rw [List.getElem?_set_ne (by omega)] at hp
         exact A2.out.2.2 q p (by omega) hp⟩
        have HL2 : Aside (∀ z u : Int × Int, ((vl.set k z).set k u).length = i ∧ ∀ q p, k + 1 ≤ q → ((vl.set k z).set k u)[q]? = some p → 0 ≤ p.2 ∧ p.2 ≤ 1048576) := fun z u => ⟨by rw [List.length_set, List.length_set]; exact A2.out.2.1, fun q p hq hp => by
         rw [List.getElem?_set_ne (by omega), List.getElem?_set_ne (by omega)] at hp
         exact A2.out.2.2 q p (by omega) hp⟩
        clear hz hz2
        go_wp2_with fail
        refine Dr.wpB_start (fun w' => w'.cell? ⟨ga, k * 2 + 1, none⟩ = some (.int .i64 bo) ∧ w'.cell? ⟨bm, om + k * 6 + 4, none⟩ = some (.int .i64 k5)) [14, 15, 16] (by kernel_rfl) ⟨cell_sat _ _ _, cell_sat _ _ _⟩ (fun hHeld => ?_)
        refine Dr.wpB_pure 0 (v := ?v0) (by simp only [List.getElem?_toArray, List.getElem?_cons_succ, List.getElem?_cons_zero]; rfl) (by kernel_rfl) ?hQ0 (.inl ⟨?hw0, fun w' => ?hy0⟩) ?_
        case hy0 => go_simp; try (with_reducible rfl)
        case hQ0 => exact fun _ _ _ h => h
        case hw0 => rfl
        simp only [Act.put, List.setIfInBounds_toArray, List.set_cons_zero, List.set_cons_succ]
        refine Dr.wpB_pure 1 (v := ?v1) (by simp only [List.getElem?_toArray, List.getElem?_cons_succ, List.getElem?_cons_zero]; rfl) (by kernel_rfl) ?hQ1 (.inl ⟨?hw1, fun w' => ?hy1⟩) ?_
        case hy1 => go_simp; try (with_reducible rfl)
        case hQ1 => exact fun _ _ _ h => h
        case hw1 => rfl
        simp only [Act.put, List.setIfInBounds_toArray, List.set_cons_zero, List.set_cons_succ]
        refine Dr.wpB_pure 2 (v := ?v2) (by simp only [List.getElem?_toArray, List.getElem?_cons_succ, List.getElem?_cons_zero]; rfl) (by kernel_rfl) ?hQ2 (.inl ⟨?hw2, fun w' => ?hy2⟩) ?_
        case hy2 => go_simp; try (with_reducible rfl)
        case hQ2 => exact fun _ _ _ h => h
        case hw2 => rfl
        simp only [Act.put, List.setIfInBounds_toArray, List.set_cons_zero, List.set_cons_succ]
        refine Dr.wpB_pure 3 (v := ?v3) (by simp only [List.getElem?_toArray, List.getElem?_cons_succ, List.getElem?_cons_zero]; rfl) (by kernel_rfl) ?hQ3 (.inl ⟨?hw3, fun w' => ?hy3⟩) ?_
        case hy3 => go_simp; try (with_reducible rfl)
        case hQ3 => exact fun _ _ _ h => h
        case hw3 => rfl
        simp only [Act.put, List.setIfInBounds_toArray, List.set_cons_zero, List.set_cons_succ]
        refine Dr.wpB_pure 4 (v := ?v4) (by simp only [List.getElem?_toArray, List.getElem?_cons_succ, List.getElem?_cons_zero]; rfl) (by kernel_rfl) ?hQ4 (.inl ⟨?hw4, fun w' => ?hy4⟩) ?_
        case hy4 => go_simp; try (with_reducible rfl)
        case hQ4 => exact fun _ _ _ h => h
        case hw4 => rfl
        simp only [Act.put, List.setIfInBounds_toArray, List.set_cons_zero, List.set_cons_succ]
        refine Dr.wpB_pure 5 (v := ?v5) (by simp only [List.getElem?_toArray, List.getElem?_cons_succ, List.getElem?_cons_zero]; rfl) (by kernel_rfl) ?hQ5 (.inl ⟨?hw5, fun w' => ?hy5⟩) ?_
        case hy5 => go_simp; try (with_reducible rfl)
        case hQ5 => exact fun _ _ _ h => h
        case hw5 => rfl
        simp only [Act.put, List.setIfInBounds_toArray, List.set_cons_zero, List.set_cons_succ]
        refine Dr.wpB_take 6 (v := ?v6) (by simp only [List.getElem?_toArray, List.getElem?_cons_succ, List.getElem?_cons_zero]; rfl) (by kernel_rfl) ?hQ6 (.inl ⟨?hw6, fun w' hw => ?hy6⟩) hHeld ?_
        case hy6 => (try dsimp only at hw); go_simp; try (with_reducible rfl)
        case hQ6 => exact fun _ _ _ h => h
        case hw6 => rfl
        simp only [Act.put, List.setIfInBounds_toArray, List.set_cons_zero, List.set_cons_succ]
        refine Dr.wpB_pure 7 (v := ?v7) (by simp only [List.getElem?_toArray, List.getElem?_cons_succ, List.getElem?_cons_zero]; rfl) (by kernel_rfl) ?hQ7 (.inl ⟨?hw7, fun w' => ?hy7⟩) ?_
        case hy7 => go_simp; try (with_reducible rfl)
        case hQ7 => exact fun _ _ _ h => h
        case hw7 => rfl
        simp only [Act.put, List.setIfInBounds_toArray, List.set_cons_zero, List.set_cons_succ]
        refine Dr.wpB_pure 8 (v := ?v8) (by simp only [List.getElem?_toArray, List.getElem?_cons_succ, List.getElem?_cons_zero]; rfl) (by kernel_rfl) ?hQ8 (.inl ⟨?hw8, fun w' => ?hy8⟩) ?_
        case hy8 => go_simp; try (with_reducible rfl)
        case hQ8 => exact fun _ _ _ h => h
        case hw8 => rfl
        simp only [Act.put, List.setIfInBounds_toArray, List.set_cons_zero, List.set_cons_succ]
        refine Dr.wpB_pure 9 (v := ?v9) (by simp only [List.getElem?_toArray, List.getElem?_cons_succ, List.getElem?_cons_zero]; rfl) (by kernel_rfl) ?hQ9 (.inl ⟨?hw9, fun w' => ?hy9⟩) ?_
        case hy9 => go_simp; try (with_reducible rfl)
        case hQ9 => exact fun _ _ _ h => h
        case hw9 => rfl
        simp only [Act.put, List.setIfInBounds_toArray, List.set_cons_zero, List.set_cons_succ]
        refine Dr.wpB_pure 10 (v := ?v10) (by simp only [List.getElem?_toArray, List.getElem?_cons_succ, List.getElem?_cons_zero]; rfl) (by kernel_rfl) ?hQ10 (.inl ⟨?hw10, fun w' => ?hy10⟩) ?_
        case hy10 => go_simp; try (with_reducible rfl)
        case hQ10 => exact fun _ _ _ h => h
        case hw10 => rfl
        simp only [Act.put, List.setIfInBounds_toArray, List.set_cons_zero, List.set_cons_succ]
        refine Dr.wpB_take 11 (v := ?v11) (by simp only [List.getElem?_toArray, List.getElem?_cons_succ, List.getElem?_cons_zero]; rfl) (by kernel_rfl) ?hQ11 (.inl ⟨?hw11, fun w' hw => ?hy11⟩) hHeld ?_
        case hy11 => (try dsimp only at hw); go_simp; try (with_reducible rfl)
        case hQ11 => exact fun _ _ _ h => h
        case hw11 => rfl
        simp only [Act.put, List.setIfInBounds_toArray, List.set_cons_zero, List.set_cons_succ]
        refine Dr.wpB_one 12 (by simp only [List.getElem?_toArray, List.getElem?_cons_succ, List.getElem?_cons_zero]; rfl) (by kernel_rfl) ?_
        go_wp2_with (go_simp; go_at_call 21; with_reducible refine Calls.mono (hpk _) ?_; rintro e w7 ⟨rfl, hw7⟩; subst hw7)
        refine Dr.nextQ_n ⟨⟨cell_sat _ _ _, cell_sat _ _ _⟩, ?_⟩
        refine Dr.wpB_pure 13 (v := ?v13) (by simp only [List.getElem?_toArray, List.getElem?_cons_succ, List.getElem?_cons_zero]; rfl) (by kernel_rfl) ?hQ13 (.inl ⟨?hw13, fun w' => ?hy13⟩) ?_
        case hy13 => go_simp; try (with_reducible rfl)
        case hQ13 => exact fun _ _ _ h => h
        case hw13 => rfl
        simp only [Act.put, List.setIfInBounds_toArray, List.set_cons_zero, List.set_cons_succ]
        refine Dr.wpB_tail [14, 15, 16] (os := [_, _, _]) (by decide) (by simp only [List.map_cons, List.map_nil, List.getElem?_toArray, List.getElem?_cons_succ, List.getElem?_cons_zero]; rfl) (by kernel_rfl) ?_
        by_cases hk6 : 0 < k6
        · go_wp2_with fail
          go_roundg (i - (k + 1))
          case measure => have := A2.out.1; omega
          case rel => exact ⟨k + 1, (vl.set k (ro, bo + y)).set k (k6 % 50, bo + y), by go_num, by omega, ⟨rfl, HL2.out _ _⟩, by rw [← HZ.out.2]; exact keep8 _ _ _ _ _ _ _ _⟩
        · go_wp2_with fail
          go_roundg (i - (k + 1))
          case measure => have := A2.out.1; omega
          case rel => exact ⟨k + 1, vl.set k (ro, bo + y), by go_num, by omega, ⟨rfl, HL1.out _⟩, by rw [← HZ.out.1]; exact keep8 _ _ _ _ _ _ _ _⟩
      · have hki' : ¬ (k : Int) < i := by omega
        obtain rfl : i = k := by omega
        have HL : Aside (vl.length = i) := A2.out.2.1
        clear A2
        go_wp2_with fail
        with_reducible refine Calls.mono (HFL.out.1 _ _ (takeI (treeP h s))) ?_
        rintro e w5 ⟨rfl, q5⟩
        haveI := q5.i
        go_wp2
        go_ret2
        refine .inr ⟨s.flushed, vl, a1, c1, by rw [HL.out]; rfl, by rw [HL.out]; omega, HFL.out.2.1.inv, HFL.out.2.1.clean, by have := HFL.out.2.1.left; have := HFL.out.2.2.1; omega, sameCap_goes.next _ _ _ HFL.out.2.2.2 HFL.out.2.1.cap, ?_⟩
        rw [HL.out]
        unfold bench18
        exact keep5 _ _ _ _ _
end Go.Proofs.YtfhbmblbidcmmaaGreat
namespace Go.Proofs.YtfhbmblbidcmmaaGreat
set_option linter.unusedSimpArgs false
set_option linter.unusedVariables false
open Go.RowKit Go.Sl Go.Dk Go.Tr
theorem file_view2 {file : List UInt8} (h : file.length ≤ 256 * 65000) : ∀ p n, fileNode file p = some n → may n = true ∧ 1 ≤ p ∧ p < (65000 : Nat) := fun p n hp => by
 have := fileNode_in hp
 exact ⟨fileNode_may hp, this.1, by omega⟩
theorem ver_same {V : Int → Option Nd} {d : Dk} {O T : List UInt8} (hO : fnow d nmO = O) (hT : fnow d nmT = T) (eo et : Nat) (vl : List (Int × Int)) : vl.all (verOk V d eo et) = vl.all (verOkC V (cutC (O.take eo) (T.take et))) := by
 have e : cutE d eo et = cutC (O.take eo) (T.take et) := by
  funext src
  unfold cutE cutC
  rw [hO, hT]
 unfold verOk verOkC
 rw [e]
structure Blt (O T : List UInt8) (s : TS) (file : List UInt8) : Prop where
 nm : s.ck.nm = nmS
 fine : Fine s.ck.d nmS
 fineO : Fine s.ck.d nmO
 fineT : Fine s.ck.d nmT
 now : fnow s.ck.d nmS = file
 nowO : fnow s.ck.d nmO = O
 nowT : fnow s.ck.d nmT = T
 len : file.length ≤ 256 * 65000
 rdy : Rdy (fileNode file) 59000000 s
theorem blt_of {O T : List UInt8} {s : TS} (hI : TInv true s) (hc : Clean s.ck) (hl : 59000000 ≤ leftOps s) (hcap : SameCap (tsL O T 7) s) : Blt O T s (fnow s.ck.d nmS) := by
 have hnm : s.ck.nm = nmS := hcap.nm
 have hoth : ∀ n, n ≠ nmS → s.ck.d.get n = (dkOT O T).get n := hcap.oth
 have hO : s.ck.d.get nmO = some ⟨O, O, true⟩ := by rw [hoth nmO nmSO.symm]; exact get_O _ _
 have hT : s.ck.d.get nmT = some ⟨T, T, true⟩ := by rw [hoth nmT nmST.symm]; exact get_T _ _
 have hf : Fine s.ck.d nmS := by have := hI.good.fine; rwa [hnm] at this
 have htop := hI.good.top.1
 rw [hnm, show TOP = 65000 from rfl] at htop
 have hr := clean_rdy hI hc
 have hfo : fileOf s = fnow s.ck.d nmS := by unfold fileOf; rw [hnm]
 rw [hfo] at hr
 exact ⟨hnm, hf, fine_other hf (by decide +kernel) (by rw [hO]; rfl), fine_other hf (by decide +kernel) (by rw [hT]; rfl), rfl, by unfold fnow; rw [hO]; rfl, by unfold fnow; rw [hT]; rfl, htop, hr.less hl⟩
theorem tsL_left (O T : List UInt8) (c : Int) : leftOps (tsL O T c) = 67108850 := by
 show (opsMax - 0) / 2 = 67108850
 unfold opsMax
 rfl
end Go.Proofs.YtfhbmblbidcmmaaGreat
namespace Go.Proofs.YtfhbmblbidcmmaaGreat
set_option linter.unusedSimpArgs false
set_option linter.unusedVariables false
open Go.RowKit Go.Sl Go.Dk Go.Tr
attribute [local go_sem ↓] Go.wp_at_zero Go.wp_at_succ
attribute [local go_sem] Go.Sl.cell_sat Go.Sl.frozen_sat
theorem readsRB {k : Nat} (e : TypeId) (b n : Nat) (xs : List Value) (hx : xs.length = n * k) (hn : n ≤ 1000) : ReadsR k (Sl.block b e xs) (.slice (some ⟨b, 0, none⟩) n n) n xs := by
 refine ⟨hx, _, _, rfl, Nat.le_refl _, by omega, fun j u hj => ⟨b, 0, rfl, ?_⟩⟩
 haveI : At xs j u := ⟨hj⟩
 rw [Nat.zero_add]
 infer_instance
theorem aw18_pages {s : TS} {V : Int → Option Nd} (A : Aw18 s V) {ns : List Int} (hp : ns.Pairwise (· < ·)) (h : (∀ v ∈ [((1 : Int), (5 : Int)), (1, 5), (0, 0)], (rTree V v.1).ok = true) → ∀ x, x ∈ ns ↔ ∃ v ∈ [((1 : Int), (5 : Int)), (1, 5), (0, 0)], x ∈ (rTree V v.1).pages) : ns = [1] := by
 have e0 : rTree V 0 = ⟨true, 0, [], []⟩ := by unfold rTree; rw [if_pos rfl]
 have h1 := h (by
  intro v hv
  simp only [List.mem_cons, List.not_mem_nil, or_false] at hv
  rcases hv with rfl | rfl | rfl
  · rw [A.tree]
  · rw [A.tree]
  · rw [e0])
 refine rising_eq hp (by simp) fun x => (h1 x).trans ⟨?_, ?_⟩
 · rintro ⟨v, hv, hx⟩
   simp only [List.mem_cons, List.not_mem_nil, or_false] at hv
   rcases hv with rfl | rfl | rfl
   · rwa [A.tree] at hx
   · rwa [A.tree] at hx
   · rw [e0] at hx; cases hx
 · intro hx
   exact ⟨(1, 5), by simp, by rw [A.tree]; exact hx⟩
theorem aw18_all {s : TS} {V : Int → Option Nd} (A : Aw18 s V) : (∃ v ∈ [((1 : Int), (5 : Int)), (1, 5), (0, 0)], (rTree V v.1).ok = false) → False := by
 have e0 : rTree V 0 = ⟨true, 0, [], []⟩ := by unfold rTree; rw [if_pos rfl]
 rintro ⟨v, hv, hx⟩
 simp only [List.mem_cons, List.not_mem_nil, or_false] at hv
 rcases hv with rfl | rfl | rfl
 · rw [A.tree] at hx; cases hx
 · rw [A.tree] at hx; cases hx
 · rw [e0] at hx; cases hx
theorem aw18_ver {s s2 : TS} {V : Int → Option Nd} (A : Aw18 s V) (hd : s2.ck.d = s.ck.d) (n : Int) : [((1 : Int), n)].all (verOk V s2.ck.d 5 1) = decide (n = 5) := by
 simp only [List.all_cons, List.all_nil, Bool.and_true]
 unfold verOk
 simp only
 rw [A.tree]
 simp only [Bool.true_and, List.all_cons, List.all_nil, Bool.and_true]
 have e1 : eBytes [⟨0, 0, 5, -1⟩] = 5 := by decide
 have e2 : entOk (cutE s2.ck.d 5 1 0) ⟨0, 0, 5, -1⟩ = true := by
  unfold cutE
  rw [if_pos rfl, hd, A.cutO]
  decide
 rw [e1, e2, Bool.and_true]
 by_cases h : n = 5
 · subst h; rfl
 · rw [decide_eq_false h, decide_eq_false (fun e => h e.symm)]
theorem lit_run {P : Program} {s e : TypeId} (h1 : P.underlying s = some (.slice e)) (h2 : P.underlying e = some (.int .u8)) (cs : Array Value) (t : TypeId) (n : Nat) {F : Assn} {w : World} (hs : Sat F w) :
 ∃ w', Sem.run P (convert s s (.slice (some ⟨w.heap.size, 0, none⟩) n n)) (w.alloc (.cells cs t)) = .ok (.slice (some ⟨w.heap.size, 0, none⟩) n n) w' ∧ Sat (raw w.heap.size (.cells cs t (cs.size, cs.size + 1)) * F) w' ∧ w'.heap.size = w.heap.size + 1 := by
 have q := hs.alloc_raw (.cells cs t)
 have q2 := q.setRaw (.cells cs t (cs.size, cs.size + 1))
 have hb : (w.alloc (.cells cs t)).heap[w.heap.size]? = some (.cells cs t) := q.obj
 have hfz : (w.alloc (.cells cs t)).freeze ⟨w.heap.size, cs.size, none⟩ 1 = { w.alloc (.cells cs t) with heap := (w.alloc (.cells cs t)).heap.setIfInBounds w.heap.size (.cells cs t (cs.size, cs.size + 1)) } := by
  unfold World.freeze
  rw [if_neg (by decide)]
  congr 1
  apply Array.ext_getElem?
  intro i
  simp only [Array.getElem?_modify, Array.getElem?_setIfInBounds]
  by_cases hib : w.heap.size = i
  · subst hib
    have hlt := lt_of_some hb
    have hgb := (Array.getElem?_eq_some_iff.1 hb).2
    simp [hlt, hgb]
  · simp [hib]
 refine ⟨_, ?_, q2, by simp⟩
 unfold convert
 have hsh : (w.alloc (.cells cs t)).shape? w.heap.size = some (t, cs.size) := by simp only [World.shape?, hb]
 simp [Go.underlying, h1, h2, markStringish, Go.shape, hsh, Go.freeze, Sem.run_bind, Sem.run, hfz]
theorem Reads.raw0 {b t : Nat} {fz : Nat × Nat} {l : List UInt8} (hm : l.length ≤ maxLen) : Reads (raw b (.cells (bys l).toArray t fz)) (.slice (some ⟨b, 0, none⟩) l.length l.length) l := fun F w hs => by
 have h1 := hs.obj
 refine ⟨_, _, rfl, Nat.le_refl _, hm, fun i x hx => ⟨b, 0, rfl, ?_⟩⟩
 rw [Nat.zero_add]
 simp [World.cell?, h1, bys, hx]
set_option maxRecDepth 100000 in
set_option maxHeartbeats 6400000 in
theorem awake18_any (F : Assn) (w : World) (hs : Sat F w) : Calls Tryz.prog 53 #[] w fun e w' => e = .returned (.bool true) ∧ Sat F w' := by
 obtain ⟨s1, V, A⟩ := aw18_facts
 obtain ⟨xw1, xe1, xp1, xz1⟩ := lit_run (P := Tryz.prog) Tryz.underlying26 Tryz.underlying5 #[.int .u8 97, .int .u8 98, .int .u8 10, .int .u8 99, .int .u8 100] TB 5 hs
 obtain ⟨xw2, xe2, xp2, xz2⟩ := lit_run (P := Tryz.prog) Tryz.underlying26 Tryz.underlying5 #[.int .u8 120] TB 1 xp1
 have q0 : Sat ((raw w.heap.size (.cells (bys aw18O).toArray TB (5, 6)) * raw xw1.heap.size (.cells (bys aw18T).toArray TB (1, 2))) * F) xw2 := xp2.eq (by show raw xw1.heap.size (.cells (bys aw18T).toArray TB (1, 2)) * (raw w.heap.size (.cells (bys aw18O).toArray TB (5, 6)) * F) = _; ac_rfl)
 have hset2 := set18_any aw18O aw18T (.slice (some ⟨w.heap.size, 0, none⟩) 5 5) (.slice (some ⟨xw1.heap.size, 0, none⟩) 1 1) (raw w.heap.size (.cells (bys aw18O).toArray TB (5, 6)) * raw xw1.heap.size (.cells (bys aw18T).toArray TB (1, 2))) F xw2 (Reads.left (Reads.raw0 (l := aw18O) (by decide))) (Reads.right (Reads.raw0 (l := aw18T) (by decide))) q0 (by decide) (by decide)
 obtain ⟨BB, hBB⟩ := nmd (raw w.heap.size (.cells (bys aw18O).toArray TB (5, 6)) * raw xw1.heap.size (.cells (bys aw18T).toArray TB (1, 2)))
 rw [hBB] at hset2
 have HB : Aside (∀ (h : Th) (v : Value) (B F : Assn) (w : World), ReadsE B v [⟨0, 0, 5, -1⟩] → Sat (treeP h (tsL aw18O aw18T 7) * (B * F)) w →
  Calls Tryz.prog 23 #[.pointer (some ⟨h.t, 0, none⟩), v] w fun e w' => e = .returned (.tuple #[.int .i64 1, .int .i64 0]) ∧ Sat (treeP h s1 * (B * F)) w') := fun h v B F w hE q => by
  have := build_any h (tsL aw18O aw18T 7) [⟨0, 0, 5, -1⟩] v B F w hE q (by simp) (by rw [A.run]; simp)
  rw [A.run] at this
  exact this
 obtain ⟨s0, hs0⟩ : ∃ s0, tsL aw18O aw18T 7 = s0 := ⟨_, rfl⟩
 rw [hs0] at hset2 HB
 have HA : Aside (Aw18 s1 V) := A
 haveI := hs.i
 clear hs0 q0 A xp1 xp2 xz1 xz2 hBB
 go_enter Tryz.func53, Tryz.ntmps53
 go_wp2_with fail
 refine hset2.mono ?_
 rintro e w1 ⟨b, h, rfl, q1⟩
 unfold bench18 at q1
 haveI := q1.i
 clear hset2 xe1 xe2
 go_wp2_with fail
 have q2 : Sat (treeP h s0 * (Sl.block w1.heap.size TEn (ecs [⟨0, 0, 5, -1⟩]) * (Sl.block b TB18 [.pointer (some ⟨h.D, 0, none⟩), .pointer (some ⟨h.C, 0, none⟩), .pointer (some ⟨h.t, 0, none⟩)] * F))) (w1.alloc (.cells #[.int .i64 0, .int .i64 0, .int .i64 5, .int .i64 (-1)] TEn)) := by
  show Sat (treeP h s0 * (Sl.block w1.heap.size TEn [.int .i64 0, .int .i64 0, .int .i64 5, .int .i64 (-1)] * _)) _
  exact satI_weak (C := BB) (by ac_rfl)
 refine (HB.out h _ _ _ _ (readsRB (k := 4) TEn w1.heap.size 1 _ rfl (by omega)) q2).mono ?_
 rintro e w2 ⟨rfl, q3⟩
 haveI := q3.i
 clear q1 q2 HB
 obtain ⟨B1, hB1⟩ : ∃ B, Sl.block w1.heap.size TEn (ecs [⟨0, 0, 5, -1⟩]) = B := ⟨_, rfl⟩
 rw [hB1] at q3
 haveI := q3.i
 clear hB1
 go_wp2_with fail
 have q4 : Sat (treeP h s1 * (Sl.block w2.heap.size TVr (rgs [(1, 5), (1, 5), (0, 0)]) * (Sl.block b TB18 [.pointer (some ⟨h.D, 0, none⟩), .pointer (some ⟨h.C, 0, none⟩), .pointer (some ⟨h.t, 0, none⟩)] * F))) (w2.alloc (.cells #[.int .i64 1, .int .i64 5, .int .i64 1, .int .i64 5, .int .i64 0, .int .i64 0] TVr)) := by
  show Sat (treeP h s1 * (Sl.block w2.heap.size TVr [.int .i64 1, .int .i64 5, .int .i64 1, .int .i64 5, .int .i64 0, .int .i64 0] * _)) _
  exact satI_weak (C := B1) (by ac_rfl)
 refine (cpages_any V [1] h 50000000 s1 _ [(1, 5), (1, 5), (0, 0)] _ _ _ HA.out.view (by decide) (HA.out.rdy.less (by decide)) (readsRB (k := 2) TVr w2.heap.size 3 _ rfl (by omega)) (by decide) q4).mono ?_
 rintro e w3 ⟨s2, hsp, hd, ⟨ns, a, c, rfl, hnp, hr2, hmem, q5⟩ | ⟨rfl, _, hbad, _⟩⟩
 rotate_left
 · exact (aw18_all HA.out hbad).elim
 obtain rfl := aw18_pages HA.out hnp hmem
 obtain ⟨g, rfl⟩ := row_some (hs := q5) (by decide)
 obtain ⟨B2, hB2⟩ : ∃ B, Sl.block w2.heap.size TVr (rgs [(1, 5), (1, 5), (0, 0)]) = B := ⟨_, rfl⟩
 rw [hB2] at q5
 have HS1 : Aside (∀ (b : Nat) (F : Assn) w, Sat (treeP h s2 * (Sl.block b TVr [.int .i64 1, .int .i64 5] * F)) w → Calls Tryz.prog 60 #[.pointer (some ⟨h.t, 0, none⟩), .slice (some ⟨b, 0, none⟩) 1 1, .pointer (some ⟨h.D, 0, none⟩), .int .i64 5, .int .i64 1] w fun e w' => ∃ s3, e = .returned (.int .i64 0) ∧ Aside (Rdy V 40000000 s3 ∧ s3.ck.d = s2.ck.d) ∧ Sat (treeP h s3 * (Sl.block b TVr [.int .i64 1, .int .i64 5] * F)) w') := fun b F w q => by
  refine (csound_any V 2 h 40000000 s2 _ [(1, 5)] (Sl.block b TVr [.int .i64 1, .int .i64 5]) F 5 1 w (fun p n hp => by have := HA.out.view p n hp; exact ⟨this.2.2.1, this.1, by have := this.2.2.2; simp at this; omega⟩) (hr2.less (by decide)) (by omega) (by omega) (by rw [hd]; exact HA.out.fine) (readsRB (k := 2) TVr b 1 [.int .i64 1, .int .i64 5] rfl (by omega)) (by decide) q).mono ?_
  rintro e w' ⟨s3, m', q', _, hd3, hr3, he, hm3⟩
  rw [aw18_ver HA.out hd] at he hm3
  exact ⟨s3, he, ⟨hr3.less (hm3 rfl), hd3⟩, q'⟩
 have HS2 : Aside (∀ (s3 : TS) (b : Nat) (F : Assn) w, Aside (Rdy V 40000000 s3 ∧ s3.ck.d = s2.ck.d) → Sat (treeP h s3 * (Sl.block b TVr [.int .i64 1, .int .i64 6] * F)) w → Calls Tryz.prog 60 #[.pointer (some ⟨h.t, 0, none⟩), .slice (some ⟨b, 0, none⟩) 1 1, .pointer (some ⟨h.D, 0, none⟩), .int .i64 5, .int .i64 1] w fun e w' => ∃ s4, e = .returned (.int .i64 13) ∧ Sat (treeP h s4 * (Sl.block b TVr [.int .i64 1, .int .i64 6] * F)) w') := fun s3 b F w hr q => by
  refine (csound_any V 2 h 30000000 s3 _ [(1, 6)] (Sl.block b TVr [.int .i64 1, .int .i64 6]) F 5 1 w (fun p n hp => by have := HA.out.view p n hp; exact ⟨this.2.2.1, this.1, by have := this.2.2.2; simp at this; omega⟩) (hr.out.1.less (by decide)) (by omega) (by omega) (by rw [hr.out.2, hd]; exact HA.out.fine) (readsRB (k := 2) TVr b 1 [.int .i64 1, .int .i64 6] rfl (by omega)) (by decide) q).mono ?_
  rintro e w' ⟨s4, m', q', _, hd3, hr3, he, hm3⟩
  rw [aw18_ver HA.out (hr.out.2.trans hd)] at he
  exact ⟨s4, he, q'⟩
 have q6 : Sat (treeP h s2 * (rw TIn 1 (.slice (some ⟨g, 0, none⟩) 1 c) [.int .i64 1] * (Sl.block b TB18 [.pointer (some ⟨h.D, 0, none⟩), .pointer (some ⟨h.C, 0, none⟩), .pointer (some ⟨h.t, 0, none⟩)] * (B2 * F)))) w3 := q5.eq (by show rw TIn 1 (.slice (some ⟨g, 0, none⟩) 1 c) [.int .i64 1] * _ = _; ac_rfl)
 haveI := q6.i
 clear q3 q4 q5 hB2 hnp hr2 hmem hsp hd
 go_wp2_with fail
 go_region_held3 (fun w' => w'.cell? ⟨b, 0, none⟩ = some (.pointer (some ⟨h.D, 0, none⟩)) ∧ w'.cell? ⟨b, 2, none⟩ = some (.pointer (some ⟨h.t, 0, none⟩)) ∧ w'.cell? ⟨g, 0, none⟩ = some (.int .i64 1)) (first | exact ⟨cell_sat _ _ _, cell_sat _ _ _, cell_sat _ _ _⟩) (first
  | (go_at_call 60; with_reducible refine Calls.mono (HS1.out _ _ _ (takeI2 (treeP h s2) (Sl.block w3.heap.size TVr [.int .i64 1, .int .i64 5]))) ?_; rintro e w5 ⟨s3, rfl, HR3, q7⟩; haveI := q7.i)
  | (go_at_call 60; with_reducible refine Calls.mono (HS2.out s3 _ _ _ HR3 (takeI2 (treeP h s3) (Sl.block w5.heap.size TVr [.int .i64 1, .int .i64 6]))) ?_; rintro e w6 ⟨s4, rfl, q8⟩; haveI := q8.i))
 all_goals
  go_wp2
  go_ret
  exact ⟨rfl, keep1 F⟩
end Go.Proofs.YtfhbmblbidcmmaaGreat
namespace Go.Proofs.YtfhbmblbidcmmaaGreat
set_option linter.unusedSimpArgs false
set_option linter.unusedVariables false
open Go.RowKit Go.Sl Go.Dk Go.Tr
attribute [local go_sem ↓] Go.wp_at_zero Go.wp_at_succ
attribute [local go_sem] Go.Sl.cell_sat Go.Sl.frozen_sat
theorem below_is18 {A R : Assn} {w w' : World} [h : SatI A w'] [t : Take A (old w) R] : Below w.heap.size w w' := (h.out.take (old w)).old_below
end Go.Proofs.YtfhbmblbidcmmaaGreat
namespace Go.Proofs.YtfhbmblbidcmmaaGreat
set_option linter.unusedSimpArgs false
set_option linter.unusedVariables false
open Go.RowKit Go.Sl Go.Dk Go.Tr
attribute [local go_sem ↓] Go.wp_at_zero Go.wp_at_succ
attribute [local go_sem] Go.Sl.cell_sat Go.Sl.frozen_sat
set_option maxRecDepth 100000 in
set_option maxHeartbeats 6400000 in
theorem censusSound_walk (O T : List UInt8) (aO : Option Addr) (nO cO : Nat) (aT : Option Addr) (nT cT : Nat) (va : Value) (cs : List MakeT) (less more : Int) (w : World) (hO : Reads (old w) (.slice aO nO cO) O) (hT : Reads (old w) (.slice aT nT cT) T) (hM : ReadsM (old w) va cs) (hM2 : ∀ c ∈ cs, ReadsE (old w) (.slice c.a c.put.length c.c) c.put) (hM3 : cs.length ≤ 9223372036854775807) :
 Calls Tryz.prog 10 #[.agg #[.slice aO nO cO, .slice aT nT cT], va, .int .i64 less, .int .i64 more] w fun e w' => e = .returned (.bool true) ∧ Below w.heap.size w w' := by
 have hs0' : Sat (old w * 1) w := (Sat.old_self w).eq (sep_one _).symm
 have hOn : O.length = nO := by obtain ⟨_, _, e0, _, _⟩ := readsB hO hs0'; cases e0; rfl
 have hTn : T.length = nT := by obtain ⟨_, _, e0, _, _⟩ := readsB hT hs0'; cases e0; rfl
 have hlg := fun F w q => long18_any aO aT nO cO nT cT F w q
 haveI := hs0'.i
 by_cases hlong : 3000 < nO ∨ 3000 < nT
 · rw [decide_eq_true hlong] at hlg
   clear hO hT hM hM2 hM3 hOn hTn hlong
   go_enter Tryz.func10, Tryz.ntmps10
   go_wp2_with fail
   with_reducible refine clS (awake18_any _ _ (takeI (old w))) fun w1 q1 _ => ?_
   go_wp2_with fail
   with_reducible refine clS (hlg _ _ (takeI (old w))) fun w2 q2 _ => ?_
   go_wp2_with fail
   with_reducible refine clS (awake18_any _ _ (takeI (old w))) fun w3 q3 _ => ?_
   go_wp2
   go_ret
   exact ⟨rfl, below_is18⟩
 · rw [decide_eq_false hlong] at hlg
   have hnO : nO ≤ 3000 := by omega
   have hnT : nT ≤ 3000 := by omega
   have HSET := asd fun (F : Assn) (w1 : World) (q : Sat (old w * F) w1) => set18_any O T (.slice aO nO cO) (.slice aT nT cT) (old w) F w1 hO hT q (by omega) (by omega)
   have HBL := asd fun (h : Th) (b : Nat) (F : Assn) (w1 : World) (q : Sat (treeP h (tsL O T 7) * (bench18 b h * (old w * F))) w1) => build18_any h (tsL O T 7) b aO nO cO aT nT cT T cs va (old w) F w1 (tsL_inv O T 7 (by omega) (by omega) (by omega) (by omega)) (by rw [tsL_left]; omega) (by rw [tsL_room]; omega) (by show (7 : Int) ≤ 1000; omega) hT hTn hnT hM hM2 hM3 q
   obtain ⟨s0, hs0⟩ := nmd (tsL O T 7)
   rw [hs0] at HSET HBL
   have HS0 := asd hs0
   have hcO : nO ≤ cO ∧ cO ≤ 9223372036854775807 := by obtain ⟨_, _, e0, h1, h2⟩ := readsB hO hs0'; cases e0; exact ⟨h1, h2⟩
   have hcT : nT ≤ cT ∧ cT ≤ 9223372036854775807 := by obtain ⟨_, _, e0, h1, h2⟩ := readsB hT hs0'; cases e0; exact ⟨h1, h2⟩
   have HOT : Aside (Reads (old w) (.slice aO nO cO) O ∧ O.length = nO ∧ Reads (old w) (.slice aT nT cT) T ∧ T.length = nT) := ⟨hO, hOn, hT, hTn⟩
   obtain ⟨i0, E⟩ := elemB
   clear hs0 hs0' hO hT hM hM2 hM3 hOn hTn hlong
   obtain ⟨N, hN⟩ := nmd w.heap.size
   go_enter Tryz.func10, Tryz.ntmps10
   go_wp2_with fail
   with_reducible refine clS (awake18_any _ _ (takeI (old w))) fun w1 q1 _ => ?_
   try rw [hN] at q1
   try rw [hN]
   haveI := q1.i
   clear hN
   go_wp2_with fail
   with_reducible refine clS (hlg _ _ (takeI (old w))) fun w2 q2 _ => ?_
   clear q1
   go_wp2_with fail
   with_reducible refine Calls.mono (HSET.out _ _ (takeI (old w))) ?_
   rintro e w3 ⟨b, h, rfl, q3⟩
   haveI := q3.i
   clear q2 hlg HSET
   go_wp2_with fail
   with_reducible refine Calls.mono (HBL.out h b _ _ (takeI3 (treeP h s0) (bench18 b h) (old w))) ?_
   rintro e w4 (⟨rfl, s', q5⟩ | ⟨s', vl, a, c, rfl, hvl, hI', hc', hl', hcap, q5⟩)
   · haveI := q5.i
     clear q3 HBL
     go_wp2
     go_ret
     exact ⟨rfl, below_is18⟩
   · have hB := blt_of (O := O) (T := T) hI' hc' hl' (by rw [HS0.out]; exact hcap)
     clear q3 HBL HS0 hI' hc' hl' hcap
     obtain ⟨file, hfile⟩ := nmd (fnow s'.ck.d nmS)
     rw [hfile] at hB
     clear hfile
     have hread := fun F w q => tread_file h s' F w q hB.fine
     rw [hB.now] at hread
     have hsize := fun F w q => tsize_file h s' nmS F w q (by decide)
     have hmax : max 0 (s'.ck.d.size nmS) = (file.length : Int) := by rw [← hB.now]; exact size_fnow hB.fine
     have hlf := hB.len
     obtain ⟨nf, hnf⟩ := nmd file.length
     rw [hnf] at hread hmax hlf
     obtain ⟨z, hz⟩ := nmd (s'.ck.d.size nmS)
     rw [hz] at hsize hmax
     obtain ⟨nv, hnv⟩ := nmd vl.length
     have HCS : Aside (∀ (eo et : Nat) F w, eo ≤ 3000 → et ≤ 3000 → Sat (treeP h s' * (rw TVe 2 (.slice a nv c) (rgs vl) * F)) w → Calls Tryz.prog 60 #[.pointer (some ⟨h.t, 0, none⟩), .slice a nv c, .pointer (some ⟨h.D, 0, none⟩), .int .i64 eo, .int .i64 et] w fun e w' => ∃ (s2 : TS) (cd : Int), e = .returned (.int .i64 cd) ∧ Aside (cd = if vl.all (verOkC (fileNode file) (cutC (O.take eo) (T.take et))) then 0 else 13) ∧ Sat (treeP h s2 * (rw TVe 2 (.slice a nv c) (rgs vl) * F)) w') := fun eo et F w h1 h2 q => by
      subst hnv
      refine (csound_any (fileNode file) 65000 h 0 s' _ vl (rw TVe 2 (.slice a vl.length c) (rgs vl)) F eo et w (file_view2 (by rw [hnf]; exact hlf)) (hB.rdy.less (by omega)) (by omega) (by omega) ⟨hB.fineO, hB.fineT⟩ (ReadsR.rw (q.eq (sep_swap _ _ _)) ⟨a, c, rfl⟩) (by omega) q).mono ?_
      rintro e w' ⟨s2, m', q', _, _, _, he, _⟩
      rw [ver_same hB.nowO hB.nowT] at he
      exact ⟨s2, _, he, rfl, q'⟩
     have HRS : Aside (∀ (af : Option Addr) (cf : Nat) (xO : Option Addr) (eo : Nat) (xT : Option Addr) (et : Nat) F w9, eo ≤ nO ∧ Reads (old w) (.slice xO eo cO) (O.take eo) → et ≤ nT ∧ Reads (old w) (.slice xT et cT) (T.take et) → Sat (rw TB 1 (.slice af nf cf) (bys file) * (rw TVe 2 (.slice a nv c) (rgs vl) * (old w * F))) w9 → Calls Tryz.prog 61 #[.slice af nf cf, .slice a nv c, .slice xO eo cO, .slice xT et cT] w9 fun e w' => e = .returned (.bool (vl.all (verOkC (fileNode file) (cutC (O.take eo) (T.take et))))) ∧ Sat (rw TB 1 (.slice af nf cf) (bys file) * (rw TVe 2 (.slice a nv c) (rgs vl) * (old w * F))) w') := fun af cf xO eo xT et F w9 hxO hxT q => by
      subst hnv
      exact rsound18_any file (O.take eo) (T.take et) (.slice af nf cf) (.slice a vl.length c) xO eo cO xT et cT vl (rw TB 1 (.slice af nf cf) (bys file)) (rw TVe 2 (.slice a vl.length c) (rgs vl)) (old w) F w9 (by subst hnf; exact Reads.rw) (by omega) hxO.2 hxT.2 (by rw [List.length_take, HOT.out.2.1]; omega) (by rw [List.length_take, HOT.out.2.2.2]; omega) (by omega) (by omega) (ReadsR.rw (q.eq (sep_swap _ _ _)) ⟨a, c, rfl⟩) (by omega) q
     have HRD : Aside (∀ F w, Sat (treeP h s' * F) w → Calls Tryz.prog 49 #[.pointer (some ⟨h.D, 0, none⟩), .string ⟨#[115, 116, 111, 114, 101]⟩, .int .i64 0, .int .i64 nf] w fun e w' => ∃ (a : Option Addr) (c : Nat) (er : Int), e = .returned (.tuple #[.slice a nf c, .int .i64 er]) ∧ Sat (rw TB 1 (.slice a nf c) (bys file) * (treeP h s' * F)) w') := hread
     have HSZ : Aside (∀ F w, Sat (treeP h s' * F) w → Calls Tryz.prog 50 #[.pointer (some ⟨h.D, 0, none⟩), .string ⟨#[115, 116, 111, 114, 101]⟩] w fun e w' => e = .returned (.int .i64 z) ∧ w = w') := hsize
     rw [hnv] at q5 ⊢
     have q6 : Sat (treeP h s' * (rw TVe 2 (.slice a nv c) (rgs vl) * (Sl.block b TB18 [.pointer (some ⟨h.D, 0, none⟩), .pointer (some ⟨h.C, 0, none⟩), .pointer (some ⟨h.t, 0, none⟩)] * (old w * Sl.block N TF18 [.slice aO nO cO, .slice aT nT cT])))) w4 := q5.eq (by unfold bench18; simp only [sep_one]; ac_rfl)
     have hlf2 := hlf
     clear q5 hB hread hsize hlf hnf hz hnv hvl
     haveI := q6.i
     go_wp2_with fail
     go_region
     go_upto_region 10 with (fail)
     go_cut [51] (fun t51 wx => t51 = .bool (decide (0 < less ∧ less ≤ (nO : Int))) ∧ Sat (treeP h s' * (rw TVe 2 (.slice a nv c) (rgs vl) * (Sl.block b TB18 [.pointer (some ⟨h.D, 0, none⟩), .pointer (some ⟨h.C, 0, none⟩), .pointer (some ⟨h.t, 0, none⟩)] * (old w * Sl.block N TF18 [.slice aO nO cO, .slice aT nT cT])))) wx)
     case first =>
      have hways : ¬ 0 < less ∨ 0 < less ∧ ¬ less ≤ (nO : Int) ∨ 0 < less ∧ less ≤ (nO : Int) := by omega
      rcases hways with h1 | ⟨h1, h2⟩ | ⟨h1, h2⟩
      · go_wp2
        go_meet
        exact ⟨by rw [decide_eq_false (by omega)], satI_eq (by ac_rfl)⟩
      · go_wp2
        go_meet
        exact ⟨by rw [decide_eq_false (by omega)], satI_eq (by ac_rfl)⟩
      · go_wp2
        go_meet
        exact ⟨by rw [decide_eq_true (by omega)], satI_eq (by ac_rfl)⟩
     obtain ⟨rfl, q12⟩ := hcut
     haveI := q12.i
     clear q6 this
     haveI := q12.i
     go_upto_if 51 with (fail)
     go_cut [12] (fun t12 wx => ∃ (xO : Option Addr) (eo : Nat), t12 = .slice xO eo cO ∧ Aside (eo ≤ nO ∧ Reads (old w) (.slice xO eo cO) (O.take eo)) ∧ Sat (treeP h s' * (rw TVe 2 (.slice a nv c) (rgs vl) * (Sl.block b TB18 [.pointer (some ⟨h.D, 0, none⟩), .pointer (some ⟨h.C, 0, none⟩), .pointer (some ⟨h.t, 0, none⟩)] * (old w * Sl.block N TF18 [.slice aO nO cO, .slice aT nT cT])))) wx)
     case first =>
      by_cases h1 : 0 < less ∧ less ≤ (nO : Int)
      · rw [decide_eq_true h1]
        obtain ⟨k, rfl⟩ : ∃ k : Nat, less = k := ⟨less.toNat, by omega⟩
        have hk : k ≤ nO := by omega
        have hw : IntKind.i64.wrap ((nO : Int) - k) = ((nO - k : Nat) : Int) := by rw [IntWalk.i64_in _ (by omega)]; omega
        have hsl : ∀ w, (Instr.sliceAt 26 (.slice aO nO cO) none (some (.int .i64 ((nO - k : Nat) : Int))) none).run Tryz.prog w = .ok (.slice (cutA aO cO 0 1) (nO - k) cO) w := fun w => at_to E (nO - k) (by omega) w
        have hrd := Reads.to HOT.out.1 (nO - k) (by omega)
        go_wp2
        go_meet
        exact ⟨_, _, rfl, ⟨by omega, hrd⟩, satI_eq (by ac_rfl)⟩
      · rw [decide_eq_false h1]
        have hrd : Reads (old w) (.slice aO nO cO) (O.take nO) := by rw [List.take_of_length_le (by have := HOT.out.2.1; omega)]; exact HOT.out.1
        go_wp2
        go_meet
        exact ⟨_, _, rfl, ⟨Nat.le_refl _, hrd⟩, satI_eq (by ac_rfl)⟩
     obtain ⟨xO, eo, rfl, HO, q12b⟩ := hcut
     clear q12 this
     haveI := q12b.i
     go_upto_region 12 with (fail)
     go_cut [65] (fun t65 wx => t65 = .bool (decide (0 < more ∧ more ≤ (nT : Int))) ∧ Sat (treeP h s' * (rw TVe 2 (.slice a nv c) (rgs vl) * (Sl.block b TB18 [.pointer (some ⟨h.D, 0, none⟩), .pointer (some ⟨h.C, 0, none⟩), .pointer (some ⟨h.t, 0, none⟩)] * (old w * Sl.block N TF18 [.slice aO nO cO, .slice aT nT cT])))) wx)
     case first =>
      have hways : ¬ 0 < more ∨ 0 < more ∧ ¬ more ≤ (nT : Int) ∨ 0 < more ∧ more ≤ (nT : Int) := by omega
      rcases hways with h1 | ⟨h1, h2⟩ | ⟨h1, h2⟩
      · go_wp2
        go_meet
        exact ⟨by rw [decide_eq_false (by omega)], satI_eq (by ac_rfl)⟩
      · go_wp2
        go_meet
        exact ⟨by rw [decide_eq_false (by omega)], satI_eq (by ac_rfl)⟩
      · go_wp2
        go_meet
        exact ⟨by rw [decide_eq_true (by omega)], satI_eq (by ac_rfl)⟩
     obtain ⟨rfl, q13⟩ := hcut
     haveI := q13.i
     clear q12b this
     haveI := q13.i
     go_upto_if 65 with (fail)
     go_cut [13] (fun t13 wx => ∃ (xT : Option Addr) (et : Nat), t13 = .slice xT et cT ∧ Aside (et ≤ nT ∧ Reads (old w) (.slice xT et cT) (T.take et)) ∧ Sat (treeP h s' * (rw TVe 2 (.slice a nv c) (rgs vl) * (Sl.block b TB18 [.pointer (some ⟨h.D, 0, none⟩), .pointer (some ⟨h.C, 0, none⟩), .pointer (some ⟨h.t, 0, none⟩)] * (old w * Sl.block N TF18 [.slice aO nO cO, .slice aT nT cT])))) wx)
     case first =>
      by_cases h1 : 0 < more ∧ more ≤ (nT : Int)
      · rw [decide_eq_true h1]
        obtain ⟨k, rfl⟩ : ∃ k : Nat, more = k := ⟨more.toNat, by omega⟩
        have hk : k ≤ nT := by omega
        have hw : IntKind.i64.wrap ((nT : Int) - k) = ((nT - k : Nat) : Int) := by rw [IntWalk.i64_in _ (by omega)]; omega
        have hsl : ∀ w, (Instr.sliceAt 26 (.slice aT nT cT) none (some (.int .i64 ((nT - k : Nat) : Int))) none).run Tryz.prog w = .ok (.slice (cutA aT cT 0 1) (nT - k) cT) w := fun w => at_to E (nT - k) (by omega) w
        have hrd := Reads.to HOT.out.2.2.1 (nT - k) (by omega)
        go_wp2
        go_meet
        exact ⟨_, _, rfl, ⟨by omega, hrd⟩, satI_eq (by ac_rfl)⟩
      · rw [decide_eq_false h1]
        have hrd : Reads (old w) (.slice aT nT cT) (T.take nT) := by rw [List.take_of_length_le (by have := HOT.out.2.2.2; omega)]; exact HOT.out.2.2.1
        go_wp2
        go_meet
        exact ⟨_, _, rfl, ⟨Nat.le_refl _, hrd⟩, satI_eq (by ac_rfl)⟩
     obtain ⟨xT, et, rfl, HT, q13b⟩ := hcut
     clear q13 this
     haveI := q13b.i
     have heo : eo ≤ 3000 := by have := HO.out.1; omega
     have het : et ≤ 3000 := by have := HT.out.1; omega
     go_wp2_with fail
     go_cut [14] (fun t14 wx => ∃ (af : Option Addr) (cf : Nat), t14 = .slice af nf cf ∧ Sat (treeP h s' * (rw TB 1 (.slice af nf cf) (bys file) * (rw TVe 2 (.slice a nv c) (rgs vl) * (Sl.block b TB18 [.pointer (some ⟨h.D, 0, none⟩), .pointer (some ⟨h.C, 0, none⟩), .pointer (some ⟨h.t, 0, none⟩)] * (old w * Sl.block N TF18 [.slice aO nO cO, .slice aT nT cT]))))) wx)
     case first =>
      go_region_held3 (fun w' => w'.cell? ⟨b, 0, none⟩ = some (.pointer (some ⟨h.D, 0, none⟩))) (exact cell_sat _ _ _) (first
       | (go_at_call 50; with_reducible refine Calls.mono (HSZ.out _ _ (takeI (treeP h s'))) ?_; rintro e w5 ⟨rfl, rfl⟩)
       | (go_at_call 49; with_reducible refine Calls.mono (HRD.out _ _ (takeI (treeP h s'))) ?_; rintro e w5 ⟨af, cf, er, rfl, q7⟩; haveI := q7.i))
      all_goals
       go_wp2_with fail
       go_meet
       exact ⟨af, cf, rfl, satI_eq (by ac_rfl)⟩
     case rest =>
      obtain ⟨af, cf, rfl, q7⟩ := hcut
      clear q13b HRD HSZ this
      haveI := q7.i
      go_wp2_with fail
      go_cut [16] (fun t16 wx => ∃ (s2 : TS) (cd : Int), t16 = .int .i64 cd ∧ Aside (cd = if vl.all (verOkC (fileNode file) (cutC (O.take eo) (T.take et))) then 0 else 13) ∧ Sat (treeP h s2 * (rw TB 1 (.slice af nf cf) (bys file) * (rw TVe 2 (.slice a nv c) (rgs vl) * (old w * 1)))) wx)
      case first =>
       go_region_held3 (fun w' => w'.cell? ⟨b, 0, none⟩ = some (.pointer (some ⟨h.D, 0, none⟩)) ∧ w'.cell? ⟨b, 2, none⟩ = some (.pointer (some ⟨h.t, 0, none⟩))) (first | exact ⟨cell_sat _ _ _, cell_sat _ _ _⟩) (first
        | (go_at_call 60; with_reducible refine Calls.mono (HCS.out eo et _ _ heo het (takeI2 (treeP h s') (rw TVe 2 (.slice a nv c) (rgs vl)))) ?_; rintro e w8 ⟨s2, cd, rfl, HC, q8⟩; haveI := q8.i))
       all_goals
        go_wp2_with fail
        go_meet
        exact ⟨s2, cd, rfl, HC, satI_weak (C := Sl.block b TB18 [.pointer (some ⟨h.D, 0, none⟩), .pointer (some ⟨h.C, 0, none⟩), .pointer (some ⟨h.t, 0, none⟩)] * Sl.block N TF18 [.slice aO nO cO, .slice aT nT cT]) (by rw [sep_one]; ac_rfl)⟩
      case rest =>
       obtain ⟨s2, cd, rfl, HC, q8⟩ := hcut
       clear q7 HCS this
       haveI := q8.i
       have q9' : Sat (rw TB 1 (.slice af nf cf) (bys file) * (rw TVe 2 (.slice a nv c) (rgs vl) * (old w * (treeP h s2 * 1)))) wc := q8.eq (by ac_rfl)
       have hrs := HRS.out af cf xO eo xT et _ _ HO.out HT.out q9'
       obtain ⟨bl, hbl⟩ := nmd (vl.all (verOkC (fileNode file) (cutC (O.take eo) (T.take et))))
       rw [hbl] at HC hrs
       have HRS2 := asd hrs
       clear HRS hrs hbl q9'
       go_wp2_with fail
       with_reducible refine clS HRS2.out fun w9 q9 _ => ?_
       clear q8 HRS2
       cases bl
       · obtain rfl : cd = 13 := HC.out
         go_wp2
         go_ret
         exact ⟨rfl, below_is18⟩
       · obtain rfl : cd = 0 := HC.out
         go_wp2
         go_ret
         exact ⟨rfl, below_is18⟩
end Go.Proofs.YtfhbmblbidcmmaaGreat
namespace Go.Proofs.YtfhbmblbidcmmaaGreat
set_option linter.unusedSimpArgs false
set_option linter.unusedVariables false
open Go.RowKit Go.Sl Go.Dk Go.Tr Go.ChangeShapes Go.WideShapes
theorem rowsL_map {α : Type} {f : α → List Value} {p : α → Prop} : ∀ l : List (List Value), (∀ r ∈ l, ∃ c, r = f c ∧ p c) → ∃ cs : List α, l = cs.map f ∧ ∀ c ∈ cs, p c
 | [], _ => ⟨[], rfl, by simp⟩
 | r :: l, hl => by
   obtain ⟨c, rfl, hc⟩ := hl r (by simp)
   obtain ⟨cs, rfl, hcs⟩ := rowsL_map l fun r' hr' => hl r' (by simp [hr'])
   exact ⟨c :: cs, rfl, fun c' hc' => by rcases List.mem_cons.1 hc' with rfl | h; exact hc; exact hcs _ h⟩
theorem u8L_wf {n : Int} (h : (Lit.int .u8 n).wf = true) : ∃ x : UInt8, n = (x.toNat : Int) := by
 have h1 : 0 ≤ n ∧ n ≤ 255 := by simpa [Lit.wf, IntKind.min, IntKind.max, IntKind.signed, IntKind.bits] using h
 refine ⟨UInt8.ofNat n.toNat, ?_⟩
 simp [UInt8.toNat_ofNat']
 omega
theorem sliceL_of {H : Type} {enc : TypeId × Value → H} {w : World} {base : Nat} {spare : Nat → Bool} {held : Bool} {t e fuel : Nat} {v : Value} {x : DataW H × List MemPlace}
 (ht : Tryz.prog.underlying t = some (.slice e)) (h : DataW.trod enc Tryz.prog w base spare held fuel t [v] = some x) : ∃ a n c, v = .slice a n c ∧ n ≤ c ∧ c ≤ maxLen := by
 rcases DataW.trod_slice ht h with ⟨h0, _⟩ | ⟨a, len, cap, elems, rest, n, _, h1, _, _, h2, h3, _⟩
 · exact ⟨none, 0, 0, by simpa using h0, Nat.le_refl _, by unfold maxLen; decide⟩
 · exact ⟨some a, len, cap, by simpa using h1, h2, h3⟩
theorem bytesL_in {H : Type} {enc : TypeId × Value → H} {w : World} {base : Nat} {spare : Nat → Bool} {held : Bool} {v : Value}
 (h : ∃ fuel x, DataW.trod enc Tryz.prog w base spare held fuel 26 [v] = some x) :
 ∃ (a : Option Addr) (n c : Nat) (l : List UInt8), v = .slice a n c ∧ Byt w (.slice a n c) l := by
 obtain ⟨fuel, x, hx⟩ := h
 obtain ⟨a, len, cap, rfl, hcap⟩ := sliceL_of Tryz.underlying26 hx
 obtain ⟨rs, h1, h2, h3, h4⟩ := rows_of_trod (s := 1) Tryz.underlying26 (by kernel_rfl) (by omega) hx
 obtain ⟨zs, rfl, hz⟩ := rowsL_map (f := fun z : UInt8 => [Value.int .u8 z.toNat]) (p := fun z => True) rs (by
  intro r hr
  obtain ⟨n, y, hy⟩ := h4 r hr
  obtain ⟨z, hz, _, hw⟩ := DataW.trod_int Tryz.underlying5 hy
  obtain ⟨x2, rfl⟩ := u8L_wf hw
  exact ⟨x2, hz, trivial⟩)
 obtain ⟨a', c', e1, h5⟩ := h1
 have e2 := e1
 simp only [List.length_map, Value.slice.injEq] at e2
 obtain ⟨rfl, rfl, rfl⟩ := e2
 refine ⟨a, _, cap, zs, rfl, a, cap, rfl, hcap.1, hcap.2, fun i z hi => ?_⟩
 obtain ⟨_, b, o, rfl, h6⟩ := h5 i [.int .u8 z.toNat] (by simp [hi])
 exact ⟨b, o, rfl, by have := h6 0 _ rfl; simpa [bv] using this⟩
theorem readsL_old {α : Type} {f : α → List Value} {s : Nat} (hf : ∀ x, (f x).length = s) (hp : 0 < s) {w : World} {a : Option Addr} {cap : Nat} {l : List α} (h : Rws w (.slice a l.length cap) s (l.map f)) (h1 : l.length ≤ cap) (h2 : cap ≤ 9223372036854775807) : ReadsR s (old w) (.slice a l.length cap) l.length (l.flatMap f) := by
 have hl4 : (l.flatMap f).length = l.length * s := flatV_len hf l
 refine ⟨hl4, a, cap, rfl, h1, h2, fun j u hj => ?_⟩
 have hjl : j < l.length * s := by
  rw [← hl4]
  exact (List.getElem?_eq_some_iff.1 hj).1
 have hjd : j / s < l.length := Nat.div_lt_of_lt_mul (by rw [Nat.mul_comm]; exact hjl)
 have hjm : j % s < s := Nat.mod_lt _ hp
 have ej : j / s * s + j % s = j := by rw [Nat.mul_comm]; exact Nat.div_add_mod j s
 obtain ⟨x, hx⟩ : ∃ x, l[j / s]? = some x := ⟨_, List.getElem?_eq_getElem hjd⟩
 have hfl := flat_at (f := f) (s := s) hf l (j / s) (j % s) x hx hjm
 rw [ej] at hfl
 obtain ⟨b, o, rfl, h6⟩ := h.at (i := j / s) (r := f x) (by simp [hx])
 refine ⟨b, o, rfl, ?_⟩
 have h7 := h6 (j % s) u (hfl.symm.trans hj)
 rw [Nat.add_assoc, ej] at h7
 haveI : OldAt w b (o + j) u := ⟨h7⟩
 exact inferInstance
theorem fieldL_at {H : Type} {enc : TypeId × Value → H} {w : World} {base : Nat} {spare : Nat → Bool} {held : Bool} {t fuel : Nat} {r : List Value} {x : DataW H × List MemPlace} {fs : Array Field}
 (ht : Tryz.prog.underlying t = some (.struct fs)) (h : DataW.trod enc Tryz.prog w base spare held fuel t r = some x) (i ty off c : Nat) (hf : (fs[i]?).map (fun f => (f.type, f.offset)) = some (ty, off)) (hc : Tryz.prog.cellsOf ty = c) :
 ∃ n y, DataW.trod enc Tryz.prog w base spare held n ty ((r.drop off).take c) = some y := by
 obtain ⟨_, n, h2⟩ := field_of_trod ht h
 obtain ⟨f, h3, h4⟩ := Option.map_eq_some_iff.1 hf
 obtain ⟨y, h5⟩ := h2 i f h3
 cases h4
 rw [hc] at h5
 exact ⟨n, y, h5⟩
theorem open_twoL {H : Type} {enc : TypeId × Value → H} {P : Program} {t : TypeId} {W : World} {base : Nat} {sp : Nat → Bool} {held : Bool} {f0 f1 : Field} {r : Reach} {b0 : Nat} {v : Value} {d : DataW H} {ps : List MemPlace} (ht : P.underlying t = some (.struct #[f0, f1]))
 (o0 : f0.offset = 0) (o1 : f1.offset = 1) (c0 : P.cellsOf f0.type = 1) (c1 : P.cellsOf f1.type = 1) (ct : P.cellsOf t = 2)
 (hval : Value.okWide P W r b0 t v) (hd : DataW.Trod enc P W base sp held t v d ps) : ∃ x y, v = .agg #[x, y] ∧ (∃ m q, DataW.trod enc P W base sp held m f0.type [x] = some q) ∧ (∃ m q, DataW.trod enc P W base sp held m f1.type [y] = some q) := by
 simp only [Value.okWide, ht] at hval
 obtain ⟨cs, rfl, hs, _⟩ := hval
 obtain ⟨fuel, hf⟩ := hd
 cases fuel with
 | zero => simp [DataW.trod] at hf
 | succ m =>
   rw [DataW.trod_step] at hf
   unfold DataW.trodStep at hf
   simp only [ht, Value.cells] at hf
   rw [ct] at hs
   obtain ⟨l⟩ := cs
   match l, hs with
   | [x, y], _ =>
    simp only [ct, List.length_cons, List.length_nil, if_true, List.mapM_cons, List.mapM_nil, o0, o1, c0, c1, Option.map_eq_some_iff, bind, Option.bind_eq_some_iff, pure, Option.some.injEq] at hf
    obtain ⟨xs, ⟨p0, e0, l1, ⟨p1, e1, l2, rfl, rfl⟩, rfl⟩, _⟩ := hf
    simp at e0 e1
    exact ⟨x, y, rfl, ⟨m, p0, e0⟩, ⟨m, p1, e1⟩⟩
end Go.Proofs.YtfhbmblbidcmmaaGreat
namespace Go.Proofs.YtfhbmblbidcmmaaGreat
set_option linter.unusedSimpArgs false
set_option linter.unusedVariables false
open Go.RowKit Go.Sl Go.Dk Go.Tr Go.ChangeShapes Go.WideShapes
theorem six_of {r : List Value} (h : r.length = 6) : ∃ a b c d e f, r = [a, b, c, d, e, f] := by
 match r, h with
 | [a, b, c, d, e, f], _ => exact ⟨a, b, c, d, e, f, rfl⟩
theorem makes18_in {H : Type} {enc : TypeId × Value → H} {w : World} {base : Nat} {spare : Nat → Bool} {held : Bool} {a : Option Addr} {len cap : Nat}
 (h : ∃ fuel x, DataW.trod enc Tryz.prog w base spare held fuel 117 [.slice a len cap] = some x) :
 ∃ cs : List MakeT, cs.length = len ∧ ReadsM (old w) (.slice a cs.length cap) cs ∧ cs.length ≤ 9223372036854775807 ∧ ∀ c ∈ cs, ReadsE (old w) (.slice c.a c.put.length c.c) c.put := by
 obtain ⟨fuel, x, hx⟩ := h
 obtain ⟨a', len', cap', he, hcap⟩ := sliceL_of Tryz.underlying117 hx
 cases he
 obtain ⟨rs, h1, h2, h3, h4⟩ := rows_of_trod (s := 6) Tryz.underlying117 (by kernel_rfl) (by omega) hx
 obtain ⟨cs, rfl, hcs⟩ := rowsL_map (f := mrow) (p := fun c => ReadsE (old w) (.slice c.a c.put.length c.c) c.put) rs (by
  intro r hr
  obtain ⟨n, y, hy⟩ := h4 r hr
  obtain ⟨hl, n', hf⟩ := field_of_trod Tryz.underlying232 hy
  obtain ⟨v0, v1, v2, v3, v4, v5, rfl⟩ := six_of (hl.trans (by kernel_rfl))
  have c0 : Tryz.prog.cellsOf 3 = 1 := by kernel_rfl
  have c3 : Tryz.prog.cellsOf 29 = 1 := by kernel_rfl
  obtain ⟨_, y0, e0⟩ := fieldL_at Tryz.underlying232 hy 0 3 0 1 rfl c0
  obtain ⟨_, y1, e1⟩ := fieldL_at Tryz.underlying232 hy 1 3 1 1 rfl c0
  obtain ⟨_, y2, e2⟩ := fieldL_at Tryz.underlying232 hy 2 3 2 1 rfl c0
  obtain ⟨n3, y3, e3⟩ := fieldL_at Tryz.underlying232 hy 3 29 3 1 rfl c3
  obtain ⟨_, y4, e4⟩ := fieldL_at Tryz.underlying232 hy 4 3 4 1 rfl c0
  obtain ⟨_, y5, e5⟩ := fieldL_at Tryz.underlying232 hy 5 3 5 1 rfl c0
  obtain ⟨z0, rfl, w0⟩ := int_of_trod Tryz.underlying3 e0
  obtain ⟨z1, rfl, w1⟩ := int_of_trod Tryz.underlying3 e1
  obtain ⟨z2, rfl, w2⟩ := int_of_trod Tryz.underlying3 e2
  obtain ⟨z4, rfl, w4⟩ := int_of_trod Tryz.underlying3 e4
  obtain ⟨z5, rfl, w5⟩ := int_of_trod Tryz.underlying3 e5
  have hs : ∃ a n c, v3 = .slice a n c := by
   rcases DataW.trod_slice Tryz.underlying29 e3 with ⟨h0, _⟩ | ⟨a, len, cap, elems, rest, n, _, h1, _⟩
   · exact ⟨none, 0, 0, by simpa using h0⟩
   · exact ⟨some a, len, cap, by simpa using h1⟩
  obtain ⟨pa, pn, pc, rfl⟩ := hs
  obtain ⟨l, hl, hE⟩ := entries_in ⟨n3, y3, e3⟩
  subst hl
  exact ⟨⟨z0, z1, z2, pa, pc, l, z4, z5⟩, rfl, hE⟩)
 have hlen : cs.length = len := by simpa using h2
 subst hlen
 exact ⟨cs, rfl, readsL_old (f := mrow) (s := 6) (fun _ => rfl) (by omega) h1 hcap.1 (by simpa [maxLen] using hcap.2), by have := hcap.1; have := hcap.2; unfold maxLen at this; omega, hcs⟩
end Go.Proofs.YtfhbmblbidcmmaaGreat
