/-
  ScriptPrints: every command is printed as the document says, or refused, and parsed as it was; it stays.
-/
import Derived.Test.YtebhnbecjmdicaaGreatDoorScV
import Derived.Test.YtebhnbecjmdicaaGreatDoorScW
import Derived.Test.YtebhnbecjmdicaaGreatDoorEv25a
import Derived.Deep.RegionHeld3
import Derived.Deep.DeepCutAuto
import Derived.Handy
namespace Go.Sl
/-- how many blocks a world has, as the walk spells it -/
class Sz (w : World) (n : outParam Nat) : Prop where
  out : w.heap.size = n
instance (priority := low) sz_self (w : World) : Sz w w.heap.size := ⟨rfl⟩
instance sz_alloc (w : World) (o : Obj) (n : Nat) [h : Sz w n] : Sz (w.alloc o) (n + 1) := ⟨by show (w.heap.push _).size = _; rw [Array.size_push, h.out]⟩
instance sz_drew (w : World) (n : Nat) [h : Sz w n] : Sz w.drew n := ⟨h.out⟩
instance sz_drewN (w : World) (n k : Nat) [h : Sz w n] : Sz (w.drewN k) n := ⟨h.out⟩
instance (priority := 20000) alloc_sz {A : Assn} {w : World} {c : Array Value} {t n : Nat} [h : SatI A w] [z : Sz w n] : SatI (Sl.block n t c.toList * A) (w.alloc (.cells c t)) := ⟨by
  have := h.out.alloc c t
  rwa [z.out] at this⟩
instance (priority := 21000) alloc_szl {A : Assn} {w : World} {l : List Value} {t n : Nat} [h : SatI A w] [z : Sz w n] : SatI (Sl.block n t l * A) (w.alloc (.cells l.toArray t)) := ⟨by
  have := h.out.alloc l.toArray t
  rwa [z.out] at this⟩
end Go.Sl
namespace Go.Sl
/-- what is to be kept of what a world holds -/
theorem keep1 {A R : Assn} {w : World} [h : SatI A w] (X : Assn) [t : Take A X R] : Sat X w := Sat.weak (h.out.take X)
theorem keep2 {A R R' : Assn} {w : World} [h : SatI A w] (X Y : Assn) [t : Take A X R] [t' : Take R Y R'] : Sat (X * Y) w := Sat.weak (B := R') ((h.out.take2 X Y).eq (by ac_rfl))
theorem keep3 {A R R' R'' : Assn} {w : World} [h : SatI A w] (X Y Z : Assn) [t : Take A X R] [t' : Take R Y R'] [t'' : Take R' Z R''] : Sat (X * (Y * Z)) w := Sat.weak (B := R'') ((h.out.take3 X Y Z).eq (by ac_rfl))

theorem keep4 {A R R' R'' R3 : Assn} {w : World} [h : SatI A w] (X Y Z V : Assn) [t : Take A X R] [t' : Take R Y R'] [t'' : Take R' Z R''] [t3 : Take R'' V R3] : Sat (X * (Y * (Z * V))) w := Sat.weak (B := R3) ((h.out.take3 X Y Z).eq (by rw [t3.out]; ac_rfl))
theorem keep5 {A R R' R'' R3 R4 : Assn} {w : World} [h : SatI A w] (X Y Z V U : Assn) [t : Take A X R] [t' : Take R Y R'] [t'' : Take R' Z R''] [t3 : Take R'' V R3] [t4 : Take R3 U R4] : Sat (X * (Y * (Z * (V * U)))) w := Sat.weak (B := R4) ((h.out.take3 X Y Z).eq (by rw [t3.out, t4.out]; ac_rfl))
theorem keep6 {A R R' R'' R3 R4 R5 : Assn} {w : World} [h : SatI A w] (X Y Z V U T : Assn) [t : Take A X R] [t' : Take R Y R'] [t'' : Take R' Z R''] [t3 : Take R'' V R3] [t4 : Take R3 U R4] [t5 : Take R4 T R5] : Sat (X * (Y * (Z * (V * (U * T))))) w := Sat.weak (B := R5) ((h.out.take3 X Y Z).eq (by rw [t3.out, t4.out, t5.out]; ac_rfl))
theorem takeI3 {A R R' R'' : Assn} {w : World} [h : SatI A w] (X Y Z : Assn) [t : Take A X R] [t' : Take R Y R'] [t'' : Take R' Z R''] : Sat (X * (Y * (Z * R''))) w := h.out.take3 X Y Z
theorem takeI2 {A R R' : Assn} {w : World} [h : SatI A w] (X Y : Assn) [t : Take A X R] [t' : Take R Y R'] : Sat (X * (Y * R')) w := h.out.take2 X Y

theorem Zat.src {P : Program} {w : World} {v : Value} {l : List Int} (h : Zat w v l) : Src P 1 w v l.length (zs l) := by
  obtain ⟨a, c, rfl, h1, h2, h3⟩ := h
  cases hl : l with
  | nil =>
    cases a with
    | none => exact ⟨fun _ => rfl, fun _ => rfl, by simp [zs], by simp [zs]⟩
    | some x =>
      obtain ⟨b, o, sp⟩ := x
      refine ⟨fun _ => rfl, fun n => ?_, by simp [zs], by simp [zs]⟩
      show (loadCells ⟨b, o, sp⟩ (0 * 1)).run P (w.drewN n) = _
      rfl
  | cons y l' =>
    rw [← hl]
    obtain ⟨b, o, rfl, _⟩ := h3 0 y (by simp [hl])
    refine Src.slice (by simp [zs_len]) (fun j u hj => ?_) (by simp [zs, Value.oneCell'])
    unfold zs at hj
    rw [List.getElem?_map] at hj
    cases hx : l[j]? with
    | none => rw [hx] at hj; cases hj
    | some z =>
      rw [hx] at hj
      cases hj
      obtain ⟨b', o', e, h⟩ := h3 j z hx
      cases e
      exact h
/-- a slice of nothing, as a row of its own -/
theorem row0I {A R : Assn} {b e : Nat} {w : World} [SatI A w] [Take A (Sl.block b e []) R] : Sat (rw e 1 (.slice (some ⟨b, 0, none⟩) 0 0) [] * R) w :=
  Sat.rw_shut (sp := []) rfl rfl (Nat.le_refl _) (by simp [maxLen]) (takeI (Sl.block b e []))
end Go.Sl
namespace Go.Sc
def pr : Option Bs → Bs × Int
  | some s => (s, 0)
  | none => ([], 1)
theorem print_len {c : Cmd} {s : Bs} (h : print c = some s) (ht : c.text.length ≤ 3000) : s.length ≤ 1000000000 := by
  unfold print at h
  split at h
  · rename_i hm
    cases h
    have hn := may_nums hm
    unfold may at hm
    cases hq : asks c.word with
    | none => rw [hq] at hm; cases hm
    | some y =>
      obtain ⟨a, b, t⟩ := y
      rw [hq] at hm
      simp only [Bool.and_eq_true, decide_eq_true_eq] at hm
      have hb : ∀ p ∈ tab, p.2.2.1 ≤ 64 ∧ p.1.length ≤ 8 := by decide
      obtain ⟨hb64, hw8⟩ := hb _ (lookup_mem hq)
      have hb64 : b ≤ 64 := hb64
      have hw8 : c.word.length ≤ 8 := hw8
      have hf : (c.nums.flatMap (fun n => 32 :: Lib.itoa n)).length ≤ 20 * c.nums.length := by
        have : ∀ l : List Int, numsOk l = true → (l.flatMap (fun n => 32 :: Lib.itoa n)).length ≤ 20 * l.length := by
          intro l
          induction l with
          | nil => simp
          | cons n l ih =>
            intro hl
            unfold numsOk at hl ih
            simp only [List.all_cons, Bool.and_eq_true, decide_eq_true_eq] at hl
            have h1 := ih (by simpa using hl.2)
            have h2 := itoa_len n hl.1.1 hl.1.2
            simp only [List.flatMap_cons, List.length_append, List.length_cons]
            omega
        exact this _ hn
      have hfl := Go.Proofs.YtebhnbecjmdicaaGreatDoor.flat_len c.text
      simp only [List.length_append, hq]
      cases t
      · simp only [List.length_nil]
        omega
      · simp only [quoted, List.length_cons, List.length_append, List.length_nil]
        omega
  · cases h
end Go.Sc
namespace Go.Proofs.YtebhnbecjmdicaaGreatDoor
set_option linter.unusedSimpArgs false
set_option linter.unusedVariables false
open Go.RowKit Go.Sl Go.Sc
attribute [local go_sem] Go.Sl.cell_sat Go.Sl.frozen_sat Go.Sc.str_toList Go.Sc.str_size Go.Sc.str_extract
theorem awake25_any (w : World) : Calls Tryz.prog 4 #[] w fun e w' => e = .returned (.bool true) ∧ Below w.heap.size w w' :=
  (awake25_tru w).mono fun _ _ ⟨he, hs⟩ => ⟨he, hs.below⟩
theorem priR_at {r : Option Bs} {e : Ending} (h : PriR r e) : e = .returned (.tuple #[.string (str (pr r).1), .int .i64 (pr r).2]) := by
  rcases h with ⟨s, rfl, rfl⟩ | ⟨rfl, rfl⟩ <;> rfl

set_option maxRecDepth 100000 in
set_option maxHeartbeats 3200000 in
theorem prints_big (c : Cmd) (v : Value) (w : World) (hv : CmdAt w v c) (hbig : 3000 < c.text.length ∨ c.text.length ≤ 3000 ∧ 100 < c.nums.length) : Calls Tryz.prog 3 #[v] w fun e w' => e = .returned (.bool true) ∧ Below w.heap.size w w' := by
  obtain ⟨v1, v2, rfl, hz, hb⟩ := hv
  obtain ⟨a1, c1, rfl, hz1, hz2⟩ := hz.len
  obtain ⟨a2, c2, rfl, hb1, hb2⟩ := hb.len
  obtain ⟨n1, hn1⟩ : ∃ n, c.nums.length = n := ⟨_, rfl⟩
  obtain ⟨n2, hn2⟩ : ∃ n, c.text.length = n := ⟨_, rfl⟩
  rw [hn1, hn2] at hbig ⊢
  have haw := awake25_any
  have hs0 := (Sat.old_self w).alloc #[.string (str c.word), .slice a1 n1 c1, .slice a2 n2 c2] TCm
  rcases hbig with h1 | ⟨h1, h2⟩
  · have h1' : (3000 : Int) < n2 := by omega
    go_enter Tryz.func3, Tryz.ntmps3
    go_wp2_with fail
    refine (haw _).mono ?_
    rintro e w1 ⟨rfl, hw1⟩
    have hs1 := hs0.below hw1
    haveI := hs1.i
    go_wp2_with fail
    refine (haw _).mono ?_
    rintro e w2 ⟨rfl, hw2⟩
    have hs2 := hs1.below hw2
    go_wp2
    go_ret
    exact ⟨rfl, (hs2.take (old w)).old_below⟩
  · have h1' : ¬ (3000 : Int) < n2 := by omega
    have h2' : (100 : Int) < n1 := by omega
    go_enter Tryz.func3, Tryz.ntmps3
    go_wp2_with fail
    refine (haw _).mono ?_
    rintro e w1 ⟨rfl, hw1⟩
    have hs1 := hs0.below hw1
    haveI := hs1.i
    go_wp2_with fail
    refine (haw _).mono ?_
    rintro e w2 ⟨rfl, hw2⟩
    have hs2 := hs1.below hw2
    go_wp2
    go_ret
    exact ⟨rfl, (hs2.take (old w)).old_below⟩

set_option maxRecDepth 100000 in
set_option maxHeartbeats 6400000 in
theorem prints_small (c : Cmd) (v : Value) (w : World) (hv : CmdAt w v c) (hc : Ctx w) (h1 : c.text.length ≤ 3000) (h2 : c.nums.length ≤ 100) : Calls Tryz.prog 3 #[v] w fun e w' => e = .returned (.bool true) ∧ Below w.heap.size w w' := by
  obtain ⟨i0, EI⟩ := elemIn
  obtain ⟨v1, v2, rfl, hz, hb⟩ := hv
  obtain ⟨a1, c1, rfl, hz1, hz2⟩ := hz.len
  obtain ⟨a2, c2, rfl, hb1, hb2⟩ := hb.len
  have HLent : Aside (∀ F w', Sat (old w * F) w' → Calls Tryz.prog 5 #[.slice a2 c.text.length c2] w' fun e w'' => ∃ g d, e = .returned (.slice (some ⟨g, 0, none⟩) c.text.length d) ∧ Sat (rw TBy 1 (.slice (some ⟨g, 0, none⟩) (c.text.length + 3) d) (bys (lentL c.text)) * (old w * F)) w'') :=
    fun F w' h => lent_any _ c.text (old w) F w' (Reads.old hb) h (by omega)
  have HKept : Aside (∀ g d F w', Sat (rw TBy 1 (.slice (some ⟨g, 0, none⟩) (c.text.length + 3) d) (bys (lentL c.text)) * (old w * F)) w' → Calls Tryz.prog 11 #[.slice (some ⟨g, 0, none⟩) c.text.length d, .slice a2 c.text.length c2] w' fun e w'' => e = .returned (.bool true) ∧ Sat (rw TBy 1 (.slice (some ⟨g, 0, none⟩) (c.text.length + 3) d) (bys (lentL c.text)) * (old w * F)) w'') :=
    fun g d F w' h => kept_any _ c.text g d (old w) F w' (Reads.old hb) h (by omega)
  have HZ : Aside (∀ F w', Sat (old w * F) w' → Zat w' (.slice a1 c.nums.length c1) c.nums) := fun F w' h => hz.below h.old_below
  have HB : Aside (∀ F w', Sat (old w * F) w' → Byt w' (.slice a2 c.text.length c2) c.text) := fun F w' h => hb.below h.old_below
  have HCx : Aside (∀ F w', Sat (old w * F) w' → Ctx w') := fun F w' h => hc.below h.old_below
  have HSm : Aside (c.text.length ≤ 3000) := h1
  obtain ⟨n1, hn1⟩ : ∃ n, c.nums.length = n := ⟨_, rfl⟩
  obtain ⟨n2, hn2⟩ : ∃ n, c.text.length = n := ⟨_, rfl⟩
  have SZ : Aside (∀ F w', Sat (old w * F) w' → Src Tryz.prog 1 w' (.slice a1 n1 c1) n1 (zs c.nums)) := fun F w' h => by
    have := (HZ.out F w' h).src (P := Tryz.prog)
    rwa [hn1] at this
  rw [hn1] at HZ h2 ⊢
  rw [hn2] at HLent HKept HB h1 HSm ⊢
  have HN : Aside (c.nums.length = n1 ∧ c.text.length = n2) := ⟨hn1, hn2⟩
  have haw := awake25_any
  have hs0 := (Sat.old_self w).alloc #[.string (str c.word), .slice a1 n1 c1, .slice a2 n2 c2] TCm
  have h1' : ¬ (3000 : Int) < n2 := by omega
  have h2' : ¬ (100 : Int) < n1 := by omega
  clear hz hb hc hn1 hn2
  go_enter Tryz.func3, Tryz.ntmps3
  go_wp2_with fail
  refine (haw _).mono ?_
  rintro e w1 ⟨rfl, hw1⟩
  have hs1 := hs0.below hw1
  obtain ⟨N, hN⟩ : ∃ N, w.heap.size = N := ⟨_, rfl⟩
  have HNw : Aside (w.heap.size = N) := hN
  rw [hN] at hs1 ⊢
  clear hN hs0 hw1
  haveI := hs1.i
  go_upto_region 3 with (fail)
  go_cut [3] (fun t3 wx => ∃ (M : Nat) (a3 : Option Addr) (c3 g c4 : Nat), t3 = .pointer (some ⟨M, 0, none⟩) ∧ Sat (Sl.block M TCm [.string (str c.word), .slice a3 n1 c3, .slice (some ⟨g, 0, none⟩) n2 c4] * (rw TBy 1 (.slice (some ⟨g, 0, none⟩) (n2 + 3) c4) (bys (lentL c.text)) * (rw TIn 1 (.slice a3 n1 c3) (zs c.nums) * (Sl.block N TCm [.string (str c.word), .slice a1 n1 c1, .slice a2 n2 c2] * old w)))) wx)
  case first =>
    go_region_held3 (fun w' => w'.cell? ⟨N, 0, none⟩ = some (.string (str c.word)) ∧ w'.cell? ⟨N, 1, none⟩ = some (.slice a1 n1 c1) ∧ w'.cell? ⟨N, 2, none⟩ = some (.slice a2 n2 c2)) (exact ⟨cell_sat _ _ _, cell_sat _ _ _, cell_sat _ _ _⟩) (first
      | (refine step_append_sl EI rfl (.tmp 27) (.tmp 29) rfl rfl rfl row0I (SZ.out _ _ (takeI (old w))) (by unfold maxLen; omega) (by omega) ?_; intro a3 c3 w3 q3 z3; clear z3; rw [Nat.zero_add, List.nil_append] at q3; rw [Nat.zero_add]; haveI := q3.i)
      | (go_at_call 5; with_reducible refine Calls.mono (HLent.out _ _ (takeI (old w))) ?_; rintro e w4 ⟨g, c4, rfl, q4⟩; haveI := q4.i))
    all_goals
      go_wp2
      go_meet
      exact ⟨_, a3, c3, g, c4, rfl, keep5 _ _ _ _ _⟩
  case rest =>
    obtain ⟨M, a3, c3, g, c4, rfl, q5⟩ := hcut
    have HIN : Aside (∀ w', Sat (Sl.block M TCm [.string (str c.word), .slice a3 n1 c3, .slice (some ⟨g, 0, none⟩) n2 c4] * (rw TBy 1 (.slice (some ⟨g, 0, none⟩) (n2 + 3) c4) (bys (lentL c.text)) * (rw TIn 1 (.slice a3 n1 c3) (zs c.nums) * (Sl.block N TCm [.string (str c.word), .slice a1 n1 c1, .slice a2 n2 c2] * old w)))) w' → CmdAt w' (cmdV c.word (.slice a3 n1 c3) (.slice (some ⟨g, 0, none⟩) n2 c4)) c) := fun w' h => by
      refine ⟨_, _, rfl, Zat.rw (h.take (rw TIn 1 (.slice a3 n1 c3) (zs c.nums))), ?_⟩
      have := h.take (rw TBy 1 (.slice (some ⟨g, 0, none⟩) (n2 + 3) c4) (bys (lentL c.text)))
      rw [← HN.out.2] at this ⊢
      exact reads_lent g c4 c.text _ _ this
    have HCM : Aside (∀ w', Sat (Sl.block M TCm [.string (str c.word), .slice a3 n1 c3, .slice (some ⟨g, 0, none⟩) n2 c4] * (rw TBy 1 (.slice (some ⟨g, 0, none⟩) (n2 + 3) c4) (bys (lentL c.text)) * (rw TIn 1 (.slice a3 n1 c3) (zs c.nums) * (Sl.block N TCm [.string (str c.word), .slice a1 n1 c1, .slice a2 n2 c2] * old w)))) w' → CmdAt w' (cmdV c.word (.slice a1 n1 c1) (.slice a2 n2 c2)) c) := fun w' h => ⟨_, _, rfl, HZ.out _ _ (h.take (old w)), HB.out _ _ (h.take (old w))⟩
    have HCX : Aside (∀ w', Sat (Sl.block M TCm [.string (str c.word), .slice a3 n1 c3, .slice (some ⟨g, 0, none⟩) n2 c4] * (rw TBy 1 (.slice (some ⟨g, 0, none⟩) (n2 + 3) c4) (bys (lentL c.text)) * (rw TIn 1 (.slice a3 n1 c3) (zs c.nums) * (Sl.block N TCm [.string (str c.word), .slice a1 n1 c1, .slice a2 n2 c2] * old w)))) w' → Ctx w') := fun w' h => HCx.out _ _ (h.take (old w))
    obtain ⟨⟨ps, pe⟩, hpr⟩ : ∃ x, pr (print c) = x := ⟨_, rfl⟩
    have HPR : Aside (pr (print c) = (ps, pe)) := hpr
    have HP1 : Aside (∀ w', Sat (Sl.block M TCm [.string (str c.word), .slice a3 n1 c3, .slice (some ⟨g, 0, none⟩) n2 c4] * (rw TBy 1 (.slice (some ⟨g, 0, none⟩) (n2 + 3) c4) (bys (lentL c.text)) * (rw TIn 1 (.slice a3 n1 c3) (zs c.nums) * (Sl.block N TCm [.string (str c.word), .slice a1 n1 c1, .slice a2 n2 c2] * old w)))) w' → Calls Tryz.prog 6 #[(cmdV c.word (.slice a3 n1 c3) (.slice (some ⟨g, 0, none⟩) n2 c4))] w' fun e w'' => e = .returned (.tuple #[.string (str ps), .int .i64 pe]) ∧ Sat (Sl.block M TCm [.string (str c.word), .slice a3 n1 c3, .slice (some ⟨g, 0, none⟩) n2 c4] * (rw TBy 1 (.slice (some ⟨g, 0, none⟩) (n2 + 3) c4) (bys (lentL c.text)) * (rw TIn 1 (.slice a3 n1 c3) (zs c.nums) * (Sl.block N TCm [.string (str c.word), .slice a1 n1 c1, .slice a2 n2 c2] * old w)))) w'') := fun w' h => (print_any c _ w' (HIN.out w' h) (HCX.out w' h) (by rw [HN.out.2]; have := HSm.out; omega)).mono fun e w'' ⟨hp, hb⟩ => ⟨by have := priR_at hp; rw [HPR.out] at this; exact this, h.below hb⟩
    have HP2 : Aside (∀ w', Sat (Sl.block M TCm [.string (str c.word), .slice a3 n1 c3, .slice (some ⟨g, 0, none⟩) n2 c4] * (rw TBy 1 (.slice (some ⟨g, 0, none⟩) (n2 + 3) c4) (bys (lentL c.text)) * (rw TIn 1 (.slice a3 n1 c3) (zs c.nums) * (Sl.block N TCm [.string (str c.word), .slice a1 n1 c1, .slice a2 n2 c2] * old w)))) w' → Calls Tryz.prog 7 #[(cmdV c.word (.slice a1 n1 c1) (.slice a2 n2 c2))] w' fun e w'' => e = .returned (.tuple #[.string (str ps), .int .i64 pe]) ∧ Sat (Sl.block M TCm [.string (str c.word), .slice a3 n1 c3, .slice (some ⟨g, 0, none⟩) n2 c4] * (rw TBy 1 (.slice (some ⟨g, 0, none⟩) (n2 + 3) c4) (bys (lentL c.text)) * (rw TIn 1 (.slice a3 n1 c3) (zs c.nums) * (Sl.block N TCm [.string (str c.word), .slice a1 n1 c1, .slice a2 n2 c2] * old w)))) w'') := fun w' h => (refPrint_any c _ w' (HCM.out w' h) (by rw [HN.out.2]; have := HSm.out; omega)).mono fun e w'' ⟨hp, hb⟩ => ⟨by have := priR_at hp; rw [HPR.out] at this; exact this, h.below hb⟩
    obtain ⟨mb, hmb⟩ : ∃ x, mayN c.word c.nums n2 = x := ⟨_, rfl⟩
    have HM1 : Aside (∀ w', Sat (Sl.block M TCm [.string (str c.word), .slice a3 n1 c3, .slice (some ⟨g, 0, none⟩) n2 c4] * (rw TBy 1 (.slice (some ⟨g, 0, none⟩) (n2 + 3) c4) (bys (lentL c.text)) * (rw TIn 1 (.slice a3 n1 c3) (zs c.nums) * (Sl.block N TCm [.string (str c.word), .slice a1 n1 c1, .slice a2 n2 c2] * old w)))) w' → Calls Tryz.prog 8 #[(cmdV c.word (.slice a3 n1 c3) (.slice (some ⟨g, 0, none⟩) n2 c4))] w' fun e w'' => e = .returned (.bool mb) ∧ Sat (Sl.block M TCm [.string (str c.word), .slice a3 n1 c3, .slice (some ⟨g, 0, none⟩) n2 c4] * (rw TBy 1 (.slice (some ⟨g, 0, none⟩) (n2 + 3) c4) (bys (lentL c.text)) * (rw TIn 1 (.slice a3 n1 c3) (zs c.nums) * (Sl.block N TCm [.string (str c.word), .slice a1 n1 c1, .slice a2 n2 c2] * old w)))) w'') := fun w' h => by
      obtain ⟨x1, x2, hx, hzz, _⟩ := HIN.out w' h
      cases hx
      have := may_any c.word _ c.nums (some ⟨g, 0, none⟩) n2 c4 w' hzz
      rw [hmb] at this
      exact this.mono fun e w'' ⟨he, hb⟩ => ⟨he, h.below hb⟩
    have HM2 : Aside (∀ w', Sat (Sl.block M TCm [.string (str c.word), .slice a3 n1 c3, .slice (some ⟨g, 0, none⟩) n2 c4] * (rw TBy 1 (.slice (some ⟨g, 0, none⟩) (n2 + 3) c4) (bys (lentL c.text)) * (rw TIn 1 (.slice a3 n1 c3) (zs c.nums) * (Sl.block N TCm [.string (str c.word), .slice a1 n1 c1, .slice a2 n2 c2] * old w)))) w' → Calls Tryz.prog 9 #[(cmdV c.word (.slice a1 n1 c1) (.slice a2 n2 c2))] w' fun e w'' => e = .returned (.bool mb) ∧ Sat (Sl.block M TCm [.string (str c.word), .slice a3 n1 c3, .slice (some ⟨g, 0, none⟩) n2 c4] * (rw TBy 1 (.slice (some ⟨g, 0, none⟩) (n2 + 3) c4) (bys (lentL c.text)) * (rw TIn 1 (.slice a3 n1 c3) (zs c.nums) * (Sl.block N TCm [.string (str c.word), .slice a1 n1 c1, .slice a2 n2 c2] * old w)))) w'') := fun w' h => by
      obtain ⟨x1, x2, hx, hzz, _⟩ := HCM.out w' h
      cases hx
      have := refMay_any c.word _ c.nums a2 n2 c2 w' hzz
      rw [hmb] at this
      exact this.mono fun e w'' ⟨he, hb⟩ => ⟨he, h.below hb⟩
    have HS1 : Aside (∀ w', Sat (Sl.block M TCm [.string (str c.word), .slice a3 n1 c3, .slice (some ⟨g, 0, none⟩) n2 c4] * (rw TBy 1 (.slice (some ⟨g, 0, none⟩) (n2 + 3) c4) (bys (lentL c.text)) * (rw TIn 1 (.slice a3 n1 c3) (zs c.nums) * (Sl.block N TCm [.string (str c.word), .slice a1 n1 c1, .slice a2 n2 c2] * old w)))) w' → Calls Tryz.prog 10 #[(cmdV c.word (.slice a3 n1 c3) (.slice (some ⟨g, 0, none⟩) n2 c4)), (cmdV c.word (.slice a1 n1 c1) (.slice a2 n2 c2))] w' fun e w'' => e = .returned (.bool true) ∧ Sat (Sl.block M TCm [.string (str c.word), .slice a3 n1 c3, .slice (some ⟨g, 0, none⟩) n2 c4] * (rw TBy 1 (.slice (some ⟨g, 0, none⟩) (n2 + 3) c4) (bys (lentL c.text)) * (rw TIn 1 (.slice a3 n1 c3) (zs c.nums) * (Sl.block N TCm [.string (str c.word), .slice a1 n1 c1, .slice a2 n2 c2] * old w)))) w'') := fun w' h => (sameC_any c _ _ w' (HIN.out w' h) (HCM.out w' h)).mono fun e w'' ⟨he, hb⟩ => ⟨he, h.below hb⟩
    have HK1 : Aside (∀ w', Sat (Sl.block M TCm [.string (str c.word), .slice a3 n1 c3, .slice (some ⟨g, 0, none⟩) n2 c4] * (rw TBy 1 (.slice (some ⟨g, 0, none⟩) (n2 + 3) c4) (bys (lentL c.text)) * (rw TIn 1 (.slice a3 n1 c3) (zs c.nums) * (Sl.block N TCm [.string (str c.word), .slice a1 n1 c1, .slice a2 n2 c2] * old w)))) w' → Calls Tryz.prog 11 #[.slice (some ⟨g, 0, none⟩) n2 c4, .slice a2 n2 c2] w' fun e w'' => e = .returned (.bool true) ∧ Sat (Sl.block M TCm [.string (str c.word), .slice a3 n1 c3, .slice (some ⟨g, 0, none⟩) n2 c4] * (rw TBy 1 (.slice (some ⟨g, 0, none⟩) (n2 + 3) c4) (bys (lentL c.text)) * (rw TIn 1 (.slice a3 n1 c3) (zs c.nums) * (Sl.block N TCm [.string (str c.word), .slice a1 n1 c1, .slice a2 n2 c2] * old w)))) w'') := fun w' h => (HKept.out g c4 _ w' (h.take2 (rw TBy 1 (.slice (some ⟨g, 0, none⟩) (n2 + 3) c4) (bys (lentL c.text))) (old w))).mono fun e w'' ⟨he, hb⟩ => ⟨he, hb.eq (by ac_rfl)⟩
    have beq : (ps == ps) = true := by simp
    have bne : (pe != pe) = false := by simp
    have bmb : (mb != mb) = false := by simp
    unfold cmdV at HP1 HP2 HM1 HM2 HS1
    haveI := q5.i
    clear hpr hmb HKept HLent SZ HIN
    go_wp2_with fail
    with_reducible refine Calls.mono (HP1.out _ (keep5 _ _ _ _ _)) ?_
    rintro e w6 ⟨rfl, q6⟩
    haveI := q6.i
    clear q5
    go_wp2_with fail
    with_reducible refine Calls.mono (HP2.out _ (keep5 _ _ _ _ _)) ?_
    rintro e w7 ⟨rfl, q7⟩
    haveI := q7.i
    clear q6
    go_upto_region 6 with (fail)
    go_region_held3 (fun w' => w'.cell? ⟨M, 0, none⟩ = some (.string (str c.word)) ∧ w'.cell? ⟨M, 1, none⟩ = some (.slice a3 n1 c3) ∧ w'.cell? ⟨M, 2, none⟩ = some (.slice (some ⟨g, 0, none⟩) n2 c4) ∧ w'.cell? ⟨N, 0, none⟩ = some (.string (str c.word)) ∧ w'.cell? ⟨N, 1, none⟩ = some (.slice a1 n1 c1) ∧ w'.cell? ⟨N, 2, none⟩ = some (.slice a2 n2 c2)) (exact ⟨cell_sat _ _ _, cell_sat _ _ _, cell_sat _ _ _, cell_sat _ _ _, cell_sat _ _ _, cell_sat _ _ _⟩) (first
      | (go_at_call 8; with_reducible refine Calls.mono (HM1.out _ (keep5 _ _ _ _ _)) ?_; rintro e w8 ⟨rfl, q8⟩; haveI := q8.i)
      | (go_at_call 9; with_reducible refine Calls.mono (HM2.out _ (keep5 _ _ _ _ _)) ?_; rintro e w9 ⟨rfl, q9⟩; haveI := q9.i)
      | (go_at_call 10; with_reducible refine Calls.mono (HS1.out _ (keep5 _ _ _ _ _)) ?_; rintro e w10 ⟨rfl, q10⟩; haveI := q10.i)
      | (go_at_call 11; with_reducible refine Calls.mono (HK1.out _ (keep5 _ _ _ _ _)) ?_; rintro e w11 ⟨rfl, q11⟩; haveI := q11.i))
    all_goals
      clear q7 q8 q9 q10 HP1 HP2 HM1 HM2 HS1 HK1
      have hpr := HPR.out
      cases hpc : print c with
      | none =>
        rw [hpc] at hpr
        cases hpr
        go_wp2
        go_ret
        exact ⟨rfl, (q11.take (old w)).old_below⟩
      | some s =>
        rw [hpc] at hpr
        cases hpr
        have hpar := parse_any ps (print_len hpc (by rw [HN.out.2]; exact HSm.out)) w11 (HCX.out _ q11)
        rw [print_parse hpc] at hpar
        clear hpc
        go_wp2_with fail
        refine hpar.mono ?_
        rintro e w12 ⟨hp12, hb12⟩
        rcases hp12 with ⟨c', v', hcc, rfl, hv'⟩ | ⟨hcc, _⟩
        · cases hcc
          have q12 := q11.below hb12
          have HV : Aside (CmdAt w12 v' c) := hv'
          obtain ⟨y1, y2, rfl, kz, kt⟩ := id hv'
          obtain ⟨p1, e1, rfl, _, _⟩ := kz.len
          obtain ⟨p2, e2, rfl, _, _⟩ := kt.len
          have hs13 := q12.alloc #[.string (str c.word), .slice p1 c.nums.length e1, .slice p2 c.text.length e2] TCm
          have hb13 : Below w12.heap.size w12 (w12.alloc (Obj.cells #[.string (str c.word), .slice p1 c.nums.length e1, .slice p2 c.text.length e2] TCm)) := (Below.refl _ w12).alloc (Nat.le_refl _) _
          have hsm := sameC_any c _ _ _ (HV.out.below hb13) ((HCM.out _ q12).below hb13)
          unfold cmdV at hsm
          haveI := hs13.i
          clear hv' kz kt hpar
          go_wp2_with fail
          refine hsm.mono ?_
          rintro e w14 ⟨rfl, hb14⟩
          have hs14 := hs13.below hb14
          go_wp2
          go_ret
          exact ⟨rfl, (hs14.take (old w)).old_below⟩
        · cases hcc

theorem scriptPrints_walk (c : Cmd) (v : Value) (w : World) (hv : CmdAt w v c) (hc : Ctx w) : Calls Tryz.prog 3 #[v] w fun e w' => e = .returned (.bool true) ∧ Below w.heap.size w w' := by
  by_cases h1 : 3000 < c.text.length
  · exact prints_big c v w hv (.inl h1)
  · by_cases h2 : 100 < c.nums.length
    · exact prints_big c v w hv (.inr ⟨by omega, h2⟩)
    · exact prints_small c v w hv hc (by omega) (by omega)
end Go.Proofs.YtebhnbecjmdicaaGreatDoor
