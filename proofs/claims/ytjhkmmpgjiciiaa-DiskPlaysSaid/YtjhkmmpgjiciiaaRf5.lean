/-
  The reference disk as the plain disk: its files are the disk's by rising names. Named, Arm, Free, Read.
-/
import Derived.Test.YtjhkmmpgjiciiaaRf4
namespace Go.Proofs.Ytjhkmmpgjiciiaa
set_option linter.unusedSimpArgs false
set_option linter.unusedVariables false
open Go.RowKit Go.Sl Go.Dk
attribute [local go_sem ↓] Go.wp_at_zero Go.wp_at_succ
attribute [local go_sem] Go.Sl.cell_sat Go.Sl.frozen_sat

set_option maxHeartbeats 400000 in
theorem named_ref (s : ByteArray) (w : World) (hs : s.size ≤ 9223372036854775807) :
    Calls Try.prog 61 #[.string s] w fun e w' => e = .returned (.bool (named s)) ∧ w = w' := by
  by_cases hsz : s.size < 1 ∨ 16 < s.size
  · rw [named_short hsz]
    rcases hsz with h | h
    · have h1 : s.size < 1 := h
      go_enter Try.func61, Try.ntmps61
      go_wp2
      go_ret
      exact ⟨rfl, rfl⟩
    · have h1 : ¬ s.size < 1 := by omega
      go_enter Try.func61, Try.ntmps61
      go_wp2
      go_ret
      exact ⟨rfl, rfl⟩
  · have h1 : ¬ s.size < 1 := by omega
    have h2 : ¬ 16 < s.size := by omega
    have HN : Aside (named s = s.data.toList.all lowc) := named_all (by omega) (by omega)
    clear hsz
    obtain ⟨r, HR⟩ : ∃ r, Aside (named s = r) := ⟨_, rfl⟩
    rw [HR.out]
    go_enter Try.func61, Try.ntmps61
    go_wp2
    go_loop [3] (fun i => ∃ k : Nat, k ≤ s.size ∧ i = .int .i64 k ∧ Aside ((s.data.toList.take k).all lowc = true)) (fun i => s.size - (intOf i).toNat)
    case atStart => exact ⟨0, Nat.zero_le _, rfl, by simp [Aside]⟩
    case round =>
      obtain ⟨k, hk, rfl, A⟩ := hrel
      by_cases hlt : k < s.size
      · have hb := s[k].toNat_lt
        by_cases c1 : s[k].toNat < 97
        · have HF : Aside (r = false) := by
            have := named_bad hlt (show lowc s[k] = false by unfold lowc; simp; omega)
            rw [← HR.out, HN.out]; exact this
          go_wp2
          go_ret
          exact ⟨by rw [HF.out]; rfl, rfl⟩
        · by_cases c2 : 122 < s[k].toNat
          · have HF : Aside (r = false) := by
              have := named_bad hlt (show lowc s[k] = false by unfold lowc; simp; omega)
              rw [← HR.out, HN.out]; exact this
            go_wp2
            go_ret
            exact ⟨by rw [HF.out]; rfl, rfl⟩
          · have HA : Aside ((s.data.toList.take (k + 1)).all lowc = true) := by
              show _ = true
              rw [all_take_snoc s k hlt, A.out]
              unfold lowc; simp; omega
            go_wp2
            go_round
            case rel => exact ⟨k + 1, by omega, by go_num, HA⟩
            case measure => simp [intOf]; omega
      · have HF : Aside (r = true) := by
          have := A.out
          rw [List.take_of_length_le (by simp; omega)] at this
          rw [← HR.out, HN.out]; exact this
        go_wp2
        go_ret
        exact ⟨by rw [HF.out]; rfl, rfl⟩


def refA (W : Nat) (h : Rh) (fa : Option Addr) (fc : Nat) (fs : List Rf) (pa : Option Addr) (pc : Nat) (ps : List Rp) : Assn :=
  coreR W h (.slice fa fs.length fc) (.slice pa ps.length pc) * (rw TRF 4 (.slice fa fs.length fc) (frows fs) * (rfsA fs * (rw TRP 4 (.slice pa ps.length pc) (qrows ps) * rpsA ps)))

structure RefOf (h : Rh) (fs : List Rf) (ps : List Rp) (d : Dk) : Prop where
  room : h.room = d.room
  changes : h.changes = d.changes
  armed : h.armed = d.armed
  down : h.down = d.down
  left : d.armed = true → h.left = d.left
  files : (rents fs).Perm d.files
  rising : fs.Pairwise fun x y => less x.nm y.nm = true
  pend : ps.map (·.p) = d.pend

structure Rst where
  h : Rh
  fa : Option Addr
  fc : Nat
  fs : List Rf
  pa : Option Addr
  pc : Nat
  ps : List Rp

def refP (W : Nat) (d : Dk) : Assn := ex fun x : Rst => pur (RefOf x.h x.fs x.ps d) * refA W x.h x.fa x.fc x.fs x.pa x.pc x.ps

theorem ref_open {W : Nat} {d : Dk} {F : Assn} {w : World} (hs : Sat (refP W d * F) w) : ∃ h fa fc fs pa pc ps, RefOf h fs ps d ∧ Sat (refA W h fa fc fs pa pc ps * F) w := by
  obtain ⟨⟨h, fa, fc, fs, pa, pc, ps⟩, h1⟩ := hs.ex_open
  rw [sep_assoc] at h1
  obtain ⟨h2, h3⟩ := h1.pur_open
  exact ⟨h, fa, fc, fs, pa, pc, ps, h2, h3⟩
theorem ref_shut {W : Nat} {d : Dk} {h : Rh} {fa : Option Addr} {fc : Nat} {fs : List Rf} {pa : Option Addr} {pc : Nat} {ps : List Rp} {F : Assn} {w : World} (h1 : RefOf h fs ps d) (hs : Sat (refA W h fa fc fs pa pc ps * F) w) : Sat (refP W d * F) w := by
  refine Sat.ex_shut (Rst.mk h fa fc fs pa pc ps) ?_
  rw [sep_assoc]
  exact Sat.pur_shut h1 hs

/-! order does not matter -/
theorem fget_iff {l : List (ByteArray × Fl)} (nd : (l.map (·.1)).Nodup) (nm : ByteArray) (f : Fl) : fget nm l = some f ↔ (nm, f) ∈ l := by
  induction l with
  | nil => simp [fget]
  | cons p l ih =>
    obtain ⟨a, b⟩ := p
    rw [List.map_cons, List.nodup_cons] at nd
    show (if nm = a then some b else fget nm l) = some f ↔ _
    by_cases h : nm = a
    · subst h
      rw [if_pos rfl]
      constructor
      · rintro ⟨⟩; simp
      · intro hm
        rcases List.mem_cons.1 hm with h2 | h2
        · cases h2; rfl
        · exact absurd (List.mem_map.2 ⟨_, h2, rfl⟩) nd.1
    · rw [if_neg h, ih nd.2]
      constructor
      · intro hm; simp [hm]
      · intro hm
        rcases List.mem_cons.1 hm with h2 | h2
        · cases h2; exact absurd rfl h
        · exact h2
theorem fget_perm {l l' : List (ByteArray × Fl)} (h : l.Perm l') (nd : (l'.map (·.1)).Nodup) (nm : ByteArray) : fget nm l = fget nm l' := by
  have nd1 : (l.map (·.1)).Nodup := (h.map (·.1)).nodup_iff.2 nd
  cases e : fget nm l' with
  | some f => exact (fget_iff nd1 nm f).2 (h.mem_iff.2 ((fget_iff nd nm f).1 e))
  | none =>
    cases e1 : fget nm l with
    | none => rfl
    | some f =>
      have := (fget_iff nd nm f).2 (h.mem_iff.1 ((fget_iff nd1 nm f).1 e1))
      rw [e] at this; cases this
theorem fput_form {l : List (ByteArray × Fl)} (nd : (l.map (·.1)).Nodup) (nm : ByteArray) (f : Fl) : (fput nm f l).Perm ((nm, f) :: l.filter fun p => decide (p.1 ≠ nm)) := by
  induction l with
  | nil => exact .refl _
  | cons p l ih =>
    rw [List.map_cons, List.nodup_cons] at nd
    show (if nm = p.1 then (nm, f) :: l else p :: fput nm f l).Perm _
    by_cases h : nm = p.1
    · rw [if_pos h, List.filter_cons, if_neg (by simp [h])]
      have : l.filter (fun p => decide (p.1 ≠ nm)) = l := by
        rw [List.filter_eq_self]
        intro q hq
        simp only [decide_eq_true_eq]
        intro e
        exact nd.1 (by rw [← h, ← e]; exact List.mem_map.2 ⟨q, hq, rfl⟩)
      rw [this]
    · rw [if_neg h, List.filter_cons, if_pos (by simp; exact fun e => h e.symm)]
      exact ((ih nd.2).cons p).trans (.swap _ _ _)
theorem sum_perm {l l' : List (ByteArray × Fl)} (h : l.Perm l') : Go.Dk.sum l = Go.Dk.sum l' := by
  unfold Go.Dk.sum
  exact (h.map _).sum_nat

theorem RefOf.get {h : Rh} {fs : List Rf} {ps : List Rp} {d : Dk} (r : RefOf h fs ps d) {m : Nat} (ok : Ok m d) (nm : ByteArray) : fget nm (rents fs) = d.get nm := fget_perm r.files ok.nd nm
theorem RefOf.len {h : Rh} {fs : List Rf} {ps : List Rp} {d : Dk} (r : RefOf h fs ps d) {m : Nat} (ok : Ok m d) : fs.length ≤ 16 := by
  have := r.files.length_eq
  simp [rents] at this
  have := ok.nf
  omega
theorem RefOf.sum {h : Rh} {fs : List Rf} {ps : List Rp} {d : Dk} (r : RefOf h fs ps d) : lensR fs = Go.Dk.sum d.files := by rw [← sum_rents, sum_perm r.files]
theorem RefOf.sum_le {h : Rh} {fs : List Rf} {ps : List Rp} {d : Dk} (r : RefOf h fs ps d) {m : Nat} (ok : Ok m d) : lensR fs ≤ 17592186044416 := by
  rw [r.sum]
  have h1 : ∀ l : List (ByteArray × Fl), (∀ p ∈ l, p.2.now.length ≤ big) → Go.Dk.sum l ≤ l.length * big := by
    intro l
    induction l with
    | nil => intro _; simp [Go.Dk.sum]
    | cons n l ih =>
      intro hl
      have := ih fun m hm => hl m (by simp [hm])
      have h2 := hl n (by simp)
      have e : Go.Dk.sum (n :: l) = n.2.now.length + Go.Dk.sum l := by simp [Go.Dk.sum]
      rw [e, List.length_cons, Nat.add_mul]
      omega
  have h2 := h1 d.files fun p hp => (ok.sz p hp).1
  have h4 := Nat.mul_le_mul_right big ok.nf
  unfold big at *
  omega

theorem arm_ref (W : Nat) (d : Dk) (n : Int) (F : Assn) (w : World) (hs : Sat (refP W d * F) w) :
    Calls Try.prog 83 #[.pointer (some ⟨W, 0, none⟩), .int .i64 n] w fun e w' => e = .returned (.int .i64 (d.arm n).1) ∧ Sat (refP W (d.arm n).2 * F) w' := by
  obtain ⟨h, fa, fc, fs, pa, pc, ps, hr, hs1⟩ := ref_open hs
  unfold Dk.arm
  by_cases hn : n < 0
  · rw [if_pos hn]
    have HR : Aside (Sat (refP W d * F) w) := hs
    clear hs hs1 hr
    go_enter Try.func83, Try.ntmps83
    go_wp2
    go_ret
    exact ⟨rfl, HR.out⟩
  · rw [if_neg hn]
    have hs2 : Sat (coreR W h (.slice fa fs.length fc) (.slice pa ps.length pc) * ((rw TRF 4 (.slice fa fs.length fc) (frows fs) * (rfsA fs * (rw TRP 4 (.slice pa ps.length pc) (qrows ps) * rpsA ps))) * F)) w := hs1.eq (by unfold refA; rw [sep_assoc])
    haveI := hs2.i
    have HR : Aside (RefOf h fs ps d) := hr
    clear hs hs1 hr hs2
    go_enter Try.func83, Try.ntmps83
    go_wp2
    go_ret
    have hr := HR.out
    exact ⟨rfl, ref_shut (h := { h with armed := true, left := n }) (fs := fs) (ps := ps) (fa := fa) (fc := fc) (pa := pa) (pc := pc) ⟨hr.room, hr.changes, rfl, hr.down, fun _ => rfl, hr.files, hr.rising, hr.pend⟩ (satI_eq (by unfold refA; ac_rfl))⟩

set_option maxHeartbeats 800000 in
theorem free_ref (W : Nat) (d : Dk) (m : Nat) (F : Assn) (w : World) (hs : Sat (refP W d * F) w) (ok : Ok m d) :
    Calls Try.prog 92 #[.pointer (some ⟨W, 0, none⟩)] w fun e w' => e = .returned (.int .i64 d.free) ∧ Sat (refP W d * F) w' := by
  obtain ⟨h, fa, fc, fs, pa, pc, ps, hr, hs1⟩ := ref_open hs
  have hlb := hr.sum_le ok
  have hs2 : Sat (coreR W h (.slice fa fs.length fc) (.slice pa ps.length pc) * (rw TRF 4 (.slice fa fs.length fc) (frows fs) * ((rfsA fs * (rw TRP 4 (.slice pa ps.length pc) (qrows ps) * rpsA ps)) * F))) w := hs1.eq (by unfold refA; rw [sep_assoc, sep_assoc])
  have hsum := fun F w hs => sum_ref W h fa fc (.slice pa ps.length pc) fs F w hs (by omega)
  have HS : Aside (∀ (F : Assn) (w : World), Sat (coreR W h (.slice fa fs.length fc) (.slice pa ps.length pc) * (rw TRF 4 (.slice fa fs.length fc) (frows fs) * F)) w → Calls Try.prog 107 #[.pointer (some ⟨W, 0, none⟩)] w fun e w' => e = .returned (.int .i64 (lensR fs : Nat)) ∧ w = w') := hsum
  have hfr : d.free = max 0 (h.room - (lensR fs : Int)) := by unfold Dk.free; rw [hr.sum, hr.room]
  rw [hfr]
  have hro := ok.room
  have hbig : big = 1099511627776 := rfl
  rw [hbig, ← hr.room] at hro
  obtain ⟨hr0, hr1⟩ := hro
  have HR : Aside (RefOf h fs ps d) := hr
  haveI := hs2.i
  clear hsum hfr hr hs hs1 hs2 hbig
  go_enter Try.func92, Try.ntmps92
  go_upto_region 1 with (fail)
  have hw1 : IntKind.i64.wrap (h.room - (lensR fs : Int)) = h.room - (lensR fs : Int) := IntWalk.i64_in _ (by omega)
  go_region_held3 (fun w' => w'.cell? ⟨W, 0, none⟩ = some (.int .i64 h.room)) (first | exact cell_sat _ _ _) (first
    | (go_at_call 107; refine (HS.out _ _ satI).mono ?_; rintro e w2 ⟨rfl, rfl⟩))
  all_goals
    clear hw1
    go_wp2
    go_ret
    refine ⟨?_, ref_shut (fa := fa) (fc := fc) (pa := pa) (pc := pc) HR.out (satI_eq (by unfold refA; ac_rfl))⟩
    first | rfl | (congr 1)

end Go.Proofs.Ytjhkmmpgjiciiaa
