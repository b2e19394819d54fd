/-
  Walks of package disk's small functions: may, sum, fits, change.
-/
import Derived.Test.YtjhkmmpgjiciiaaDk1
namespace Go.Proofs.Ytjhkmmpgjiciiaa
set_option linter.unusedSimpArgs false
set_option linter.unusedVariables false
open Go.RowKit Go.Sl Go.Dk

theorem may_name {d : Dk} {nm : ByteArray} {t : Bool} (h : named nm = false) : d.may nm t = 1 := by unfold Dk.may; rw [if_pos h]
theorem may_down {d : Dk} {nm : ByteArray} {t : Bool} (h : named nm = true) (hd : d.down = true) : d.may nm t = 8 := by unfold Dk.may; rw [if_neg (by simp [h]), if_pos hd]
theorem may_six {d : Dk} {nm : ByteArray} (h : named nm = true) (hd : d.down = false) (hg : d.get nm = none) : d.may nm true = 6 := by unfold Dk.may; simp [h, hd, hg]
theorem may_new {d : Dk} {nm : ByteArray} (h : named nm = true) (hd : d.down = false) : d.may nm false = 0 := by unfold Dk.may; simp [h, hd]
theorem may_there {d : Dk} {nm : ByteArray} {t : Bool} {f : Fl} (h : named nm = true) (hd : d.down = false) (hg : d.get nm = some f) : d.may nm t = 0 := by unfold Dk.may; simp [h, hd, hg]

/-- all ways of may -/
theorem may_ways (d : Dk) (nm : ByteArray) (t : Bool) : (d.may nm t = 1 ∧ named nm = false) ∨ (d.may nm t = 8 ∧ named nm = true ∧ d.down = true) ∨ (d.may nm t = 6 ∧ named nm = true ∧ d.down = false ∧ t = true ∧ d.get nm = none) ∨
    (d.may nm t = 0 ∧ named nm = true ∧ d.down = false ∧ (t = true → (d.get nm).isSome = true)) := by
  cases hn : named nm with
  | false => exact .inl ⟨may_name hn, rfl⟩
  | true =>
    cases hd : d.down with
    | true => exact .inr (.inl ⟨may_down hn hd, rfl, rfl⟩)
    | false =>
      cases hg : d.get nm with
      | none =>
        cases t with
        | true => exact .inr (.inr (.inl ⟨may_six hn hd hg, rfl, rfl, rfl, rfl⟩))
        | false => exact .inr (.inr (.inr ⟨may_new hn hd, rfl, rfl, by simp⟩))
      | some f => exact .inr (.inr (.inr ⟨may_there hn hd hg, rfl, rfl, by simp⟩))

set_option maxHeartbeats 400000 in
theorem may_nil (nm : ByteArray) (t : Bool) (w : World) :
    Calls Try.prog 73 #[.pointer none, .string nm, .bool t] w fun e w' => e = .returned (.tuple #[.pointer none, .int .i64 1]) ∧ w = w' := by
  go_enter Try.func73, Try.ntmps73
  go_wp2
  go_ret2
  exact ⟨rfl, rfl⟩

set_option maxHeartbeats 400000 in
theorem may_bad (D M : Nat) (ns : List Nf) (pv : Value) (ps : List Np) (d : Dk) (nm : ByteArray) (t : Bool) (F : Assn) (w : World) (hs : Sat (diskA D M ns pv ps d * F) w) (hfs : fents ns = d.files) (hsz : nm.size ≤ 9223372036854775807) (hm : d.may nm t ≠ 0) :
    Calls Try.prog 73 #[.pointer (some ⟨D, 0, none⟩), .string nm, .bool t] w fun e w' => e = .returned (.tuple #[.pointer none, .int .i64 (d.may nm t)]) ∧ w = w' := by
  have hn := named_any nm w hsz
  unfold diskA coreD at hs
  have c4 := hs.c D 4
  have c5 := hs.c D 5
  rcases may_ways d nm t with ⟨h1, h2⟩ | ⟨h1, h2, h3⟩ | ⟨h1, h2, h3, rfl, h4⟩ | ⟨h1, _⟩
  · rw [h1]
    rw [h2] at hn
    clear hs h1 h2 hm hfs
    go_enter Try.func73, Try.ntmps73
    go_wp2_with (refine hn.mono ?_; rintro e w' ⟨rfl, rfl⟩)
    go_ret2
    exact ⟨rfl, rfl⟩
  · rw [h1]
    rw [h2] at hn
    rw [h3] at c4
    clear hs h1 h2 hm hfs h3
    go_enter Try.func73, Try.ntmps73
    go_wp2_with (refine hn.mono ?_; rintro e w' ⟨rfl, rfl⟩)
    go_ret2
    exact ⟨rfl, rfl⟩
  · rw [h1]
    rw [h2] at hn
    rw [h3] at c4
    have hno : ∀ n ∈ ns, n.nm ≠ nm := by
      rcases nf_cases ns nm with ⟨l1, n, l2, rfl, rfl, h5⟩ | h
      · unfold Dk.get at h4
        rw [← hfs, fget_found h5] at h4
        cases h4
      · exact h
    have hl := look_noneF (hs.take (mp skey M (ns.map kvF))) hno
    clear hs h1 h2 hm hfs h3 h4 hno
    go_enter Try.func73, Try.ntmps73
    go_wp2_with (refine hn.mono ?_; rintro e w' ⟨rfl, rfl⟩)
    go_ret2
    exact ⟨rfl, rfl⟩
  · exact absurd h1 hm

set_option maxHeartbeats 400000 in
theorem may_found (D M : Nat) (l1 : List Nf) (n : Nf) (l2 : List Nf) (pv : Value) (ps : List Np) (d : Dk) (t : Bool) (F : Assn) (w : World) (hs : Sat (diskA D M (l1 ++ n :: l2) pv ps d * F) w) (hl1 : ∀ m ∈ l1, m.nm ≠ n.nm) (hsz : n.nm.size ≤ 9223372036854775807) (hn : named n.nm = true) (hd : d.down = false) :
    Calls Try.prog 73 #[.pointer (some ⟨D, 0, none⟩), .string n.nm, .bool t] w fun e w' => e = .returned (.tuple #[.pointer (some ⟨n.b, 0, none⟩), .int .i64 0]) ∧ w = w' := by
  have hna := named_any n.nm w hsz
  unfold diskA coreD at hs
  have c4 := hs.c D 4
  have c5 := hs.c D 5
  rw [hn] at hna
  rw [hd] at c4
  have hl := look_foundF (hs.take (mp skey M ((l1 ++ n :: l2).map kvF))) hl1
  clear hs hn hd
  cases t
  all_goals
    go_enter Try.func73, Try.ntmps73
    go_wp2_with (refine hna.mono ?_; rintro e w' ⟨rfl, rfl⟩)
    go_ret2
    exact ⟨rfl, rfl⟩

set_option maxHeartbeats 400000 in
theorem may_none (D M : Nat) (ns : List Nf) (pv : Value) (ps : List Np) (d : Dk) (nm : ByteArray) (F : Assn) (w : World) (hs : Sat (diskA D M ns pv ps d * F) w) (hno : ∀ n ∈ ns, n.nm ≠ nm) (hsz : nm.size ≤ 9223372036854775807) (hn : named nm = true) (hd : d.down = false) :
    Calls Try.prog 73 #[.pointer (some ⟨D, 0, none⟩), .string nm, .bool false] w fun e w' => e = .returned (.tuple #[.pointer none, .int .i64 0]) ∧ w = w' := by
  have hna := named_any nm w hsz
  unfold diskA coreD at hs
  have c4 := hs.c D 4
  have c5 := hs.c D 5
  rw [hn] at hna
  rw [hd] at c4
  have hl := look_noneF (hs.take (mp skey M (ns.map kvF))) hno
  clear hs hn hd
  go_enter Try.func73, Try.ntmps73
  go_wp2_with (refine hna.mono ?_; rintro e w' ⟨rfl, rfl⟩)
  go_ret2
  exact ⟨rfl, rfl⟩

/-! change -/
set_option maxHeartbeats 400000 in
theorem change_stop (D M : Nat) (pv : Value) (d : Dk) (F : Assn) (w : World) (hs : Sat (coreD D M pv d * F) w) (h : d.stop = true) :
    Calls Try.prog 74 #[.pointer (some ⟨D, 0, none⟩)] w fun e w' => e = .returned (.int .i64 8) ∧ Sat (coreD D M pv { d with down := true } * F) w' := by
  unfold coreD at hs
  have c2 := hs.c D 2
  have c3 := hs.c D 3
  have c4 := hs.c D 4
  have f4 := hs.f D 4
  have hs2 := hs.upd D 4 (.bool true)
  unfold Dk.stop at h
  simp only [Bool.and_eq_true, beq_iff_eq] at h
  rw [h.1] at c3
  rw [h.2] at c2
  clear hs h
  go_enter Try.func74, Try.ntmps74
  go_wp2
  try go_quiet (fail)
  go_wp2
  go_ret
  exact ⟨rfl, hs2⟩

set_option maxHeartbeats 400000 in
theorem change_go (D M : Nat) (pv : Value) (d : Dk) (F : Assn) (w : World) (hs : Sat (coreD D M pv d * F) w) (h : d.stop = false) (h1 : -4611686018427387904 ≤ d.left) (h1' : d.left ≤ 9223372036854775807) (h2 : 0 ≤ d.changes) (h3 : d.changes ≤ 4611686018427387904) :
    Calls Try.prog 74 #[.pointer (some ⟨D, 0, none⟩)] w fun e w' => e = .returned (.int .i64 0) ∧ Sat (coreD D M pv d.ticked * F) w' := by
  unfold coreD at hs
  have c1 := hs.c D 1
  have f1 := hs.f D 1
  have c2 := hs.c D 2
  have f2 := hs.f D 2
  have c3 := hs.c D 3
  have hs2 := (hs.upd D 2 (.int .i64 (d.left - 1)))
  have c1' := hs2.c D 1
  have f1' := hs2.f D 1
  have hs3 := hs2.upd D 1 (.int .i64 (d.changes + 1))
  unfold Dk.stop at h
  clear hs hs2
  cases ha : d.armed with
  | true =>
    rw [ha] at h c3
    simp only [Bool.true_and] at h
    go_enter Try.func74, Try.ntmps74
    go_wp2
    try go_quiet (fail)
    go_wp2
    go_ret
    exact ⟨rfl, by unfold coreD Dk.ticked; rw [ha] at hs3; simpa [ha] using hs3⟩
  | false =>
    rw [ha] at c3
    go_enter Try.func74, Try.ntmps74
    go_wp2
    try go_quiet (fail)
    go_wp2
    go_ret
    exact ⟨rfl, by unfold coreD Dk.ticked; rw [ha] at hs3; simpa [ha] using hs3⟩

end Go.Proofs.Ytjhkmmpgjiciiaa
