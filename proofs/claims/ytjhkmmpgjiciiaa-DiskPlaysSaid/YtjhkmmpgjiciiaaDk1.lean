/-
  The disk's memory: its struct, the map of files, each file's bytes, the row of pieces.
-/
import Derived.Test.YtjhkmmpgjiciiaaSlb
import Derived.Test.YtjhkmmpgjiciiaaDk0
import Derived.Test.YtjhkmmpgjiciiaaProg
import Derived.WalkLawsBesides
import Derived.Deep.QuietTactic
import Derived.BigQuiet
namespace Go.Proofs.Ytjhkmmpgjiciiaa
set_option linter.unusedSimpArgs false
set_option linter.unusedVariables false
open Go.RowKit Go.Sl Go.Dk

abbrev TD : TypeId := 116
abbrev TF : TypeId := 121
abbrev TP : TypeId := 126
abbrev TB : TypeId := 5
abbrev TFM : TypeId := 113

abbrev skey : ByteArray → Value := fun s => Value.string s

structure Nf where
  b : Nat
  nm : ByteArray
  f : Fl
  nv : Value
  sv : Value

structure Np where
  v : Value
  p : Pc

def fileA (n : Nf) : Assn := hdr n.b TF 3 * (Sl.cell n.b 0 n.nv * (Sl.cell n.b 1 n.sv * (Sl.cell n.b 2 (.bool n.f.sure) * (rw TB 1 n.nv (bys n.f.now) * rw TB 1 n.sv (bys n.f.safe)))))

def filesA : List Nf → Assn
  | [] => 1
  | n :: l => fileA n * filesA l

def notNil (v : Value) : Prop := ∃ g n c, v = .slice (some ⟨g, 0, none⟩) n c

def pieceA (n : Np) : Assn := match n.p.b with
  | none => pur (n.v = .slice none 0 0)
  | some l => pur (notNil n.v) * rw TB 1 n.v (bys l)

def piecesA : List Np → Assn
  | [] => 1
  | n :: l => pieceA n * piecesA l

def prow (n : Np) : List Value := [.string n.p.nm, .int .i64 n.p.pos, n.v]
def prows (ps : List Np) : List Value := ps.flatMap prow

def kvF (n : Nf) : ByteArray × Value := (n.nm, .pointer (some ⟨n.b, 0, none⟩))
def fents (ns : List Nf) : List (ByteArray × Fl) := ns.map fun n => (n.nm, n.f)
def pents (ps : List Np) : List Pc := ps.map (·.p)

/-- the struct's own cells -/
def coreD (D M : Nat) (pv : Value) (d : Dk) : Assn :=
  hdr D TD 7 * (Sl.cell D 0 (.int .i64 d.room) * (Sl.cell D 1 (.int .i64 d.changes) * (Sl.cell D 2 (.int .i64 d.left) * (Sl.cell D 3 (.bool d.armed) * (Sl.cell D 4 (.bool d.down) * (Sl.cell D 5 (.map (some M)) * Sl.cell D 6 pv))))))

def pendA (pv : Value) (ps : List Np) : Assn := rw TP 3 pv (prows ps) * piecesA ps

def diskA (D M : Nat) (ns : List Nf) (pv : Value) (ps : List Np) (d : Dk) : Assn :=
  coreD D M pv d * (mp skey M (ns.map kvF) * (filesA ns * pendA pv ps))

def diskP (D : Nat) (d : Dk) : Assn := ex fun x : Nat × List Nf × Value × List Np => pur (fents x.2.1 = d.files ∧ pents x.2.2.2 = d.pend) * diskA D x.1 x.2.1 x.2.2.1 x.2.2.2 d

theorem Sat.disk_open {D : Nat} {d : Dk} {F : Assn} {w : World} (hs : Sat (diskP D d * F) w) : ∃ M ns pv ps, fents ns = d.files ∧ pents ps = d.pend ∧ Sat (diskA D M ns pv ps d * F) w := by
  obtain ⟨⟨M, ns, pv, ps⟩, h⟩ := hs.ex_open
  rw [sep_assoc] at h
  obtain ⟨⟨h1, h2⟩, h3⟩ := h.pur_open
  exact ⟨M, ns, pv, ps, h1, h2, h3⟩
theorem Sat.disk_shut {D M : Nat} {ns : List Nf} {pv : Value} {ps : List Np} {d : Dk} {F : Assn} {w : World} (h1 : fents ns = d.files) (h2 : pents ps = d.pend) (hs : Sat (diskA D M ns pv ps d * F) w) : Sat (diskP D d * F) w := by
  refine Sat.ex_shut (M, ns, pv, ps) ?_
  rw [sep_assoc]
  exact Sat.pur_shut ⟨h1, h2⟩ hs

theorem filesA_append (l1 l2 : List Nf) : filesA (l1 ++ l2) = filesA l1 * filesA l2 := by
  induction l1 with
  | nil => simp [filesA, one_sep]
  | cons n l ih => simp [filesA, ih, sep_assoc]
theorem piecesA_append (l1 l2 : List Np) : piecesA (l1 ++ l2) = piecesA l1 * piecesA l2 := by
  induction l1 with
  | nil => simp [piecesA, one_sep]
  | cons n l ih => simp [piecesA, ih, sep_assoc]
theorem prows_append (l1 l2 : List Np) : prows (l1 ++ l2) = prows l1 ++ prows l2 := by simp [prows]
theorem prows_len (ps : List Np) : (prows ps).length = ps.length * 3 := by
  induction ps with
  | nil => rfl
  | cons n l ih => simp [prows, prow] at ih ⊢; omega
theorem prows_at {ps : List Np} {i : Nat} {x : Np} (h : ps[i]? = some x) : (prows ps)[i * 3]? = some (.string x.p.nm) ∧ (prows ps)[i * 3 + 1]? = some (.int .i64 x.p.pos) ∧ (prows ps)[i * 3 + 2]? = some x.v := by
  induction ps generalizing i with
  | nil => simp at h
  | cons n l ih =>
    have e : prows (n :: l) = prow n ++ prows l := by simp [prows]
    rw [e]
    cases i with
    | zero => simp at h; subst h; simp [prow]
    | succ i =>
      simp at h
      have := ih h
      have e1 : (i + 1) * 3 = (prow n).length + i * 3 := by simp [prow]; omega
      rw [e1]
      simp only [Nat.add_assoc, List.getElem?_append_right (Nat.le_add_right _ _), Nat.add_sub_cancel_left]
      exact this

theorem fget_none {ns : List Nf} {k : ByteArray} (h : ∀ n ∈ ns, n.nm ≠ k) : fget k (fents ns) = none := by
  induction ns with
  | nil => rfl
  | cons n l ih =>
    show (if k = n.nm then _ else _) = _
    rw [if_neg (fun e => h n (by simp) e.symm)]
    exact ih fun m hm => h m (by simp [hm])
theorem fget_found {l1 : List Nf} {n : Nf} {l2 : List Nf} (h : ∀ m ∈ l1, m.nm ≠ n.nm) : fget n.nm (fents (l1 ++ n :: l2)) = some n.f := by
  induction l1 with
  | nil => simp [fents, fget]
  | cons m l ih =>
    show (if n.nm = m.nm then _ else _) = _
    rw [if_neg (fun e => h m (by simp) e.symm)]
    exact ih fun m hm => h m (by simp [hm])
theorem fput_none {ns : List Nf} {k : ByteArray} (f : Fl) (h : ∀ n ∈ ns, n.nm ≠ k) : fput k f (fents ns) = fents ns ++ [(k, f)] := by
  induction ns with
  | nil => rfl
  | cons n l ih =>
    show (if k = n.nm then _ else _) = _
    rw [if_neg (fun e => h n (by simp) e.symm)]
    show _ :: fput k f (fents l) = _
    rw [ih fun m hm => h m (by simp [hm])]; rfl
theorem fput_found {l1 : List Nf} {n : Nf} {l2 : List Nf} (f : Fl) (h : ∀ m ∈ l1, m.nm ≠ n.nm) : fput n.nm f (fents (l1 ++ n :: l2)) = fents (l1 ++ { n with f := f } :: l2) := by
  induction l1 with
  | nil => simp [fents, fput]
  | cons m l ih =>
    show (if n.nm = m.nm then _ else _) = _
    rw [if_neg (fun e => h m (by simp) e.symm)]
    show _ :: fput n.nm f (fents (l ++ n :: l2)) = _
    rw [ih fun m hm => h m (by simp [hm])]; rfl
theorem mget_noneF {ns : List Nf} {k : ByteArray} (h : ∀ n ∈ ns, n.nm ≠ k) : mget k (ns.map kvF) = none := by
  induction ns with
  | nil => rfl
  | cons n l ih =>
    show (if k = n.nm then _ else _) = _
    rw [if_neg (fun e => h n (by simp) e.symm)]
    exact ih fun m hm => h m (by simp [hm])
theorem mget_foundF {l1 : List Nf} {n : Nf} {l2 : List Nf} (h : ∀ m ∈ l1, m.nm ≠ n.nm) : mget n.nm ((l1 ++ n :: l2).map kvF) = some (.pointer (some ⟨n.b, 0, none⟩)) := by
  induction l1 with
  | nil => simp [kvF, mget]
  | cons m l ih =>
    show (if n.nm = m.nm then _ else _) = _
    rw [if_neg (fun e => h m (by simp) e.symm)]
    exact ih fun m hm => h m (by simp [hm])
theorem nf_cases (ns : List Nf) (k : ByteArray) : (∃ l1 n l2, ns = l1 ++ n :: l2 ∧ n.nm = k ∧ ∀ m ∈ l1, m.nm ≠ k) ∨ ∀ n ∈ ns, n.nm ≠ k := by
  induction ns with
  | nil => exact .inr (by simp)
  | cons m l ih =>
    by_cases hk : m.nm = k
    · exact .inl ⟨[], m, l, rfl, hk, by simp⟩
    · rcases ih with ⟨l1, n, l2, rfl, h1, h2⟩ | h
      · exact .inl ⟨m :: l1, n, l2, rfl, h1, fun x hx => by rcases List.mem_cons.1 hx with rfl | hx; exact hk; exact h2 x hx⟩
      · exact .inr fun x hx => by rcases List.mem_cons.1 hx with rfl | hx; exact hk; exact h x hx

/-- the disk around one file -/
def restD (D M : Nat) (l1 : List Nf) (n : Nf) (l2 : List Nf) (pv : Value) (ps : List Np) (d : Dk) : Assn :=
  coreD D M pv d * (mp skey M ((l1 ++ n :: l2).map kvF) * (filesA l1 * (filesA l2 * pendA pv ps)))
theorem disk_file (D M : Nat) (l1 : List Nf) (n : Nf) (l2 : List Nf) (pv : Value) (ps : List Np) (d : Dk) : diskA D M (l1 ++ n :: l2) pv ps d = fileA n * restD D M l1 n l2 pv ps d := by
  unfold diskA restD
  rw [filesA_append, filesA]
  ac_rfl
theorem restD_at {D M : Nat} {l1 : List Nf} {n n' : Nf} {l2 : List Nf} {pv : Value} {ps : List Np} {d : Dk} (hb : n'.b = n.b) (hk : n'.nm = n.nm) : restD D M l1 n l2 pv ps d = restD D M l1 n' l2 pv ps d := by
  have : (l1 ++ n :: l2).map kvF = (l1 ++ n' :: l2).map kvF := by simp [kvF, hb, hk]
  unfold restD; rw [this]

theorem keyOkS : KeyOk Try.prog 9 skey := string_keyOk Try.underlying9
theorem zeroF (w : World) : (zeroValue 118).run Try.prog w = .ok (.pointer none) w := by kernel_rfl
theorem elemB : ∃ i, ElemOk Try.prog 45 TB 1 1 i (.int .u8 0) := elemOk Try.underlying45 (by kernel_rfl) rfl (by omega)
theorem elemP : ∃ i, ElemOk Try.prog 114 TP 3 48 i (.agg #[.string ByteArray.empty, .int .i64 0, .slice none 0 0]) := elemOk Try.underlying114 (by kernel_rfl) rfl (by omega)

theorem look_foundF {M : Nat} {l1 : List Nf} {n : Nf} {l2 : List Nf} {F : Assn} {w : World} (hs : Sat (mp skey M ((l1 ++ n :: l2).map kvF) * F) w) (h : ∀ m ∈ l1, m.nm ≠ n.nm) :
    (Instr.lookup TFM (.map (some M)) (.string n.nm) false).run Try.prog w = .ok (.pointer (some ⟨n.b, 0, none⟩)) w := by
  obtain ⟨o, ho, hs⟩ := hs.mp_open
  have := run_lookup_mp keyOkS Try.underlying113 zeroF hs.obj ho n.nm false
  rw [mget_foundF h] at this
  simpa using this
theorem look_noneF {M : Nat} {ns : List Nf} {k : ByteArray} {F : Assn} {w : World} (hs : Sat (mp skey M (ns.map kvF) * F) w) (hk : ∀ n ∈ ns, n.nm ≠ k) :
    (Instr.lookup TFM (.map (some M)) (.string k) false).run Try.prog w = .ok (.pointer none) w := by
  obtain ⟨o, ho, hs⟩ := hs.mp_open
  have := run_lookup_mp keyOkS Try.underlying113 zeroF hs.obj ho k false
  rw [mget_noneF hk] at this
  simpa using this

/-! named -/
theorem all_take_snoc (s : ByteArray) (k : Nat) (h : k < s.size) (p : UInt8 → Bool) : (s.data.toList.take (k + 1)).all p = ((s.data.toList.take k).all p && p s[k]) := by
  rw [List.take_succ_eq_append_getElem (by simpa using h), List.all_append]
  simp; rfl

def lowc (c : UInt8) : Bool := decide (97 ≤ c.toNat) && decide (c.toNat ≤ 122)

theorem named_short {s : ByteArray} (h : s.size < 1 ∨ 16 < s.size) : named s = false := by
  unfold named
  rcases h with h | h
  · simp [show ¬ 1 ≤ s.size by omega]
  · simp [show ¬ s.size ≤ 16 by omega]
theorem named_all {s : ByteArray} (h1 : 1 ≤ s.size) (h2 : s.size ≤ 16) : named s = s.data.toList.all lowc := by
  unfold named lowc
  simp [h1, h2]
theorem named_bad {s : ByteArray} {k : Nat} (hk : k < s.size) (h : lowc s[k] = false) : s.data.toList.all lowc = false := by
  rw [List.all_eq_false]
  exact ⟨s[k], by simp [ByteArray.getElem_eq_getElem_data], by simp [h]⟩

set_option maxHeartbeats 400000 in
theorem named_any (s : ByteArray) (w : World) (hs : s.size ≤ 9223372036854775807) :
    Calls Try.prog 70 #[.string s] w fun e w' => e = .returned (.bool (named s)) ∧ w = w' := by
  by_cases hsz : s.size < 1 ∨ 16 < s.size
  · rw [named_short hsz]
    rcases hsz with h | h
    · have h1 : s.size < 1 := h
      go_enter Try.func70, Try.ntmps70
      go_wp2
      go_ret
      exact ⟨rfl, rfl⟩
    · have h1 : ¬ s.size < 1 := by omega
      go_enter Try.func70, Try.ntmps70
      go_wp2
      go_ret
      exact ⟨rfl, rfl⟩
  · have h1 : ¬ s.size < 1 := by omega
    have h2 : ¬ 16 < s.size := by omega
    have HN : Aside (named s = s.data.toList.all lowc) := named_all (by omega) (by omega)
    clear hsz
    obtain ⟨r, HR⟩ : ∃ r, Aside (named s = r) := ⟨_, rfl⟩
    rw [HR.out]
    go_enter Try.func70, Try.ntmps70
    go_wp2
    go_loop [14] (fun i => ∃ k : Nat, k ≤ s.size ∧ i = .int .i64 k ∧ Aside ((s.data.toList.take k).all lowc = true)) (fun i => s.size - (intOf i).toNat)
    case atStart => exact ⟨0, Nat.zero_le _, rfl, by simp [Aside]⟩
    case round =>
      obtain ⟨k, hk, rfl, A⟩ := hrel
      by_cases hlt : k < s.size
      · have hb := s[k].toNat_lt
        by_cases c1 : s[k].toNat < 97
        · have HF : Aside (r = false) := by
            have := named_bad hlt (show lowc s[k] = false by unfold lowc; simp; omega)
            rw [← HR.out, HN.out]; exact this
          go_wp2
          go_ret
          exact ⟨by rw [HF.out]; rfl, rfl⟩
        · by_cases c2 : 122 < s[k].toNat
          · have HF : Aside (r = false) := by
              have := named_bad hlt (show lowc s[k] = false by unfold lowc; simp; omega)
              rw [← HR.out, HN.out]; exact this
            go_wp2
            go_ret
            exact ⟨by rw [HF.out]; rfl, rfl⟩
          · have HA : Aside ((s.data.toList.take (k + 1)).all lowc = true) := by
              show _ = true
              rw [all_take_snoc s k hlt, A.out]
              unfold lowc; simp; omega
            go_wp2
            go_round
            case rel => exact ⟨k + 1, by omega, by go_num, HA⟩
            case measure => simp [intOf]; omega
      · have HF : Aside (r = true) := by
          have := A.out
          rw [List.take_of_length_le (by simp; omega)] at this
          rw [← HR.out, HN.out]; exact this
        go_wp2
        go_ret
        exact ⟨by rw [HF.out]; rfl, rfl⟩

end Go.Proofs.Ytjhkmmpgjiciiaa
