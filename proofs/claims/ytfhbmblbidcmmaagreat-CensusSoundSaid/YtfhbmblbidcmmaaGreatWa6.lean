/-
  Versions are found sound just if they are in the words of the document. No condition. (part 6)
-/
import Derived.Test.YtfhbmblbidcmmaaGreatWa1
import Derived.Test.YtfhbmblbidcmmaaGreatWa5
import Derived.Test.YtfhbmblbidcmmaaGreatProg
import Derived.WalkLawsBesides
import Derived.Deep.QuietTactic
import Derived.BigQuiet
set_option linter.unusedSimpArgs false
set_option linter.unusedVariables false
namespace Go.Proofs.YtfhbmblbidcmmaaGreat
set_option linter.unusedSimpArgs false
set_option linter.unusedVariables false
open Go.RowKit Go.Sl Go.Dk
abbrev TD : TypeId := 151
abbrev TF : TypeId := 154
abbrev TP : TypeId := 215
abbrev TB : TypeId := 5
abbrev TFM : TypeId := 148
abbrev skey : ByteArray → Value := fun s => Value.string s
structure Nf where
 b : Nat
 nm : ByteArray
 f : Fl
 nv : Value
 sv : Value
structure Np where
 v : Value
 p : Pc
def fileA (n : Nf) : Assn := hdr n.b TF 3 * (Sl.cell n.b 0 n.nv * (Sl.cell n.b 1 n.sv * (Sl.cell n.b 2 (.bool n.f.sure) * (rw TB 1 n.nv (bys n.f.now) * rw TB 1 n.sv (bys n.f.safe)))))
def filesA : List Nf → Assn
 | [] => 1
 | n :: l => fileA n * filesA l
def notNil (v : Value) : Prop := ∃ g n c, v = .slice (some ⟨g, 0, none⟩) n c
def pieceA (n : Np) : Assn := match n.p.b with
 | none => pur (n.v = .slice none 0 0)
 | some l => pur (notNil n.v) * rw TB 1 n.v (bys l)
def piecesA : List Np → Assn
 | [] => 1
 | n :: l => pieceA n * piecesA l
def prow (n : Np) : List Value := [.string n.p.nm, .int .i64 n.p.pos, n.v]
def prows (ps : List Np) : List Value := ps.flatMap prow
def kvF (n : Nf) : ByteArray × Value := (n.nm, .pointer (some ⟨n.b, 0, none⟩))
def fents (ns : List Nf) : List (ByteArray × Fl) := ns.map fun n => (n.nm, n.f)
def pents (ps : List Np) : List Pc := ps.map (·.p)
def coreD (D M : Nat) (pv : Value) (d : Dk) : Assn :=
 hdr D TD 7 * (Sl.cell D 0 (.int .i64 d.room) * (Sl.cell D 1 (.int .i64 d.changes) * (Sl.cell D 2 (.int .i64 d.left) * (Sl.cell D 3 (.bool d.armed) * (Sl.cell D 4 (.bool d.down) * (Sl.cell D 5 (.map (some M)) * Sl.cell D 6 pv))))))
def pendA (pv : Value) (ps : List Np) : Assn := rw TP 3 pv (prows ps) * piecesA ps
def diskA (D M : Nat) (ns : List Nf) (pv : Value) (ps : List Np) (d : Dk) : Assn :=
 coreD D M pv d * (mp skey M (ns.map kvF) * (filesA ns * pendA pv ps))
def diskP (D : Nat) (d : Dk) : Assn := ex fun x : Nat × List Nf × Value × List Np => pur (fents x.2.1 = d.files ∧ pents x.2.2.2 = d.pend) * diskA D x.1 x.2.1 x.2.2.1 x.2.2.2 d
theorem Sat.disk_open {D : Nat} {d : Dk} {F : Assn} {w : World} (hs : Sat (diskP D d * F) w) : ∃ M ns pv ps, fents ns = d.files ∧ pents ps = d.pend ∧ Sat (diskA D M ns pv ps d * F) w := by
 obtain ⟨⟨M, ns, pv, ps⟩, h⟩ := hs.ex_open
 rw [sep_assoc] at h
 obtain ⟨⟨h1, h2⟩, h3⟩ := h.pur_open
 exact ⟨M, ns, pv, ps, h1, h2, h3⟩
theorem Sat.disk_shut {D M : Nat} {ns : List Nf} {pv : Value} {ps : List Np} {d : Dk} {F : Assn} {w : World} (h1 : fents ns = d.files) (h2 : pents ps = d.pend) (hs : Sat (diskA D M ns pv ps d * F) w) : Sat (diskP D d * F) w := by
 refine Sat.ex_shut (M, ns, pv, ps) ?_
 rw [sep_assoc]
 exact Sat.pur_shut ⟨h1, h2⟩ hs
theorem filesA_append (l1 l2 : List Nf) : filesA (l1 ++ l2) = filesA l1 * filesA l2 := by
 induction l1 with
 | nil => simp [filesA, one_sep]
 | cons n l ih => simp [filesA, ih, sep_assoc]
theorem piecesA_append (l1 l2 : List Np) : piecesA (l1 ++ l2) = piecesA l1 * piecesA l2 := by
 induction l1 with
 | nil => simp [piecesA, one_sep]
 | cons n l ih => simp [piecesA, ih, sep_assoc]
theorem prows_append (l1 l2 : List Np) : prows (l1 ++ l2) = prows l1 ++ prows l2 := by simp [prows]
theorem prows_len (ps : List Np) : (prows ps).length = ps.length * 3 := by
 induction ps with
 | nil => rfl
 | cons n l ih => simp [prows, prow] at ih ⊢; omega
theorem prows_at {ps : List Np} {i : Nat} {x : Np} (h : ps[i]? = some x) : (prows ps)[i * 3]? = some (.string x.p.nm) ∧ (prows ps)[i * 3 + 1]? = some (.int .i64 x.p.pos) ∧ (prows ps)[i * 3 + 2]? = some x.v := by
 induction ps generalizing i with
 | nil => simp at h
 | cons n l ih =>
   have e : prows (n :: l) = prow n ++ prows l := by simp [prows]
   rw [e]
   cases i with
   | zero => simp at h; subst h; simp [prow]
   | succ i =>
     simp at h
     have := ih h
     have e1 : (i + 1) * 3 = (prow n).length + i * 3 := by simp [prow]; omega
     rw [e1]
     simp only [Nat.add_assoc, List.getElem?_append_right (Nat.le_add_right _ _), Nat.add_sub_cancel_left]
     exact this
theorem fget_none {ns : List Nf} {k : ByteArray} (h : ∀ n ∈ ns, n.nm ≠ k) : fget k (fents ns) = none := by
 induction ns with
 | nil => rfl
 | cons n l ih =>
   show (if k = n.nm then _ else _) = _
   rw [if_neg (fun e => h n (by simp) e.symm)]
   exact ih fun m hm => h m (by simp [hm])
theorem fget_found {l1 : List Nf} {n : Nf} {l2 : List Nf} (h : ∀ m ∈ l1, m.nm ≠ n.nm) : fget n.nm (fents (l1 ++ n :: l2)) = some n.f := by
 induction l1 with
 | nil => simp [fents, fget]
 | cons m l ih =>
   show (if n.nm = m.nm then _ else _) = _
   rw [if_neg (fun e => h m (by simp) e.symm)]
   exact ih fun m hm => h m (by simp [hm])
theorem fput_none {ns : List Nf} {k : ByteArray} (f : Fl) (h : ∀ n ∈ ns, n.nm ≠ k) : fput k f (fents ns) = fents ns ++ [(k, f)] := by
 induction ns with
 | nil => rfl
 | cons n l ih =>
   show (if k = n.nm then _ else _) = _
   rw [if_neg (fun e => h n (by simp) e.symm)]
   show _ :: fput k f (fents l) = _
   rw [ih fun m hm => h m (by simp [hm])]; rfl
theorem fput_found {l1 : List Nf} {n : Nf} {l2 : List Nf} (f : Fl) (h : ∀ m ∈ l1, m.nm ≠ n.nm) : fput n.nm f (fents (l1 ++ n :: l2)) = fents (l1 ++ { n with f := f } :: l2) := by
 induction l1 with
 | nil => simp [fents, fput]
 | cons m l ih =>
   show (if n.nm = m.nm then _ else _) = _
   rw [if_neg (fun e => h m (by simp) e.symm)]
   show _ :: fput n.nm f (fents (l ++ n :: l2)) = _
   rw [ih fun m hm => h m (by simp [hm])]; rfl
theorem mget_noneF {ns : List Nf} {k : ByteArray} (h : ∀ n ∈ ns, n.nm ≠ k) : mget k (ns.map kvF) = none := by
 induction ns with
 | nil => rfl
 | cons n l ih =>
   show (if k = n.nm then _ else _) = _
   rw [if_neg (fun e => h n (by simp) e.symm)]
   exact ih fun m hm => h m (by simp [hm])
theorem mget_foundF {l1 : List Nf} {n : Nf} {l2 : List Nf} (h : ∀ m ∈ l1, m.nm ≠ n.nm) : mget n.nm ((l1 ++ n :: l2).map kvF) = some (.pointer (some ⟨n.b, 0, none⟩)) := by
 induction l1 with
 | nil => simp [kvF, mget]
 | cons m l ih =>
   show (if n.nm = m.nm then _ else _) = _
   rw [if_neg (fun e => h m (by simp) e.symm)]
   exact ih fun m hm => h m (by simp [hm])
theorem nf_cases (ns : List Nf) (k : ByteArray) : (∃ l1 n l2, ns = l1 ++ n :: l2 ∧ n.nm = k ∧ ∀ m ∈ l1, m.nm ≠ k) ∨ ∀ n ∈ ns, n.nm ≠ k := by
 induction ns with
 | nil => exact .inr (by simp)
 | cons m l ih =>
   by_cases hk : m.nm = k
   · exact .inl ⟨[], m, l, rfl, hk, by simp⟩
   · rcases ih with ⟨l1, n, l2, rfl, h1, h2⟩ | h
     · exact .inl ⟨m :: l1, n, l2, rfl, h1, fun x hx => by rcases List.mem_cons.1 hx with rfl | hx; exact hk; exact h2 x hx⟩
     · exact .inr fun x hx => by rcases List.mem_cons.1 hx with rfl | hx; exact hk; exact h x hx
def restD (D M : Nat) (l1 : List Nf) (n : Nf) (l2 : List Nf) (pv : Value) (ps : List Np) (d : Dk) : Assn :=
 coreD D M pv d * (mp skey M ((l1 ++ n :: l2).map kvF) * (filesA l1 * (filesA l2 * pendA pv ps)))
theorem disk_file (D M : Nat) (l1 : List Nf) (n : Nf) (l2 : List Nf) (pv : Value) (ps : List Np) (d : Dk) : diskA D M (l1 ++ n :: l2) pv ps d = fileA n * restD D M l1 n l2 pv ps d := by
 unfold diskA restD
 rw [filesA_append, filesA]
 ac_rfl
theorem restD_at {D M : Nat} {l1 : List Nf} {n n' : Nf} {l2 : List Nf} {pv : Value} {ps : List Np} {d : Dk} (hb : n'.b = n.b) (hk : n'.nm = n.nm) : restD D M l1 n l2 pv ps d = restD D M l1 n' l2 pv ps d := by
 have : (l1 ++ n :: l2).map kvF = (l1 ++ n' :: l2).map kvF := by simp [kvF, hb, hk]
 unfold restD; rw [this]
theorem keyOkS : KeyOk Tryz.prog 9 skey := string_keyOk Tryz.underlying9
theorem zeroF (w : World) : (zeroValue 147).run Tryz.prog w = .ok (.pointer none) w := by kernel_rfl
theorem elemB : ∃ i, ElemOk Tryz.prog 26 TB 1 1 i (.int .u8 0) := elemOk Tryz.underlying26 (by kernel_rfl) rfl (by omega)
theorem elemP : ∃ i, ElemOk Tryz.prog 149 TP 3 48 i (.agg #[.string ByteArray.empty, .int .i64 0, .slice none 0 0]) := elemOk Tryz.underlying149 (by kernel_rfl) rfl (by omega)
theorem look_foundF {M : Nat} {l1 : List Nf} {n : Nf} {l2 : List Nf} {F : Assn} {w : World} (hs : Sat (mp skey M ((l1 ++ n :: l2).map kvF) * F) w) (h : ∀ m ∈ l1, m.nm ≠ n.nm) :
 (Instr.lookup TFM (.map (some M)) (.string n.nm) false).run Tryz.prog w = .ok (.pointer (some ⟨n.b, 0, none⟩)) w := by
 obtain ⟨o, ho, hs⟩ := hs.mp_open
 have := run_lookup_mp keyOkS Tryz.underlying148 zeroF hs.obj ho n.nm false
 rw [mget_foundF h] at this
 simpa using this
theorem look_noneF {M : Nat} {ns : List Nf} {k : ByteArray} {F : Assn} {w : World} (hs : Sat (mp skey M (ns.map kvF) * F) w) (hk : ∀ n ∈ ns, n.nm ≠ k) :
 (Instr.lookup TFM (.map (some M)) (.string k) false).run Tryz.prog w = .ok (.pointer none) w := by
 obtain ⟨o, ho, hs⟩ := hs.mp_open
 have := run_lookup_mp keyOkS Tryz.underlying148 zeroF hs.obj ho k false
 rw [mget_noneF hk] at this
 simpa using this
/-! named -/
theorem all_take_snoc (s : ByteArray) (k : Nat) (h : k < s.size) (p : UInt8 → Bool) : (s.data.toList.take (k + 1)).all p = ((s.data.toList.take k).all p && p s[k]) := by
 rw [List.take_succ_eq_append_getElem (by simpa using h), List.all_append]
 simp; rfl
def lowc (c : UInt8) : Bool := decide (97 ≤ c.toNat) && decide (c.toNat ≤ 122)
theorem named_short {s : ByteArray} (h : s.size < 1 ∨ 16 < s.size) : named s = false := by
 unfold named
 rcases h with h | h
 · simp [show ¬ 1 ≤ s.size by omega]
 · simp [show ¬ s.size ≤ 16 by omega]
theorem named_all {s : ByteArray} (h1 : 1 ≤ s.size) (h2 : s.size ≤ 16) : named s = s.data.toList.all lowc := by
 unfold named lowc
 simp [h1, h2]
theorem named_bad {s : ByteArray} {k : Nat} (hk : k < s.size) (h : lowc s[k] = false) : s.data.toList.all lowc = false := by
 rw [List.all_eq_false]
 exact ⟨s[k], by simp [ByteArray.getElem_eq_getElem_data], by simp [h]⟩
set_option maxHeartbeats 400000 in
theorem named_any (s : ByteArray) (w : World) (hs : s.size ≤ 9223372036854775807) :
 Calls Tryz.prog 68 #[.string s] w fun e w' => e = .returned (.bool (named s)) ∧ w = w' := by
 by_cases hsz : s.size < 1 ∨ 16 < s.size
 · rw [named_short hsz]
   rcases hsz with h | h
   · have h1 : s.size < 1 := h
     go_enter Tryz.func68, Tryz.ntmps68
     go_wp2
     go_ret
     exact ⟨rfl, rfl⟩
   · have h1 : ¬ s.size < 1 := by omega
     go_enter Tryz.func68, Tryz.ntmps68
     go_wp2
     go_ret
     exact ⟨rfl, rfl⟩
 · have h1 : ¬ s.size < 1 := by omega
   have h2 : ¬ 16 < s.size := by omega
   have HN : Aside (named s = s.data.toList.all lowc) := named_all (by omega) (by omega)
   clear hsz
   obtain ⟨r, HR⟩ : ∃ r, Aside (named s = r) := ⟨_, rfl⟩
   rw [HR.out]
   go_enter Tryz.func68, Tryz.ntmps68
   go_wp2
   go_loop [14] (fun i => ∃ k : Nat, k ≤ s.size ∧ i = .int .i64 k ∧ Aside ((s.data.toList.take k).all lowc = true)) (fun i => s.size - (intOf i).toNat)
   case atStart => exact ⟨0, Nat.zero_le _, rfl, by simp [Aside]⟩
   case round =>
    obtain ⟨k, hk, rfl, A⟩ := hrel
    by_cases hlt : k < s.size
    · have hb := s[k].toNat_lt
      by_cases c1 : s[k].toNat < 97
      · have HF : Aside (r = false) := by
         have := named_bad hlt (show lowc s[k] = false by unfold lowc; simp; omega)
         rw [← HR.out, HN.out]; exact this
        go_wp2
        go_ret
        exact ⟨by rw [HF.out]; rfl, rfl⟩
      · by_cases c2 : 122 < s[k].toNat
        · have HF : Aside (r = false) := by
           have := named_bad hlt (show lowc s[k] = false by unfold lowc; simp; omega)
           rw [← HR.out, HN.out]; exact this
          go_wp2
          go_ret
          exact ⟨by rw [HF.out]; rfl, rfl⟩
        · have HA : Aside ((s.data.toList.take (k + 1)).all lowc = true) := by
           show _ = true
           rw [all_take_snoc s k hlt, A.out]
           unfold lowc; simp; omega
          go_wp2
          go_round
          case rel => exact ⟨k + 1, by omega, by go_num, HA⟩
          case measure => simp [intOf]; omega
    · have HF : Aside (r = true) := by
       have := A.out
       rw [List.take_of_length_le (by simp; omega)] at this
       rw [← HR.out, HN.out]; exact this
      go_wp2
      go_ret
      exact ⟨by rw [HF.out]; rfl, rfl⟩
end Go.Proofs.YtfhbmblbidcmmaaGreat
namespace Go.Proofs.YtfhbmblbidcmmaaGreat
set_option linter.unusedSimpArgs false
set_option linter.unusedVariables false
open Go.RowKit Go.Sl Go.Dk
theorem may_name {d : Dk} {nm : ByteArray} {t : Bool} (h : named nm = false) : d.may nm t = 1 := by unfold Dk.may; rw [if_pos h]
theorem may_down {d : Dk} {nm : ByteArray} {t : Bool} (h : named nm = true) (hd : d.down = true) : d.may nm t = 8 := by unfold Dk.may; rw [if_neg (by simp [h]), if_pos hd]
theorem may_six {d : Dk} {nm : ByteArray} (h : named nm = true) (hd : d.down = false) (hg : d.get nm = none) : d.may nm true = 6 := by unfold Dk.may; simp [h, hd, hg]
theorem may_new {d : Dk} {nm : ByteArray} (h : named nm = true) (hd : d.down = false) : d.may nm false = 0 := by unfold Dk.may; simp [h, hd]
theorem may_there {d : Dk} {nm : ByteArray} {t : Bool} {f : Fl} (h : named nm = true) (hd : d.down = false) (hg : d.get nm = some f) : d.may nm t = 0 := by unfold Dk.may; simp [h, hd, hg]
theorem may_ways (d : Dk) (nm : ByteArray) (t : Bool) : (d.may nm t = 1 ∧ named nm = false) ∨ (d.may nm t = 8 ∧ named nm = true ∧ d.down = true) ∨ (d.may nm t = 6 ∧ named nm = true ∧ d.down = false ∧ t = true ∧ d.get nm = none) ∨
 (d.may nm t = 0 ∧ named nm = true ∧ d.down = false ∧ (t = true → (d.get nm).isSome = true)) := by
 cases hn : named nm with
 | false => exact .inl ⟨may_name hn, rfl⟩
 | true =>
   cases hd : d.down with
   | true => exact .inr (.inl ⟨may_down hn hd, rfl, rfl⟩)
   | false =>
     cases hg : d.get nm with
     | none =>
       cases t with
       | true => exact .inr (.inr (.inl ⟨may_six hn hd hg, rfl, rfl, rfl, rfl⟩))
       | false => exact .inr (.inr (.inr ⟨may_new hn hd, rfl, rfl, by simp⟩))
     | some f => exact .inr (.inr (.inr ⟨may_there hn hd hg, rfl, rfl, by simp⟩))
set_option maxHeartbeats 400000 in
theorem may_bad (D M : Nat) (ns : List Nf) (pv : Value) (ps : List Np) (d : Dk) (nm : ByteArray) (t : Bool) (F : Assn) (w : World) (hs : Sat (diskA D M ns pv ps d * F) w) (hfs : fents ns = d.files) (hsz : nm.size ≤ 9223372036854775807) (hm : d.may nm t ≠ 0) :
 Calls Tryz.prog 117 #[.pointer (some ⟨D, 0, none⟩), .string nm, .bool t] w fun e w' => e = .returned (.tuple #[.pointer none, .int .i64 (d.may nm t)]) ∧ w = w' := by
 have hn := named_any nm w hsz
 unfold diskA coreD at hs
 have c4 := hs.c D 4
 have c5 := hs.c D 5
 rcases may_ways d nm t with ⟨h1, h2⟩ | ⟨h1, h2, h3⟩ | ⟨h1, h2, h3, rfl, h4⟩ | ⟨h1, _⟩
 · rw [h1]
   rw [h2] at hn
   clear hs h1 h2 hm hfs
   go_enter Tryz.func117, Tryz.ntmps117
   go_wp2_with (refine hn.mono ?_; rintro e w' ⟨rfl, rfl⟩)
   go_ret2
   exact ⟨rfl, rfl⟩
 · rw [h1]
   rw [h2] at hn
   rw [h3] at c4
   clear hs h1 h2 hm hfs h3
   go_enter Tryz.func117, Tryz.ntmps117
   go_wp2_with (refine hn.mono ?_; rintro e w' ⟨rfl, rfl⟩)
   go_ret2
   exact ⟨rfl, rfl⟩
 · rw [h1]
   rw [h2] at hn
   rw [h3] at c4
   have hno : ∀ n ∈ ns, n.nm ≠ nm := by
    rcases nf_cases ns nm with ⟨l1, n, l2, rfl, rfl, h5⟩ | h
    · unfold Dk.get at h4
      rw [← hfs, fget_found h5] at h4
      cases h4
    · exact h
   have hl := look_noneF (hs.take (mp skey M (ns.map kvF))) hno
   clear hs h1 h2 hm hfs h3 h4 hno
   go_enter Tryz.func117, Tryz.ntmps117
   go_wp2_with (refine hn.mono ?_; rintro e w' ⟨rfl, rfl⟩)
   go_ret2
   exact ⟨rfl, rfl⟩
 · exact absurd h1 hm
set_option maxHeartbeats 400000 in
theorem may_found (D M : Nat) (l1 : List Nf) (n : Nf) (l2 : List Nf) (pv : Value) (ps : List Np) (d : Dk) (t : Bool) (F : Assn) (w : World) (hs : Sat (diskA D M (l1 ++ n :: l2) pv ps d * F) w) (hl1 : ∀ m ∈ l1, m.nm ≠ n.nm) (hsz : n.nm.size ≤ 9223372036854775807) (hn : named n.nm = true) (hd : d.down = false) :
 Calls Tryz.prog 117 #[.pointer (some ⟨D, 0, none⟩), .string n.nm, .bool t] w fun e w' => e = .returned (.tuple #[.pointer (some ⟨n.b, 0, none⟩), .int .i64 0]) ∧ w = w' := by
 have hna := named_any n.nm w hsz
 unfold diskA coreD at hs
 have c4 := hs.c D 4
 have c5 := hs.c D 5
 rw [hn] at hna
 rw [hd] at c4
 have hl := look_foundF (hs.take (mp skey M ((l1 ++ n :: l2).map kvF))) hl1
 clear hs hn hd
 cases t
 all_goals
  go_enter Tryz.func117, Tryz.ntmps117
  go_wp2_with (refine hna.mono ?_; rintro e w' ⟨rfl, rfl⟩)
  go_ret2
  exact ⟨rfl, rfl⟩
set_option maxHeartbeats 400000 in
theorem may_none (D M : Nat) (ns : List Nf) (pv : Value) (ps : List Np) (d : Dk) (nm : ByteArray) (F : Assn) (w : World) (hs : Sat (diskA D M ns pv ps d * F) w) (hno : ∀ n ∈ ns, n.nm ≠ nm) (hsz : nm.size ≤ 9223372036854775807) (hn : named nm = true) (hd : d.down = false) :
 Calls Tryz.prog 117 #[.pointer (some ⟨D, 0, none⟩), .string nm, .bool false] w fun e w' => e = .returned (.tuple #[.pointer none, .int .i64 0]) ∧ w = w' := by
 have hna := named_any nm w hsz
 unfold diskA coreD at hs
 have c4 := hs.c D 4
 have c5 := hs.c D 5
 rw [hn] at hna
 rw [hd] at c4
 have hl := look_noneF (hs.take (mp skey M (ns.map kvF))) hno
 clear hs hn hd
 go_enter Tryz.func117, Tryz.ntmps117
 go_wp2_with (refine hna.mono ?_; rintro e w' ⟨rfl, rfl⟩)
 go_ret2
 exact ⟨rfl, rfl⟩
/-! change -/
set_option maxHeartbeats 400000 in
theorem change_stop (D M : Nat) (pv : Value) (d : Dk) (F : Assn) (w : World) (hs : Sat (coreD D M pv d * F) w) (h : d.stop = true) :
 Calls Tryz.prog 149 #[.pointer (some ⟨D, 0, none⟩)] w fun e w' => e = .returned (.int .i64 8) ∧ Sat (coreD D M pv { d with down := true } * F) w' := by
 unfold coreD at hs
 have c2 := hs.c D 2
 have c3 := hs.c D 3
 have c4 := hs.c D 4
 have f4 := hs.f D 4
 have hs2 := hs.upd D 4 (.bool true)
 unfold Dk.stop at h
 simp only [Bool.and_eq_true, beq_iff_eq] at h
 rw [h.1] at c3
 rw [h.2] at c2
 clear hs h
 go_enter Tryz.func149, Tryz.ntmps149
 go_wp2
 try go_quiet (fail)
 go_wp2
 go_ret
 exact ⟨rfl, hs2⟩
set_option maxHeartbeats 400000 in
theorem change_go (D M : Nat) (pv : Value) (d : Dk) (F : Assn) (w : World) (hs : Sat (coreD D M pv d * F) w) (h : d.stop = false) (h1 : -4611686018427387904 ≤ d.left) (h1' : d.left ≤ 9223372036854775807) (h2 : 0 ≤ d.changes) (h3 : d.changes ≤ 4611686018427387904) :
 Calls Tryz.prog 149 #[.pointer (some ⟨D, 0, none⟩)] w fun e w' => e = .returned (.int .i64 0) ∧ Sat (coreD D M pv d.ticked * F) w' := by
 unfold coreD at hs
 have c1 := hs.c D 1
 have f1 := hs.f D 1
 have c2 := hs.c D 2
 have f2 := hs.f D 2
 have c3 := hs.c D 3
 have hs2 := (hs.upd D 2 (.int .i64 (d.left - 1)))
 have c1' := hs2.c D 1
 have f1' := hs2.f D 1
 have hs3 := hs2.upd D 1 (.int .i64 (d.changes + 1))
 unfold Dk.stop at h
 clear hs hs2
 cases ha : d.armed with
 | true =>
   rw [ha] at h c3
   simp only [Bool.true_and] at h
   go_enter Tryz.func149, Tryz.ntmps149
   go_wp2
   try go_quiet (fail)
   go_wp2
   go_ret
   exact ⟨rfl, by unfold coreD Dk.ticked; rw [ha] at hs3; simpa [ha] using hs3⟩
 | false =>
   rw [ha] at c3
   go_enter Tryz.func149, Tryz.ntmps149
   go_wp2
   try go_quiet (fail)
   go_wp2
   go_ret
   exact ⟨rfl, by unfold coreD Dk.ticked; rw [ha] at hs3; simpa [ha] using hs3⟩
end Go.Proofs.YtfhbmblbidcmmaaGreat
