/-
  The reference disk: the place of a file, that is made if it is not there.
-/
import Derived.Test.YtjhkmmpgjiciiaaRf10
namespace Go.Proofs.Ytjhkmmpgjiciiaa
set_option linter.unusedSimpArgs false
set_option linter.unusedVariables false
open Go.RowKit Go.Sl Go.Dk

theorem RefOf.new_perm {h : Rh} {fs : List Rf} {ps : List Rp} {d : Dk} (r : RefOf h fs ps d) {m : Nat} (ok : Ok m d) {nm : ByteArray} (hn : ∀ y ∈ fs, y.nm ≠ nm) (q : Nat) (x : Rf) (hx : x.nm = nm) :
    (rents (fs.take q ++ x :: fs.drop q)).Perm (fput nm x.f d.files) := by
  refine List.Perm.trans ?_ (fput_form ok.nd nm x.f).symm
  have h3 := (r.files.filter fun p => decide (p.1 ≠ nm))
  rw [filter_other hn] at h3
  have e2 : rents (fs.take q ++ x :: fs.drop q) = rents (fs.take q) ++ (nm, x.f) :: rents (fs.drop q) := by simp [rents, hx]
  rw [e2]
  refine List.perm_middle.trans (List.Perm.cons _ ?_)
  have e3 : rents (fs.take q) ++ rents (fs.drop q) = rents fs := by unfold rents; rw [← List.map_append, List.take_append_drop]
  rw [e3]
  exact h3

/-- what made leaves -/
structure Made (d : Dk) (nm : ByteArray) (l1 : List Rf) (x : Rf) (l2 : List Rf) : Prop where
  name : x.nm = nm
  f : x.f = (d.get nm).getD Dk.fl0
  perm : ∀ x' : Rf, x'.nm = nm → (rents (l1 ++ x' :: l2)).Perm (fput nm x'.f d.files)
  rising : ∀ x' : Rf, x'.nm = nm → (l1 ++ x' :: l2).Pairwise fun x y => less x.nm y.nm = true

theorem made_any (W : Nat) (h : Rh) (fa : Option Addr) (fc : Nat) (pv : Value) (fs : List Rf) (ps : List Rp) (d : Dk) (m : Nat) (nm : ByteArray) (F : Assn) (w : World) (r : RefOf h fs ps d) (ok : Ok m d) (hs : Sat (coreR W h (.slice fa fs.length fc) pv * (rw TRF 4 (.slice fa fs.length fc) (frows fs) * (rfsA fs * F))) w) :
    Calls Try.prog 101 #[.pointer (some ⟨W, 0, none⟩), .string nm] w fun e w' => ∃ g c l1 x l2, e = .returned (.int .i64 (l1.length : Nat)) ∧ Made d nm l1 x l2 ∧
      Sat (coreR W h (.slice (some ⟨g, 0, none⟩) (l1 ++ x :: l2).length c) pv * (rw TRF 4 (.slice (some ⟨g, 0, none⟩) (l1 ++ x :: l2).length c) (frows (l1 ++ x :: l2)) * (rfsA (l1 ++ x :: l2) * F))) w' := by
  rcases r.find ok nm with ⟨h1, h2, h3⟩ | ⟨l1, x, l2, hfs, hx, h3, h1, h2, hb1, hb2⟩
  · refine (made_ref_new W h fa fc pv fs nm h1 (r.len ok) (rfsA fs * F) w hs).mono fun e w' ⟨a, c, he, hs'⟩ => ?_
    obtain ⟨g, rfl⟩ := row_some (hs'.take (rw TRF 4 (.slice a (putR nm fs).length c) (frows (putR nm fs)))) (by simp [putR]; omega)
    refine ⟨g, c, fs.take (posR nm fs), newR nm, fs.drop (posR nm fs), ?_, ⟨rfl, by rw [h2]; rfl, fun x' hx' => r.new_perm ok h3 _ x' hx', fun x' hx' => rising_new r.rising h3 x' hx'⟩, ?_⟩
    · rw [he, List.length_take_of_le (posR_le nm fs)]
    · have e1 : rfsA (fs.take (posR nm fs) ++ newR nm :: fs.drop (posR nm fs)) = (rw TB 1 (.slice none 0 0) [] * rw TB 1 (.slice none 0 0) []) * rfsA fs := by
        rw [rfsA_mid, ← rfsA_append, List.take_append_drop]; rfl
      have hs2 := ((hs'.rw_nil (e := TB) (s := 1)).rw_nil (e := TB) (s := 1))
      refine hs2.eq ?_
      rw [e1]
      unfold putR
      ac_rfl
  · have hs0 := hs
    refine (made_ref_had W h fa fc pv fs nm l1.length h1 (rfsA fs * F) w hs).mono fun e w' ⟨he, hw⟩ => ?_
    subst hw
    obtain ⟨g, rfl⟩ := row_some (hs.take (rw TRF 4 (.slice fa fs.length fc) (frows fs))) (by rw [hfs]; simp; omega)
    subst hx
    refine ⟨g, fc, l1, x, l2, he, ⟨rfl, by rw [h2]; rfl, fun x' hx' => ?_, fun x' hx' => ?_⟩, by rw [← hfs]; exact hs⟩
    · exact (hfs ▸ r : RefOf h (l1 ++ x :: l2) ps d).put_perm ok h3 x' hx'
    · exact rising_put hx' (hfs ▸ r.rising)

end Go.Proofs.Ytjhkmmpgjiciiaa
