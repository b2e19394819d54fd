/-
  The cache's laws, plain: behind a loss of power.
-/
import Derived.Test.YtjhkmmpgjiciiaaLaw07d
namespace Go.Proofs.Ytjhkmmpgjiciiaa
set_option linter.unusedSimpArgs false
set_option linter.unusedVariables false
open Go.Dk

theorem fget_crash {nm : ByteArray} {f g : Fl} {L : List Pc} (hc : crashed L (nm, f) = some (nm, g)) : ∀ {fs : List (ByteArray × Fl)}, fget nm fs = some f → fget nm (fs.filterMap (crashed L)) = some g
  | [], h => by simp [fget] at h
  | p :: l, h => by
    unfold fget at h
    by_cases hk : nm = p.1
    · rw [if_pos hk] at h
      cases h
      have hp : p = (nm, p.2) := by rw [hk]
      rw [List.filterMap_cons, hp, hc]
      simp [fget]
    · rw [if_neg hk] at h
      rw [List.filterMap_cons]
      cases hq : crashed L p with
      | none => exact fget_crash hc h
      | some q =>
        have hn : q.1 = p.1 := by
          unfold crashed at hq
          split at hq
          · cases hq; rfl
          · cases hq
        show (if nm = q.1 then _ else _) = _
        rw [if_neg (by rw [hn]; exact hk)]
        exact fget_crash hc h

theorem lains_filed {k : Int} {b : List UInt8} : ∀ (L : List Pc) {l : List UInt8}, Filed l k b → (∀ p ∈ L, ∃ x, p.b = some x ∧ (p.pos + x.length ≤ 256 * k.toNat ∨ 256 * k.toNat + 256 ≤ p.pos)) → Filed (L.foldl lain l) k b
  | [], l, h, _ => h
  | p :: L, l, h, hp => by
    obtain ⟨x, hx, hd⟩ := hp p (by simp)
    rw [List.foldl_cons]
    refine lains_filed L ?_ fun q hq => hp q (by simp [hq])
    have e : lain l p = laid l p.pos x := by unfold lain; rw [hx]
    rw [e]
    refine ⟨h.1, ?_, ?_⟩
    · rw [laid_len]; have := h.2.1; omega
    · rw [laid_keep h.2.1 hd]; exact h.2.2

theorem crash_filed {d : Dk} {nm : ByteArray} {k : Int} {b : List UInt8} (hn : Dk.named nm = true) (hs : fsure d nm = true) (hf : Filed (fsafe d nm) k b)
    (hp : ∀ p ∈ d.pend, p.nm = nm → ∃ x, p.b = some x ∧ (p.pos + x.length ≤ 256 * k.toNat ∨ 256 * k.toNat + 256 ≤ p.pos)) (picks : List Int) : (d.crash picks).read nm (256 * k) 256 = (0, b) := by
  obtain ⟨f, hg⟩ : ∃ f, d.get nm = some f := by
    unfold fsure at hs
    cases hg : d.get nm with
    | none => rw [hg] at hs; cases hs
    | some f => exact ⟨f, rfl⟩
  have hs' : f.sure = true := by unfold fsure at hs; rw [hg] at hs; exact hs
  have hf' : Filed f.safe k b := by unfold fsafe at hf; rw [hg] at hf; exact hf
  have hL : ∀ p ∈ ofName nm (keep picks 0 d.pend), ∃ x, p.b = some x ∧ (p.pos + x.length ≤ 256 * k.toNat ∨ 256 * k.toNat + 256 ≤ p.pos) := by
    intro p hp'
    obtain ⟨h1, h2⟩ := List.mem_filter.1 hp'
    refine hp p (keep_sub picks d.pend 0 p h1) ?_
    rw [Go.Sl.bytes_beq] at h2
    simpa using h2
  have hF := lains_filed _ hf' hL
  have hc : crashed (keep picks 0 d.pend) (nm, f) = some (nm, ⟨(ofName nm (keep picks 0 d.pend)).foldl lain f.safe, (ofName nm (keep picks 0 d.pend)).foldl lain f.safe, true⟩) := by
    unfold crashed
    rw [if_pos (by simp [hs'])]
  have hget : (d.crash picks).get nm = some ⟨(ofName nm (keep picks 0 d.pend)).foldl lain f.safe, (ofName nm (keep picks 0 d.pend)).foldl lain f.safe, true⟩ := fget_crash hc hg
  have hfine : Fine ⟨d.room, d.changes, d.left, false, false, [], []⟩ nm := ⟨rfl, rfl, hn, by simp [Dk.get, fget]⟩
  have hm : (d.crash picks).may nm true = 0 := may_there hn rfl hget
  unfold Dk.read
  rw [if_neg (by simp [hm]), hget]
  simp only [Option.getD_some]
  have h0 := hF.1
  have h1 := hF.2.1
  rw [if_neg (by omega)]
  have e1 : (256 * k).toNat = 256 * k.toNat := by omega
  rw [e1]
  exact congrArg (Prod.mk 0) hF.2.2

/-- what the law still promises -/
def Prom (hv : List Int) (k : Int) (b : List UInt8) : Prop := ∃ (n : Nat) (h : Int), k = n ∧ hv[n]? = some h ∧ 0 < h ∧ b = pgx (UInt8.ofNat (h - 1).toNat)

theorem Kept.anti {P Q : Int → List UInt8 → Prop} {s : Ck} (h : Kept P s) (hq : ∀ k b, Q k b → P k b) : Kept Q s :=
  ⟨h.le, fun k b hk => h.safe k b (hq k b hk), fun p hp hn => by obtain ⟨x, h1, h2⟩ := h.pend p hp hn; exact ⟨x, h1, fun k b hk => h2 k b (hq k b hk)⟩, fun n hn hm b hb => h.dirty n hn hm b (hq _ _ hb)⟩

structure SfInv (cap : Int) (j : Nat) (s : Ck) (hv : List Int) : Prop where
  len : hv.length = 40
  num : ∀ (k : Nat) h, hv[k]? = some h → 0 ≤ h ∧ h ≤ 256
  ok : CkOk (j * UR) s
  good : Good 40 s
  room : Roomy 40 s
  nm : s.nm = nmP
  cap : s.cap = cap
  kept : Kept (Prom hv) s
  sure : ∀ k b, Prom hv k b → fsure s.d s.nm = true

theorem SfInv.start {cap : Int} {j top : Nat} {s : Ck} {hv : List Int} (h : RdInv cap j top s hv) (hc : cap ≤ 8) : s.flush.1 = 0 ∧ SfInv cap (j + 1) s.flush.2 hv := by
  obtain ⟨hz, hI, _⟩ := h.flush hc
  have hp := flush_good h.ok h.good
  have hP : ∀ k b, Prom hv k b → Filed (fnow s.flush.2.d s.flush.2.nm) k b := by
    rintro k b ⟨n, y, rfl, h1, h2, rfl⟩
    exact hp.filed hz _ _ ((hI.have_ n y h1).2.2 h2)
  refine ⟨hz, ⟨hI.len, fun k y hk => ⟨(hI.have_ k y hk).1, (hI.have_ k y hk).2.1⟩, hI.ok, hI.good.more hI.t40, hI.room, hI.nm, hI.cap, (hp.kept hz).anti hP, fun k b hk => ?_⟩⟩
  have hf := (hP k b hk).2.1
  unfold fsure
  cases hg : s.flush.2.d.get s.flush.2.nm with
  | none =>
    exfalso
    unfold fnow at hf
    rw [hg] at hf
    simp [Dk.fl0] at hf
  | some f => exact hp.sure hz f hg

theorem SfInv.put {cap : Int} {j : Nat} {s : Ck} {hv : List Int} (h : SfInv cap j s hv) {no : Nat} (hn : no < 40) (x : UInt8) :
    (s.put (no : Int) (pgx x)).1 = 0 ∧ SfInv cap (j + 1) (s.put (no : Int) (pgx x)).2 (hv.set no 0) := by
  have hp := put_good (no := (no : Int)) (c := pgx x) h.ok h.good (by omega) (by omega) (by omega) (pgx_len x)
  have hok := put_ok h.ok (no : Int) (pgx x)
  obtain ⟨hz, hr⟩ := hp.roomy h.room
  have hsub : ∀ k b, Prom (hv.set no 0) k b → Prom hv k b := by
    rintro k b ⟨n, y, rfl, h1, h2, rfl⟩
    rw [List.getElem?_set] at h1
    by_cases he : no = n
    · rw [if_pos he] at h1
      split at h1
      · cases h1; omega
      · cases h1
    · rw [if_neg he] at h1
      exact ⟨n, y, rfl, h1, h2, rfl⟩
  have hnot : ∀ b, ¬ Prom (hv.set no 0) (no : Int) b := by
    rintro b ⟨n, y, e, h1, h2, rfl⟩
    obtain rfl : no = n := by omega
    rw [List.getElem?_set_self (by rw [h.len]; exact hn)] at h1
    cases h1; omega
  refine ⟨hz, ⟨by simpa using h.len, ?_, hok.more (by rw [Nat.add_mul]; unfold UR; omega), hp.good, hr, hp.nm.trans h.nm, (put_cap s _ _).trans h.cap, hp.kept _ hnot (h.kept.anti hsub), fun k b hk => ?_⟩⟩
  · intro k y hk
    rw [List.getElem?_set] at hk
    by_cases he : no = k
    · rw [if_pos he] at hk
      split at hk
      · cases hk; omega
      · cases hk
    · rw [if_neg he] at hk; exact h.num k y hk
  · have h2 := h.sure k b (hsub k b hk)
    rw [hp.nm]
    exact hp.inv (fun d => fsure d s.nm = true) (fun d k b d' hd hw => by show fsure d' s.nm = true; rw [hw.sure]; exact hd) h2

theorem SfInv.read {cap : Int} {j : Nat} {s : Ck} {hv : List Int} (h : SfInv cap j s hv) (picks : List Int) {k : Nat} {y : Int} (hk : hv[k]? = some y) (hy : 0 < y) : (s.d.crash picks).read nmP (256 * (k : Int)) 256 = (0, pgx (UInt8.ofNat (y - 1).toNat)) := by
  have hP : Prom hv (k : Int) (pgx (UInt8.ofNat (y - 1).toNat)) := ⟨k, y, rfl, hk, hy, rfl⟩
  have h1 := h.sure _ _ hP
  have h2 := h.kept.safe _ _ hP
  rw [h.nm] at h1 h2
  refine crash_filed nmP_named h1 h2 (fun p hp hn => ?_) picks
  obtain ⟨x, h3, h4⟩ := h.kept.pend p hp (by rw [h.nm]; exact hn)
  exact ⟨x, h3, h4 _ _ hP⟩

end Go.Proofs.Ytjhkmmpgjiciiaa
