/-
  Of all versions the pages that are told are just those of their trees in the file in the form of the document, and a root that is none is refused. No condition. (part 45)
-/
import Derived.Test.YtfhbmblbidcmmaaGreatVa35
import Derived.Test.YtfhbmblbidcmmaaGreatVa44
import Derived.Test.YtfhbmblbidcmmaaGreatVa23
import Derived.Test.YtfhbmblbidcmmaaGreatVa43
import Derived.Test.YtfhbmblbidcmmaaGreatVa42
import Derived.Test.YtfhbmblbidcmmaaGreatVa33
set_option linter.unusedSimpArgs false
set_option linter.unusedVariables false
namespace Go.Proofs.YtfhbmblbidcmmaaGreat
set_option linter.unusedSimpArgs false
set_option linter.unusedVariables false
set_option linter.unusedSectionVars false
open Go.RowKit Go.Sl Go.Dk Go.Tr
attribute [local go_sem ↓] Go.wp_at_zero Go.wp_at_succ
attribute [local go_sem] Go.Sl.cell_sat Go.Sl.frozen_sat
abbrev TF18 : TypeId := 116
abbrev TB18 : TypeId := 125
def bench18 (b : Nat) (h : Th) : Assn := Sl.block b TB18 [.pointer (some ⟨h.D, 0, none⟩), .pointer (some ⟨h.C, 0, none⟩), .pointer (some ⟨h.t, 0, none⟩)]
set_option maxHeartbeats 800000 in
theorem long18_any (aO aT : Option Addr) (nO cO nT cT : Nat) (F : Assn) (w : World) (hs : Sat F w) :
 Calls Tryz.prog 54 #[.agg #[.slice aO nO cO, .slice aT nT cT]] w fun e w' => e = .returned (.bool (decide (3000 < nO ∨ 3000 < nT))) ∧ Sat F w' := by
 haveI := hs.i
 by_cases h1 : 3000 < nO
 · have h1' : (3000 : Int) < (nO : Int) := by omega
   rw [decide_eq_true (.inl h1)]
   go_enter Tryz.func54, Tryz.ntmps54
   go_wp2
   go_ret
   exact ⟨rfl, Sat.weak (B := Sl.block w.heap.size TF18 [.slice aO nO cO, .slice aT nT cT]) (satI_eq (by ac_rfl))⟩
 · have h1' : ¬ (3000 : Int) < (nO : Int) := by omega
   by_cases h2 : 3000 < nT
   · have h2' : (3000 : Int) < (nT : Int) := by omega
     rw [decide_eq_true (.inr h2)]
     go_enter Tryz.func54, Tryz.ntmps54
     go_wp2
     go_ret
     exact ⟨rfl, Sat.weak (B := Sl.block w.heap.size TF18 [.slice aO nO cO, .slice aT nT cT]) (satI_eq (by ac_rfl))⟩
   · have h2' : ¬ (3000 : Int) < (nT : Int) := by omega
     rw [decide_eq_false (by omega)]
     go_enter Tryz.func54, Tryz.ntmps54
     go_wp2
     go_ret
     exact ⟨rfl, Sat.weak (B := Sl.block w.heap.size TF18 [.slice aO nO cO, .slice aT nT cT]) (satI_eq (by ac_rfl))⟩
set_option maxRecDepth 100000 in
set_option maxHeartbeats 3200000 in
theorem set18_any (O T : List UInt8) (v1 v2 : Value) (B F : Assn) (w : World) (hBO : Reads B v1 O) (hBT : Reads B v2 T) (hs : Sat (B * F) w) (hO : O.length ≤ 3000) (hT : T.length ≤ 3000) :
 Calls Tryz.prog 55 #[v1, v2] w fun e w' => ∃ (b : Nat) (h : Th), e = .returned (.pointer (some ⟨b, 0, none⟩)) ∧ Sat (bench18 b h * (treeP h (tsL O T 7) * (B * F))) w' := by
 have hts := (tsL_inv O T 7 hO hT (by omega) (by omega)).ts
 have hnm : Dk.named nmS = true := by decide +kernel
 obtain ⟨a1, c1, rfl, g1, g2⟩ := readsB hBO hs
 obtain ⟨a2, c2, rfl, g3, g4⟩ := readsB hBT hs
 have hl1 := fun D F w q => load_any D (Dk.new 16777216) 0 nmO _ O B F w hBO q (by decide +kernel) (by omega) (ok_new 16777216 (by omega) (by unfold big; omega)) (by unfold big; omega)
 have hl2 := fun D F w q => load_any D (dkO O) 0 nmT _ T B F w hBT q (by decide +kernel) (by omega) (dkO_ok O hO) (by unfold big; omega)
 rw [load_one O hO] at hl1
 rw [load_two O T hO hT] at hl2
 have hcn := fun D F w q => newC_yes D (dkOT O T) nmS 7 F w q hnm (by omega) (by omega)
 unfold nmO at hl1
 unfold nmT at hl2
 unfold nmS at hcn
 haveI := hs.i
 go_enter Tryz.func55, Tryz.ntmps55
 go_wp2_with fail
 with_reducible refine Calls.mono (newD_yes 16777216 _ _ hs (by omega) (by omega)) ?_
 rintro e w1 ⟨D, rfl, q1⟩
 haveI := q1.i
 go_wp2_with fail
 refine (hl1 D _ _ (takeI2 (diskP D (Dk.new 16777216)) B)).mono ?_
 rintro e w2 ⟨rfl, q2⟩
 haveI := q2.i
 go_wp2_with fail
 refine (hl2 D _ _ (takeI2 (diskP D (dkO O)) B)).mono ?_
 rintro e w3 ⟨rfl, q3⟩
 haveI := q3.i
 clear hl1 hl2
 go_wp2_with fail
 refine (hcn D _ _ (takeI (diskP D (dkOT O T)))).mono ?_
 rintro e w6 ⟨C, rfl, q6⟩
 haveI := q6.i
 go_wp2_with fail
 with_reducible refine Calls.mono (spNew_yes 1 _ _ (by omega) (by omega) q6) ?_
 rintro e w7 ⟨S, rfl, q7⟩
 haveI := q7.i
 go_wp2_with fail
 with_reducible refine Calls.mono (newT_yes C S _ _ q7) ?_
 rintro e w8 ⟨t, rfl, q8⟩
 have q10 : Sat (treeP ⟨t, C, S, D⟩ (tsL O T 7) * (B * F)) w8 := by
  refine tree_join hts (q8.eq ?_)
  show _ = cacheP C D (ckL O T 7) * (spaceP S (Sp.new 1) * (Sl.block t TTr [.pointer (some ⟨C, 0, none⟩), .pointer (some ⟨S, 0, none⟩)] * _))
  unfold ckL nmS
  ac_rfl
 haveI := q10.i
 clear q1 q2 q3 q6 q7 q8 hcn
 go_wp2
 go_ret
 exact ⟨_, ⟨t, C, S, D⟩, rfl, by unfold bench18; exact keep4 _ _ _ _⟩
def FitOut (B F : Assn) (e : Ending) (w' : World) : Prop := ∃ y1 y2 y3 y4 : Int, e = .returned (.agg #[.int .i64 y1, .int .i64 y2, .int .i64 y3, .int .i64 y4]) ∧ Sat (B * F) w'
set_option maxRecDepth 100000 in
set_option maxHeartbeats 6400000 in
theorem fit18_any (x1 x2 x3 x4 : Int) (aO : Option Addr) (nO cO : Nat) (aT : Option Addr) (nT cT : Nat) (T : List UInt8) (B F : Assn) (w : World) (hT : Reads B (.slice aT nT cT) T) (hs : Sat (B * F) w) (hl : nT ≤ 3000) (hn : T.length = nT) :
 Calls Tryz.prog 121 #[.agg #[.int .i64 x1, .int .i64 x2, .int .i64 x3, .int .i64 x4], .agg #[.slice aO nO cO, .slice aT nT cT]] w (FitOut B F) := by
 obtain ⟨hc1, hc2⟩ : nT ≤ cT ∧ cT ≤ 9223372036854775807 := by
  obtain ⟨_, _, e0, hc1, hc2⟩ := readsB hT hs
  cases e0
  exact ⟨hc1, hc2⟩
 haveI := hs.i
 have HT : Aside (Reads B (.slice aT nT cT) T ∧ T.length = nT) := ⟨hT, hn⟩
 clear hT hn
 cases h1 : ((x1 : Int) == 0) with
 | true =>
   go_enter Tryz.func121, Tryz.ntmps121
   go_upto_region 3 with (fail)
   go_region
   go_wp2
   go_returns
   exact ⟨_, _, _, _, rfl, keep2 B F⟩
 | false =>
   by_cases h2 : x4 < 0
   · go_enter Tryz.func121, Tryz.ntmps121
     go_upto_region 3 with (fail)
     go_region
     go_wp2
     go_returns
     exact ⟨_, _, _, _, rfl, keep2 B F⟩
   by_cases h3 : x2 < 0
   · go_enter Tryz.func121, Tryz.ntmps121
     go_upto_region 3 with (fail)
     go_region
     go_wp2
     go_returns
     exact ⟨_, _, _, _, rfl, keep2 B F⟩
   by_cases h4 : x3 < 1
   · go_enter Tryz.func121, Tryz.ntmps121
     go_upto_region 3 with (fail)
     go_region
     go_wp2
     go_returns
     exact ⟨_, _, _, _, rfl, keep2 B F⟩
   by_cases h5 : (nT : Int) < x2
   · go_enter Tryz.func121, Tryz.ntmps121
     go_upto_region 3 with (fail)
     go_region
     go_wp2
     go_returns
     exact ⟨_, _, _, _, rfl, keep2 B F⟩
   have hw1 : IntKind.i64.wrap ((nT : Int) - x2) = (nT : Int) - x2 := IntWalk.i64_in _ (by omega)
   by_cases h6 : (nT : Int) - x2 < x3
   · go_enter Tryz.func121, Tryz.ntmps121
     go_upto_region 3 with (fail)
     go_region
     go_wp2
     go_returns
     exact ⟨_, _, _, _, rfl, keep2 B F⟩
   obtain ⟨p, rfl⟩ : ∃ p : Nat, x2 = p := ⟨x2.toNat, by omega⟩
   obtain ⟨q, rfl⟩ : ∃ q : Nat, x3 = q := ⟨x3.toNat, by omega⟩
   have hw2 : IntKind.i64.wrap ((p : Int) + (q : Int)) = ((p + q : Nat) : Int) := by rw [IntWalk.i64_in _ (by omega)]; omega
   have hpq : p + q ≤ nT := by omega
   have HEN : Aside (∀ F w, Sat (B * F) w → Calls Tryz.prog 25 #[.slice (aT.map fun x => x.add p) q (cT - p)] w fun e w' => ∃ (a : Option Addr) (n c : Nat), e = .returned (.slice a n c) ∧ n ≤ 3000 ∧ Sat (B * F) w') := fun F w s => by
    have hlen : ((T.drop p).take (p + q - p)).length ≤ 3000 := by rw [List.length_take, List.length_drop, HT.out.2]; omega
    have hcr := Reads.cut HT.out.1 p (p + q) (by omega) hpq
    have e1 : cutA aT cT p 1 = aT.map fun x => x.add p := by unfold cutA; rw [if_neg (by omega), Nat.mul_one]
    rw [e1, show p + q - p = q by omega] at hcr
    rw [show p + q - p = q by omega] at hlen
    refine (ends_any _ ((T.drop p).take q) B F w hcr s (by omega)).mono ?_
    rintro e w' ⟨a, c, rfl, s'⟩
    refine ⟨a, _, c, rfl, Nat.le_trans (endsC_le _) hlen, s'⟩
   by_cases h7 : 1000 < x4
   · go_enter Tryz.func121, Tryz.ntmps121
     go_upto_region 3 with (fail)
     go_region
     go_wp2_with fail
     with_reducible refine Calls.mono (HEN.out _ _ (takeI B)) ?_
     rintro e w5 ⟨a5, n5, c5, rfl, h5, q5⟩
     haveI := q5.i
     go_wp2
     go_returns
     exact ⟨_, _, _, _, rfl, keep2 B F⟩
   · go_enter Tryz.func121, Tryz.ntmps121
     go_upto_region 3 with (fail)
     go_region
     go_wp2_with fail
     with_reducible refine Calls.mono (HEN.out _ _ (takeI B)) ?_
     rintro e w5 ⟨a5, n5, c5, rfl, h5, q5⟩
     haveI := q5.i
     go_wp2
     go_returns
     exact ⟨_, _, _, _, rfl, keep2 B F⟩
end Go.Proofs.YtfhbmblbidcmmaaGreat
namespace Go.Proofs.YtfhbmblbidcmmaaGreat
set_option linter.unusedSimpArgs false
set_option linter.unusedVariables false
set_option linter.unusedSectionVars false
open Go.RowKit Go.Sl Go.Dk Go.Tr
attribute [local go_sem ↓] Go.wp_at_zero Go.wp_at_succ
attribute [local go_sem] Go.Sl.cell_sat Go.Sl.frozen_sat
abbrev TLo : TypeId := 240
theorem fileIs_of {d : Dk} {nm : ByteArray} {fl : List UInt8} (h : fnow d nm = fl) (h0 : 0 < fl.length) : FileIs d nm fl := by
 cases hg : d.get nm with
 | none =>
   unfold fnow at h
   rw [hg] at h
   rw [← h] at h0
   simp [Dk.fl0] at h0
 | some f =>
   refine ⟨f, hg, ?_⟩
   unfold fnow at h
   rw [hg] at h
   exact h
theorem file_readT (h : Th) (s : TS) (nm : ByteArray) (b : List UInt8) (k n : Nat) (F : Assn) (w : World) (hs : Sat (treeP h s * F) w) (hI : TsI s) (hd : s.ck.d.down = false) (hf : FileIs s.ck.d nm b) (hn : Dk.named nm = true) (hk : k + n ≤ b.length) :
 Calls Tryz.prog 49 #[.pointer (some ⟨h.D, 0, none⟩), .string nm, .int .i64 (k : Int), .int .i64 (n : Int)] w fun e w' => ∃ v, e = .returned (.tuple #[v, .int .i64 0]) ∧ Sat (rw TB 1 v (bys ((b.drop k).take n)) * (treeP h s * F)) w' := by
 obtain ⟨G, h1, h2⟩ := disk_in hs
 have hok := hI.ok.dk
 obtain ⟨f, f1, f2⟩ := hf
 have hsz : nm.size ≤ 9223372036854775807 := by
  unfold Dk.named at hn
  simp only [Bool.and_eq_true, decide_eq_true_eq] at hn
  omega
 have hr : s.ck.d.read nm k n = (0, (b.drop k).take n) := by
  have hm : s.ck.d.may nm true = 0 := by
   unfold Dk.may
   rw [if_neg (by simp [hn]), hd, f1]
   simp
  unfold Dk.read
  rw [if_neg (by simp [hm]), f1]
  simp only [Option.getD_some, f2]
  rw [if_neg (by omega)]
  simp
 refine (read_any h.D s.ck.d nm k n _ w h1 hsz (fun p hp => (hok.sz p hp).1)).mono fun e w' hx => ?_
 obtain ⟨v, e1, e2⟩ := hx
 rw [hr] at e1 e2
 exact ⟨v, e1, (h2 (rw TB 1 v (bys ((b.drop k).take n)) * F) w' (e2.eq (by ac_rfl))).eq (by ac_rfl)⟩
theorem tdown_any (D : Nat) (d : Dk) (F : Assn) (w : World) (hs : Sat (diskP D d * F) w) :
 Calls Tryz.prog 42 #[.pointer (some ⟨D, 0, none⟩)] w fun e w' => e = .returned (.bool d.down) ∧ w = w' := by
 obtain ⟨M, ns, pv, ps, h1, h2, hs1⟩ := Sat.disk_open hs
 have hs2 : Sat (coreD D M pv d * ((mp skey M (ns.map kvF) * (filesA ns * pendA pv ps)) * F)) w := hs1.eq (by unfold diskA; rw [sep_assoc])
 have i4 : HasC (coreD D M pv d) D 4 (.bool d.down) := by unfold coreD; infer_instance
 haveI := i4
 haveI := hs2.i
 clear h1 h2 hs hs1
 go_enter Tryz.func42, Tryz.ntmps42
 go_wp2
 go_ret
 exact ⟨rfl, rfl⟩
def cutE (d : Dk) (eo et : Nat) (src : Int) : List UInt8 := if src = 0 then (fnow d nmO).take eo else (fnow d nmT).take et
def entOk (b : List UInt8) (x : Ent) : Bool := decide (x.pos ≤ b.length ∧ x.len ≤ b.length - x.pos ∧ (0 ≤ x.lines → (endsC ((b.drop x.pos.toNat).take x.len.toNat) : Int) = x.lines))
def cenA (L M : Nat) (h : Th) (eo et : Nat) (kn : List Ent) : Assn := Sl.block L TLo [.pointer (some ⟨h.t, 0, none⟩), .pointer (some ⟨h.D, 0, none⟩), .string nmO, .string nmT, .int .i64 eo, .int .i64 et, .map (some M)] * mp eKey M (inKn kn)
theorem cen_shut {L M : Nat} {h : Th} {s : TS} {eo et : Nat} {kn : List Ent} {F : Assn} {w : World} (hs : Sat (treeP h s * (Sl.block L TLo [.pointer (some ⟨h.t, 0, none⟩), .pointer (some ⟨h.D, 0, none⟩), .string nmO, .string nmT, .int .i64 eo, .int .i64 et, .map (some M)] * (mp eKey M (inKn kn) * F))) w) : Sat (treeP h s * (cenA L M h eo et kn * F)) w := hs.eq (by unfold cenA; rw [sep_assoc])
def EntryOut (L M : Nat) (h : Th) (s : TS) (x : Ent) (eo et : Nat) (kn : List Ent) (F : Assn) (e : Ending) (w' : World) : Prop :=
 (x ∈ kn ∧ e = .returned (.int .i64 0) ∧ Sat (treeP h s * (cenA L M h eo et kn * F)) w') ∨
 (entOk (cutE s.ck.d eo et x.src) x = true ∧ e = .returned (.int .i64 0) ∧ Sat (treeP h s * (cenA L M h eo et (addK kn x) * F)) w') ∨
 (¬ x ∈ kn ∧ entOk (cutE s.ck.d eo et x.src) x = false ∧ e = .returned (.int .i64 13) ∧ Sat (treeP h s * (cenA L M h eo et kn * F)) w')
set_option maxRecDepth 100000 in
set_option maxHeartbeats 6400000 in
theorem entry0_any [TopN] (L M : Nat) (h : Th) (s : TS) (x2 x3 x4 : Int) (eo et : Nat) (kn : List Ent) (F : Assn) (w : World) (hm : mayEnt ⟨0, x2, x3, x4⟩ = true) (hI : TsI s) (ho : eo ≤ 1099511627776) (ht : et ≤ 1099511627776)
 (hf : Fine s.ck.d nmO ∧ Fine s.ck.d nmT) (hs : Sat (treeP h s * (Sl.block L TLo [.pointer (some ⟨h.t, 0, none⟩), .pointer (some ⟨h.D, 0, none⟩), .string nmO, .string nmT, .int .i64 eo, .int .i64 et, .map (some M)] * (mp eKey M (inKn kn) * F))) w) :
 Calls Tryz.prog 154 #[.pointer (some ⟨L, 0, none⟩), .agg #[.int .i64 0, .int .i64 x2, .int .i64 x3, .int .i64 x4]] w (EntryOut L M h s ⟨0, x2, x3, x4⟩ eo et kn F) := by
 have hme := mayE_iff.1 hm
 simp only at hme
 have l1 : ∀ (w : World) {A : Assn} {ms : List (Ent × Value)} [SatI A w] [HasM A M eKey ms], (Instr.lookup TKm (.map (some M)) (.agg #[.int .i64 0, .int .i64 x2, .int .i64 x3, .int .i64 x4]) false).run Tryz.prog w = .ok ((mget ⟨0, x2, x3, x4⟩ ms).getD (.bool false)) w := fun w A ms i1 i2 => look_KE w M ⟨0, x2, x3, x4⟩
 have p1 : ∀ (w : World) {A : Assn} {ms : List (Ent × Value)} [SatI A w] [HasM A M eKey ms], (Instr.mapUpdate TKm (.map (some M)) (.agg #[.int .i64 0, .int .i64 x2, .int .i64 x3, .int .i64 x4]) (.bool true)).run Tryz.prog w = .ok () (putW Tryz.prog TKm M (eKey ⟨0, x2, x3, x4⟩) (.bool true) w) := fun w A ms i1 i2 => put_KE w M ⟨0, x2, x3, x4⟩ (.bool true)
 have hg := mget_inKn ⟨0, x2, x3, x4⟩ kn
 have mp1 := mput_inKn ⟨0, x2, x3, x4⟩ kn
 obtain ⟨p, rfl⟩ : ∃ p : Nat, x2 = p := ⟨x2.toNat, by omega⟩
 obtain ⟨q, rfl⟩ : ∃ q : Nat, x3 = q := ⟨x3.toNat, by omega⟩
 obtain ⟨fl, hfl⟩ : ∃ x, fnow s.ck.d nmO = x := ⟨_, rfl⟩
 have hcut : cutE s.ck.d eo et 0 = fl.take eo := by unfold cutE; simp [hfl]
 obtain ⟨en, hen⟩ : ∃ x, (fl.take eo).length = x := ⟨_, rfl⟩
 have hen2 : en = min eo fl.length := by rw [← hen, List.length_take]
 have hfll : fl.length ≤ 1099511627776 := by
  rw [← hfl]
  cases hget : s.ck.d.get nmO with
  | none => unfold fnow; rw [hget]; simp [Dk.fl0]
  | some f => unfold fnow; rw [hget]; exact (hI.ok.dk.sz _ (fget_mem hget)).1
 have HSZ : Aside (∀ F w, Sat (treeP h s * F) w → Calls Tryz.prog 50 #[.pointer (some ⟨h.D, 0, none⟩), .string nmO] w fun e w' => ∃ z : Int, e = .returned (.int .i64 z) ∧ max 0 z = (fl.length : Int) ∧ w = w') := fun F w q => (tsize_file h s nmO F w q (by decide)).mono fun e w' ⟨h1, h2⟩ => ⟨_, h1, by rw [← hfl]; exact size_fnow hf.1, h2⟩
 have HDN : Aside (∀ F w, Sat (treeP h s * F) w → Calls Tryz.prog 42 #[.pointer (some ⟨h.D, 0, none⟩)] w fun e w' => e = .returned (.bool false) ∧ w = w') := fun F w q => by
  obtain ⟨G, g1, g2⟩ := disk_in q
  have := tdown_any h.D s.ck.d _ w g1
  rwa [hf.1.down] at this
 have hw1 : p ≤ en → IntKind.i64.wrap ((en : Int) - p) = (en : Int) - p := fun _ => IntWalk.i64_in _ (by omega)
 haveI := hs.i
 by_cases hkn : (⟨0, (p : Int), (q : Int), x4⟩ : Ent) ∈ kn
 · rw [decide_eq_true hkn] at hg
   have HK : Aside ((⟨0, (p : Int), (q : Int), x4⟩ : Ent) ∈ kn) := hkn
   clear hkn hs hme hm hw1 hen hen2 hcut hfl hfll mp1 p1
   go_enter Tryz.func154, Tryz.ntmps154
   go_upto_region 1 with (fail)
   go_region
   go_wp2
   go_ret
   exact .inl ⟨HK.out, rfl, cen_shut (keep4 _ _ _ _)⟩
 rw [decide_eq_false hkn] at hg
 have HK : Aside (¬ (⟨0, (p : Int), (q : Int), x4⟩ : Ent) ∈ kn ∧ cutE s.ck.d eo et 0 = fl.take eo ∧ (fl.take eo).length = en) := ⟨hkn, hcut, hen⟩
 have hmn : min (eo : Int) (fl.length : Int) = (en : Int) := by omega
 by_cases hbig : en < p ∨ en - p < q
 · have HB : Aside (entOk (cutE s.ck.d eo et 0) ⟨0, p, q, x4⟩ = false) := by
    show _ = _
    unfold entOk
    rw [HK.out.2.1]
    apply decide_eq_false
    rw [HK.out.2.2]
    simp only
    omega
   clear hkn hs hm hen hcut hfl mp1 p1
   have hsub : p ≤ en → IntKind.i64.wrap ((en : Int) - p) = (en : Int) - p := fun _ => IntWalk.i64_in _ (by omega)
   by_cases h1 : (en : Int) < p
   · clear hbig hw1 hsub
     go_enter Tryz.func154, Tryz.ntmps154
     go_upto_region 1 with (fail)
     go_region
     go_wp2_with fail
     go_region
     go_wp2_with fail
     go_region_held3 (fun w' => w'.cell? ⟨w.heap.size + 1, 0, none⟩ = some (.int .i64 0) ∧ w'.cell? ⟨L, 1, none⟩ = some (.pointer (some ⟨h.D, 0, none⟩)) ∧ w'.cell? ⟨L, 4, none⟩ = some (.int .i64 eo)) (first | exact ⟨cell_sat _ _ _, cell_sat _ _ _, cell_sat _ _ _⟩) (first
      | (go_at_call 50; with_reducible refine Calls.mono (HSZ.out _ _ (takeI (treeP h s))) ?_; rintro e w5 ⟨zz, rfl, hmx, hw5⟩; subst hw5))
     all_goals
      go_wp2_with fail
      with_reducible refine Calls.mono (HDN.out _ _ (takeI (treeP h s))) ?_
      rintro e w8 ⟨rfl, hw8⟩
      subst hw8
      go_wp2
      go_ret
      exact .inr (.inr ⟨HK.out.1, HB.out, rfl, cen_shut (keep4 _ _ _ _)⟩)
   · have h2 : (en : Int) - p < q := by omega
     have hw := hsub (by omega)
     clear hbig hw1 hsub
     go_enter Tryz.func154, Tryz.ntmps154
     go_upto_region 1 with (fail)
     go_region
     go_wp2_with fail
     go_region
     go_wp2_with fail
     go_region_held3 (fun w' => w'.cell? ⟨w.heap.size + 1, 0, none⟩ = some (.int .i64 0) ∧ w'.cell? ⟨L, 1, none⟩ = some (.pointer (some ⟨h.D, 0, none⟩)) ∧ w'.cell? ⟨L, 4, none⟩ = some (.int .i64 eo)) (first | exact ⟨cell_sat _ _ _, cell_sat _ _ _, cell_sat _ _ _⟩) (first
      | (go_at_call 50; with_reducible refine Calls.mono (HSZ.out _ _ (takeI (treeP h s))) ?_; rintro e w5 ⟨zz, rfl, hmx, hw5⟩; subst hw5))
     all_goals
      go_wp2_with fail
      with_reducible refine Calls.mono (HDN.out _ _ (takeI (treeP h s))) ?_
      rintro e w8 ⟨rfl, hw8⟩
      subst hw8
      go_wp2
      go_ret
      exact .inr (.inr ⟨HK.out.1, HB.out, rfl, cen_shut (keep4 _ _ _ _)⟩)
 have hpe : p + q ≤ en := by omega
 have h1 : ¬ (en : Int) < p := by omega
 have hw := hw1 (by omega)
 have h2 : ¬ (en : Int) - p < q := by omega
 have HPE : Aside (p + q ≤ en ∧ en ≤ fl.length ∧ en ≤ eo) := ⟨hpe, by omega, by omega⟩
 have hx4 : ¬ (0 : Int) ≤ x4 := by omega
 have HB : Aside (entOk (cutE s.ck.d eo et 0) ⟨0, p, q, x4⟩ = true) := by
  show _ = _
  unfold entOk
  rw [HK.out.2.1]
  apply decide_eq_true
  rw [HK.out.2.2]
  simp only
  exact ⟨by omega, by omega, fun h => absurd h hx4⟩
 have HMP : Aside (mput ⟨0, (p : Int), (q : Int), x4⟩ (.bool true) (inKn kn) = inKn (addK kn ⟨0, (p : Int), (q : Int), x4⟩)) := mp1
 clear hkn hs hm hen hcut hfl mp1 hpe hbig hw1
 go_enter Tryz.func154, Tryz.ntmps154
 go_upto_region 1 with (fail)
 go_region
 go_wp2_with fail
 go_region
 go_wp2_with fail
 go_region_held3 (fun w' => w'.cell? ⟨w.heap.size + 1, 0, none⟩ = some (.int .i64 0) ∧ w'.cell? ⟨L, 1, none⟩ = some (.pointer (some ⟨h.D, 0, none⟩)) ∧ w'.cell? ⟨L, 4, none⟩ = some (.int .i64 eo)) (first | exact ⟨cell_sat _ _ _, cell_sat _ _ _, cell_sat _ _ _⟩) (first
  | (go_at_call 50; with_reducible refine Calls.mono (HSZ.out _ _ (takeI (treeP h s))) ?_; rintro e w5 ⟨zz, rfl, hmx, hw5⟩; subst hw5))
 all_goals
  go_wp2_with fail
  with_reducible refine Calls.mono (HDN.out _ _ (takeI (treeP h s))) ?_
  rintro e w8 ⟨rfl, hw8⟩
  subst hw8
  go_wp2_with fail
  go_region
  go_wp2
  go_ret
  refine .inr (.inl ⟨HB.out, rfl, cen_shut ?_⟩)
  rw [← HMP.out]
  exact keep4 _ _ _ _
set_option maxRecDepth 100000 in
set_option maxHeartbeats 6400000 in
theorem entry1_any [TopN] (L M : Nat) (h : Th) (s : TS) (x2 x3 x4 : Int) (eo et : Nat) (kn : List Ent) (F : Assn) (w : World) (hm : mayEnt ⟨1, x2, x3, x4⟩ = true) (hI : TsI s) (ho : eo ≤ 1099511627776) (ht : et ≤ 1099511627776)
 (hf : Fine s.ck.d nmO ∧ Fine s.ck.d nmT) (hs : Sat (treeP h s * (Sl.block L TLo [.pointer (some ⟨h.t, 0, none⟩), .pointer (some ⟨h.D, 0, none⟩), .string nmO, .string nmT, .int .i64 eo, .int .i64 et, .map (some M)] * (mp eKey M (inKn kn) * F))) w) :
 Calls Tryz.prog 154 #[.pointer (some ⟨L, 0, none⟩), .agg #[.int .i64 1, .int .i64 x2, .int .i64 x3, .int .i64 x4]] w (EntryOut L M h s ⟨1, x2, x3, x4⟩ eo et kn F) := by
 have hme := mayE_iff.1 hm
 simp only at hme
 have l1 : ∀ (w : World) {A : Assn} {ms : List (Ent × Value)} [SatI A w] [HasM A M eKey ms], (Instr.lookup TKm (.map (some M)) (.agg #[.int .i64 1, .int .i64 x2, .int .i64 x3, .int .i64 x4]) false).run Tryz.prog w = .ok ((mget ⟨1, x2, x3, x4⟩ ms).getD (.bool false)) w := fun w A ms i1 i2 => look_KE w M ⟨1, x2, x3, x4⟩
 have p1 : ∀ (w : World) {A : Assn} {ms : List (Ent × Value)} [SatI A w] [HasM A M eKey ms], (Instr.mapUpdate TKm (.map (some M)) (.agg #[.int .i64 1, .int .i64 x2, .int .i64 x3, .int .i64 x4]) (.bool true)).run Tryz.prog w = .ok () (putW Tryz.prog TKm M (eKey ⟨1, x2, x3, x4⟩) (.bool true) w) := fun w A ms i1 i2 => put_KE w M ⟨1, x2, x3, x4⟩ (.bool true)
 have hg := mget_inKn ⟨1, x2, x3, x4⟩ kn
 have mp1 := mput_inKn ⟨1, x2, x3, x4⟩ kn
 obtain ⟨p, rfl⟩ : ∃ p : Nat, x2 = p := ⟨x2.toNat, by omega⟩
 obtain ⟨q, rfl⟩ : ∃ q : Nat, x3 = q := ⟨x3.toNat, by omega⟩
 obtain ⟨fl, hfl⟩ : ∃ x, fnow s.ck.d nmT = x := ⟨_, rfl⟩
 have hcut : cutE s.ck.d eo et 1 = fl.take et := by unfold cutE; simp [hfl]
 obtain ⟨en, hen⟩ : ∃ x, (fl.take et).length = x := ⟨_, rfl⟩
 have hen2 : en = min et fl.length := by rw [← hen, List.length_take]
 have hfll : fl.length ≤ 1099511627776 := by
  rw [← hfl]
  cases hget : s.ck.d.get nmT with
  | none => unfold fnow; rw [hget]; simp [Dk.fl0]
  | some f => unfold fnow; rw [hget]; exact (hI.ok.dk.sz _ (fget_mem hget)).1
 have HSZ : Aside (∀ F w, Sat (treeP h s * F) w → Calls Tryz.prog 50 #[.pointer (some ⟨h.D, 0, none⟩), .string nmT] w fun e w' => ∃ z : Int, e = .returned (.int .i64 z) ∧ max 0 z = (fl.length : Int) ∧ w = w') := fun F w q => (tsize_file h s nmT F w q (by decide)).mono fun e w' ⟨h1, h2⟩ => ⟨_, h1, by rw [← hfl]; exact size_fnow hf.2, h2⟩
 have HDN : Aside (∀ F w, Sat (treeP h s * F) w → Calls Tryz.prog 42 #[.pointer (some ⟨h.D, 0, none⟩)] w fun e w' => e = .returned (.bool false) ∧ w = w') := fun F w q => by
  obtain ⟨G, g1, g2⟩ := disk_in q
  have := tdown_any h.D s.ck.d _ w g1
  rwa [hf.1.down] at this
 have hw1 : p ≤ en → IntKind.i64.wrap ((en : Int) - p) = (en : Int) - p := fun _ => IntWalk.i64_in _ (by omega)
 haveI := hs.i
 by_cases hkn : (⟨1, (p : Int), (q : Int), x4⟩ : Ent) ∈ kn
 · rw [decide_eq_true hkn] at hg
   have HK : Aside ((⟨1, (p : Int), (q : Int), x4⟩ : Ent) ∈ kn) := hkn
   clear hkn hs hme hm hw1 hen hen2 hcut hfl hfll mp1 p1
   go_enter Tryz.func154, Tryz.ntmps154
   go_upto_region 1 with (fail)
   go_region
   go_wp2
   go_ret
   exact .inl ⟨HK.out, rfl, cen_shut (keep4 _ _ _ _)⟩
 rw [decide_eq_false hkn] at hg
 have HK : Aside (¬ (⟨1, (p : Int), (q : Int), x4⟩ : Ent) ∈ kn ∧ cutE s.ck.d eo et 1 = fl.take et ∧ (fl.take et).length = en) := ⟨hkn, hcut, hen⟩
 have hmn : min (et : Int) (fl.length : Int) = (en : Int) := by omega
 by_cases hbig : en < p ∨ en - p < q
 · have HB : Aside (entOk (cutE s.ck.d eo et 1) ⟨1, p, q, x4⟩ = false) := by
    show _ = _
    unfold entOk
    rw [HK.out.2.1]
    apply decide_eq_false
    rw [HK.out.2.2]
    simp only
    omega
   clear hkn hs hm hen hcut hfl mp1 p1
   have hsub : p ≤ en → IntKind.i64.wrap ((en : Int) - p) = (en : Int) - p := fun _ => IntWalk.i64_in _ (by omega)
   by_cases h1 : (en : Int) < p
   · clear hbig hw1 hsub
     go_enter Tryz.func154, Tryz.ntmps154
     go_upto_region 1 with (fail)
     go_region
     go_wp2_with fail
     go_region
     go_wp2_with fail
     go_region_held3 (fun w' => w'.cell? ⟨w.heap.size + 1, 0, none⟩ = some (.int .i64 1) ∧ w'.cell? ⟨L, 1, none⟩ = some (.pointer (some ⟨h.D, 0, none⟩)) ∧ w'.cell? ⟨L, 5, none⟩ = some (.int .i64 et)) (first | exact ⟨cell_sat _ _ _, cell_sat _ _ _, cell_sat _ _ _⟩) (first
      | (go_at_call 50; with_reducible refine Calls.mono (HSZ.out _ _ (takeI (treeP h s))) ?_; rintro e w5 ⟨zz, rfl, hmx, hw5⟩; subst hw5))
     all_goals
      go_wp2_with fail
      with_reducible refine Calls.mono (HDN.out _ _ (takeI (treeP h s))) ?_
      rintro e w8 ⟨rfl, hw8⟩
      subst hw8
      go_wp2
      go_ret
      exact .inr (.inr ⟨HK.out.1, HB.out, rfl, cen_shut (keep4 _ _ _ _)⟩)
   · have h2 : (en : Int) - p < q := by omega
     have hw := hsub (by omega)
     clear hbig hw1 hsub
     go_enter Tryz.func154, Tryz.ntmps154
     go_upto_region 1 with (fail)
     go_region
     go_wp2_with fail
     go_region
     go_wp2_with fail
     go_region_held3 (fun w' => w'.cell? ⟨w.heap.size + 1, 0, none⟩ = some (.int .i64 1) ∧ w'.cell? ⟨L, 1, none⟩ = some (.pointer (some ⟨h.D, 0, none⟩)) ∧ w'.cell? ⟨L, 5, none⟩ = some (.int .i64 et)) (first | exact ⟨cell_sat _ _ _, cell_sat _ _ _, cell_sat _ _ _⟩) (first
      | (go_at_call 50; with_reducible refine Calls.mono (HSZ.out _ _ (takeI (treeP h s))) ?_; rintro e w5 ⟨zz, rfl, hmx, hw5⟩; subst hw5))
     all_goals
      go_wp2_with fail
      with_reducible refine Calls.mono (HDN.out _ _ (takeI (treeP h s))) ?_
      rintro e w8 ⟨rfl, hw8⟩
      subst hw8
      go_wp2
      go_ret
      exact .inr (.inr ⟨HK.out.1, HB.out, rfl, cen_shut (keep4 _ _ _ _)⟩)
 have hpe : p + q ≤ en := by omega
 have h1 : ¬ (en : Int) < p := by omega
 have hw := hw1 (by omega)
 have h2 : ¬ (en : Int) - p < q := by omega
 have HPE : Aside (p + q ≤ en ∧ en ≤ fl.length ∧ en ≤ et) := ⟨hpe, by omega, by omega⟩
 have HCUT : Aside ((((fl.take et).drop p).take q) = (fl.drop p).take q) := by
  show _ = _
  rw [List.drop_take, List.take_take, Nat.min_eq_left (by omega)]
 have HMP : Aside (mput ⟨1, (p : Int), (q : Int), x4⟩ (.bool true) (inKn kn) = inKn (addK kn ⟨1, (p : Int), (q : Int), x4⟩)) := mp1
 by_cases hx4 : 0 ≤ x4
 · have HRD : Aside (∀ F w, Sat (treeP h s * F) w → Calls Tryz.prog 49 #[.pointer (some ⟨h.D, 0, none⟩), .string nmT, .int .i64 (p : Int), .int .i64 (q : Int)] w fun e w' => ∃ (a : Option Addr) (c : Nat), e = .returned (.tuple #[.slice a q c, .int .i64 0]) ∧ Sat (rw TB 1 (.slice a q c) (bys ((fl.drop p).take q)) * (treeP h s * F)) w') := fun F w g => by
    have hfi : FileIs s.ck.d nmT fl := fileIs_of hfl (by omega)
    have hlen : ((fl.drop p).take q).length = q := by rw [List.length_take, List.length_drop]; omega
    refine (file_readT h s nmT fl p q F w g hI hf.1.down hfi nmT_named (by omega)).mono ?_
    rintro e w' ⟨v, rfl, g2⟩
    obtain ⟨a, n, c, rfl, h3, _⟩ := rw_v g2
    have hn : q = n := by rw [bys_len, hlen] at h3; omega
    subst hn
    exact ⟨a, c, rfl, g2⟩
   obtain ⟨cut, hct⟩ : ∃ x, (fl.drop p).take q = x := ⟨_, rfl⟩
   have hctl : cut.length = q := by rw [← hct, List.length_take, List.length_drop]; omega
   have HCT : Aside (∀ (a : Option Addr) (c : Nat) F w, Sat (rw TB 1 (.slice a q c) (bys cut) * F) w → Calls Tryz.prog 142 #[.slice a q c] w fun e w' => e = .returned (.int .i64 (endsC cut : Nat)) ∧ Sat (rw TB 1 (.slice a q c) (bys cut) * F) w') := fun a c F w g => eolCount_any _ cut F w g
   rw [hct] at HRD
   have HB : Aside (entOk (cutE s.ck.d eo et 1) ⟨1, p, q, x4⟩ = decide ((endsC cut : Int) = x4)) := by
    show _ = _
    unfold entOk
    rw [HK.out.2.1]
    have e1 : (⟨1, (p : Int), (q : Int), x4⟩ : Ent).pos.toNat = p := by simp
    have e2 : (⟨1, (p : Int), (q : Int), x4⟩ : Ent).len.toNat = q := by simp
    rw [e1, e2, HCUT.out, hct, HK.out.2.2]
    by_cases h9 : (endsC cut : Int) = x4
    · rw [decide_eq_true h9]
      exact decide_eq_true ⟨by simp only; omega, by simp only; omega, fun _ => h9⟩
    · rw [decide_eq_false h9]
      exact decide_eq_false fun h => h9 (h.2.2 hx4)
   clear hkn hs hm hen hcut hfl mp1 hpe hbig hw1 hct hctl
   by_cases h9 : (endsC cut : Int) = x4
   · rw [decide_eq_true h9] at HB
     subst h9
     go_enter Tryz.func154, Tryz.ntmps154
     go_upto_region 1 with (fail)
     go_region
     go_wp2_with fail
     go_region
     go_wp2_with fail
     go_region_held3 (fun w' => w'.cell? ⟨w.heap.size + 1, 0, none⟩ = some (.int .i64 1) ∧ w'.cell? ⟨L, 1, none⟩ = some (.pointer (some ⟨h.D, 0, none⟩)) ∧ w'.cell? ⟨L, 5, none⟩ = some (.int .i64 et)) (first | exact ⟨cell_sat _ _ _, cell_sat _ _ _, cell_sat _ _ _⟩) (first
      | (go_at_call 50; with_reducible refine Calls.mono (HSZ.out _ _ (takeI (treeP h s))) ?_; rintro e w5 ⟨zz, rfl, hmx, hw5⟩; subst hw5))
     all_goals
      go_wp2_with fail
      with_reducible refine Calls.mono (HDN.out _ _ (takeI (treeP h s))) ?_
      rintro e w8 ⟨rfl, hw8⟩
      subst hw8
      go_wp2_with fail
      go_region_held3 (fun w' => w'.cell? ⟨L, 1, none⟩ = some (.pointer (some ⟨h.D, 0, none⟩)) ∧ w'.cell? ⟨w.heap.size + 1, 1, none⟩ = some (.int .i64 (p : Int)) ∧ w'.cell? ⟨w.heap.size + 1, 2, none⟩ = some (.int .i64 (q : Int))) (first | exact ⟨cell_sat _ _ _, cell_sat _ _ _, cell_sat _ _ _⟩) (first
       | (go_at_call 49; with_reducible refine Calls.mono (HRD.out _ _ (takeI (treeP h s))) ?_; rintro e w9 ⟨a9, c9, rfl, q9⟩; haveI := q9.i))
      all_goals
       go_wp2_with fail
       go_region_held3 (fun w' => w'.cell? ⟨w.heap.size, 3, none⟩ = some (.int .i64 (endsC cut : Nat))) (first | exact cell_sat _ _ _) (first
        | (go_at_call 142; with_reducible refine Calls.mono (HCT.out a9 c9 _ _ (takeI (rw TB 1 (.slice a9 q c9) (bys cut)))) ?_; rintro e w10 ⟨rfl, q10⟩; haveI := q10.i))
       all_goals
        go_wp2_with fail
        go_region
        go_wp2
        go_ret
        refine .inr (.inl ⟨HB.out, rfl, cen_shut ?_⟩)
        rw [← HMP.out]
        exact keep4 _ _ _ _
   · rw [decide_eq_false h9] at HB
     have h9' : ((endsC cut : Int) != x4) = true := by simp [h9]
     go_enter Tryz.func154, Tryz.ntmps154
     go_upto_region 1 with (fail)
     go_region
     go_wp2_with fail
     go_region
     go_wp2_with fail
     go_region_held3 (fun w' => w'.cell? ⟨w.heap.size + 1, 0, none⟩ = some (.int .i64 1) ∧ w'.cell? ⟨L, 1, none⟩ = some (.pointer (some ⟨h.D, 0, none⟩)) ∧ w'.cell? ⟨L, 5, none⟩ = some (.int .i64 et)) (first | exact ⟨cell_sat _ _ _, cell_sat _ _ _, cell_sat _ _ _⟩) (first
      | (go_at_call 50; with_reducible refine Calls.mono (HSZ.out _ _ (takeI (treeP h s))) ?_; rintro e w5 ⟨zz, rfl, hmx, hw5⟩; subst hw5))
     all_goals
      go_wp2_with fail
      with_reducible refine Calls.mono (HDN.out _ _ (takeI (treeP h s))) ?_
      rintro e w8 ⟨rfl, hw8⟩
      subst hw8
      go_wp2_with fail
      go_region_held3 (fun w' => w'.cell? ⟨L, 1, none⟩ = some (.pointer (some ⟨h.D, 0, none⟩)) ∧ w'.cell? ⟨w.heap.size + 1, 1, none⟩ = some (.int .i64 (p : Int)) ∧ w'.cell? ⟨w.heap.size + 1, 2, none⟩ = some (.int .i64 (q : Int))) (first | exact ⟨cell_sat _ _ _, cell_sat _ _ _, cell_sat _ _ _⟩) (first
       | (go_at_call 49; with_reducible refine Calls.mono (HRD.out _ _ (takeI (treeP h s))) ?_; rintro e w9 ⟨a9, c9, rfl, q9⟩; haveI := q9.i))
      all_goals
       go_wp2_with fail
       go_region_held3 (fun w' => w'.cell? ⟨w.heap.size, 3, none⟩ = some (.int .i64 x4)) (first | exact cell_sat _ _ _) (first
        | (go_at_call 142; with_reducible refine Calls.mono (HCT.out a9 c9 _ _ (takeI (rw TB 1 (.slice a9 q c9) (bys cut)))) ?_; rintro e w10 ⟨rfl, q10⟩; haveI := q10.i))
       all_goals
        go_wp2
        go_ret
        exact .inr (.inr ⟨HK.out.1, HB.out, rfl, cen_shut (keep4 _ _ _ _)⟩)
 · have HB : Aside (entOk (cutE s.ck.d eo et 1) ⟨1, p, q, x4⟩ = true) := by
    show _ = _
    unfold entOk
    rw [HK.out.2.1]
    apply decide_eq_true
    rw [HK.out.2.2]
    simp only
    exact ⟨by omega, by omega, fun h => absurd h hx4⟩
   clear hkn hs hm hen hcut hfl mp1 hpe hbig hw1
   go_enter Tryz.func154, Tryz.ntmps154
   go_upto_region 1 with (fail)
   go_region
   go_wp2_with fail
   go_region
   go_wp2_with fail
   go_region_held3 (fun w' => w'.cell? ⟨w.heap.size + 1, 0, none⟩ = some (.int .i64 1) ∧ w'.cell? ⟨L, 1, none⟩ = some (.pointer (some ⟨h.D, 0, none⟩)) ∧ w'.cell? ⟨L, 5, none⟩ = some (.int .i64 et)) (first | exact ⟨cell_sat _ _ _, cell_sat _ _ _, cell_sat _ _ _⟩) (first
    | (go_at_call 50; with_reducible refine Calls.mono (HSZ.out _ _ (takeI (treeP h s))) ?_; rintro e w5 ⟨zz, rfl, hmx, hw5⟩; subst hw5))
   all_goals
    go_wp2_with fail
    with_reducible refine Calls.mono (HDN.out _ _ (takeI (treeP h s))) ?_
    rintro e w8 ⟨rfl, hw8⟩
    subst hw8
    go_wp2_with fail
    go_region
    go_wp2
    go_ret
    refine .inr (.inl ⟨HB.out, rfl, cen_shut ?_⟩)
    rw [← HMP.out]
    exact keep4 _ _ _ _
end Go.Proofs.YtfhbmblbidcmmaaGreat
namespace Go.Tr
theorem cKid_unfit {y x : Sn} {s : Int × Int × Int} {first : Bool} {k : Kd} (h : s.1 ≠ k.bytes ∨ s.2.1 ≠ k.lines ∨ s.2.2 ≠ k.scraps ∨ (first = false ∧ (y.h + 1 ≠ x.h ∨ meets x.last y.first = true))) : cKid y s first k x = none := by
 unfold cKid
 rw [if_pos]
 rcases h with h | h | h | h
 · exact .inl fun e => h (by rw [e])
 · exact .inl fun e => h (by rw [e])
 · exact .inl fun e => h (by rw [e])
 · exact .inr h
theorem cKid_fit {y x : Sn} {s : Int × Int × Int} {first : Bool} {k : Kd} (h : ¬ (s.1 ≠ k.bytes ∨ s.2.1 ≠ k.lines ∨ s.2.2 ≠ k.scraps ∨ (first = false ∧ (y.h + 1 ≠ x.h ∨ meets x.last y.first = true)))) : (first = false → y.h + 1 = x.h) ∧ (1024 < x.count + y.count → cKid y s first k x = none) ∧ (¬ 1024 < x.count + y.count → cKid y s first k x = some ⟨y.h + 1, x.count + y.count, if first then y.first else x.first, y.last⟩) := by
 simp only [not_or, Decidable.not_not, not_and] at h
 obtain ⟨h1, h2, h3, h4⟩ := h
 have hs : s = (k.bytes, k.lines, k.scraps) := by
  rw [← h1, ← h2, ← h3]
 have h5 : first = false → y.h + 1 = x.h := fun e => (h4 e).1
 have h6 : first = false → ¬ meets x.last y.first = true := fun e => (h4 e).2
 refine ⟨h5, fun hc => ?_, fun hc => ?_⟩
 · unfold cKid
   rw [if_neg (by simp only [not_or, Decidable.not_not, not_and]; exact ⟨hs, fun e => ⟨h5 e, h6 e⟩⟩), if_pos hc]
 · unfold cKid
   rw [if_neg (by simp only [not_or, Decidable.not_not, not_and]; exact ⟨hs, fun e => ⟨h5 e, h6 e⟩⟩), if_neg hc]
   cases first with
   | true => rfl
   | false => rw [← h5 rfl]; rfl
end Go.Tr
namespace Go.Proofs.YtfhbmblbidcmmaaGreat
set_option linter.unusedSimpArgs false
set_option linter.unusedVariables false
open Go.RowKit Go.Sl Go.Dk Go.Tr
open Go.Lru (ikey)
attribute [local go_sem ↓] Go.wp_at_zero Go.wp_at_succ
attribute [local go_sem] Go.Sl.cell_sat Go.Sl.frozen_sat put_Kn
theorem store10 {A R : Assn} {w : World} {b e : Nat} {c0 c1 c2 c3 c4 c5 c6 c7 c8 c9 : Value} {v0 v1 v2 v3 v4 v5 v6 v7 v8 v9 : Value} [SatI A w] [Take A (Sl.block b e [c0, c1, c2, c3, c4, c5, c6, c7, c8, c9]) R] : Sat (Sl.block b e [v0, v1, v2, v3, v4, v5, v6, v7, v8, v9] * R) ((((((((((w.setCell ⟨b, 0, none⟩ v0).setCell ⟨b, 1, none⟩ v1).setCell ⟨b, 2, none⟩ v2).setCell ⟨b, 3, none⟩ v3).setCell ⟨b, 4, none⟩ v4).setCell ⟨b, 5, none⟩ v5).setCell ⟨b, 6, none⟩ v6).setCell ⟨b, 7, none⟩ v7).setCell ⟨b, 8, none⟩ v8).setCell ⟨b, 9, none⟩ v9) := by
 have h0 : Sat (Sl.block b e [c0, c1, c2, c3, c4, c5, c6, c7, c8, c9] * R) w := takeI (Sl.block b e [c0, c1, c2, c3, c4, c5, c6, c7, c8, c9])
 have h1 : Sat (Sl.block b e [v0, c1, c2, c3, c4, c5, c6, c7, c8, c9] * R) (w.setCell ⟨b, 0, none⟩ v0) := h0.upd b 0 v0
 have h2 : Sat (Sl.block b e [v0, v1, c2, c3, c4, c5, c6, c7, c8, c9] * R) ((w.setCell ⟨b, 0, none⟩ v0).setCell ⟨b, 1, none⟩ v1) := h1.upd b 1 v1
 have h3 : Sat (Sl.block b e [v0, v1, v2, c3, c4, c5, c6, c7, c8, c9] * R) (((w.setCell ⟨b, 0, none⟩ v0).setCell ⟨b, 1, none⟩ v1).setCell ⟨b, 2, none⟩ v2) := h2.upd b 2 v2
 have h4 : Sat (Sl.block b e [v0, v1, v2, v3, c4, c5, c6, c7, c8, c9] * R) ((((w.setCell ⟨b, 0, none⟩ v0).setCell ⟨b, 1, none⟩ v1).setCell ⟨b, 2, none⟩ v2).setCell ⟨b, 3, none⟩ v3) := h3.upd b 3 v3
 have h5 : Sat (Sl.block b e [v0, v1, v2, v3, v4, c5, c6, c7, c8, c9] * R) (((((w.setCell ⟨b, 0, none⟩ v0).setCell ⟨b, 1, none⟩ v1).setCell ⟨b, 2, none⟩ v2).setCell ⟨b, 3, none⟩ v3).setCell ⟨b, 4, none⟩ v4) := h4.upd b 4 v4
 have h6 : Sat (Sl.block b e [v0, v1, v2, v3, v4, v5, c6, c7, c8, c9] * R) ((((((w.setCell ⟨b, 0, none⟩ v0).setCell ⟨b, 1, none⟩ v1).setCell ⟨b, 2, none⟩ v2).setCell ⟨b, 3, none⟩ v3).setCell ⟨b, 4, none⟩ v4).setCell ⟨b, 5, none⟩ v5) := h5.upd b 5 v5
 have h7 : Sat (Sl.block b e [v0, v1, v2, v3, v4, v5, v6, c7, c8, c9] * R) (((((((w.setCell ⟨b, 0, none⟩ v0).setCell ⟨b, 1, none⟩ v1).setCell ⟨b, 2, none⟩ v2).setCell ⟨b, 3, none⟩ v3).setCell ⟨b, 4, none⟩ v4).setCell ⟨b, 5, none⟩ v5).setCell ⟨b, 6, none⟩ v6) := h6.upd b 6 v6
 have h8 : Sat (Sl.block b e [v0, v1, v2, v3, v4, v5, v6, v7, c8, c9] * R) ((((((((w.setCell ⟨b, 0, none⟩ v0).setCell ⟨b, 1, none⟩ v1).setCell ⟨b, 2, none⟩ v2).setCell ⟨b, 3, none⟩ v3).setCell ⟨b, 4, none⟩ v4).setCell ⟨b, 5, none⟩ v5).setCell ⟨b, 6, none⟩ v6).setCell ⟨b, 7, none⟩ v7) := h7.upd b 7 v7
 have h9 : Sat (Sl.block b e [v0, v1, v2, v3, v4, v5, v6, v7, v8, c9] * R) (((((((((w.setCell ⟨b, 0, none⟩ v0).setCell ⟨b, 1, none⟩ v1).setCell ⟨b, 2, none⟩ v2).setCell ⟨b, 3, none⟩ v3).setCell ⟨b, 4, none⟩ v4).setCell ⟨b, 5, none⟩ v5).setCell ⟨b, 6, none⟩ v6).setCell ⟨b, 7, none⟩ v7).setCell ⟨b, 8, none⟩ v8) := h8.upd b 8 v8
 have h10 : Sat (Sl.block b e [v0, v1, v2, v3, v4, v5, v6, v7, v8, v9] * R) ((((((((((w.setCell ⟨b, 0, none⟩ v0).setCell ⟨b, 1, none⟩ v1).setCell ⟨b, 2, none⟩ v2).setCell ⟨b, 3, none⟩ v3).setCell ⟨b, 4, none⟩ v4).setCell ⟨b, 5, none⟩ v5).setCell ⟨b, 6, none⟩ v6).setCell ⟨b, 7, none⟩ v7).setCell ⟨b, 8, none⟩ v8).setCell ⟨b, 9, none⟩ v9) := h9.upd b 9 v9
 exact h10
theorem join_pair (a b : Ent) : (join [a, b]).length = if meets a b then 1 else 2 := by
 cases h : meets a b <;> simp [join, joinTo, h]
theorem readsE_blk {b : Nat} (l : List Ent) (hl : l.length ≤ 1000) : ReadsE (Sl.block b TEn (ecs l)) (.slice (some ⟨b, 0, none⟩) l.length l.length) l := by
 refine ⟨ecs_len l, _, _, rfl, Nat.le_refl _, by omega, fun j u hj => ⟨b, 0, rfl, ?_⟩⟩
 haveI : At (ecs l) j u := ⟨hj⟩
 rw [Nat.zero_add]
 exact inferInstance
theorem join_two_call (x y : Ent) (b b2 : Nat) (F : Assn) (w : World) (hx : mayEnt x = true) (hy : mayEnt y = true) (hs : Sat (Sl.block b2 29 [.slice (some ⟨b, 0, none⟩) 2 2] * (Sl.block b TEn [.int .i64 x.src, .int .i64 x.pos, .int .i64 x.len, .int .i64 x.lines, .int .i64 y.src, .int .i64 y.pos, .int .i64 y.len, .int .i64 y.lines] * F)) w) :
 Calls Tryz.prog 80 #[.slice (some ⟨b2, 0, none⟩) 1 1] w fun e w' => ∃ a c G, e = .returned (.slice a (if meets x y then 1 else 2) c) ∧ Sat (G * F) w' := by
 have h1 : ReadsE (Sl.block b TEn (ecs [x, y])) (.slice (some ⟨b, 0, none⟩) 2 2) [x, y] := readsE_blk [x, y] (by simp)
 have h8 := mayE_iff.1 hx
 have h9 := mayE_iff.1 hy
 have h2 := join_any [[x, y]] _ _ F w (readsLL_one b2 h1) (hs.eq (by rw [show ecs [x, y] = [.int .i64 x.src, .int .i64 x.pos, .int .i64 x.len, .int .i64 x.lines, .int .i64 y.src, .int .i64 y.pos, .int .i64 y.len, .int .i64 y.lines] from rfl]; ac_rfl)) (by simp) (by simp) (by intro z hz; simp at hz; rcases hz with rfl | rfl <;> assumption) (by simp [eBytes]; omega)
 rw [List.flatten_singleton, join_pair] at h2
 exact h2.mono fun e w' ⟨a, c, g1, g2⟩ => ⟨a, c, _, g1, g2.eq (sep_assoc _ _ _).symm⟩
theorem look_open (h : Th) (s : TS) (bK bT bL M : Nat) (K : List (Int × Sn)) (F : Assn) : treeP h s * (lookA bK bT bL M h K * F) = treeP h s * (Sl.block bK TKn [.map (some M)] * (Sl.block bT TTp [.pointer (some ⟨h.t, 0, none⟩)] * (Sl.block bL TLf [.func (Fn.func 128) #[] #[.pointer (some ⟨bK, 0, none⟩), .pointer (some ⟨bT, 0, none⟩), .pointer (some ⟨bL, 0, none⟩)]] * (mp ikey M (kn K) * F)))) := by
 unfold lookA
 ac_rfl
theorem look_take {A R R1 R2 R3 R4 : Assn} {w : World} [q : SatI A w] (h : Th) (s : TS) (bK bT bL M : Nat) (K : List (Int × Sn)) [t : Take A (treeP h s) R] [t1 : Take R (Sl.block bK TKn [.map (some M)]) R1] [t2 : Take R1 (Sl.block bT TTp [.pointer (some ⟨h.t, 0, none⟩)]) R2] [t3 : Take R2 (Sl.block bL TLf [.func (Fn.func 128) #[] #[.pointer (some ⟨bK, 0, none⟩), .pointer (some ⟨bT, 0, none⟩), .pointer (some ⟨bL, 0, none⟩)]]) R3] [t4 : Take R3 (mp ikey M (kn K)) R4] : Sat (treeP h s * (lookA bK bT bL M h K * R4)) w :=
 q.out.eq (by rw [t.out, t1.out, t2.out, t3.out, t4.out]; unfold lookA; ac_rfl)
variable [TopN]
def LookL (f : Nat) (lf : Bool) : Prop := ∀ (V : Int → Option Nd) (N : Nat) (h : Th) (s : TS) (m : Nat) (K : List (Int × Sn)) (no : Int) (top : Bool) (bK bT bL M : Nat) (F : Assn) (w : World), (∀ n, V no = some n → n.leaf = lf) → f ≤ 13 → no ≠ 0 → KnOk V K → (∀ p n, V p = some n → may n = true ∧ p < N) → Rdy V m s → 13 * fr N K + 13 * (f + 1) ≤ m →
 Sat (treeP h s * (lookA bK bT bL M h K * F)) w → Calls Tryz.prog 128 #[.int .i64 no, .bool top, .int .i64 (13 - (f : Int)), .pointer (some ⟨bK, 0, none⟩), .pointer (some ⟨bT, 0, none⟩), .pointer (some ⟨bL, 0, none⟩)] w (LookOut V N h bK bT bL M f m s K no top F)
structure LkI (V : Int → Option Nd) (N f g : Nat) (n : Nd) (lf : Bool) (m1 : Nat) (s : TS) (K : List (Int × Sn)) (x0 : Sn) (gg lk j m3 : Nat) (s3 : TS) (K3 : List (Int × Sn)) (x : Sn) : Prop where
 meas : gg = lk - j
 rdy : Rdy V m3 s3
 sp : s3.sp = s.sp
 d : s3.ck.d = s.ck.d
 kn : KnOk V K3
 bud : m1 + 13 * fr N K3 ≤ m3 + j + 13 * fr N K
 run : lf = false → Run V g n j x
 k0 : j = 0 → K3 = K
 newk : ∀ q ∈ K3, q ∈ K ∨ q.2.h + 1 ≤ x.h
 zero : j = 0 → x = x0
 cnt : 0 ≤ x.count ∧ x.count ≤ 1036
 hgt : 0 ≤ x.h ∧ x.h ≤ 1036
 low : 0 < j → mayEnt x.last = true ∧ (K = [] → x.h < f)
end Go.Proofs.YtfhbmblbidcmmaaGreat
namespace Go.Proofs.YtfhbmblbidcmmaaGreat
set_option linter.unusedSimpArgs false
set_option linter.unusedVariables false
open Go.RowKit Go.Sl Go.Dk Go.Tr
open Go.Lru (ikey)
attribute [local go_sem ↓] Go.wp_at_zero Go.wp_at_succ
attribute [local go_sem] Go.Sl.cell_sat Go.Sl.frozen_sat put_Kn
variable [TopN]
set_option maxRecDepth 100000 in
set_option maxHeartbeats 12800000 in
theorem look_inner (f : Nat) (ih : ∀ g, f = g + 1 → LookC g) : LookL f false := by
 intro V N h s m K no top bK bT bL M F w hLV hf hno hK hV hR hm hs
 have HLV : Aside (∀ n, V no = some n → n.leaf = false) := hLV
 clear hLV
 by_cases hhit : top = false ∧ ∃ y, kget no K = some y
 · obtain ⟨rfl, y, hy⟩ := hhit
   exact look_hit f V N h s m K no bK bT bL M F w hK hR y hy hs
 have HK : Aside (KnOk V K) := hK
 have HV : Aside (∀ p n, V p = some n → may n = true ∧ p < N) := hV
 have HV1 : Aside (∀ p n, V p = some n → may n = true) := fun p n h => (hV p n h).1
 have HM : Aside (13 * fr N K + 13 * (f + 1) ≤ m ∧ no ≠ 0) := ⟨hm, hno⟩
 have HIH : Aside (∀ g, f = g + 1 → LookC g) := ih
 have HH : Aside (¬ (top = false ∧ ∃ y, kget no K = some y)) := hhit
 obtain ⟨m1, hm1⟩ : ∃ m1, m = m1 + 1 := ⟨m - 1, by omega⟩
 have HM1 : Aside (m = m1 + 1) := hm1
 have hrd := rd_call h V m1 s no
 have HRD : Aside (∀ F w, Sat (treeP h s * F) w → Calls Tryz.prog 129 #[.pointer (some ⟨h.t, 0, none⟩), .int .i64 no] w (RdEnds h V m1 s no F)) := fun F w q => hrd F w (by rw [← hm1]; exact hR) hno q
 obtain ⟨dp, hdp⟩ : ∃ d, (13 : Int) - (f : Int) = d := ⟨_, rfl⟩
 have HD : Aside (dp = 13 - (f : Int) ∧ f ≤ 13) := ⟨hdp.symm, hf⟩
 have hd0 : 0 ≤ dp ∧ dp ≤ 13 := by omega
 rw [hdp]
 obtain ⟨hd1, hd2⟩ := hd0
 have hwd : IntKind.i64.wrap (dp + 1) = dp + 1 := IntWalk.i64_in _ (by omega)
 unfold lookA at hs
 have hs1 : Sat (treeP h s * (Sl.block bK TKn [.map (some M)] * (Sl.block bT TTp [.pointer (some ⟨h.t, 0, none⟩)] * (Sl.block bL TLf [.func (Fn.func 128) #[] #[.pointer (some ⟨bK, 0, none⟩), .pointer (some ⟨bT, 0, none⟩), .pointer (some ⟨bL, 0, none⟩)]] * (mp ikey M (kn K) *  F))))) w := hs.eq (by ac_rfl)
 obtain ⟨z, ok, hz1, hz2, hz3⟩ : ∃ (z : Sn) (ok : Bool), (mget no (kn K)).getD zeroSn = snV z ∧ (mget no (kn K)).isSome = ok ∧ (ok = true → top = true) ∧ (top = false → kget no K = none) := by
  rw [mget_kn]
  cases hkg : kget no K with
  | none => exact ⟨sn0, false, rfl, rfl, fun e => Bool.noConfusion e, fun _ => rfl⟩
  | some y =>
    have ht : top = true := by
     cases top with
     | true => rfl
     | false => exact absurd ⟨rfl, y, hkg⟩ hhit
    exact ⟨y, true, rfl, rfl, fun _ => ht, fun e => by rw [ht] at e; cases e⟩
 have HZ : Aside (top = false → kget no K = none) := hz3.2
 have hz4 := hz3.1
 obtain ⟨yh, yc, ⟨a1, a2, a3, a4⟩, ⟨b1, b2, b3, b4⟩⟩ := z
 haveI := hs1.i
 have hlk : (Instr.lookup TKn (.map (some M)) (.int .i64 no) true).run Tryz.prog (w.alloc (.cells #[.int .i64 0, .int .i64 0, .int .i64 0, .int .i64 0, .int .i64 0, .int .i64 0, .int .i64 0, .int .i64 0, .int .i64 0, .int .i64 0] TSn)) = .ok (.tuple #[.agg #[.int .i64 yh, .int .i64 yc, .int .i64 a1, .int .i64 a2, .int .i64 a3, .int .i64 a4, .int .i64 b1, .int .i64 b2, .int .i64 b3, .int .i64 b4], .bool ok]) (w.alloc (.cells #[.int .i64 0, .int .i64 0, .int .i64 0, .int .i64 0, .int .i64 0, .int .i64 0, .int .i64 0, .int .i64 0, .int .i64 0, .int .i64 0] TSn)) := by
  rw [look_Kn, hz1, hz2]
  rfl
 clear hz1 hz2 hz3 hK hV hR hm hs hhit ih hrd hno hf hm1 hdp HH
 go_enter Tryz.func128, Tryz.ntmps128
 go_upto_region 2 with (fail)
 go_cut [30] (fun t30 wx => t30 = .bool false ∧ Sat (Sl.block w.heap.size TSn [.int .i64 0, .int .i64 0, .int .i64 0, .int .i64 0, .int .i64 0, .int .i64 0, .int .i64 0, .int .i64 0, .int .i64 0, .int .i64 0] * (treeP h s * (Sl.block bK TKn [.map (some M)] * (Sl.block bT TTp [.pointer (some ⟨h.t, 0, none⟩)] * (Sl.block bL TLf [.func (Fn.func 128) #[] #[.pointer (some ⟨bK, 0, none⟩), .pointer (some ⟨bT, 0, none⟩), .pointer (some ⟨bL, 0, none⟩)]] * (mp ikey M (kn K) *  F)))))) wx)
 case first =>
  cases ok with
  | false =>
    go_wp2_with fail
    go_meet
    exact ⟨rfl, satI_weak (C := Sl.block (w.heap.size + 1) TSn [.int .i64 yh, .int .i64 yc, .int .i64 a1, .int .i64 a2, .int .i64 a3, .int .i64 a4, .int .i64 b1, .int .i64 b2, .int .i64 b3, .int .i64 b4]) (by ac_rfl)⟩
  | true =>
    obtain rfl := hz4 rfl
    go_wp2_with fail
    go_meet
    exact ⟨rfl, satI_weak (C := Sl.block (w.heap.size + 1) TSn [.int .i64 yh, .int .i64 yc, .int .i64 a1, .int .i64 a2, .int .i64 a3, .int .i64 a4, .int .i64 b1, .int .i64 b2, .int .i64 b3, .int .i64 b4]) (by ac_rfl)⟩
 case rest =>
  obtain ⟨rfl, q2⟩ := hcut
  obtain ⟨N9, hN9⟩ : ∃ z, w.heap.size = z := ⟨_, rfl⟩
  rw [hN9] at q2 ⊢
  clear hs1 this hlk hN9 hz4
  haveI := q2.i
  go_wp2_with fail
  with_reducible refine Calls.mono (HRD.out _ _ (takeI (treeP h s))) ?_
  rintro e w1 ⟨s2, hR2, hsp2, hd2', hcase⟩
  have HS2 : Aside (Rdy V m1 s2 ∧ s2.sp = s.sp ∧ s2.ck.d = s.ck.d) := ⟨hR2, hsp2, hd2'⟩
  clear hR2 hsp2 hd2' q2
  rcases hcase with ⟨n, v1, B1, hvn, rfl, hN, q3⟩ | ⟨hvn, rfl, q3⟩
  rotate_left
  · haveI := q3.i
    exact ⟨rfl, s2, K, look_keep h s2 bK bT bL M K F, HS2.out.2.1, HS2.out.2.2, .inr ⟨rfl, chk_gone hvn, HS2.out.1.less (Nat.zero_le _)⟩⟩
  have hmn := HV1.out no n hvn
  have HVN : Aside (V no = some n) := hvn
  have HMN : Aside (may n = true) := hmn
  have hmany := fun F w q => many_any n v1 B1 F w hN q (by have := (SumOk.of hmn).e; omega) (by have := (SumOk.of hmn).k; omega)
  obtain ⟨vE, vK, rfl, hE, hKd⟩ := hN
  obtain ⟨aE, cE, rfl, hE1, hE2⟩ := hE.v
  obtain ⟨aK, cK, rfl, hK1, hK2⟩ := ReadsR.v hKd
  obtain ⟨le, hle⟩ : ∃ k, n.ents.length = k := ⟨_, rfl⟩
  obtain ⟨lk, hlk⟩ : ∃ k, n.kids.length = k := ⟨_, rfl⟩
  obtain ⟨lf, hlf⟩ : ∃ k, n.leaf = k := ⟨_, rfl⟩
  have HE : Aside (ReadsE B1 (.slice aE le cE) n.ents ∧ n.ents.length = le) := ⟨by rw [← hle]; exact hE, hle⟩
  have HKD : Aside (ReadsK B1 (.slice aK n.kids.length cK) n.kids ∧ n.kids.length = lk) := ⟨hKd, hlk⟩
  have HLF : Aside (n.leaf = lf) := hlf
  have hle1 : le ≤ 12 := by have := (SumOk.of hmn).e; omega
  have hlk1 : lk ≤ 12 := by have := (SumOk.of hmn).k; omega
  rw [hle, hlk, hlf] at hmany
  rw [hle] at hE1 ⊢
  rw [hlk] at hK1 ⊢
  rw [hlf]
  have HMA : Aside (∀ (F : Assn) (w : World), Sat (B1 * F) w → Calls Tryz.prog 130 #[.agg #[.bool lf, .slice aE le cE, .slice aK lk cK]] w fun e w' => e = .returned (.int .i64 (many n)) ∧ Sat (B1 * F) w') := hmany
  obtain ⟨mn, hmm⟩ : ∃ z : Nat, many n = z := ⟨_, rfl⟩
  rw [hmm] at HMA
  have HMM : Aside (many n = mn) := hmm
  haveI := q3.i
  clear hvn hmn hmany hE hKd hle hlk hlf hmm
  by_cases hf0 : f = 0
  · have hdp : dp = 13 := by have := HD.out.1; omega
    have HC0 : Aside (chk V f no top = none) := (by rw [hf0]; rfl : _ = _)
    have h12 : decide ((12 : Int) < dp) = true := decide_eq_true (by omega)
    have h12' : (12 : Int) < dp := by omega
    clear hdp hf0
    go_wp2
    exact ⟨rfl, s2, K, look_keep h s2 bK bT bL M K F, HS2.out.2.1, HS2.out.2.2, .inr ⟨rfl, HC0.out, HS2.out.1.less (Nat.zero_le _)⟩⟩
  obtain ⟨g, hg⟩ : ∃ g, f = g + 1 := ⟨f - 1, by omega⟩
  have HG : Aside (f = g + 1) := hg
  have h12 : decide ((12 : Int) < dp) = false := decide_eq_false (by have := HD.out.1; omega)
  have h12' : ¬ (12 : Int) < dp := by have := HD.out.1; omega
  obtain ⟨fw, hfw⟩ : ∃ b, decide (top = false ∧ mn < 4) = b := ⟨_, rfl⟩
  have HFW : Aside (decide (top = false ∧ mn < 4) = fw) := hfw
  clear hfw hg hf0
  go_upto_region 5 with (fail)
  go_cut [45] (fun t45 wx => t45 = .bool fw ∧ Sat (Sl.block w1.heap.size TNd [.bool lf, .slice aE le cE, .slice aK lk cK] * (B1 * (Sl.block N9 TSn [.int .i64 0, .int .i64 0, .int .i64 0, .int .i64 0, .int .i64 0, .int .i64 0, .int .i64 0, .int .i64 0, .int .i64 0, .int .i64 0] * (treeP h s2 * (Sl.block bK TKn [.map (some M)] * (Sl.block bT TTp [.pointer (some ⟨h.t, 0, none⟩)] * (Sl.block bL TLf [.func (Fn.func 128) #[] #[.pointer (some ⟨bK, 0, none⟩), .pointer (some ⟨bT, 0, none⟩), .pointer (some ⟨bL, 0, none⟩)]] * (mp ikey M (kn K) *  F)))))))) wx)
  case first =>
   cases top with
   | true =>
     have hz : fw = false := by rw [← HFW.out]; simp
     subst hz
     go_wp2_with fail
     go_meet
     exact ⟨rfl, satI_eq (by ac_rfl)⟩
   | false =>
     by_cases h4 : mn < 4
     · have hz : fw = true := by rw [← HFW.out]; simp [h4]
       subst hz
       have hf4 : (mn : Int) < 4 := by omega
       have hf4d : decide ((mn : Int) < 4) = true := decide_eq_true hf4
       go_wp2_with (go_at_call 130; with_reducible refine Calls.mono (HMA.out _ _ (takeI B1)) ?_; rintro e w4 ⟨rfl, q4⟩; haveI := q4.i)
       go_meet
       exact ⟨rfl, satI_eq (by ac_rfl)⟩
     · have hz : fw = false := by rw [← HFW.out]; simp [h4]
       subst hz
       have hf4 : ¬ (mn : Int) < 4 := by omega
       have hf4d : decide ((mn : Int) < 4) = false := decide_eq_false hf4
       go_wp2_with (go_at_call 130; with_reducible refine Calls.mono (HMA.out _ _ (takeI B1)) ?_; rintro e w4 ⟨rfl, q4⟩; haveI := q4.i)
       go_meet
       exact ⟨rfl, satI_eq (by ac_rfl)⟩
  case rest =>
   obtain ⟨rfl, q5⟩ := hcut
   obtain ⟨N12, hN12⟩ : ∃ z, w1.heap.size = z := ⟨_, rfl⟩
   rw [hN12] at q5 ⊢
   clear q3 this hN12
   haveI := q5.i
   cases fw with
   | true =>
     have HCN : Aside (chk V f no top = none) := (by
      have h9 := of_decide_eq_true HFW.out
      rw [HG.out]
      exact chk_few HVN.out ⟨h9.1, by rw [HMM.out]; exact h9.2⟩ : _ = _)
     go_wp2
     exact ⟨rfl, s2, K, look_keep h s2 bK bT bL M K F, HS2.out.2.1, HS2.out.2.2, .inr ⟨rfl, HCN.out, HS2.out.1.less (Nat.zero_le _)⟩⟩
   | false =>
     have H4 : Aside (¬ (top = false ∧ many n < 4)) := (by
      have h9 := of_decide_eq_false HFW.out
      rw [HMM.out]
      exact h9 : ¬ _)
     clear HMA HFW
     -- the leaf's own
     obtain ⟨x0, hx0⟩ : ∃ x, (if lf then (⟨0, n.ents.length, n.ents.headD e0, n.ents.getLastD e0⟩ : Sn) else sn0) = x := ⟨_, rfl⟩
     have HX0 : Aside ((if lf then (⟨0, n.ents.length, n.ents.headD e0, n.ents.getLastD e0⟩ : Sn) else sn0) = x0) := hx0
     clear hx0
     have HX1 : Aside (lf = true → Joined n.ents → Chk V no top x0) := (fun h1 h2 => by
      refine ⟨g + 1, ?_⟩
      rw [chk_leaf HVN.out (HLF.out.trans h1) H4.out, if_neg (by rw [join_len.2 h2]; simp), ← HX0.out, if_pos h1] : _ → _ → _)
     obtain ⟨N13, hN13⟩ : ∃ z, wc.heap.size = z := ⟨_, rfl⟩
     have HN13 : Aside (wc.heap.size = N13) := hN13
     clear hN13
     go_upto_if 49 with (fail)
     go_cut [49] (fun t49 wx => (lf = true → Joined n.ents) ∧ Sat (Sl.block wc.heap.size TSn (snC x0) * (Sl.block N12 TNd [.bool lf, .slice aE le cE, .slice aK lk cK] * (B1 * (Sl.block N9 TSn [.int .i64 0, .int .i64 0, .int .i64 0, .int .i64 0, .int .i64 0, .int .i64 0, .int .i64 0, .int .i64 0, .int .i64 0, .int .i64 0] * (treeP h s2 * (Sl.block bK TKn [.map (some M)] * (Sl.block bT TTp [.pointer (some ⟨h.t, 0, none⟩)] * (Sl.block bL TLf [.func (Fn.func 128) #[] #[.pointer (some ⟨bK, 0, none⟩), .pointer (some ⟨bT, 0, none⟩), .pointer (some ⟨bL, 0, none⟩)]] * (mp ikey M (kn K) *  F))))))))) wx)
     case first =>
      cases lf with
      | false =>
        have hx : x0 = sn0 := by rw [← HX0.out]; rfl
        subst hx
        go_wp2_with fail
        go_meet
        exact ⟨fun e => Bool.noConfusion e, satI_eq (by unfold snC; ac_rfl)⟩
      | true =>
        have h9 := HLV.out n HVN.out
        rw [HLF.out] at h9
        cases h9
     case rest =>
      obtain ⟨hjo, q6⟩ := hcut
      have HJO : Aside (lf = true → Joined n.ents) := hjo
      rw [HN13.out] at q6 ⊢
      clear q5 this hjo HN13
      obtain ⟨xh, xc, ⟨x1, x2, x3, x4⟩, ⟨x5, x6, x7, x8⟩⟩ := x0
      unfold snC erow at q6
      simp only [List.cons_append, List.nil_append] at q6
      haveI := q6.i
      go_wp2_with fail
      go_loopg [80] lk (fun gg t80 wr => ∃ (j m3 : Nat) (s3 : TS) (K3 : List (Int × Sn)) (x : Sn), t80 = .int .i64 j ∧ j ≤ lk ∧ Aside (LkI V N f g n lf m1 s K ⟨xh, xc, ⟨x1, x2, x3, x4⟩, ⟨x5, x6, x7, x8⟩⟩ gg lk j m3 s3 K3 x) ∧
       Sat (Sl.block N13 TSn (snC x) * (Sl.block N12 TNd [.bool lf, .slice aE le cE, .slice aK lk cK] * (B1 * (Sl.block N9 TSn [.int .i64 0, .int .i64 0, .int .i64 0, .int .i64 0, .int .i64 0, .int .i64 0, .int .i64 0, .int .i64 0, .int .i64 0, .int .i64 0] * (treeP h s3 * (Sl.block bK TKn [.map (some M)] * (Sl.block bT TTp [.pointer (some ⟨h.t, 0, none⟩)] * (Sl.block bL TLf [.func (Fn.func 128) #[] #[.pointer (some ⟨bK, 0, none⟩), .pointer (some ⟨bT, 0, none⟩), .pointer (some ⟨bL, 0, none⟩)]] * (mp ikey M (kn K3) *  F))))))))) wr)
      case atStart =>
       refine ⟨0, m1, s2, K, _, rfl, by omega, ⟨rfl, HS2.out.1, HS2.out.2.1, HS2.out.2.2, HK.out, by omega, fun e => ?_, fun _ => rfl, fun q hq => .inl hq, fun _ => rfl, ?_, ?_, fun e => by omega⟩, q6⟩
       · rw [← HX0.out, e]
         exact Run.zero g n
       · rw [← HX0.out]
         cases lf with
         | true => simp only [if_true]; have := HE.out.2; omega
         | false => exact ⟨by simp [sn0], by simp [sn0]⟩
       · rw [← HX0.out]
         cases lf with
         | true => exact ⟨by simp, by simp⟩
         | false => exact ⟨by simp [sn0], by simp [sn0]⟩
      case round =>
       obtain ⟨j, m3, s3, K3, x, rfl, hj, A, q7⟩ := hrel
       clear q6
       obtain ⟨zh, zc, ⟨z1, z2, z3, z4⟩, ⟨z5, z6, z7, z8⟩⟩ := x
       unfold snC erow at q7
       simp only [List.cons_append, List.nil_append] at q7
       haveI := q7.i
       by_cases hlt : j < lk
       · have hlt' : (j : Int) < lk := by omega
         have hlf : lf = false := by
          cases lf with
          | false => rfl
          | true =>
            have := (may_leaf HMN.out HLF.out).1
            have h9 := HKD.out.2
            rw [this] at h9
            simp at h9
            omega
         subst hlf
         obtain ⟨k, hk⟩ : ∃ k, n.kids[j]? = some k := ⟨_, List.getElem?_eq_getElem (by rw [HKD.out.2]; exact hlt)⟩
         obtain ⟨kb, ko, e9, r1, r2, r3, r4⟩ := readsK_at (a := aK) (c := cK) (by have := HKD.out.1; exact this) hk
         subst e9
         have HKJ : Aside (n.kids[j]? = some k) := hk
         have hmk := mayK_facts ((may_inner HMN.out HLF.out).2.1 k (List.mem_of_getElem? hk))
         have HMK : Aside (mayKid k = true) := (may_inner HMN.out HLF.out).2.1 k (List.mem_of_getElem? hk)
         have hbud := A.out.bud
         have hm0 := HM.out.1
         have hrec := HIH.out g HG.out V N h s3 m3 K3 k.page false bK bT bL M
         have HREC : Aside (∀ (F : Assn) (w : World), Sat (treeP h s3 * (lookA bK bT bL M h K3 * F)) w → Calls Tryz.prog 128 #[.int .i64 k.page, .bool false, .int .i64 (dp + 1), .pointer (some ⟨bK, 0, none⟩), .pointer (some ⟨bT, 0, none⟩), .pointer (some ⟨bL, 0, none⟩)] w (LookOut V N h bK bT bL M g m3 s3 K3 k.page false F)) := fun F w q => by
          have h9 := hrec F w (by have := HD.out.2; rw [HG.out] at this; omega) (by omega) A.out.kn HV.out A.out.rdy (by rw [HM1.out, HG.out] at hm0; omega) q
          have e8 : dp + 1 = 13 - (g : Int) := by have := HD.out.1; rw [HG.out] at this; omega
          rw [e8]
          exact h9
         have HBUD : Aside (m1 + 13 * fr N K3 ≤ m3 + j + 13 * fr N K ∧ 13 * fr N K + 13 * (f + 1) ≤ m) := ⟨hbud, hm0⟩
         obtain ⟨k1, k2, k3, k4⟩ := k
         simp only at r1 r2 r3 r4 HREC
         clear hk hmk hbud hm0 hrec
         go_wp2_with fail
         with_reducible refine Calls.mono (HREC.out _ _ (look_take h s3 bK bT bL M K3)) ?_
         rintro e w4 ⟨s4, K4, q8, hsp4, hd4, hcase⟩
         have HS4 : Aside (s4.sp = s.sp ∧ s4.ck.d = s.ck.d) := ⟨hsp4.trans A.out.sp, hd4.trans A.out.d⟩
         have q9 := q8.eq (look_open h s4 bK bT bL M K4 _)
         haveI := q9.i
         clear hsp4 hd4 q7
         rcases hcase with ⟨y, m4, rfl, hchk, hhy, hk4, hn4, hr4, hb4⟩ | ⟨rfl, hcn, hr4⟩
         rotate_left
         · have HCN : Aside (chk V f no top = none) := (by
            rw [HG.out]
            exact chk_none HVN.out HLF.out ((A.out.run rfl).fall HKJ.out hcn) : _ = _)
           exact ⟨rfl, s4, K4, look_keep h s4 bK bT bL M K4 F, HS4.out.1, HS4.out.2, .inr ⟨rfl, HCN.out, hr4⟩⟩
         have hlo := hchk.low HV1.out
         have HCH : Aside (Chk V k1 false y ∧ (K3 = [] → y.h < g) ∧ KnOk V K4 ∧ Rdy V m4 s4 ∧ m3 + 13 * fr N K4 ≤ m4 + 13 * fr N K3) := ⟨hchk, hhy, hk4, hr4, by simpa using hb4⟩
         have HNW : Aside (∀ q ∈ K4, q ∈ K3 ∨ q.2.h ≤ y.h) := hn4
         obtain ⟨nk, hnk⟩ := hchk.is
         obtain ⟨m5, hm5⟩ : ∃ m5, m4 = m5 + 1 := ⟨m4 - 1, by
          have := HBUD.out
          have h9 := HCH.out.2.2.2.2
          have hg9 := HG.out
          have h8 := HM1.out
          omega⟩
         have hk10 : k1 ≠ 0 := by have := mayK_facts HMK.out; simp only at this; omega
         have hrd5 := fun F w q => rd_call h V m5 s4 k1 F w (by rw [← hm5]; exact hr4) hk10 q
         have HRD5 : Aside (∀ F w, Sat (treeP h s4 * F) w → Calls Tryz.prog 129 #[.pointer (some ⟨h.t, 0, none⟩), .int .i64 k1] w (RdEnds h V m5 s4 k1 F)) := hrd5
         have HM5 : Aside (m4 = m5 + 1) := hm5
         have HNK : Aside (V k1 = some nk) := hnk
         have HLO : Aside (Low y) := hlo
         have hy1 := hlo.c1
         have hy2 := hlo.c2
         have hy3 := hlo.h1
         have hy0 := hlo.h0
         obtain ⟨yh, yc, ⟨y1, y2, y3, y4⟩, ⟨y5, y6, y7, y8⟩⟩ := y
         simp only at hy1 hy2 hy3 hy0
         have hwh : IntKind.i64.wrap (yh + 1) = yh + 1 := IntWalk.i64_in _ (by omega)
         have hcn := A.out.cnt
         have hgt := A.out.hgt
         simp only at hcn hgt
         have hwc : IntKind.i64.wrap (zc + yc) = zc + yc := IntWalk.i64_in _ (by omega)
         unfold snV
         simp only
         clear hchk hhy hk4 hn4 hr4 hb4 hnk hm5 hrd5 hlo hk10 q8
         go_wp2_with fail
         with_reducible refine Calls.mono (HRD5.out _ _ (takeI (treeP h s4))) ?_
         rintro e w5 ⟨s5, hR5, hsp5, hd5, hcase⟩
         rcases hcase with ⟨n5, v5, B5, hv5, rfl, hN5, q10⟩ | ⟨hv5, rfl, q10⟩
         rotate_left
         · rw [HNK.out] at hv5
           cases hv5
         have hn5 : n5 = nk := by rw [HNK.out] at hv5; cases hv5; rfl
         subst hn5
         have HS5 : Aside (Rdy V m5 s5 ∧ s5.sp = s.sp ∧ s5.ck.d = s.ck.d) := ⟨hR5, hsp5.trans HS4.out.1, hd5.trans HS4.out.2⟩
         have hmn5 := HV1.out k1 n5 HNK.out
         have hsm := fun F w q => ndSum_any n5 v5 B5 F w hN5 q (by have := (SumOk.of hmn5).e; omega) (by have := (SumOk.of hmn5).k; omega)
         obtain ⟨⟨t1, t2, t3⟩, hts⟩ : ∃ r, ndSum n5 = r := ⟨_, rfl⟩
         have HTS : Aside (ndSum (nodeOr V k1) = (t1, t2, t3)) := (by unfold nodeOr; rw [HNK.out]; exact hts : _ = _)
         rw [hts] at hsm
         simp only at hsm
         have HSM : Aside (∀ (F : Assn) (w : World), Sat (B5 * F) w → Calls Tryz.prog 131 #[v5] w fun e w' => e = .returned (.tuple #[.int .i64 t1, .int .i64 t2, .int .i64 t3]) ∧ Sat (B5 * F) w') := hsm
         haveI := q10.i
         clear hR5 hsp5 hd5 hv5 hN5 hmn5 hsm hts q9
         go_wp2_with fail
         with_reducible refine Calls.mono (HSM.out _ _ (takeI B5)) ?_
         rintro e w6 ⟨rfl, q11⟩
         haveI := q11.i
         clear q10 HSM
         have q12 : Sat (Sl.block N13 TSn [.int .i64 zh, .int .i64 zc, .int .i64 z1, .int .i64 z2, .int .i64 z3, .int .i64 z4, .int .i64 z5, .int .i64 z6, .int .i64 z7, .int .i64 z8] * (Sl.block w4.heap.size TSn [.int .i64 yh, .int .i64 yc, .int .i64 y1, .int .i64 y2, .int .i64 y3, .int .i64 y4, .int .i64 y5, .int .i64 y6, .int .i64 y7, .int .i64 y8] * (Sl.block N12 TNd [.bool false, .slice aE le cE, .slice (some ⟨kb, ko, none⟩) lk cK] * (B1 * (Sl.block N9 TSn [.int .i64 0, .int .i64 0, .int .i64 0, .int .i64 0, .int .i64 0, .int .i64 0, .int .i64 0, .int .i64 0, .int .i64 0, .int .i64 0] * (treeP h s5 * (Sl.block bK TKn [.map (some M)] * (Sl.block bT TTp [.pointer (some ⟨h.t, 0, none⟩)] * (Sl.block bL TLf [.func (Fn.func 128) #[] #[.pointer (some ⟨bK, 0, none⟩), .pointer (some ⟨bT, 0, none⟩), .pointer (some ⟨bL, 0, none⟩)]] * (mp ikey M (kn K4) *  F)))))))))) w6 := satI_weak (C := B5 * Sl.block wr.heap.size 141 [.int .i64 k1, .int .i64 k2, .int .i64 k3, .int .i64 k4]) (by ac_rfl)
         obtain ⟨ms, hms⟩ : ∃ b, meets ⟨z5, z6, z7, z8⟩ ⟨y1, y2, y3, y4⟩ = b := ⟨_, rfl⟩
         have HMS : Aside (meets ⟨z5, z6, z7, z8⟩ ⟨y1, y2, y3, y4⟩ = ms) := hms
         obtain ⟨bd, hbd⟩ : ∃ b, decide (t1 ≠ k2 ∨ t2 ≠ k3 ∨ t3 ≠ k4 ∨ ((j == 0) = false ∧ (yh + 1 ≠ zh ∨ ms = true))) = b := ⟨_, rfl⟩
         have HBD : Aside (decide (t1 ≠ k2 ∨ t2 ≠ k3 ∨ t3 ≠ k4 ∨ ((j == 0) = false ∧ (yh + 1 ≠ zh ∨ ms = true))) = bd) := hbd
         have HJ2 : Aside (0 < j → ∀ (b b2 : Nat) (F : Assn) (w : World), Sat (Sl.block b2 29 [.slice (some ⟨b, 0, none⟩) 2 2] * (Sl.block b TEn [.int .i64 z5, .int .i64 z6, .int .i64 z7, .int .i64 z8, .int .i64 y1, .int .i64 y2, .int .i64 y3, .int .i64 y4] * F)) w → Calls Tryz.prog 80 #[.slice (some ⟨b2, 0, none⟩) 1 1] w fun e w' => ∃ a c G, e = .returned (.slice a (if ms then 1 else 2) c) ∧ Sat (G * F) w') := fun hj0 b b2 F w q => by
          have h8 := (A.out.low hj0).1
          have h7 := HLO.out.first
          rw [← hms]
          exact join_two_call _ _ b b2 F w h8 h7 q
         clear hms hbd
         go_upto_region 17 with (fail)
         go_cut [138] (fun t138 wx => t138 = .bool bd ∧ Sat (Sl.block N13 TSn [.int .i64 zh, .int .i64 zc, .int .i64 z1, .int .i64 z2, .int .i64 z3, .int .i64 z4, .int .i64 z5, .int .i64 z6, .int .i64 z7, .int .i64 z8] * (Sl.block w4.heap.size TSn [.int .i64 yh, .int .i64 yc, .int .i64 y1, .int .i64 y2, .int .i64 y3, .int .i64 y4, .int .i64 y5, .int .i64 y6, .int .i64 y7, .int .i64 y8] * (Sl.block N12 TNd [.bool false, .slice aE le cE, .slice (some ⟨kb, ko, none⟩) lk cK] * (B1 * (Sl.block N9 TSn [.int .i64 0, .int .i64 0, .int .i64 0, .int .i64 0, .int .i64 0, .int .i64 0, .int .i64 0, .int .i64 0, .int .i64 0, .int .i64 0] * (treeP h s5 * (Sl.block bK TKn [.map (some M)] * (Sl.block bT TTp [.pointer (some ⟨h.t, 0, none⟩)] * (Sl.block bL TLf [.func (Fn.func 128) #[] #[.pointer (some ⟨bK, 0, none⟩), .pointer (some ⟨bT, 0, none⟩), .pointer (some ⟨bL, 0, none⟩)]] * (mp ikey M (kn K4) *  F)))))))))) wx)
         case first =>
          cases e2 : (t1 != k2) with
          | true =>
            have hz : bd = true := by
             have c2 : t1 ≠ k2 := by simpa using e2
             rw [← HBD.out]
             simp [*]
            subst hz
            go_wp2_with fail
            go_meet
            exact ⟨rfl, q12⟩
          | false =>
            cases e3 : (t2 != k3) with
            | true =>
              have hz : bd = true := by
               have c3 : t2 ≠ k3 := by simpa using e3
               rw [← HBD.out]
               simp [*]
              subst hz
              go_wp2_with fail
              go_meet
              exact ⟨rfl, q12⟩
            | false =>
              cases e4 : (t3 != k4) with
              | true =>
                have hz : bd = true := by
                 have c4 : t3 ≠ k4 := by simpa using e4
                 rw [← HBD.out]
                 simp [*]
                subst hz
                go_wp2_with fail
                go_meet
                exact ⟨rfl, q12⟩
              | false =>
                by_cases c5 : j = 0
                · have hj0 : (j : Int) = 0 := by omega
                  have hjd : decide ((0 : Int) < (j : Int)) = false := decide_eq_false (by omega)
                  have hz : bd = false := by
                   clear hj0 hjd
                   have c2 : t1 = k2 := by simpa using e2
                   have c3 : t2 = k3 := by simpa using e3
                   have c4 : t3 = k4 := by simpa using e4
                   rw [← HBD.out]
                   simp [*]
                  subst hz
                  go_wp2_with fail
                  go_meet
                  exact ⟨rfl, q12⟩
                · have hjp : (0 : Int) < j := by omega
                  have hj0 : 0 < j := by omega
                  have hjd : decide ((0 : Int) < (j : Int)) = true := decide_eq_true hjp
                  cases e6 : (yh + 1 != zh) with
                  | true =>
                    have hz : bd = true := by
                     clear hjp hjd
                     have c6 : yh + 1 ≠ zh := by simpa using e6
                     rw [← HBD.out]
                     simp [*]
                    subst hz
                    go_wp2_with fail
                    go_meet
                    exact ⟨rfl, q12⟩
                  | false =>
                    cases ms with
                    | true =>
                      simp only [if_true] at HJ2
                      have hz : bd = true := by
                       clear hjp hjd
                       have c6 : yh + 1 = zh := by simpa using e6
                       rw [← HBD.out]
                       simp [*]
                      subst hz
                      go_wp2_with (go_at_call 80; with_reducible refine Calls.mono (HJ2.out hj0 w6.heap.size (w6.heap.size + 1) _ _ (takeI2 (Sl.block (w6.heap.size + 1) 29 [.slice (some ⟨w6.heap.size, 0, none⟩) 2 2]) (Sl.block w6.heap.size TEn [.int .i64 z5, .int .i64 z6, .int .i64 z7, .int .i64 z8, .int .i64 y1, .int .i64 y2, .int .i64 y3, .int .i64 y4]))) ?_; rintro e w7 ⟨a7, c7, G7, rfl, q13⟩; haveI := q13.i)
                      go_meet
                      exact ⟨rfl, satI_weak (C := G7 * (B5 * Sl.block wr.heap.size 141 [.int .i64 k1, .int .i64 k2, .int .i64 k3, .int .i64 k4])) (by ac_rfl)⟩
                    | false =>
                      simp only [Bool.false_eq_true, if_false] at HJ2
                      have hz : bd = false := by
                       clear hjp hjd
                       have c2 : t1 = k2 := by simpa using e2
                       have c3 : t2 = k3 := by simpa using e3
                       have c4 : t3 = k4 := by simpa using e4
                       have c6 : yh + 1 = zh := by simpa using e6
                       rw [← HBD.out]
                       simp [*]
                      subst hz
                      go_wp2_with (go_at_call 80; with_reducible refine Calls.mono (HJ2.out hj0 w6.heap.size (w6.heap.size + 1) _ _ (takeI2 (Sl.block (w6.heap.size + 1) 29 [.slice (some ⟨w6.heap.size, 0, none⟩) 2 2]) (Sl.block w6.heap.size TEn [.int .i64 z5, .int .i64 z6, .int .i64 z7, .int .i64 z8, .int .i64 y1, .int .i64 y2, .int .i64 y3, .int .i64 y4]))) ?_; rintro e w7 ⟨a7, c7, G7, rfl, q13⟩; haveI := q13.i)
                      go_meet
                      exact ⟨rfl, satI_weak (C := G7 * (B5 * Sl.block wr.heap.size 141 [.int .i64 k1, .int .i64 k2, .int .i64 k3, .int .i64 k4])) (by ac_rfl)⟩
         case rest =>
          obtain ⟨rfl, q14⟩ := hcut
          obtain ⟨N16, hN16⟩ : ∃ z, w4.heap.size = z := ⟨_, rfl⟩
          rw [hN16] at q14 ⊢
          clear q11 q12 this hN16 HJ2
          haveI := q14.i
          cases bd with
          | true =>
            have HCN : Aside (chk V f no top = none) := (by
             rw [HG.out]
             refine chk_none HVN.out HLF.out ((A.out.run rfl).unfit HV1.out HKJ.out HCH.out.1 (cKid_unfit ?_))
             rw [HTS.out]
             simp only
             rw [HMS.out]
             exact of_decide_eq_true HBD.out : _ = _)
            go_wp2
            exact ⟨rfl, s5, K4, look_keep h s5 bK bT bL M K4 F, HS5.out.2.1, HS5.out.2.2, .inr ⟨rfl, HCN.out, HS5.out.1.less (Nat.zero_le _)⟩⟩
          | false =>
            have hfit := cKid_fit (y := ⟨yh, yc, ⟨y1, y2, y3, y4⟩, ⟨y5, y6, y7, y8⟩⟩) (x := ⟨zh, zc, ⟨z1, z2, z3, z4⟩, ⟨z5, z6, z7, z8⟩⟩) (s := ndSum (nodeOr V k1)) (first := j == 0) (k := ⟨k1, k2, k3, k4⟩) (by
             rw [HTS.out]
             simp only
             rw [HMS.out]
             exact of_decide_eq_false HBD.out)
            simp only at hfit
            obtain ⟨⟨f1, f2, f3, f4⟩, hff⟩ : ∃ e : Ent, (if (j == 0) = true then (⟨y1, y2, y3, y4⟩ : Ent) else ⟨z1, z2, z3, z4⟩) = e := ⟨_, rfl⟩
            rw [hff] at hfit
            have HFIT : Aside (((j == 0) = false → yh + 1 = zh) ∧ (1024 < zc + yc → cKid ⟨yh, yc, ⟨y1, y2, y3, y4⟩, ⟨y5, y6, y7, y8⟩⟩ (ndSum (nodeOr V k1)) (j == 0) ⟨k1, k2, k3, k4⟩ ⟨zh, zc, ⟨z1, z2, z3, z4⟩, ⟨z5, z6, z7, z8⟩⟩ = none) ∧ (¬ 1024 < zc + yc → cKid ⟨yh, yc, ⟨y1, y2, y3, y4⟩, ⟨y5, y6, y7, y8⟩⟩ (ndSum (nodeOr V k1)) (j == 0) ⟨k1, k2, k3, k4⟩ ⟨zh, zc, ⟨z1, z2, z3, z4⟩, ⟨z5, z6, z7, z8⟩⟩ = some ⟨yh + 1, zc + yc, ⟨f1, f2, f3, f4⟩, ⟨y5, y6, y7, y8⟩⟩)) := hfit
            have HFF : Aside ((if (j == 0) = true then (⟨y1, y2, y3, y4⟩ : Ent) else ⟨z1, z2, z3, z4⟩) = ⟨f1, f2, f3, f4⟩) := hff
            clear hfit hff
            go_upto_if 142 with (fail)
            go_cut [142] (fun t142 wx => Sat (Sl.block N13 TSn [.int .i64 (yh + 1), .int .i64 zc, .int .i64 f1, .int .i64 f2, .int .i64 f3, .int .i64 f4, .int .i64 z5, .int .i64 z6, .int .i64 z7, .int .i64 z8] * (Sl.block N16 TSn [.int .i64 yh, .int .i64 yc, .int .i64 y1, .int .i64 y2, .int .i64 y3, .int .i64 y4, .int .i64 y5, .int .i64 y6, .int .i64 y7, .int .i64 y8] * (Sl.block N12 TNd [.bool false, .slice aE le cE, .slice (some ⟨kb, ko, none⟩) lk cK] * (B1 * (Sl.block N9 TSn [.int .i64 0, .int .i64 0, .int .i64 0, .int .i64 0, .int .i64 0, .int .i64 0, .int .i64 0, .int .i64 0, .int .i64 0, .int .i64 0] * (treeP h s5 * (Sl.block bK TKn [.map (some M)] * (Sl.block bT TTp [.pointer (some ⟨h.t, 0, none⟩)] * (Sl.block bL TLf [.func (Fn.func 128) #[] #[.pointer (some ⟨bK, 0, none⟩), .pointer (some ⟨bT, 0, none⟩), .pointer (some ⟨bL, 0, none⟩)]] * (mp ikey M (kn K4) *  F)))))))))) wx)
            case first =>
             by_cases c5 : j = 0
             · have e5 : ((j : Int) == 0) = true := by simp [c5]
               have h9 : (⟨y1, y2, y3, y4⟩ : Ent) = ⟨f1, f2, f3, f4⟩ := by rw [← HFF.out, if_pos (by simp [c5])]
               cases h9
               clear c5
               go_upto_region 20 with (fail)
               go_region
               go_wp2_with fail
               go_meet
               exact satI_eq (by ac_rfl)
             · have e5 : ((j : Int) == 0) = false := by simp [c5]
               have h9 : (⟨z1, z2, z3, z4⟩ : Ent) = ⟨f1, f2, f3, f4⟩ := by rw [← HFF.out, if_neg (by simp [c5])]
               have h8 : yh + 1 = zh := HFIT.out.1 (by simp [c5])
               have H8 : Aside (yh + 1 = zh) := h8
               cases h9
               clear c5 h8
               go_wp2_with fail
               go_meet
               rw [H8.out]
               exact satI_eq (by ac_rfl)
            case rest =>
             have q15 := hcut
             clear q14 this
             haveI := q15.i
             by_cases hbig : 1024 < zc + yc
             · have HCN : Aside (chk V f no top = none) := (by
                rw [HG.out]
                exact chk_none HVN.out HLF.out ((A.out.run rfl).unfit HV1.out HKJ.out HCH.out.1 (HFIT.out.2.1 hbig)) : _ = _)
               have hb1 : decide ((1024 : Int) < zc + yc) = true := decide_eq_true hbig
               go_wp2
               exact ⟨rfl, s5, K4, look_keep h s5 bK bT bL M K4 F, HS5.out.2.1, HS5.out.2.2, .inr ⟨rfl, HCN.out, HS5.out.1.less (Nat.zero_le _)⟩⟩
             · have hb1 : decide ((1024 : Int) < zc + yc) = false := decide_eq_false hbig
               have HLI : Aside (LkI V N f g n false m1 s K ⟨xh, xc, ⟨x1, x2, x3, x4⟩, ⟨x5, x6, x7, x8⟩⟩ (lk - (j + 1)) lk (j + 1) m5 s5 K4 ⟨yh + 1, zc + yc, ⟨f1, f2, f3, f4⟩, ⟨y5, y6, y7, y8⟩⟩) := (by
                have hB := HBUD.out.1
                have hC := HCH.out.2.2.2.2
                have hM := HM5.out
                refine ⟨rfl, HS5.out.1, HS5.out.2.1, HS5.out.2.2, HCH.out.2.2.1, by omega, fun _ => (A.out.run rfl).next HV1.out HKJ.out HCH.out.1 (HFIT.out.2.2 hbig), fun e => by omega, fun q hq => ?_, fun e => by omega, ?_, ?_, fun _ => ⟨HLO.out.last, fun e => ?_⟩⟩
                · rcases HNW.out q hq with h9 | h9
                  · rcases A.out.newk q h9 with h8 | h8
                    · exact .inl h8
                    · by_cases c5 : j = 0
                      · rw [A.out.k0 c5] at h9
                        exact .inl h9
                      · have h7 := HFIT.out.1 (by simp [c5])
                        simp only at h8 ⊢
                        exact .inr (by omega)
                  · simp only at h9 ⊢
                    exact .inr (by omega)
                · simp only; omega
                · simp only; omega
                · by_cases c5 : j = 0
                  · have h9 := HCH.out.2.1 (by rw [A.out.k0 c5]; exact e)
                    have := HG.out
                    simp only at h9 ⊢
                    omega
                  · have h7 := HFIT.out.1 (by simp [c5])
                    have h9 := (A.out.low (by omega)).2 e
                    simp only at h9 ⊢
                    omega : LkI _ _ _ _ _ _ _ _ _ _ _ _ _ _ _ _ _)
               go_wp2_with fail
               go_roundg (lk - (j + 1))
               case measure => have := A.out.meas; omega
               case rel =>
                exact ⟨j + 1, m5, s5, K4, _, by go_num, by omega, HLI, satI_weak (C := Sl.block N16 TSn [.int .i64 yh, .int .i64 yc, .int .i64 y1, .int .i64 y2, .int .i64 y3, .int .i64 y4, .int .i64 y5, .int .i64 y6, .int .i64 y7, .int .i64 y8]) (by unfold snC erow; ac_rfl)⟩
       · have hlt' : ¬ (j : Int) < lk := by omega
         obtain rfl : j = lk := by omega
         have HC : Aside (Chk V no top ⟨zh, zc, ⟨z1, z2, z3, z4⟩, ⟨z5, z6, z7, z8⟩⟩) := (by
          cases lf with
          | true =>
            have h9 := (may_leaf HMN.out HLF.out).1
            have h8 := HKD.out.2
            rw [h9] at h8
            rw [A.out.zero h8.symm]
            exact HX1.out rfl (HJO.out rfl)
          | false =>
            have h9 := A.out.run rfl
            rw [← HKD.out.2] at h9
            exact h9.done HVN.out HLF.out H4.out : Chk _ _ _ _)
         have hno0 : 0 ≤ no ∧ no < N := ⟨by
          have h9 := (HV.out no n HVN.out).2
          rcases Int.lt_or_le no 0 with h8 | h8
          · have : V no = none := A.out.rdy.out (by omega)
            rw [HVN.out] at this
            cases this
          · exact h8, (HV.out no n HVN.out).2⟩
         have HNO : Aside (0 ≤ no ∧ no < N) := hno0
         clear hno0
         have HLH : Aside (K = [] → zh < f) := (fun e => by
          by_cases c5 : j = 0
          · have h9 := A.out.zero c5
            have hG := HG.out
            have h7 := HX0.out
            rw [← h9] at h7
            cases lf with
            | true =>
              simp only [if_true] at h7
              have h6 := congrArg Sn.h h7
              simp only at h6
              omega
            | false =>
              have h6 := congrArg Sn.h h7
              have : (if false = true then (⟨0, n.ents.length, n.ents.headD e0, n.ents.getLastD e0⟩ : Sn) else sn0).h = 0 := rfl
              rw [this] at h6
              simp only at h6
              omega
          · exact (A.out.low (by omega)).2 e : _ → _)
         have HNK2 : Aside (top = false → kget no K3 = none) := (fun e => by
          cases hq : kget no K3 with
          | none => rfl
          | some z =>
            exfalso
            have h9 := kget_mem hq
            rcases A.out.newk _ h9 with h8 | h8
            · have h7 := HZ.out e
              have : ∀ (K : List (Int × Sn)), (no, z) ∈ K → kget no K ≠ none := fun K hK h6 => by
               have h5 := hasK_get (i := no.toNat) h6 (by have := HNO.out.1; omega)
               unfold hasK at h5
               rw [List.any_eq_false] at h5
               have := h5 _ hK
               simp at this
               have := HNO.out.1
               omega
              exact this K h8 h7
            · have h6 := A.out.kn.get hq
              obtain ⟨q1, q2⟩ := id HC.out
              rw [e] at q2
              have h5 := h6.of HV1.out q2
              rw [← h5] at h8
              simp only at h8
              omega : _ → _)
         have HBJ : Aside (m1 + 13 * fr N K3 ≤ m3 + j + 13 * fr N K ∧ m = m1 + 1 ∧ j ≤ 12) := ⟨A.out.bud, HM1.out, hlk1⟩
         have HA : Aside (KnOk V K3 ∧ Rdy V m3 s3 ∧ s3.sp = s.sp ∧ s3.ck.d = s.ck.d ∧ ∀ q ∈ K3, q ∈ K ∨ q.2.h + 1 ≤ zh) := ⟨A.out.kn, A.out.rdy, A.out.sp, A.out.d, A.out.newk⟩
         clear A
         cases top with
         | true =>
           go_wp2
           go_returns
           have q8 := store10 (w := wr) (b := N9) (e := TSn) (c0 := .int .i64 0) (c1 := .int .i64 0) (c2 := .int .i64 0) (c3 := .int .i64 0) (c4 := .int .i64 0) (c5 := .int .i64 0) (c6 := .int .i64 0) (c7 := .int .i64 0) (c8 := .int .i64 0) (c9 := .int .i64 0) (v0 := .int .i64 zh) (v1 := .int .i64 zc) (v2 := .int .i64 z1) (v3 := .int .i64 z2) (v4 := .int .i64 z3) (v5 := .int .i64 z4) (v6 := .int .i64 z5) (v7 := .int .i64 z6) (v8 := .int .i64 z7) (v9 := .int .i64 z8)
           haveI := q8.i
           refine ⟨s3, K3, look_keep h s3 bK bT bL M K3 F, HA.out.2.2.1, HA.out.2.2.2.1, .inl ⟨⟨zh, zc, ⟨z1, z2, z3, z4⟩, ⟨z5, z6, z7, z8⟩⟩, m3, rfl, HC.out, HLH.out, HA.out.1, fun q hq => (HA.out.2.2.2.2 q hq).imp id fun h9 => ?_, HA.out.2.1, ?_⟩⟩
           · simp only; omega
           · have := HBJ.out; simp only [if_true]; omega
         | false =>
           go_wp2
           go_returns
           have q8 := store10 (w := putW Tryz.prog TKn M (ikey no) (.agg #[.int .i64 zh, .int .i64 zc, .int .i64 z1, .int .i64 z2, .int .i64 z3, .int .i64 z4, .int .i64 z5, .int .i64 z6, .int .i64 z7, .int .i64 z8]) wr) (b := N9) (e := TSn) (c0 := .int .i64 0) (c1 := .int .i64 0) (c2 := .int .i64 0) (c3 := .int .i64 0) (c4 := .int .i64 0) (c5 := .int .i64 0) (c6 := .int .i64 0) (c7 := .int .i64 0) (c8 := .int .i64 0) (c9 := .int .i64 0) (v0 := .int .i64 zh) (v1 := .int .i64 zc) (v2 := .int .i64 z1) (v3 := .int .i64 z2) (v4 := .int .i64 z3) (v5 := .int .i64 z4) (v6 := .int .i64 z5) (v7 := .int .i64 z6) (v8 := .int .i64 z7) (v9 := .int .i64 z8)
           haveI := q8.i
           have hfr := fr_put (y := ⟨zh, zc, ⟨z1, z2, z3, z4⟩, ⟨z5, z6, z7, z8⟩⟩) (HNK2.out (by simp)) HNO.out.1 HNO.out.2
           refine ⟨s3, kput no ⟨zh, zc, ⟨z1, z2, z3, z4⟩, ⟨z5, z6, z7, z8⟩⟩ K3, ?_, HA.out.2.2.1, HA.out.2.2.2.1, .inl ⟨⟨zh, zc, ⟨z1, z2, z3, z4⟩, ⟨z5, z6, z7, z8⟩⟩, m3, rfl, HC.out, HLH.out, HA.out.1.put HC.out, fun q hq => ?_, HA.out.2.1, ?_⟩⟩
           · exact (keep6 (treeP h s3) (Sl.block bK TKn [.map (some M)]) (Sl.block bT TTp [.pointer (some ⟨h.t, 0, none⟩)]) (Sl.block bL TLf [.func (Fn.func 128) #[] #[.pointer (some ⟨bK, 0, none⟩), .pointer (some ⟨bT, 0, none⟩), .pointer (some ⟨bL, 0, none⟩)]]) (mp ikey M (mput no (.agg #[.int .i64 zh, .int .i64 zc, .int .i64 z1, .int .i64 z2, .int .i64 z3, .int .i64 z4, .int .i64 z5, .int .i64 z6, .int .i64 z7, .int .i64 z8]) (kn K3))) F).eq (by rw [look_open, ← mput_kn]; rfl)
           · rcases kput_mem hq with e | e
             · rw [e]; simp only; exact .inr (Int.le_refl _)
             · exact (HA.out.2.2.2.2 q e).imp id fun h9 => by simp only; omega
           · have := HBJ.out; simp only [Bool.false_eq_true, if_false]; omega
end Go.Proofs.YtfhbmblbidcmmaaGreat
namespace Go.Proofs.YtfhbmblbidcmmaaGreat
set_option linter.unusedSimpArgs false
set_option linter.unusedVariables false
open Go.RowKit Go.Sl Go.Dk Go.Tr
open Go.Lru (ikey)
attribute [local go_sem ↓] Go.wp_at_zero Go.wp_at_succ
attribute [local go_sem] Go.Sl.cell_sat Go.Sl.frozen_sat put_Kn
variable [TopN]
set_option maxRecDepth 100000 in
set_option maxHeartbeats 12800000 in
theorem look_leaf (f : Nat) (ih : ∀ g, f = g + 1 → LookC g) : LookL f true := by
 intro V N h s m K no top bK bT bL M F w hLV hf hno hK hV hR hm hs
 have HLV : Aside (∀ n, V no = some n → n.leaf = true) := hLV
 clear hLV
 by_cases hhit : top = false ∧ ∃ y, kget no K = some y
 · obtain ⟨rfl, y, hy⟩ := hhit
   exact look_hit f V N h s m K no bK bT bL M F w hK hR y hy hs
 have HK : Aside (KnOk V K) := hK
 have HV : Aside (∀ p n, V p = some n → may n = true ∧ p < N) := hV
 have HV1 : Aside (∀ p n, V p = some n → may n = true) := fun p n h => (hV p n h).1
 have HM : Aside (13 * fr N K + 13 * (f + 1) ≤ m ∧ no ≠ 0) := ⟨hm, hno⟩
 have HIH : Aside (∀ g, f = g + 1 → LookC g) := ih
 have HH : Aside (¬ (top = false ∧ ∃ y, kget no K = some y)) := hhit
 obtain ⟨m1, hm1⟩ : ∃ m1, m = m1 + 1 := ⟨m - 1, by omega⟩
 have HM1 : Aside (m = m1 + 1) := hm1
 have hrd := rd_call h V m1 s no
 have HRD : Aside (∀ F w, Sat (treeP h s * F) w → Calls Tryz.prog 129 #[.pointer (some ⟨h.t, 0, none⟩), .int .i64 no] w (RdEnds h V m1 s no F)) := fun F w q => hrd F w (by rw [← hm1]; exact hR) hno q
 obtain ⟨dp, hdp⟩ : ∃ d, (13 : Int) - (f : Int) = d := ⟨_, rfl⟩
 have HD : Aside (dp = 13 - (f : Int) ∧ f ≤ 13) := ⟨hdp.symm, hf⟩
 have hd0 : 0 ≤ dp ∧ dp ≤ 13 := by omega
 rw [hdp]
 obtain ⟨hd1, hd2⟩ := hd0
 have hwd : IntKind.i64.wrap (dp + 1) = dp + 1 := IntWalk.i64_in _ (by omega)
 unfold lookA at hs
 have hs1 : Sat (treeP h s * (Sl.block bK TKn [.map (some M)] * (Sl.block bT TTp [.pointer (some ⟨h.t, 0, none⟩)] * (Sl.block bL TLf [.func (Fn.func 128) #[] #[.pointer (some ⟨bK, 0, none⟩), .pointer (some ⟨bT, 0, none⟩), .pointer (some ⟨bL, 0, none⟩)]] * (mp ikey M (kn K) *  F))))) w := hs.eq (by ac_rfl)
 obtain ⟨z, ok, hz1, hz2, hz3⟩ : ∃ (z : Sn) (ok : Bool), (mget no (kn K)).getD zeroSn = snV z ∧ (mget no (kn K)).isSome = ok ∧ (ok = true → top = true) ∧ (top = false → kget no K = none) := by
  rw [mget_kn]
  cases hkg : kget no K with
  | none => exact ⟨sn0, false, rfl, rfl, fun e => Bool.noConfusion e, fun _ => rfl⟩
  | some y =>
    have ht : top = true := by
     cases top with
     | true => rfl
     | false => exact absurd ⟨rfl, y, hkg⟩ hhit
    exact ⟨y, true, rfl, rfl, fun _ => ht, fun e => by rw [ht] at e; cases e⟩
 have HZ : Aside (top = false → kget no K = none) := hz3.2
 have hz4 := hz3.1
 obtain ⟨yh, yc, ⟨a1, a2, a3, a4⟩, ⟨b1, b2, b3, b4⟩⟩ := z
 haveI := hs1.i
 have hlk : (Instr.lookup TKn (.map (some M)) (.int .i64 no) true).run Tryz.prog (w.alloc (.cells #[.int .i64 0, .int .i64 0, .int .i64 0, .int .i64 0, .int .i64 0, .int .i64 0, .int .i64 0, .int .i64 0, .int .i64 0, .int .i64 0] TSn)) = .ok (.tuple #[.agg #[.int .i64 yh, .int .i64 yc, .int .i64 a1, .int .i64 a2, .int .i64 a3, .int .i64 a4, .int .i64 b1, .int .i64 b2, .int .i64 b3, .int .i64 b4], .bool ok]) (w.alloc (.cells #[.int .i64 0, .int .i64 0, .int .i64 0, .int .i64 0, .int .i64 0, .int .i64 0, .int .i64 0, .int .i64 0, .int .i64 0, .int .i64 0] TSn)) := by
  rw [look_Kn, hz1, hz2]
  rfl
 clear hz1 hz2 hz3 hK hV hR hm hs hhit ih hrd hno hf hm1 hdp HH
 go_enter Tryz.func128, Tryz.ntmps128
 go_upto_region 2 with (fail)
 go_cut [30] (fun t30 wx => t30 = .bool false ∧ Sat (Sl.block w.heap.size TSn [.int .i64 0, .int .i64 0, .int .i64 0, .int .i64 0, .int .i64 0, .int .i64 0, .int .i64 0, .int .i64 0, .int .i64 0, .int .i64 0] * (treeP h s * (Sl.block bK TKn [.map (some M)] * (Sl.block bT TTp [.pointer (some ⟨h.t, 0, none⟩)] * (Sl.block bL TLf [.func (Fn.func 128) #[] #[.pointer (some ⟨bK, 0, none⟩), .pointer (some ⟨bT, 0, none⟩), .pointer (some ⟨bL, 0, none⟩)]] * (mp ikey M (kn K) *  F)))))) wx)
 case first =>
  cases ok with
  | false =>
    go_wp2_with fail
    go_meet
    exact ⟨rfl, satI_weak (C := Sl.block (w.heap.size + 1) TSn [.int .i64 yh, .int .i64 yc, .int .i64 a1, .int .i64 a2, .int .i64 a3, .int .i64 a4, .int .i64 b1, .int .i64 b2, .int .i64 b3, .int .i64 b4]) (by ac_rfl)⟩
  | true =>
    obtain rfl := hz4 rfl
    go_wp2_with fail
    go_meet
    exact ⟨rfl, satI_weak (C := Sl.block (w.heap.size + 1) TSn [.int .i64 yh, .int .i64 yc, .int .i64 a1, .int .i64 a2, .int .i64 a3, .int .i64 a4, .int .i64 b1, .int .i64 b2, .int .i64 b3, .int .i64 b4]) (by ac_rfl)⟩
 case rest =>
  obtain ⟨rfl, q2⟩ := hcut
  obtain ⟨N9, hN9⟩ : ∃ z, w.heap.size = z := ⟨_, rfl⟩
  rw [hN9] at q2 ⊢
  clear hs1 this hlk hN9 hz4
  haveI := q2.i
  go_wp2_with fail
  with_reducible refine Calls.mono (HRD.out _ _ (takeI (treeP h s))) ?_
  rintro e w1 ⟨s2, hR2, hsp2, hd2', hcase⟩
  have HS2 : Aside (Rdy V m1 s2 ∧ s2.sp = s.sp ∧ s2.ck.d = s.ck.d) := ⟨hR2, hsp2, hd2'⟩
  clear hR2 hsp2 hd2' q2
  rcases hcase with ⟨n, v1, B1, hvn, rfl, hN, q3⟩ | ⟨hvn, rfl, q3⟩
  rotate_left
  · haveI := q3.i
    exact ⟨rfl, s2, K, look_keep h s2 bK bT bL M K F, HS2.out.2.1, HS2.out.2.2, .inr ⟨rfl, chk_gone hvn, HS2.out.1.less (Nat.zero_le _)⟩⟩
  have hmn := HV1.out no n hvn
  have HVN : Aside (V no = some n) := hvn
  have HMN : Aside (may n = true) := hmn
  have hmany := fun F w q => many_any n v1 B1 F w hN q (by have := (SumOk.of hmn).e; omega) (by have := (SumOk.of hmn).k; omega)
  obtain ⟨vE, vK, rfl, hE, hKd⟩ := hN
  obtain ⟨aE, cE, rfl, hE1, hE2⟩ := hE.v
  obtain ⟨aK, cK, rfl, hK1, hK2⟩ := ReadsR.v hKd
  obtain ⟨le, hle⟩ : ∃ k, n.ents.length = k := ⟨_, rfl⟩
  obtain ⟨lk, hlk⟩ : ∃ k, n.kids.length = k := ⟨_, rfl⟩
  obtain ⟨lf, hlf⟩ : ∃ k, n.leaf = k := ⟨_, rfl⟩
  have HE : Aside (ReadsE B1 (.slice aE le cE) n.ents ∧ n.ents.length = le) := ⟨by rw [← hle]; exact hE, hle⟩
  have HKD : Aside (ReadsK B1 (.slice aK n.kids.length cK) n.kids ∧ n.kids.length = lk) := ⟨hKd, hlk⟩
  have HLF : Aside (n.leaf = lf) := hlf
  have hle1 : le ≤ 12 := by have := (SumOk.of hmn).e; omega
  have hlk1 : lk ≤ 12 := by have := (SumOk.of hmn).k; omega
  rw [hle, hlk, hlf] at hmany
  rw [hle] at hE1 ⊢
  rw [hlk] at hK1 ⊢
  rw [hlf]
  have HMA : Aside (∀ (F : Assn) (w : World), Sat (B1 * F) w → Calls Tryz.prog 130 #[.agg #[.bool lf, .slice aE le cE, .slice aK lk cK]] w fun e w' => e = .returned (.int .i64 (many n)) ∧ Sat (B1 * F) w') := hmany
  obtain ⟨mn, hmm⟩ : ∃ z : Nat, many n = z := ⟨_, rfl⟩
  rw [hmm] at HMA
  have HMM : Aside (many n = mn) := hmm
  haveI := q3.i
  clear hvn hmn hmany hE hKd hle hlk hlf hmm
  by_cases hf0 : f = 0
  · have hdp : dp = 13 := by have := HD.out.1; omega
    have HC0 : Aside (chk V f no top = none) := (by rw [hf0]; rfl : _ = _)
    have h12 : decide ((12 : Int) < dp) = true := decide_eq_true (by omega)
    have h12' : (12 : Int) < dp := by omega
    clear hdp hf0
    go_wp2
    exact ⟨rfl, s2, K, look_keep h s2 bK bT bL M K F, HS2.out.2.1, HS2.out.2.2, .inr ⟨rfl, HC0.out, HS2.out.1.less (Nat.zero_le _)⟩⟩
  obtain ⟨g, hg⟩ : ∃ g, f = g + 1 := ⟨f - 1, by omega⟩
  have HG : Aside (f = g + 1) := hg
  have h12 : decide ((12 : Int) < dp) = false := decide_eq_false (by have := HD.out.1; omega)
  have h12' : ¬ (12 : Int) < dp := by have := HD.out.1; omega
  obtain ⟨fw, hfw⟩ : ∃ b, decide (top = false ∧ mn < 4) = b := ⟨_, rfl⟩
  have HFW : Aside (decide (top = false ∧ mn < 4) = fw) := hfw
  clear hfw hg hf0
  go_upto_region 5 with (fail)
  go_cut [45] (fun t45 wx => t45 = .bool fw ∧ Sat (Sl.block w1.heap.size TNd [.bool lf, .slice aE le cE, .slice aK lk cK] * (B1 * (Sl.block N9 TSn [.int .i64 0, .int .i64 0, .int .i64 0, .int .i64 0, .int .i64 0, .int .i64 0, .int .i64 0, .int .i64 0, .int .i64 0, .int .i64 0] * (treeP h s2 * (Sl.block bK TKn [.map (some M)] * (Sl.block bT TTp [.pointer (some ⟨h.t, 0, none⟩)] * (Sl.block bL TLf [.func (Fn.func 128) #[] #[.pointer (some ⟨bK, 0, none⟩), .pointer (some ⟨bT, 0, none⟩), .pointer (some ⟨bL, 0, none⟩)]] * (mp ikey M (kn K) *  F)))))))) wx)
  case first =>
   cases top with
   | true =>
     have hz : fw = false := by rw [← HFW.out]; simp
     subst hz
     go_wp2_with fail
     go_meet
     exact ⟨rfl, satI_eq (by ac_rfl)⟩
   | false =>
     by_cases h4 : mn < 4
     · have hz : fw = true := by rw [← HFW.out]; simp [h4]
       subst hz
       have hf4 : (mn : Int) < 4 := by omega
       have hf4d : decide ((mn : Int) < 4) = true := decide_eq_true hf4
       go_wp2_with (go_at_call 130; with_reducible refine Calls.mono (HMA.out _ _ (takeI B1)) ?_; rintro e w4 ⟨rfl, q4⟩; haveI := q4.i)
       go_meet
       exact ⟨rfl, satI_eq (by ac_rfl)⟩
     · have hz : fw = false := by rw [← HFW.out]; simp [h4]
       subst hz
       have hf4 : ¬ (mn : Int) < 4 := by omega
       have hf4d : decide ((mn : Int) < 4) = false := decide_eq_false hf4
       go_wp2_with (go_at_call 130; with_reducible refine Calls.mono (HMA.out _ _ (takeI B1)) ?_; rintro e w4 ⟨rfl, q4⟩; haveI := q4.i)
       go_meet
       exact ⟨rfl, satI_eq (by ac_rfl)⟩
  case rest =>
   obtain ⟨rfl, q5⟩ := hcut
   obtain ⟨N12, hN12⟩ : ∃ z, w1.heap.size = z := ⟨_, rfl⟩
   rw [hN12] at q5 ⊢
   clear q3 this hN12
   haveI := q5.i
   cases fw with
   | true =>
     have HCN : Aside (chk V f no top = none) := (by
      have h9 := of_decide_eq_true HFW.out
      rw [HG.out]
      exact chk_few HVN.out ⟨h9.1, by rw [HMM.out]; exact h9.2⟩ : _ = _)
     go_wp2
     exact ⟨rfl, s2, K, look_keep h s2 bK bT bL M K F, HS2.out.2.1, HS2.out.2.2, .inr ⟨rfl, HCN.out, HS2.out.1.less (Nat.zero_le _)⟩⟩
   | false =>
     have H4 : Aside (¬ (top = false ∧ many n < 4)) := (by
      have h9 := of_decide_eq_false HFW.out
      rw [HMM.out]
      exact h9 : ¬ _)
     clear HMA HFW
     -- the leaf's own
     obtain ⟨x0, hx0⟩ : ∃ x, (if lf then (⟨0, n.ents.length, n.ents.headD e0, n.ents.getLastD e0⟩ : Sn) else sn0) = x := ⟨_, rfl⟩
     have HX0 : Aside ((if lf then (⟨0, n.ents.length, n.ents.headD e0, n.ents.getLastD e0⟩ : Sn) else sn0) = x0) := hx0
     clear hx0
     have HX1 : Aside (lf = true → Joined n.ents → Chk V no top x0) := (fun h1 h2 => by
      refine ⟨g + 1, ?_⟩
      rw [chk_leaf HVN.out (HLF.out.trans h1) H4.out, if_neg (by rw [join_len.2 h2]; simp), ← HX0.out, if_pos h1] : _ → _ → _)
     obtain ⟨N13, hN13⟩ : ∃ z, wc.heap.size = z := ⟨_, rfl⟩
     have HN13 : Aside (wc.heap.size = N13) := hN13
     clear hN13
     go_upto_if 49 with (fail)
     go_cut [49] (fun t49 wx => (lf = true → Joined n.ents) ∧ Sat (Sl.block wc.heap.size TSn (snC x0) * (Sl.block N12 TNd [.bool lf, .slice aE le cE, .slice aK lk cK] * (B1 * (Sl.block N9 TSn [.int .i64 0, .int .i64 0, .int .i64 0, .int .i64 0, .int .i64 0, .int .i64 0, .int .i64 0, .int .i64 0, .int .i64 0, .int .i64 0] * (treeP h s2 * (Sl.block bK TKn [.map (some M)] * (Sl.block bT TTp [.pointer (some ⟨h.t, 0, none⟩)] * (Sl.block bL TLf [.func (Fn.func 128) #[] #[.pointer (some ⟨bK, 0, none⟩), .pointer (some ⟨bT, 0, none⟩), .pointer (some ⟨bL, 0, none⟩)]] * (mp ikey M (kn K) *  F))))))))) wx)
     case first =>
      cases lf with
      | false =>
        have h9 := HLV.out n HVN.out
        rw [HLF.out] at h9
        cases h9
      | true =>
        have hmf := may_leaf HMN.out HLF.out
        have hle0 : 1 ≤ le := by have := hmf.2.2.1; rw [HE.out.2] at this; exact this
        have HJ : Aside (∀ (b : Nat) (F : Assn) (w : World), Sat (Sl.block b 29 [.slice aE le cE] * (B1 * F)) w → Calls Tryz.prog 80 #[.slice (some ⟨b, 0, none⟩) 1 1] w fun e w' => ∃ a c, e = .returned (.slice a (join n.ents).length c) ∧ Sat (rw TEn 4 (.slice a (join n.ents).length c) (ecs (join n.ents)) * (Sl.block b 29 [.slice aE le cE] * (B1 * F))) w') := fun b F w q => by
         have h9 := join_any [n.ents] _ _ F w (readsLL_one b HE.out.1) (q.eq (sep_assoc _ _ _).symm) (by simp) (by simp; have := hmf.2.2.2.1; omega) (by simpa using hmf.2.1) (by have := hmf.2.2.2.2; simp; omega)
         rw [List.flatten_singleton] at h9
         exact h9.mono fun e w' ⟨a, c, h1, h2⟩ => ⟨a, c, h1, h2.eq (by ac_rfl)⟩
        obtain ⟨jl, hjl⟩ : ∃ z, (join n.ents).length = z := ⟨_, rfl⟩
        simp only [hjl] at HJ
        have HJL : Aside (jl = le → Joined n.ents) := (fun e => join_len.1 (by rw [hjl, e, HE.out.2]) : _ → _)
        have HJN : Aside (jl ≠ le → chk V f no top = none) := (fun e => by rw [HG.out, chk_leaf HVN.out HLF.out H4.out, if_pos (by rw [hjl, HE.out.2]; exact e)] : _ → _)
        have hle3 : IntKind.i64.wrap ((le : Int) - 1) = ((le - 1 : Nat) : Int) := (IntWalk.i64_in _ (by omega)).trans (by omega)
        obtain ⟨lm, hlm⟩ : ∃ z, le - 1 = z := ⟨_, rfl⟩
        rw [hlm] at hle3
        obtain ⟨x, hx⟩ : ∃ x, n.ents[0]? = some x := ⟨_, List.getElem?_eq_getElem (by rw [HE.out.2]; omega)⟩
        obtain ⟨y, hy⟩ : ∃ x, n.ents[lm]? = some x := ⟨_, List.getElem?_eq_getElem (by rw [HE.out.2]; omega)⟩
        have HXY : Aside (n.ents.headD e0 = x ∧ n.ents.getLastD e0 = y) := ⟨by cases hq : n.ents with | nil => rw [hq] at hx; simp at hx | cons a l => rw [hq] at hx; simpa using hx, by rw [List.getLastD_eq_getLast?, List.getLast?_eq_getElem?, HE.out.2, hlm, hy]; rfl⟩
        have hE9 : ReadsE B1 (.slice aE n.ents.length cE) n.ents := by rw [HE.out.2]; exact HE.out.1
        obtain ⟨eb, eo, e8, r1, r2, r3, r4⟩ := readsE_at hE9 hx
        obtain ⟨eb', eo', e7, p1, p2, p3, p4⟩ := readsE_at hE9 hy
        rw [e8] at e7
        cases e7
        subst e8
        have HX2 : Aside (x0 = ⟨0, le, x, y⟩) := (by rw [← HX0.out, if_pos rfl, HXY.out.1, HXY.out.2, HE.out.2] : _ = _)
        obtain ⟨x1, x2, x3, x4⟩ := x
        obtain ⟨y1, y2, y3, y4⟩ := y
        simp only at r1 r2 r3 r4 p1 p2 p3 p4
        have hlm0 : (lm : Int) < le := by omega
        have hle4 : (0 : Int) < le := by omega
        clear hmf hjl hx hy hE9 hlm
        go_upto_region 9 with (fail)
        go_region_held3 (fun w' => w'.cell? ⟨N12, 1, none⟩ = some (.slice (some ⟨eb, eo, none⟩) le cE)) (exact (cell_sat _ _ _)) (first
         | (go_at_call 80; with_reducible refine Calls.mono (HJ.out _ _ _ (takeI2 (Sl.block _ 29 [.slice (some ⟨eb, eo, none⟩) le cE]) B1)) ?_; rintro e w7 ⟨a7, c7, rfl, q7⟩; haveI := q7.i))
        all_goals
         haveI := q7.i
         cases e9 : ((jl : Int) != (le : Int)) with
         | true =>
           have HCN : Aside (chk V f no top = none) := (by
            refine HJN.out fun e => ?_
            rw [e] at e9
            simp at e9 : _ = _)
           go_wp2
           exact ⟨rfl, s2, K, look_keep h s2 bK bT bL M K F, HS2.out.2.1, HS2.out.2.2, .inr ⟨rfl, HCN.out, HS2.out.1.less (Nat.zero_le _)⟩⟩
         | false =>
           have HJO : Aside (Joined n.ents) := (by
            have c9 : (jl : Int) = le := by simpa using e9
            exact HJL.out (by omega) : Joined _)
           go_upto_region 11 with (fail)
           go_region
           go_wp2_with fail
           go_meet
           refine ⟨fun _ => HJO.out, ?_⟩
           rw [HX2.out]
           have q8 := store10 (w := w7) (b := wc.heap.size) (e := TSn) (c0 := .int .i64 0) (c1 := .int .i64 0) (c2 := .int .i64 0) (c3 := .int .i64 0) (c4 := .int .i64 0) (c5 := .int .i64 0) (c6 := .int .i64 0) (c7 := .int .i64 0) (c8 := .int .i64 0) (c9 := .int .i64 0) (v0 := .int .i64 0) (v1 := .int .i64 le) (v2 := .int .i64 x1) (v3 := .int .i64 x2) (v4 := .int .i64 x3) (v5 := .int .i64 x4) (v6 := .int .i64 y1) (v7 := .int .i64 y2) (v8 := .int .i64 y3) (v9 := .int .i64 y4)
           haveI := q8.drew.i
           exact satI_weak (C := rw TEn 4 (.slice a7 jl c7) (ecs (join n.ents)) * Sl.block (wc.heap.size + 1) 29 [.slice (some ⟨eb, eo, none⟩) le cE]) (by unfold snC erow; ac_rfl)
     case rest =>
      obtain ⟨hjo, q6⟩ := hcut
      have HJO : Aside (lf = true → Joined n.ents) := hjo
      rw [HN13.out] at q6 ⊢
      clear q5 this hjo HN13
      obtain ⟨xh, xc, ⟨x1, x2, x3, x4⟩, ⟨x5, x6, x7, x8⟩⟩ := x0
      unfold snC erow at q6
      simp only [List.cons_append, List.nil_append] at q6
      haveI := q6.i
      go_wp2_with fail
      go_loopg [80] lk (fun gg t80 wr => ∃ (j m3 : Nat) (s3 : TS) (K3 : List (Int × Sn)) (x : Sn), t80 = .int .i64 j ∧ j ≤ lk ∧ Aside (LkI V N f g n lf m1 s K ⟨xh, xc, ⟨x1, x2, x3, x4⟩, ⟨x5, x6, x7, x8⟩⟩ gg lk j m3 s3 K3 x) ∧
       Sat (Sl.block N13 TSn (snC x) * (Sl.block N12 TNd [.bool lf, .slice aE le cE, .slice aK lk cK] * (B1 * (Sl.block N9 TSn [.int .i64 0, .int .i64 0, .int .i64 0, .int .i64 0, .int .i64 0, .int .i64 0, .int .i64 0, .int .i64 0, .int .i64 0, .int .i64 0] * (treeP h s3 * (Sl.block bK TKn [.map (some M)] * (Sl.block bT TTp [.pointer (some ⟨h.t, 0, none⟩)] * (Sl.block bL TLf [.func (Fn.func 128) #[] #[.pointer (some ⟨bK, 0, none⟩), .pointer (some ⟨bT, 0, none⟩), .pointer (some ⟨bL, 0, none⟩)]] * (mp ikey M (kn K3) *  F))))))))) wr)
      case atStart =>
       refine ⟨0, m1, s2, K, _, rfl, by omega, ⟨rfl, HS2.out.1, HS2.out.2.1, HS2.out.2.2, HK.out, by omega, fun e => ?_, fun _ => rfl, fun q hq => .inl hq, fun _ => rfl, ?_, ?_, fun e => by omega⟩, q6⟩
       · rw [← HX0.out, e]
         exact Run.zero g n
       · rw [← HX0.out]
         cases lf with
         | true => simp only [if_true]; have := HE.out.2; omega
         | false => exact ⟨by simp [sn0], by simp [sn0]⟩
       · rw [← HX0.out]
         cases lf with
         | true => exact ⟨by simp, by simp⟩
         | false => exact ⟨by simp [sn0], by simp [sn0]⟩
      case round =>
       obtain ⟨j, m3, s3, K3, x, rfl, hj, A, q7⟩ := hrel
       clear q6
       obtain ⟨zh, zc, ⟨z1, z2, z3, z4⟩, ⟨z5, z6, z7, z8⟩⟩ := x
       unfold snC erow at q7
       simp only [List.cons_append, List.nil_append] at q7
       haveI := q7.i
       by_cases hlt : j < lk
       · exfalso
         have h7 := (may_leaf HMN.out (HLV.out n HVN.out)).1
         have h9 := HKD.out.2
         rw [h7] at h9
         simp at h9
         omega
       · have hlt' : ¬ (j : Int) < lk := by omega
         obtain rfl : j = lk := by omega
         have HC : Aside (Chk V no top ⟨zh, zc, ⟨z1, z2, z3, z4⟩, ⟨z5, z6, z7, z8⟩⟩) := (by
          cases lf with
          | true =>
            have h9 := (may_leaf HMN.out HLF.out).1
            have h8 := HKD.out.2
            rw [h9] at h8
            rw [A.out.zero h8.symm]
            exact HX1.out rfl (HJO.out rfl)
          | false =>
            have h9 := A.out.run rfl
            rw [← HKD.out.2] at h9
            exact h9.done HVN.out HLF.out H4.out : Chk _ _ _ _)
         have hno0 : 0 ≤ no ∧ no < N := ⟨by
          have h9 := (HV.out no n HVN.out).2
          rcases Int.lt_or_le no 0 with h8 | h8
          · have : V no = none := A.out.rdy.out (by omega)
            rw [HVN.out] at this
            cases this
          · exact h8, (HV.out no n HVN.out).2⟩
         have HNO : Aside (0 ≤ no ∧ no < N) := hno0
         clear hno0
         have HLH : Aside (K = [] → zh < f) := (fun e => by
          by_cases c5 : j = 0
          · have h9 := A.out.zero c5
            have hG := HG.out
            have h7 := HX0.out
            rw [← h9] at h7
            cases lf with
            | true =>
              simp only [if_true] at h7
              have h6 := congrArg Sn.h h7
              simp only at h6
              omega
            | false =>
              have h6 := congrArg Sn.h h7
              have : (if false = true then (⟨0, n.ents.length, n.ents.headD e0, n.ents.getLastD e0⟩ : Sn) else sn0).h = 0 := rfl
              rw [this] at h6
              simp only at h6
              omega
          · exact (A.out.low (by omega)).2 e : _ → _)
         have HNK2 : Aside (top = false → kget no K3 = none) := (fun e => by
          cases hq : kget no K3 with
          | none => rfl
          | some z =>
            exfalso
            have h9 := kget_mem hq
            rcases A.out.newk _ h9 with h8 | h8
            · have h7 := HZ.out e
              have : ∀ (K : List (Int × Sn)), (no, z) ∈ K → kget no K ≠ none := fun K hK h6 => by
               have h5 := hasK_get (i := no.toNat) h6 (by have := HNO.out.1; omega)
               unfold hasK at h5
               rw [List.any_eq_false] at h5
               have := h5 _ hK
               simp at this
               have := HNO.out.1
               omega
              exact this K h8 h7
            · have h6 := A.out.kn.get hq
              obtain ⟨q1, q2⟩ := id HC.out
              rw [e] at q2
              have h5 := h6.of HV1.out q2
              rw [← h5] at h8
              simp only at h8
              omega : _ → _)
         have HBJ : Aside (m1 + 13 * fr N K3 ≤ m3 + j + 13 * fr N K ∧ m = m1 + 1 ∧ j ≤ 12) := ⟨A.out.bud, HM1.out, hlk1⟩
         have HA : Aside (KnOk V K3 ∧ Rdy V m3 s3 ∧ s3.sp = s.sp ∧ s3.ck.d = s.ck.d ∧ ∀ q ∈ K3, q ∈ K ∨ q.2.h + 1 ≤ zh) := ⟨A.out.kn, A.out.rdy, A.out.sp, A.out.d, A.out.newk⟩
         clear A
         cases top with
         | true =>
           go_wp2
           go_returns
           have q8 := store10 (w := wr) (b := N9) (e := TSn) (c0 := .int .i64 0) (c1 := .int .i64 0) (c2 := .int .i64 0) (c3 := .int .i64 0) (c4 := .int .i64 0) (c5 := .int .i64 0) (c6 := .int .i64 0) (c7 := .int .i64 0) (c8 := .int .i64 0) (c9 := .int .i64 0) (v0 := .int .i64 zh) (v1 := .int .i64 zc) (v2 := .int .i64 z1) (v3 := .int .i64 z2) (v4 := .int .i64 z3) (v5 := .int .i64 z4) (v6 := .int .i64 z5) (v7 := .int .i64 z6) (v8 := .int .i64 z7) (v9 := .int .i64 z8)
           haveI := q8.i
           refine ⟨s3, K3, look_keep h s3 bK bT bL M K3 F, HA.out.2.2.1, HA.out.2.2.2.1, .inl ⟨⟨zh, zc, ⟨z1, z2, z3, z4⟩, ⟨z5, z6, z7, z8⟩⟩, m3, rfl, HC.out, HLH.out, HA.out.1, fun q hq => (HA.out.2.2.2.2 q hq).imp id fun h9 => ?_, HA.out.2.1, ?_⟩⟩
           · simp only; omega
           · have := HBJ.out; simp only [if_true]; omega
         | false =>
           go_wp2
           go_returns
           have q8 := store10 (w := putW Tryz.prog TKn M (ikey no) (.agg #[.int .i64 zh, .int .i64 zc, .int .i64 z1, .int .i64 z2, .int .i64 z3, .int .i64 z4, .int .i64 z5, .int .i64 z6, .int .i64 z7, .int .i64 z8]) wr) (b := N9) (e := TSn) (c0 := .int .i64 0) (c1 := .int .i64 0) (c2 := .int .i64 0) (c3 := .int .i64 0) (c4 := .int .i64 0) (c5 := .int .i64 0) (c6 := .int .i64 0) (c7 := .int .i64 0) (c8 := .int .i64 0) (c9 := .int .i64 0) (v0 := .int .i64 zh) (v1 := .int .i64 zc) (v2 := .int .i64 z1) (v3 := .int .i64 z2) (v4 := .int .i64 z3) (v5 := .int .i64 z4) (v6 := .int .i64 z5) (v7 := .int .i64 z6) (v8 := .int .i64 z7) (v9 := .int .i64 z8)
           haveI := q8.i
           have hfr := fr_put (y := ⟨zh, zc, ⟨z1, z2, z3, z4⟩, ⟨z5, z6, z7, z8⟩⟩) (HNK2.out (by simp)) HNO.out.1 HNO.out.2
           refine ⟨s3, kput no ⟨zh, zc, ⟨z1, z2, z3, z4⟩, ⟨z5, z6, z7, z8⟩⟩ K3, ?_, HA.out.2.2.1, HA.out.2.2.2.1, .inl ⟨⟨zh, zc, ⟨z1, z2, z3, z4⟩, ⟨z5, z6, z7, z8⟩⟩, m3, rfl, HC.out, HLH.out, HA.out.1.put HC.out, fun q hq => ?_, HA.out.2.1, ?_⟩⟩
           · exact (keep6 (treeP h s3) (Sl.block bK TKn [.map (some M)]) (Sl.block bT TTp [.pointer (some ⟨h.t, 0, none⟩)]) (Sl.block bL TLf [.func (Fn.func 128) #[] #[.pointer (some ⟨bK, 0, none⟩), .pointer (some ⟨bT, 0, none⟩), .pointer (some ⟨bL, 0, none⟩)]]) (mp ikey M (mput no (.agg #[.int .i64 zh, .int .i64 zc, .int .i64 z1, .int .i64 z2, .int .i64 z3, .int .i64 z4, .int .i64 z5, .int .i64 z6, .int .i64 z7, .int .i64 z8]) (kn K3))) F).eq (by rw [look_open, ← mput_kn]; rfl)
           · rcases kput_mem hq with e | e
             · rw [e]; simp only; exact .inr (Int.le_refl _)
             · exact (HA.out.2.2.2.2 q e).imp id fun h9 => by simp only; omega
           · have := HBJ.out; simp only [Bool.false_eq_true, if_false]; omega
end Go.Proofs.YtfhbmblbidcmmaaGreat
