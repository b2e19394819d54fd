/-
  Of all versions the pages that are told are just those of their trees in the file in the form of the document, and a root that is none is refused. No condition. (part 8)
-/
import Derived.Test.YtfhbmblbidcmmaaGreatVa7
import Derived.Deep.DeepCutAuto
import Derived.Outline
import Derived.Deep.RegionLaw
import Derived.Test.YtfhbmblbidcmmaaGreatVa1
import Derived.Test.YtfhbmblbidcmmaaGreatProg
import Derived.WalkLawsBesides
import Derived.Deep.QuietTactic
import Derived.BigQuiet
set_option linter.unusedSimpArgs false
set_option linter.unusedVariables false
namespace Go.Proofs.YtfhbmblbidcmmaaGreat
set_option linter.unusedSimpArgs false
set_option linter.unusedVariables false
open Go.RowKit Go.Sl Go.Dk
attribute [local go_sem ↓] Go.wp_at_zero Go.wp_at_succ
theorem Reads.from {B : Assn} {a : Option Addr} {n c : Nat} {l : List UInt8} (h : Reads B (.slice a n c) l) (lo : Nat) (h1 : lo ≤ n) : Reads B (.slice (cutA a c lo 1) (n - lo) (c - lo)) (l.drop lo) := by
 intro F w hs
 have hb := h F w hs
 obtain ⟨hn, _⟩ := hb.n
 have := hb.cut lo n h1 (Nat.le_refl _)
 rw [List.take_of_length_le (by simp; omega)] at this
 exact this
theorem Reads.to {B : Assn} {a : Option Addr} {n c : Nat} {l : List UInt8} (h : Reads B (.slice a n c) l) (hi : Nat) (h1 : hi ≤ n) : Reads B (.slice (cutA a c 0 1) hi c) (l.take hi) := by
 intro F w hs
 have := (h F w hs).cut 0 hi (by omega) h1
 simpa using this
def SectRel (nm : ByteArray) (k : Nat) (b : List UInt8) (j : Nat) (qs : List Np) : Prop := pents qs ++ sect nm (k + j) (b.drop j) = sect nm k b
theorem SectRel.zero (nm : ByteArray) (k : Nat) (b : List UInt8) : SectRel nm k b 0 [] := by simp [SectRel, pents]
theorem SectRel.step {nm : ByteArray} {k : Nat} {b : List UInt8} {j : Nat} {qs : List Np} (h : SectRel nm k b j qs) (hj : j < b.length) (v : Value) :
 SectRel nm k b (j + Dk.part (k + j) (b.length - j)) (qs ++ [⟨v, ⟨nm, k + j, some ((b.drop j).take (Dk.part (k + j) (b.length - j)))⟩⟩]) := by
 unfold SectRel at *
 rw [← h, sect_cons nm (k + j) (b.drop j) (by simp; omega)]
 simp [pents, Nat.add_assoc, List.drop_drop]
theorem SectRel.done {nm : ByteArray} {k : Nat} {b : List UInt8} {j : Nat} {qs : List Np} (h : SectRel nm k b j qs) (hj : b.length ≤ j) : pents qs = sect nm k b := by
 unfold SectRel at h
 rw [← h, List.drop_of_length_le hj, sect_nil, List.append_nil]
theorem pieceA_new (v : Value) (nm : ByteArray) (k : Nat) (l : List UInt8) (hv : notNil v) : pieceA ⟨v, ⟨nm, k, some l⟩⟩ = rw TB 1 v (bys l) := by
 show pur (notNil v) * rw TB 1 v (bys l) = _
 have : pur (notNil v) = 1 := by
  funext h
  apply propext
  exact ⟨fun h => h.2, fun h => ⟨hv, h⟩⟩
 rw [this, one_sep]
theorem rw_notNil {e s : Nat} {a : Option Addr} {n c : Nat} {xs : List Value} {F : Assn} {w : World} (hs : Sat (rw e s (.slice a n c) xs * F) w) (ha : a ≠ none) : notNil (.slice a n c) := by
 rcases hs.rw_open with ⟨h1, _⟩ | ⟨g, n', cap', sp, h1, _⟩
 · cases h1; exact absurd rfl ha
 · cases h1; exact ⟨g, _, _, rfl⟩
set_option maxRecDepth 100000 in
set_option maxHeartbeats 4000000 in
theorem wrote_found (D M : Nat) (l1 : List Nf) (x : Nf) (l2 : List Nf) (pv : Value) (ps : List Np) (d : Dk) (k : Nat) (v : Value) (b : List UInt8) (B F : Assn) (w : World) (hB : Reads B v b) (hs : Sat (diskA D M (l1 ++ x :: l2) pv ps d * (B * F)) w)
 (hl1 : ∀ m ∈ l1, m.nm ≠ x.nm) (hf : fents (l1 ++ x :: l2) = d.files) (hlen : lens (l1 ++ x :: l2) ≤ 4611686018427387904)
 (hsz : x.nm.size ≤ 9223372036854775807) (hn : named x.nm = true) (hd : d.down = false) (hk : k ≤ x.f.now.length) (hb0 : 0 < b.length) (hb : b.length ≤ 1099511627776) (hx : x.f.now.length ≤ 1099511627776) (hp : ps.length ≤ 1099511627776)
 (hfit : d.fits (some x.f) (max (x.f.now.length : Nat) (k + b.length : Nat)) = 0) (hst : d.stop = false) (h1 : -4611686018427387904 ≤ d.left) (h1' : d.left ≤ 9223372036854775807) (h2 : 0 ≤ d.changes) (h3 : d.changes ≤ 4611686018427387904) :
 Calls Tryz.prog 147 #[.pointer (some ⟨D, 0, none⟩), .string x.nm, .int .i64 k, v] w fun e w' => ∃ nv pv' qs, e = .returned (.int .i64 0) ∧ pents qs = sect x.nm k b ∧
  Sat (fileA { x with f := { x.f with now := laid x.f.now k b }, nv := nv } * (coreD D M pv' d.ticked * (pendA pv' (ps ++ qs) * (mp skey M ((l1 ++ x :: l2).map kvF) * (filesA l1 * (filesA l2 * (B * F))))))) w' := by
 obtain ⟨i0, E⟩ := elemB
 obtain ⟨i1, E1⟩ := elemP
 obtain ⟨xa, xc, rfl, hxc, hxm⟩ := (hB _ _ (hs.take B)).len
 have hmay := may_found D M l1 x l2 pv ps d false (B * F) w hs hl1 hsz hn hd
 have hfits : ∀ q : Int, q = max ((x.f.now.length : Nat) : Int) ((k + b.length : Nat) : Int) → Calls Tryz.prog 69 #[.pointer (some ⟨D, 0, none⟩), .pointer (some ⟨x.b, 0, none⟩), .int .i64 q] w fun e w' => e = .returned (.int .i64 0) ∧ Sat (diskA D M (l1 ++ x :: l2) pv ps d * (B * F)) w' := by
  rintro q rfl
  have := fits_some D M l1 x l2 pv ps d (max (x.f.now.length : Nat) (k + b.length : Nat)) (B * F) w hs hf hlen (by omega) (by omega)
  rw [hfit] at this
  exact this
 have HF : Aside (∀ q : Int, q = max ((x.f.now.length : Nat) : Int) ((k + b.length : Nat) : Int) → Calls Tryz.prog 69 #[.pointer (some ⟨D, 0, none⟩), .pointer (some ⟨x.b, 0, none⟩), .int .i64 q] w fun e w' => e = .returned (.int .i64 0) ∧ Sat (diskA D M (l1 ++ x :: l2) pv ps d * (B * F)) w') := hfits
 clear hfits
 have c0 : w.cell? ⟨x.b, 0, none⟩ = some x.nv := by rw [disk_file] at hs; unfold fileA at hs; exact hs.c x.b 0
 obtain ⟨va, vc, hv, hv1, hv2⟩ : ∃ a c, x.nv = .slice a x.f.now.length c ∧ x.f.now.length ≤ c ∧ c ≤ 9223372036854775807 := by rw [disk_file] at hs; unfold fileA at hs; exact rw_vb (hs.take (rw TB 1 x.nv (bys x.f.now)))
 rw [hv] at c0
 have HV : Aside (x.nv = .slice va x.f.now.length vc) := hv
 have hb0' : ((b.length : Int) == 0) = false := by rw [beq_eq_false_iff_ne]; omega
 have hkk : ¬ (x.f.now.length : Int) < k := by omega
 clear hs hf hlen hfit hn hv
 go_enter Tryz.func147, Tryz.ntmps147
 go_wp2_with fail
 refine hmay.mono ?_
 rintro e w' ⟨rfl, rfl⟩
 go_upto_region 11 with (fail)
 go_cut [10] (fun t10 wx => t10 = .int .i64 0 ∧ Sat (diskA D M (l1 ++ x :: l2) pv ps d * (B * F)) wx)
 case first =>
  go_wp2_with (go_at_call 69; refine (HF.out _ ?_).mono ?_; omega; rintro e w1 ⟨rfl, hs1⟩)
  all_goals
   go_meet
   exact ⟨rfl, hs1⟩
 case rest =>
  obtain ⟨rfl, hs1⟩ := hcut
  clear HF hmay c0
  have hch := change_go D M pv d _ _ (hs1.eq (by rw [disk_core, sep_assoc])) hst h1 h1' h2 h3
  clear hs1 hst h1 h1' h2 h3
  go_wp2_with fail
  refine hch.mono ?_
  rintro e w2 ⟨rfl, hs2⟩
  clear hch
  obtain ⟨R, HR⟩ : ∃ R, Aside (mp skey M ((l1 ++ x :: l2).map kvF) * (filesA l1 * (filesA l2 * F)) = R) := ⟨_, rfl⟩
  have hs3 : Sat (rw TB 1 (.slice va x.f.now.length vc) (bys x.f.now) * (B * (hdr x.b TF 3 * (Sl.cell x.b 0 (.slice va x.f.now.length vc) * (Sl.cell x.b 1 x.sv * (Sl.cell x.b 2 (.bool x.f.sure) * (rw TB 1 x.sv (bys x.f.safe) * (coreD D M pv d.ticked * (pendA pv ps * R))))))))) w2 := by
   refine hs2.eq ?_
   rw [← HR.out, filesA_append, filesA]
   unfold fileA
   rw [HV.out]
   ac_rfl
  have c0 := hs3.c x.b 0
  have hlay := lay_any _ x.f.now k (.slice xa b.length xc) b B _ hB w2 hs3 (by omega) (by omega)
  clear hs2
  go_wp2_with fail
  refine hlay.mono ?_
  rintro e w3 ⟨nv, rfl, hs4⟩
  obtain ⟨na, nc, hnv, _, _⟩ := rw_vb hs4
  obtain ⟨nl, hnl⟩ : ∃ n, (laid x.f.now k b).length = n := ⟨_, rfl⟩
  rw [hnl] at hnv
  subst hnv
  clear hnl
  have k0 := hs4.c x.b 0
  have f0 := hs4.f x.b 0
  have hs5 := hs4.upd x.b 0 (.slice na nl nc)
  unfold pendA at hs5
  rw [coreD_x] at hs5
  obtain ⟨pa, pn, pc, hpv, hpl2, hpc, hpm⟩ := rw_v (hs5.take (rw TP 3 pv (prows ps)))
  rw [prows_len] at hpl2
  obtain rfl : ps.length = pn := by omega
  rw [hpv] at hs5
  obtain ⟨R2, HR2⟩ : ∃ R2, Aside (rw TB 1 (.slice na nl nc) (bys (laid x.f.now k b)) * (hdr x.b TF 3 * (Sl.cell x.b 0 (.slice na nl nc) * (Sl.cell x.b 1 x.sv * (Sl.cell x.b 2 (.bool x.f.sure) * (rw TB 1 x.sv (bys x.f.safe) * (coreX D M d.ticked * R)))))) = R2) := ⟨_, rfl⟩
  have hs6 : Sat (Sl.cell D 6 (.slice pa ps.length pc) * (rw TP 3 (.slice pa ps.length pc) (prows ps) * (piecesA ps * (B * R2)))) (w3.setCell ⟨x.b, 0, none⟩ (.slice na nl nc)) := hs5.eq (by rw [← HR2.out]; ac_rfl)
  clear hs3 c0 hlay hs4 hs5 hpv hpl2
  go_wp2_with fail
  go_loopg [2, 3] b.length (fun g t2 t3 wr => ∃ (j : Nat) (ya : Option Addr) (yc : Nat) (pa' : Option Addr) (pc' : Nat) (qs : List Np), t2 = .int .i64 (k + j : Nat) ∧ t3 = .slice ya (b.length - j) yc ∧ j ≤ b.length ∧ qs.length ≤ j ∧
   Aside (g = b.length - j ∧ Reads B (.slice ya (b.length - j) yc) (b.drop j) ∧ SectRel x.nm k b j qs) ∧
   Sat (Sl.cell D 6 (.slice pa' (ps.length + qs.length) pc') * (rw TP 3 (.slice pa' (ps.length + qs.length) pc') (prows (ps ++ qs)) * (piecesA (ps ++ qs) * (B * R2)))) wr)
  case atStart => exact ⟨0, xa, xc, pa, pc, [], rfl, rfl, by omega, by simp, ⟨rfl, hB, SectRel.zero _ _ _⟩, by simpa using hs6⟩
  case round =>
   obtain ⟨j, ya, yc, pa', pc', qs, rfl, rfl, hj, hq, A, hsr⟩ := hrel
   clear hs6 k0 f0
   obtain ⟨hg, hY, hrel2⟩ := A.out
   by_cases hjl : j < b.length
   · have hgt : (0 : Int) < ((b.length - j : Nat) : Int) := by omega
     obtain ⟨p, hp1⟩ : ∃ p, Dk.part (k + j) (b.length - j) = p := ⟨_, rfl⟩
     have hpp := part_pos (k := k + j) (n := b.length - j) (by omega)
     rw [hp1] at hpp
     have HS := hrel2.step hjl
     rw [hp1] at HS
     have HS' : Aside (∀ v, SectRel x.nm k b (j + p) (qs ++ [⟨v, ⟨x.nm, k + j, some ((b.drop j).take p)⟩⟩])) := HS
     have HP : Aside (Dk.part (k + j) (b.length - j) = p) := hp1
     have hyc : b.length - j ≤ yc ∧ yc ≤ maxLen := by have := (hY _ _ (hsr.take B)).n; omega
     have HY : Aside (Reads B (.slice ya (b.length - j) yc) (b.drop j)) := hY
     have HG : Aside (gk = b.length - j) := hg
     clear HS hp1 hY hrel2 A hg
     have hif : (if 64 - ((k : Int) + (j : Int)) % 64 < ((b.length - j : Nat) : Int) then 64 - ((k : Int) + (j : Int)) % 64 else ((b.length - j : Nat) : Int)) = (p : Nat) := by
      have h := HP.out
      unfold Dk.part at h
      split <;> omega
     have HI : Aside ((if 64 - ((k : Int) + (j : Int)) % 64 < ((b.length - j : Nat) : Int) then 64 - ((k : Int) + (j : Int)) % 64 else ((b.length - j : Nat) : Int)) = (p : Nat)) := hif
     clear hif
     have hYto := Reads.to HY.out p (by omega)
     have hlp : ((b.drop j).take p).length = p := by simp; omega
     have q1 := (rw_new0 (e := TB) (s := 1) hsr).drew
     have hsrc1 := (hYto _ _ (q1.take B)).src (P := Tryz.prog)
     rw [hlp] at hsrc1
     have hto := at_to (P := Tryz.prog) E (a := ya) (n := b.length - j) (c := yc) p (by omega)
     have hfrom := at_from (P := Tryz.prog) E (a := ya) (n := b.length - j) (c := yc) p (by omega)
     have c6 := hsr.c D 6
     have hD : D < wr.heap.size := World.block_lt_of_cell? _ _ c6
     have hyc1 : p ≤ yc := by omega
     have hpsl : ps.length + qs.length ≤ 2199023255552 := by omega
     clear hlp hyc hYto
     go_upto_region 23 with (fail)
     rw [HI.out]
     go_region_law first
      | (refine step_append_sl E rfl (.tmp 92) (.tmp 95) rfl rfl rfl q1 hsrc1 (by unfold maxLen; omega) (by omega) ?_; intro a3 c3 w3 hs7 hnn; have HN : Aside (notNil (.slice a3 p c3)) := (by have hz := rw_notNil hs7 (by intro e; exact absurd (hnn.1 e).1 (by simp)); simpa using hz : notNil (.slice a3 p c3)); simp only [Nat.zero_add, List.nil_append] at hs7; have d6 := hs7.c D 6; have hD3 : D < w3.heap.size := World.block_lt_of_cell? _ _ d6; have hs8 := hs7.alloc #[.string x.nm, .int .i64 ((k : Int) + (j : Int)), .slice a3 p c3] TP; have hsrc2 := Src.new (P := Tryz.prog) (s := 3) hs8 rfl (by intro u hu; simp at hu; rcases hu with rfl | rfl | rfl <;> rfl); have hs9 := hs8.take (rw TP 3 (.slice pa' (ps.length + qs.length) pc') (prows (ps ++ qs))); clear hnn hs8)
      | (refine step_append_sl E1 rfl (.tmp 89) (.tmp 98) rfl rfl rfl hs9 hsrc2 (by unfold maxLen; omega) (by omega) ?_; intro a4 c4 w4 hs10 hnn4; have e6 := hs10.c D 6; have f6 := hs10.f D 6; clear hnn4)
     all_goals
      have hs11 := hs10.upd D 6 (.slice a4 (ps.length + qs.length + 1) c4)
      clear hs7 hs9 hs10 hsrc2 hsrc1 q1 d6 hsr
      go_wp2_with fail
      go_quiet (fail)
      go_wp2
      go_roundg (b.length - (j + p))
      case measure => have := HG.out; omega
      case rel =>
       refine ⟨j + p, cutA ya yc p 1, yc - p, a4, c4, qs ++ [⟨.slice a3 p c3, ⟨x.nm, k + j, some ((b.drop j).take p)⟩⟩], by go_num, by rw [Nat.sub_sub], by omega, by simp; omega, ⟨rfl, ?_, HS'.out _⟩, ?_⟩
       · have hz := Reads.from HY.out p (by omega)
         rw [Nat.sub_sub, List.drop_drop] at hz
         exact hz
       · rw [← List.append_assoc, prows_append, piecesA_snoc, pieceA_new _ _ _ _ HN.out]
         have e7 : prows [(⟨.slice a3 p c3, ⟨x.nm, k + j, some ((b.drop j).take p)⟩⟩ : Np)] = [.string x.nm, .int .i64 ((k : Int) + (j : Int)), .slice a3 p c3] := by simp [prows, prow]
         rw [e7, List.length_append]
         simp only [List.length_cons, List.length_nil, Nat.zero_add, ← Nat.add_assoc]
         refine Sat.weak (B := block w3.heap.size TP [.string x.nm, .int .i64 ((k : Int) + (j : Int)), .slice a3 p c3]) (Sat.drewN _ (hs11.eq ?_))
         ac_rfl
   · have hgt : ¬ (0 : Int) < ((b.length - j : Nat) : Int) := by omega
     have HD : Aside (pents qs = sect x.nm k b) := hrel2.done (by omega)
     clear A hg hY hrel2
     go_wp2
     go_ret
     refine ⟨rfl, .slice na nl nc, .slice pa' (ps.length + qs.length) pc', qs, HD.out, hsr.eq ?_⟩
     rw [← HR2.out, ← HR.out, coreD_x]
     unfold fileA pendA
     dsimp only
     simp only [List.map_append, List.map_cons]
     ac_rfl
theorem write_put {M D : Nat} {ms : List (ByteArray × Value)} (nm : ByteArray) {G : Assn} {w : World} (hs : Sat (mp skey M ms * G) w) :
 ∃ w', (Instr.mapUpdate TFM (.map (some M)) (.string nm) (.pointer (some ⟨w.heap.size, 0, none⟩))).run Tryz.prog (w.alloc (.cells #[.slice none 0 0, .slice none 0 0, .bool false] TF)) = .ok () w' ∧
  Sat (fileA ⟨w.heap.size, nm, Dk.fl0, .slice none 0 0, .slice none 0 0⟩ * (mp skey M (mput nm (.pointer (some ⟨w.heap.size, 0, none⟩)) ms) * G)) w' := by
 have hs1 := (((hs.alloc #[.slice none 0 0, .slice none 0 0, .bool false] TF).rw_nil (e := TB) (s := 1)).rw_nil (e := TB) (s := 1))
 obtain ⟨o, ho, hs2⟩ := (hs1.take (mp skey M ms)).mp_open
 obtain ⟨o', ho', hup⟩ := run_mapUpdate_mp (P := Tryz.prog) keyOkS Tryz.underlying148 hs2.obj ho nm (.pointer (some ⟨w.heap.size, 0, none⟩))
 refine ⟨_, hup, ?_⟩
 have hs3 := Sat.mp_shut ho' (hs2.setRaw o')
 refine hs3.eq ?_
 unfold fileA Dk.fl0
 simp only [block, Sl.cells, sep_one, List.length_cons, List.length_nil, Nat.zero_add, Nat.reduceAdd, bys, List.map_nil]
 ac_rfl
set_option maxRecDepth 100000 in
set_option maxHeartbeats 4000000 in
theorem wrote_none (D M : Nat) (ns : List Nf) (nm : ByteArray) (pv : Value) (ps : List Np) (d : Dk) (k : Nat) (v : Value) (b : List UInt8) (B F : Assn) (w : World) (hB : Reads B v b) (hs : Sat (diskA D M ns pv ps d * (B * F)) w)
 (hno : ∀ m ∈ ns, m.nm ≠ nm) (hf : fents ns = d.files) (hlen : lens ns ≤ 4611686018427387904)
 (hsz : nm.size ≤ 9223372036854775807) (hn : named nm = true) (hd : d.down = false) (hk : k ≤ 0) (hb0 : 0 < b.length) (hb : b.length ≤ 1099511627776) (hp : ps.length ≤ 1099511627776)
 (hfit : d.fits none (max ((0 : Nat) : Int) ((k + b.length : Nat) : Int)) = 0) (hst : d.stop = false) (h1 : -4611686018427387904 ≤ d.left) (h1' : d.left ≤ 9223372036854775807) (h2 : 0 ≤ d.changes) (h3 : d.changes ≤ 4611686018427387904) :
 Calls Tryz.prog 147 #[.pointer (some ⟨D, 0, none⟩), .string nm, .int .i64 k, v] w fun e w' => ∃ xb nv pv' qs, e = .returned (.int .i64 0) ∧ pents qs = sect nm k b ∧
  Sat (fileA ⟨xb, nm, ⟨laid [] k b, [], false⟩, nv, .slice none 0 0⟩ * (coreD D M pv' d.ticked * (pendA pv' (ps ++ qs) * (mp skey M (mput nm (.pointer (some ⟨xb, 0, none⟩)) (ns.map kvF)) * (filesA ns * (B * F)))))) w' := by
 obtain ⟨i0, E⟩ := elemB
 obtain ⟨i1, E1⟩ := elemP
 obtain ⟨xa, xc, rfl, hxc, hxm⟩ := (hB _ _ (hs.take B)).len
 have hmay := may_none D M ns pv ps d nm (B * F) w hs hno hsz hn hd
 have HF : Aside (∀ q : Int, q = max ((0 : Nat) : Int) ((k + b.length : Nat) : Int) → Calls Tryz.prog 69 #[.pointer (some ⟨D, 0, none⟩), .pointer none, .int .i64 q] w fun e w' => e = .returned (.int .i64 0) ∧ Sat (diskA D M ns pv ps d * (B * F)) w') := by
  rintro q rfl
  have := fits_none D M ns pv ps d (max ((0 : Nat) : Int) ((k + b.length : Nat) : Int)) (B * F) w hs hf hlen (by omega) (by omega)
  rw [hfit] at this
  exact this
 have hb0' : ((b.length : Int) == 0) = false := by rw [beq_eq_false_iff_ne]; omega
 have hkk : ¬ (0 : Int) < k := by omega
 clear hs hf hlen hfit hn
 go_enter Tryz.func147, Tryz.ntmps147
 go_wp2_with fail
 refine hmay.mono ?_
 rintro e w' ⟨rfl, rfl⟩
 go_upto_region 11 with (fail)
 go_cut [10] (fun t10 wx => t10 = .int .i64 0 ∧ Sat (diskA D M ns pv ps d * (B * F)) wx)
 case first =>
  go_wp2_with (go_at_call 69; refine (HF.out _ ?_).mono ?_; omega; rintro e w1 ⟨rfl, hs1⟩)
  all_goals
   go_meet
   exact ⟨rfl, hs1⟩
 case rest =>
  obtain ⟨rfl, hs1⟩ := hcut
  clear HF hmay
  have hch := change_go D M pv d _ _ (hs1.eq (by rw [disk_core, sep_assoc])) hst h1 h1' h2 h3
  clear hs1 hst h1 h1' h2 h3
  go_wp2_with fail
  refine hch.mono ?_
  rintro e w2 ⟨rfl, hs2⟩
  clear hch
  have hs2a : Sat (mp skey M (ns.map kvF) * (coreD D M pv d.ticked * (filesA ns * (pendA pv ps * (B * F))))) w2 := hs2.eq (by ac_rfl)
  obtain ⟨w2b, hup, hs2b⟩ := write_put (D := D) nm hs2a
  have c5 : w2.cell? ⟨D, 5, none⟩ = some (.map (some M)) := by unfold coreD at hs2; exact hs2.c D 5
  have hD0 : D < w2.heap.size := World.block_lt_of_cell? _ _ c5
  clear hs2 hs2a
  obtain ⟨R, HR⟩ : ∃ R, Aside (mp skey M (mput nm (.pointer (some ⟨w2.heap.size, 0, none⟩)) (ns.map kvF)) * (filesA ns * F) = R) := ⟨_, rfl⟩
  have hs3 : Sat (rw TB 1 (.slice none 0 0) (bys []) * (B * (hdr w2.heap.size TF 3 * (Sl.cell w2.heap.size 0 (.slice none 0 0) * (Sl.cell w2.heap.size 1 (.slice none 0 0) * (Sl.cell w2.heap.size 2 (.bool false) * (rw TB 1 (.slice none 0 0) (bys []) * (coreD D M pv d.ticked * (pendA pv ps * R))))))))) w2b := by
   refine hs2b.eq ?_
   rw [← HR.out]
   unfold fileA Dk.fl0
   dsimp only
   ac_rfl
  have c0 := hs3.c w2.heap.size 0
  have hlay := lay_any _ [] k (.slice xa b.length xc) b B _ hB w2b hs3 (by simp) (by omega)
  clear hs2b
  go_wp2_with fail
  refine hlay.mono ?_
  rintro e w3 ⟨nv, rfl, hs4⟩
  obtain ⟨na, nc, hnv, _, _⟩ := rw_vb hs4
  obtain ⟨nl, hnl⟩ : ∃ n, (laid [] k b).length = n := ⟨_, rfl⟩
  rw [hnl] at hnv
  subst hnv
  clear hnl
  have k0 := hs4.c w2.heap.size 0
  have f0 := hs4.f w2.heap.size 0
  have hs5 := hs4.upd w2.heap.size 0 (.slice na nl nc)
  unfold pendA at hs5
  rw [coreD_x] at hs5
  obtain ⟨pa, pn, pc, hpv, hpl2, hpc, hpm⟩ := rw_v (hs5.take (rw TP 3 pv (prows ps)))
  rw [prows_len] at hpl2
  obtain rfl : ps.length = pn := by omega
  rw [hpv] at hs5
  obtain ⟨R2, HR2⟩ : ∃ R2, Aside (rw TB 1 (.slice na nl nc) (bys (laid [] k b)) * (hdr w2.heap.size TF 3 * (Sl.cell w2.heap.size 0 (.slice na nl nc) * (Sl.cell w2.heap.size 1 (.slice none 0 0) * (Sl.cell w2.heap.size 2 (.bool false) * (rw TB 1 (.slice none 0 0) (bys []) * (coreX D M d.ticked * R)))))) = R2) := ⟨_, rfl⟩
  have hs6 : Sat (Sl.cell D 6 (.slice pa ps.length pc) * (rw TP 3 (.slice pa ps.length pc) (prows ps) * (piecesA ps * (B * R2)))) (w3.setCell ⟨w2.heap.size, 0, none⟩ (.slice na nl nc)) := hs5.eq (by rw [← HR2.out]; ac_rfl)
  clear hs3 c0 hlay hs4 hs5 hpv hpl2
  go_wp2_with fail
  go_loopg [2, 3] b.length (fun g t2 t3 wr => ∃ (j : Nat) (ya : Option Addr) (yc : Nat) (pa' : Option Addr) (pc' : Nat) (qs : List Np), t2 = .int .i64 (k + j : Nat) ∧ t3 = .slice ya (b.length - j) yc ∧ j ≤ b.length ∧ qs.length ≤ j ∧
   Aside (g = b.length - j ∧ Reads B (.slice ya (b.length - j) yc) (b.drop j) ∧ SectRel nm k b j qs) ∧
   Sat (Sl.cell D 6 (.slice pa' (ps.length + qs.length) pc') * (rw TP 3 (.slice pa' (ps.length + qs.length) pc') (prows (ps ++ qs)) * (piecesA (ps ++ qs) * (B * R2)))) wr)
  case atStart => exact ⟨0, xa, xc, pa, pc, [], rfl, rfl, by omega, by simp, ⟨rfl, hB, SectRel.zero _ _ _⟩, by simpa using hs6⟩
  case round =>
   obtain ⟨j, ya, yc, pa', pc', qs, rfl, rfl, hj, hq, A, hsr⟩ := hrel
   clear hs6 k0 f0
   obtain ⟨hg, hY, hrel2⟩ := A.out
   by_cases hjl : j < b.length
   · have hgt : (0 : Int) < ((b.length - j : Nat) : Int) := by omega
     obtain ⟨p, hp1⟩ : ∃ p, Dk.part (k + j) (b.length - j) = p := ⟨_, rfl⟩
     have hpp := part_pos (k := k + j) (n := b.length - j) (by omega)
     rw [hp1] at hpp
     have HS := hrel2.step hjl
     rw [hp1] at HS
     have HS' : Aside (∀ v, SectRel nm k b (j + p) (qs ++ [⟨v, ⟨nm, k + j, some ((b.drop j).take p)⟩⟩])) := HS
     have HP : Aside (Dk.part (k + j) (b.length - j) = p) := hp1
     have hyc : b.length - j ≤ yc ∧ yc ≤ maxLen := by have := (hY _ _ (hsr.take B)).n; omega
     have HY : Aside (Reads B (.slice ya (b.length - j) yc) (b.drop j)) := hY
     have HG : Aside (gk = b.length - j) := hg
     clear HS hp1 hY hrel2 A hg
     have hif : (if 64 - ((k : Int) + (j : Int)) % 64 < ((b.length - j : Nat) : Int) then 64 - ((k : Int) + (j : Int)) % 64 else ((b.length - j : Nat) : Int)) = (p : Nat) := by
      have h := HP.out
      unfold Dk.part at h
      split <;> omega
     have HI : Aside ((if 64 - ((k : Int) + (j : Int)) % 64 < ((b.length - j : Nat) : Int) then 64 - ((k : Int) + (j : Int)) % 64 else ((b.length - j : Nat) : Int)) = (p : Nat)) := hif
     clear hif
     have hYto := Reads.to HY.out p (by omega)
     have hlp : ((b.drop j).take p).length = p := by simp; omega
     have q1 := (rw_new0 (e := TB) (s := 1) hsr).drew
     have hsrc1 := (hYto _ _ (q1.take B)).src (P := Tryz.prog)
     rw [hlp] at hsrc1
     have hto := at_to (P := Tryz.prog) E (a := ya) (n := b.length - j) (c := yc) p (by omega)
     have hfrom := at_from (P := Tryz.prog) E (a := ya) (n := b.length - j) (c := yc) p (by omega)
     have c6 := hsr.c D 6
     have hD : D < wr.heap.size := World.block_lt_of_cell? _ _ c6
     have hyc1 : p ≤ yc := by omega
     have hpsl : ps.length + qs.length ≤ 2199023255552 := by omega
     clear hlp hyc hYto
     go_upto_region 23 with (fail)
     rw [HI.out]
     go_region_law first
      | (refine step_append_sl E rfl (.tmp 92) (.tmp 95) rfl rfl rfl q1 hsrc1 (by unfold maxLen; omega) (by omega) ?_; intro a3 c3 w3 hs7 hnn; have HN : Aside (notNil (.slice a3 p c3)) := (by have hz := rw_notNil hs7 (by intro e; exact absurd (hnn.1 e).1 (by simp)); simpa using hz : notNil (.slice a3 p c3)); simp only [Nat.zero_add, List.nil_append] at hs7; have d6 := hs7.c D 6; have hD3 : D < w3.heap.size := World.block_lt_of_cell? _ _ d6; have hs8 := hs7.alloc #[.string nm, .int .i64 ((k : Int) + (j : Int)), .slice a3 p c3] TP; have hsrc2 := Src.new (P := Tryz.prog) (s := 3) hs8 rfl (by intro u hu; simp at hu; rcases hu with rfl | rfl | rfl <;> rfl); have hs9 := hs8.take (rw TP 3 (.slice pa' (ps.length + qs.length) pc') (prows (ps ++ qs))); clear hnn hs8)
      | (refine step_append_sl E1 rfl (.tmp 89) (.tmp 98) rfl rfl rfl hs9 hsrc2 (by unfold maxLen; omega) (by omega) ?_; intro a4 c4 w4 hs10 hnn4; have e6 := hs10.c D 6; have f6 := hs10.f D 6; clear hnn4)
     all_goals
      have hs11 := hs10.upd D 6 (.slice a4 (ps.length + qs.length + 1) c4)
      clear hs7 hs9 hs10 hsrc2 hsrc1 q1 d6 hsr
      go_wp2_with fail
      go_quiet (fail)
      go_wp2
      go_roundg (b.length - (j + p))
      case measure => have := HG.out; omega
      case rel =>
       refine ⟨j + p, cutA ya yc p 1, yc - p, a4, c4, qs ++ [⟨.slice a3 p c3, ⟨nm, k + j, some ((b.drop j).take p)⟩⟩], by go_num, by rw [Nat.sub_sub], by omega, by simp; omega, ⟨rfl, ?_, HS'.out _⟩, ?_⟩
       · have hz := Reads.from HY.out p (by omega)
         rw [Nat.sub_sub, List.drop_drop] at hz
         exact hz
       · rw [← List.append_assoc, prows_append, piecesA_snoc, pieceA_new _ _ _ _ HN.out]
         have e7 : prows [(⟨.slice a3 p c3, ⟨nm, k + j, some ((b.drop j).take p)⟩⟩ : Np)] = [.string nm, .int .i64 ((k : Int) + (j : Int)), .slice a3 p c3] := by simp [prows, prow]
         rw [e7, List.length_append]
         simp only [List.length_cons, List.length_nil, Nat.zero_add, ← Nat.add_assoc]
         refine Sat.weak (B := block w3.heap.size TP [.string nm, .int .i64 ((k : Int) + (j : Int)), .slice a3 p c3]) (Sat.drewN _ (hs11.eq ?_))
         ac_rfl
   · have hgt : ¬ (0 : Int) < ((b.length - j : Nat) : Int) := by omega
     have HD : Aside (pents qs = sect nm k b) := hrel2.done (by omega)
     clear A hg hY hrel2
     go_wp2
     go_ret
     refine ⟨rfl, w2.heap.size, .slice na nl nc, .slice pa' (ps.length + qs.length) pc', qs, HD.out, hsr.eq ?_⟩
     rw [← HR2.out, ← HR.out, coreD_x]
     unfold fileA pendA
     dsimp only
     ac_rfl
end Go.Proofs.YtfhbmblbidcmmaaGreat
namespace Go.Proofs.YtfhbmblbidcmmaaGreat
set_option linter.unusedSimpArgs false
set_option linter.unusedVariables false
open Go.RowKit Go.Sl Go.Dk
attribute [local go_sem ↓] Go.wp_at_zero Go.wp_at_succ
set_option maxRecDepth 100000 in
set_option maxHeartbeats 800000 in
theorem write_range (D : Nat) (d : Dk) (nm : ByteArray) (k : Int) (xa : Option Addr) (n xc : Nat) (F : Assn) (w : World) (hs : Sat (diskP D d * F) w) (hsz : nm.size ≤ 9223372036854775807) (hm : d.may nm false = 0) (hr : k < 0 ∨ (had (d.get nm) : Int) < k) :
 Calls Tryz.prog 147 #[.pointer (some ⟨D, 0, none⟩), .string nm, .int .i64 k, .slice xa n xc] w fun e w' => e = .returned (.int .i64 2) ∧ w = w' := by
 obtain ⟨M, ns, pv, ps, h1, h2, h3⟩ := Sat.disk_open hs
 rcases may_ways d nm false with ⟨h, _⟩ | ⟨h, _⟩ | ⟨h, _⟩ | ⟨_, hn, hd, _⟩
 · rw [h] at hm; cases hm
 · rw [h] at hm; cases hm
 · rw [h] at hm; cases hm
 rcases nf_cases ns nm with ⟨l1, x, l2, rfl, rfl, h5⟩ | h5
 · have hg : had (d.get x.nm) = x.f.now.length := by unfold Dk.get; rw [← h1, fget_found h5]; rfl
   rw [hg] at hr
   have hmay := may_found D M l1 x l2 pv ps d false F w h3 h5 hsz hn hd
   rw [disk_file] at h3
   unfold fileA at h3
   have c0 := h3.c x.b 0
   obtain ⟨va, vc, hv, _, _⟩ := rw_vb (h3.take (rw TB 1 x.nv (bys x.f.now)))
   rw [hv] at c0
   clear hs h3 h1 h2 hg hv hm
   by_cases g1 : k < 0
   · have g1' : decide (k < 0) = true := by simpa using g1
     go_enter Tryz.func147, Tryz.ntmps147
     go_wp2_with (refine hmay.mono ?_; rintro e w' ⟨rfl, rfl⟩)
     go_ret
     exact ⟨rfl, rfl⟩
   · have g1' : decide (k < 0) = false := by simpa using g1
     have g3 : (x.f.now.length : Int) < k := by omega
     go_enter Tryz.func147, Tryz.ntmps147
     go_wp2_with (refine hmay.mono ?_; rintro e w' ⟨rfl, rfl⟩)
     go_ret
     exact ⟨rfl, rfl⟩
 · have hg : had (d.get nm) = 0 := by unfold Dk.get; rw [← h1, fget_none h5]; rfl
   rw [hg] at hr
   have hmay := may_none D M ns pv ps d nm F w h3 h5 hsz hn hd
   clear hs h3 h1 h2 hg hm
   by_cases g1 : k < 0
   · have g1' : decide (k < 0) = true := by simpa using g1
     go_enter Tryz.func147, Tryz.ntmps147
     go_wp2_with (refine hmay.mono ?_; rintro e w' ⟨rfl, rfl⟩)
     go_ret
     exact ⟨rfl, rfl⟩
   · have g1' : decide (k < 0) = false := by simpa using g1
     have g3 : (0 : Int) < k := by omega
     go_enter Tryz.func147, Tryz.ntmps147
     go_wp2_with (refine hmay.mono ?_; rintro e w' ⟨rfl, rfl⟩)
     go_ret
     exact ⟨rfl, rfl⟩
set_option maxRecDepth 100000 in
set_option maxHeartbeats 800000 in
theorem write_empty (D : Nat) (d : Dk) (nm : ByteArray) (k : Nat) (xa : Option Addr) (xc : Nat) (F : Assn) (w : World) (hs : Sat (diskP D d * F) w) (hsz : nm.size ≤ 9223372036854775807) (hm : d.may nm false = 0) (hr : k ≤ had (d.get nm)) :
 Calls Tryz.prog 147 #[.pointer (some ⟨D, 0, none⟩), .string nm, .int .i64 k, .slice xa 0 xc] w fun e w' => e = .returned (.int .i64 0) ∧ w = w' := by
 obtain ⟨M, ns, pv, ps, h1, h2, h3⟩ := Sat.disk_open hs
 rcases may_ways d nm false with ⟨h, _⟩ | ⟨h, _⟩ | ⟨h, _⟩ | ⟨_, hn, hd, _⟩
 · rw [h] at hm; cases hm
 · rw [h] at hm; cases hm
 · rw [h] at hm; cases hm
 rcases nf_cases ns nm with ⟨l1, x, l2, rfl, rfl, h5⟩ | h5
 · have hg : had (d.get x.nm) = x.f.now.length := by unfold Dk.get; rw [← h1, fget_found h5]; rfl
   rw [hg] at hr
   have hmay := may_found D M l1 x l2 pv ps d false F w h3 h5 hsz hn hd
   rw [disk_file] at h3
   unfold fileA at h3
   have c0 := h3.c x.b 0
   obtain ⟨va, vc, hv, _, _⟩ := rw_vb (h3.take (rw TB 1 x.nv (bys x.f.now)))
   rw [hv] at c0
   clear hs h3 h1 h2 hg hv hm
   have g3 : ¬ (x.f.now.length : Int) < k := by omega
   go_enter Tryz.func147, Tryz.ntmps147
   go_wp2_with (refine hmay.mono ?_; rintro e w' ⟨rfl, rfl⟩)
   go_ret
   exact ⟨rfl, rfl⟩
 · have hg : had (d.get nm) = 0 := by unfold Dk.get; rw [← h1, fget_none h5]; rfl
   rw [hg] at hr
   have hmay := may_none D M ns pv ps d nm F w h3 h5 hsz hn hd
   clear hs h3 h1 h2 hg hm
   have g3 : ¬ (0 : Int) < k := by omega
   go_enter Tryz.func147, Tryz.ntmps147
   go_wp2_with (refine hmay.mono ?_; rintro e w' ⟨rfl, rfl⟩)
   go_ret
   exact ⟨rfl, rfl⟩
set_option maxRecDepth 100000 in
set_option maxHeartbeats 1600000 in
theorem write_refused (D M : Nat) (ns : List Nf) (pv : Value) (ps : List Np) (d : Dk) (nm : ByteArray) (k : Nat) (xa : Option Addr) (n xc : Nat) (F : Assn) (w : World) (hs : Sat (diskA D M ns pv ps d * F) w) (hf : fents ns = d.files) (hlen : lens ns ≤ 17592186044416)
 (hsz : nm.size ≤ 9223372036854775807) (hn : named nm = true) (hd : d.down = false) (hr : k ≤ had (d.get nm)) (hb0 : 0 < n) (hb : n ≤ 1099511627776) (q : Int) (hq : d.fits (d.get nm) (max (had (d.get nm)) (k + n)) = q) :
 (q ≠ 0 → Calls Tryz.prog 147 #[.pointer (some ⟨D, 0, none⟩), .string nm, .int .i64 k, .slice xa n xc] w fun e w' => e = .returned (.int .i64 q) ∧ Sat (diskA D M ns pv ps d * F) w') ∧
 (q = 0 → d.stop = true → Calls Tryz.prog 147 #[.pointer (some ⟨D, 0, none⟩), .string nm, .int .i64 k, .slice xa n xc] w fun e w' => e = .returned (.int .i64 8) ∧ Sat (diskA D M ns pv ps { d with down := true } * F) w') := by
 have hb0' : ((n : Int) == 0) = false := by rw [beq_eq_false_iff_ne]; omega
 rcases nf_cases ns nm with ⟨l1, x, l2, rfl, rfl, h5⟩ | h5
 · have hg : d.get x.nm = some x.f := by unfold Dk.get; rw [← hf, fget_found h5]
   have hle : x.f.now.length ≤ 17592186044416 := by
    have : lens (l1 ++ x :: l2) = lens (x :: (l1 ++ l2)) := lens_perm List.perm_middle
    rw [this, lens_cons] at hlen; omega
   have hgh : had (d.get x.nm) = x.f.now.length := by rw [hg]; rfl
   rw [hgh] at hr hq
   rw [hg] at hq
   have HF : Aside (∀ z : Int, z = max (x.f.now.length : Int) ((k : Int) + (n : Int)) → Calls Tryz.prog 69 #[.pointer (some ⟨D, 0, none⟩), .pointer (some ⟨x.b, 0, none⟩), .int .i64 z] w fun e w' => e = .returned (.int .i64 q) ∧ Sat (diskA D M (l1 ++ x :: l2) pv ps d * F) w') := by
    rintro z rfl
    have := fits_some D M l1 x l2 pv ps d (max (x.f.now.length : Int) ((k : Int) + (n : Int))) F w hs hf (by omega) (by omega) (by omega)
    rw [hq] at this
    exact this
   have hmay := may_found D M l1 x l2 pv ps d false F w hs h5 hsz hn hd
   have c0 : w.cell? ⟨x.b, 0, none⟩ = some x.nv := by rw [disk_file] at hs; unfold fileA at hs; exact hs.c x.b 0
   obtain ⟨va, vc, hv, hv1, hv2⟩ : ∃ a c, x.nv = .slice a x.f.now.length c ∧ x.f.now.length ≤ c ∧ c ≤ 9223372036854775807 := by rw [disk_file] at hs; unfold fileA at hs; exact rw_vb (hs.take (rw TB 1 x.nv (bys x.f.now)))
   rw [hv] at c0
   have g3 : ¬ (x.f.now.length : Int) < k := by omega
   clear hs hf hlen hn hv hq hgh hg
   constructor
   · intro hqn
     have hqb : (q != 0) = true := by simpa using hqn
     clear hqn
     go_enter Tryz.func147, Tryz.ntmps147
     go_wp2_with fail
     refine hmay.mono ?_
     rintro e w' ⟨rfl, rfl⟩
     go_wp2_with (go_at_call 69; refine (HF.out _ ?_).mono ?_; omega; rintro e w1 ⟨rfl, hs1⟩)
     all_goals
      go_ret
      exact ⟨rfl, hs1⟩
   · rintro rfl hst
     go_enter Tryz.func147, Tryz.ntmps147
     go_wp2_with fail
     refine hmay.mono ?_
     rintro e w' ⟨rfl, rfl⟩
     go_wp2_with first
      | (go_at_call 69; refine (HF.out _ ?_).mono ?_; omega; rintro e w1 ⟨rfl, hs1⟩)
      | (go_at_call 149; refine (change_stop D M pv d _ _ (hs1.eq (by rw [disk_core, sep_assoc])) hst).mono ?_; rintro e w2 ⟨rfl, hs2⟩)
     all_goals
      go_ret
      exact ⟨rfl, hs2.eq (by rw [disk_core]; ac_rfl)⟩
 · have hg : d.get nm = none := by unfold Dk.get; rw [← hf, fget_none h5]
   have hgh : had (d.get nm) = 0 := by rw [hg]; rfl
   rw [hgh] at hr hq
   rw [hg] at hq
   have HF : Aside (∀ z : Int, z = max ((0 : Nat) : Int) ((k : Int) + (n : Int)) → Calls Tryz.prog 69 #[.pointer (some ⟨D, 0, none⟩), .pointer none, .int .i64 z] w fun e w' => e = .returned (.int .i64 q) ∧ Sat (diskA D M ns pv ps d * F) w') := by
    rintro z rfl
    have := fits_none D M ns pv ps d (max ((0 : Nat) : Int) ((k : Int) + (n : Int))) F w hs hf (by omega) (by omega) (by omega)
    rw [hq] at this
    exact this
   have hmay := may_none D M ns pv ps d nm F w hs h5 hsz hn hd
   have g3 : ¬ (0 : Int) < k := by omega
   clear hs hf hlen hn hq hgh hg
   constructor
   · intro hqn
     have hqb : (q != 0) = true := by simpa using hqn
     clear hqn
     go_enter Tryz.func147, Tryz.ntmps147
     go_wp2_with fail
     refine hmay.mono ?_
     rintro e w' ⟨rfl, rfl⟩
     go_wp2_with (go_at_call 69; refine (HF.out _ ?_).mono ?_; omega; rintro e w1 ⟨rfl, hs1⟩)
     all_goals
      go_ret
      exact ⟨rfl, hs1⟩
   · rintro rfl hst
     go_enter Tryz.func147, Tryz.ntmps147
     go_wp2_with fail
     refine hmay.mono ?_
     rintro e w' ⟨rfl, rfl⟩
     go_wp2_with first
      | (go_at_call 69; refine (HF.out _ ?_).mono ?_; omega; rintro e w1 ⟨rfl, hs1⟩)
      | (go_at_call 149; refine (change_stop D M pv d _ _ (hs1.eq (by rw [disk_core, sep_assoc])) hst).mono ?_; rintro e w2 ⟨rfl, hs2⟩)
     all_goals
      go_ret
      exact ⟨rfl, hs2.eq (by rw [disk_core]; ac_rfl)⟩
theorem write_any (D : Nat) (d : Dk) (m : Nat) (nm : ByteArray) (k : Int) (v : Value) (b : List UInt8) (B F : Assn) (w : World) (hB : Reads B v b) (hs : Sat (diskP D d * (B * F)) w) (hsz : nm.size ≤ 9223372036854775807) (hb : b.length ≤ 1099511627776) (ok : Ok m d) (hm' : m ≤ big) :
 Calls Tryz.prog 147 #[.pointer (some ⟨D, 0, none⟩), .string nm, .int .i64 k, v] w fun e w' => e = .returned (.int .i64 (d.write nm k b).1) ∧ Sat (diskP D (d.write nm k b).2 * (B * F)) w' := by
 have hbig : m ≤ 1099511627776 := hm'
 obtain ⟨xa, xc, rfl, hxc, hxm⟩ := (hB _ _ (hs.take B)).len
 by_cases hm : d.may nm false = 0
 · by_cases hr : k < 0 ∨ (had (d.get nm) : Int) < k
   · have e1 : d.write nm k b = (2, d) := by unfold Dk.write; rw [if_neg (by simp [hm]), if_pos hr]
     rw [e1]
     exact (write_range D d nm k xa b.length xc _ w hs hsz hm hr).mono fun e w' ⟨h1, h2⟩ => ⟨h1, h2 ▸ hs⟩
   obtain ⟨k, rfl⟩ := Int.eq_ofNat_of_zero_le (show 0 ≤ k by omega)
   have hr' : k ≤ had (d.get nm) := by omega
   by_cases hb0 : b.length = 0
   · have e1 : d.write nm k b = (0, d) := by unfold Dk.write; rw [if_neg (by simp [hm]), if_neg hr, if_pos hb0]
     rw [e1]
     have := write_empty D d nm k xa xc _ w hs hsz hm hr'
     rw [hb0]
     exact this.mono fun e w' ⟨h1, h2⟩ => ⟨h1, h2 ▸ hs⟩
   rcases may_ways d nm false with ⟨h, _⟩ | ⟨h, _⟩ | ⟨h, _⟩ | ⟨_, hn, hd, _⟩
   · rw [h] at hm; cases hm
   · rw [h] at hm; cases hm
   · rw [h] at hm; cases hm
   obtain ⟨M, ns, pv, ps, h1, h2, h3⟩ := Sat.disk_open hs
   have hlen := lens_ok ok h1
   have hpl : ps.length ≤ 1099511627776 := by have := ok.pend; rw [← h2] at this; simp [pents] at this; omega
   have href := write_refused D M ns pv ps d nm k xa b.length xc (B * F) w h3 h1 hlen hsz hn hd hr' (by omega) hb _ rfl
   by_cases hq : d.fits (d.get nm) (max (had (d.get nm)) ((k : Int) + b.length)) = 0
   · cases hst : d.stop with
     | true =>
       have e1 : d.write nm k b = (8, { d with down := true }) := by unfold Dk.write; rw [if_neg (by simp [hm]), if_neg hr, if_neg hb0, if_neg (by simp [hq]), if_pos hst]
       rw [e1]
       exact (href.2 hq hst).mono fun e w' ⟨h4, h5⟩ => ⟨h4, Sat.disk_shut (d := { d with down := true }) h1 h2 h5⟩
     | false =>
       have e1 : d.write nm k b = (0, d.written nm k b) := by unfold Dk.write; rw [if_neg (by simp [hm]), if_neg hr, if_neg hb0, if_neg (by simp [hq]), if_neg (by simp [hst])]; rfl
       rw [e1]
       rcases nf_cases ns nm with ⟨l1, x, l2, rfl, rfl, h5⟩ | h5
       · have hg : d.get x.nm = some x.f := by unfold Dk.get; rw [← h1, fget_found h5]
         have hgh : had (d.get x.nm) = x.f.now.length := by rw [hg]; rfl
         rw [hgh] at hr' hq
         rw [hg] at hq
         have hx : x.f.now.length ≤ 1099511627776 := (ok.sz (x.nm, x.f) (by rw [← h1]; simp [fents])).1
         refine (wrote_found D M l1 x l2 pv ps d k _ b B F w hB h3 h5 h1 (by omega) hsz hn hd hr' (by omega) hb hx hpl hq hst (by have := ok.left; omega) ok.left.2 ok.changes.1 (by have := ok.changes; omega)).mono ?_
         rintro e w' ⟨nv, pv', qs, rfl, h6, h7⟩
         refine ⟨rfl, ?_⟩
         have e2 : (d.written x.nm k b).files = fput x.nm { x.f with now := laid x.f.now k b } d.files := by unfold Dk.written; rw [hg]; rfl
         refine Sat.disk_shut (M := M) (ns := l1 ++ { x with f := { x.f with now := laid x.f.now k b }, nv := nv } :: l2) (pv := pv') (ps := ps ++ qs) ?_ ?_ ?_
         · rw [e2, ← h1, fput_found _ h5]; simp [fents]
         · show pents (ps ++ qs) = d.pend ++ sect x.nm k b
           rw [← h2, ← h6]; simp [pents]
         · refine h7.eq ?_
           have e3 : coreD D M pv' (d.written x.nm k b) = coreD D M pv' d.ticked := rfl
           rw [disk_core, e3, filesA_append, filesA]
           have e4 : (l1 ++ { x with f := { x.f with now := laid x.f.now k b }, nv := nv } :: l2).map kvF = (l1 ++ x :: l2).map kvF := by simp [kvF]
           rw [e4]
           ac_rfl
       · have hg : d.get nm = none := by unfold Dk.get; rw [← h1, fget_none h5]
         have hgh : had (d.get nm) = 0 := by rw [hg]; rfl
         rw [hgh] at hr' hq
         rw [hg] at hq
         refine (wrote_none D M ns nm pv ps d k _ b B F w hB h3 h5 h1 (by omega) hsz hn hd hr' (by omega) hb hpl hq hst (by have := ok.left; omega) ok.left.2 ok.changes.1 (by have := ok.changes; omega)).mono ?_
         rintro e w' ⟨xb, nv, pv', qs, rfl, h6, h7⟩
         refine ⟨rfl, ?_⟩
         have e2 : (d.written nm k b).files = fput nm ⟨laid [] k b, [], false⟩ d.files := by unfold Dk.written; rw [hg]; rfl
         refine Sat.disk_shut (M := M) (ns := ns ++ [⟨xb, nm, ⟨laid [] k b, [], false⟩, nv, .slice none 0 0⟩]) (pv := pv') (ps := ps ++ qs) ?_ ?_ ?_
         · rw [e2, ← h1, fput_none _ h5]; simp [fents]
         · show pents (ps ++ qs) = d.pend ++ sect nm k b
           rw [← h2, ← h6]; simp [pents]
         · have e5 := mput_noneF (n' := ⟨xb, nm, ⟨laid [] k b, [], false⟩, nv, .slice none 0 0⟩) h5
           rw [e5] at h7
           refine h7.eq ?_
           have e3 : coreD D M pv' (d.written nm k b) = coreD D M pv' d.ticked := rfl
           rw [disk_core, e3, filesA_append, filesA, filesA, sep_one]
           ac_rfl
   · have e1 : d.write nm k b = (d.fits (d.get nm) (max (had (d.get nm)) ((k : Int) + b.length)), d) := by unfold Dk.write; rw [if_neg (by simp [hm]), if_neg hr, if_neg hb0, if_pos hq]
     rw [e1]
     exact (href.1 hq).mono fun e w' ⟨h4, h5⟩ => ⟨h4, Sat.disk_shut h1 h2 h5⟩
 · have e1 : d.write nm k b = (d.may nm false, d) := by unfold Dk.write; rw [if_pos hm]
   rw [e1]
   obtain ⟨M, ns, pv, ps, h1, h2, h3⟩ := Sat.disk_open hs
   have hmay := may_bad D M ns pv ps d nm false (B * F) w h3 h1 hsz hm
   have hbb : (d.may nm false != 0) = true := by simpa using hm
   clear h3 h1 h2 e1 hm ok
   generalize d.may nm false = q at *
   go_enter Tryz.func147, Tryz.ntmps147
   go_wp2_with (refine hmay.mono ?_; rintro e w' ⟨rfl, rfl⟩)
   go_ret
   exact ⟨rfl, hs⟩
end Go.Proofs.YtfhbmblbidcmmaaGreat
namespace Go.Proofs.YtfhbmblbidcmmaaGreat
set_option linter.unusedSimpArgs false
set_option linter.unusedVariables false
open Go.RowKit Go.Sl
set_option maxHeartbeats 400000 in
theorem pick_any (x n : Int) (w : World) (h1 : 1 ≤ n) (h2 : n ≤ 4611686018427387904) :
 Calls Tryz.prog 21 #[.int .i64 x, .int .i64 n] w fun e w' => e = .returned (.int .i64 (x % n)) ∧ w = w' := by
 have hb := Int.tmod_lt_of_pos x (show 0 < n by omega)
 have hb2 := Int.lt_tmod_of_pos x (show 0 < n by omega)
 have hn0 : (n == 0) = false := by simp; omega
 by_cases h : x.tmod n < 0
 · have e : x % n = x.tmod n + n := by
    rw [Int.emod_eq_tmod]
    have hx : ¬ 0 ≤ x := fun h' => by have := Int.tmod_nonneg n h'; omega
    have hd : ¬ n ∣ x := fun h' => by rw [Int.tmod_eq_zero_of_dvd h'] at h; omega
    rw [if_neg (by simp [hd]; omega)]
    omega
   rw [e]
   clear e
   go_enter Tryz.func21, Tryz.ntmps21
   go_wp2
   go_ret
   exact ⟨rfl, rfl⟩
 · have e : x % n = x.tmod n := by
    rw [Int.emod_eq_tmod]
    rw [if_pos]
    · omega
    · by_cases hx : 0 ≤ x
      · exact .inl hx
      · right
        have h3 : (-x).tmod n = - x.tmod n := Int.neg_tmod _ _
        have h4 := Int.tmod_nonneg n (show 0 ≤ -x by omega)
        exact Int.dvd_of_tmod_eq_zero (by omega)
   rw [e]
   clear e
   go_enter Tryz.func21, Tryz.ntmps21
   go_wp2
   go_ret
   exact ⟨rfl, rfl⟩
def Ints (w : World) (v : Value) (zs : List Int) : Prop := ∃ a c, v = .slice a zs.length c ∧ ∀ i z, zs[i]? = some z → ∃ b o, a = some ⟨b, o, none⟩ ∧ w.cell? ⟨b, o + i, none⟩ = some (.int .i64 z)
theorem Ints.len {w : World} {v : Value} {zs : List Int} (h : Ints w v zs) : ∃ a c, v = .slice a zs.length c := by
 obtain ⟨a, c, h, _⟩ := h
 exact ⟨a, c, h⟩
theorem Ints.at {w : World} {a : Option Addr} {n c q : Nat} {zs : List Int} {z : Int} (h : Ints w (.slice a n c) zs) (hq : zs[q]? = some z) : ∃ b o, a = some ⟨b, o, none⟩ ∧ w.cell? ⟨b, o + q, none⟩ = some (.int .i64 z) := by
 obtain ⟨a', c', h1, h2⟩ := h
 cases h1
 exact h2 q z hq
theorem Ints.of_rw {w : World} {v : Value} {zs : List Int} {F : Assn} {e : Nat} (hs : Sat (rw e 1 v (zs.map (Value.int .i64)) * F) w) : Ints w v zs := by
 rcases hs.rw_open with ⟨h1, h2, h3⟩ | ⟨g, n', cap', sp, h1, h2, h3, h4, h5, h6⟩
 · have : zs = [] := by simpa using h2
   subst this
   exact ⟨none, 0, h1, fun i z hz => by simp at hz⟩
 · have : n' = zs.length := by simpa using h2.symm
   subst this
   refine ⟨_, cap', h1, fun i z hz => ⟨g, 0, rfl, ?_⟩⟩
   have h7 : Sat (cells g 0 (zs.map (Value.int .i64)) * (hdr g e (zs.map (Value.int .i64) ++ sp).length * (cells g (zs.map (Value.int .i64)).length sp * F))) w := h6.eq (by rw [block_split]; ac_rfl)
   exact h7.cells_at i (.int .i64 z) (by simp [hz])
set_option maxHeartbeats 400000 in
theorem ints_any (v1 v2 : Value) (z1 z2 : List Int) (w : World) (h1 : Ints w v1 z1) (h2 : Ints w v2 z2) (hm : z1.length ≤ 4611686018427387904) (hm2 : z2.length ≤ 4611686018427387904) :
 Calls Tryz.prog 59 #[v1, v2] w fun e w' => e = .returned (.bool (decide (z1 = z2))) ∧ ∃ n, w' = w.drewN n := by
 obtain ⟨a1, c1, rfl⟩ := h1.len
 obtain ⟨a2, c2, rfl⟩ := h2.len
 by_cases hl : z1.length = z2.length
 · have hne2 : ((z1.length : Int) != (z2.length : Int)) = false := by simp; omega
   have HL : Aside (z1.length = z2.length) := hl
   clear hl
   go_enter Tryz.func59, Tryz.ntmps59
   go_wp2
   go_loopg [5] z1.length (fun k i wr => ∃ j : Nat, i = .int .i64 j ∧ j ≤ z1.length ∧ Aside (k = z1.length - j ∧ z1.take j = z2.take j) ∧ ∃ n, w.drewN n = wr)
   case atStart => exact ⟨0, rfl, by omega, ⟨rfl, rfl⟩, 0, rfl⟩
   case round =>
    obtain ⟨j, rfl, hj, A, nn, rfl⟩ := hrel
    by_cases hlt : j < z1.length
    · have hlt2 : j < z2.length := by have := HL.out; omega
      obtain ⟨b1, o1, rfl, x1⟩ := h1.at (show z1[j]? = some z1[j] by simp [hlt])
      obtain ⟨b2, o2, rfl, x2⟩ := h2.at (show z2[j]? = some z2[j] by simp [hlt2])
      clear h1 h2 hne2
      have hlt3 : (j : Int) < z1.length := by omega
      have hlt4 : (j : Int) < z2.length := by omega
      by_cases he : z1[j] = z2[j]
      · have he1 : (z1[j] != z2[j]) = false := by simpa using he
        have HE : Aside (z1[j] = z2[j]) := he
        clear he
        go_wp2
        go_quiet (fail)
        go_wp2
        go_roundg (z1.length - (j + 1))
        case measure => have := A.out.1; omega
        case rel =>
         refine ⟨j + 1, by go_num, by omega, ⟨rfl, ?_⟩, nn + nq, rfl⟩
         rw [List.take_succ_eq_append_getElem hlt, List.take_succ_eq_append_getElem hlt2, A.out.2, HE.out]
      · have he1 : (z1[j] != z2[j]) = true := by simpa using he
        have HE : Aside (z1[j] ≠ z2[j]) := he
        clear he
        go_wp2
        go_quiet (fail)
        go_wp2
        go_ret
        have : z1 ≠ z2 := fun e => HE.out (by subst e; rfl)
        exact ⟨by simp [this], nn + nq, by rw [World.drewN_drewN]⟩
    · have : j = z1.length := by omega
      subst this
      clear hlt hne2 h1 h2
      go_wp2
      go_ret
      have e : z1 = z2 := by
       have := A.out.2
       rw [List.take_of_length_le (Nat.le_refl _), List.take_of_length_le (by have := HL.out; omega)] at this
       exact this
      exact ⟨by simp [e], nn, rfl⟩
 · have hne : z1 ≠ z2 := fun e => hl (by rw [e])
   have hne2 : ((z1.length : Int) != (z2.length : Int)) = true := by simp; omega
   have e : decide (z1 = z2) = false := by simpa using hne
   rw [e]
   clear e hne h1 h2 hl
   go_enter Tryz.func59, Tryz.ntmps59
   go_wp2
   go_ret
   exact ⟨rfl, 0, rfl⟩
end Go.Proofs.YtfhbmblbidcmmaaGreat
namespace Go.Proofs.YtfhbmblbidcmmaaGreat
set_option linter.unusedSimpArgs false
set_option linter.unusedVariables false
open Go.RowKit Go.Sl Go.Dk
attribute [local go_sem ↓] Go.wp_at_zero Go.wp_at_succ
/-! The first loop: each file is as it was safe. -/
/-! The second loop: the pieces that are kept are laid, one behind the other. -/
theorem ofName_snoc (nm : ByteArray) (L : List Pc) (p : Pc) : ofName nm (L ++ [p]) = if p.nm = nm then ofName nm L ++ [p] else ofName nm L := by
 unfold ofName
 rw [List.filter_append]
 have e : (p.nm == nm) = decide (p.nm = nm) := bytes_beq _ _
 by_cases h : p.nm = nm
 · have e' : (p.nm == nm) = true := by rw [e]; simpa using h
   rw [if_pos h]
   simp [List.filter_cons, e']
 · have e' : (p.nm == nm) = false := by rw [e]; simpa using h
   rw [if_neg h]
   simp [List.filter_cons, e']
def keptB (L : List Pc) (s : ByteArray) : Bool := (ofName s L).any fun p => p.b.isSome
def KeptIs (L : List Pc) (kl : List (ByteArray × Value)) : Prop := ∀ s, mget s kl = if keptB L s then some (.bool true) else none
theorem mget_mput [DecidableEq ByteArray] (k s : ByteArray) (v : Value) (l : List (ByteArray × Value)) : mget s (mput k v l) = if s = k then some v else mget s l := by
 induction l with
 | nil => simp only [mput, mget]
 | cons p l ih =>
   unfold mput
   by_cases hk : k = p.1
   · rw [if_pos hk]
     simp only [mget]
     by_cases hs : s = k
     · simp [hs]
     · have : ¬ s = p.1 := fun e => hs (e.trans hk.symm)
       simp [hs, this]
   · rw [if_neg hk]
     simp only [mget, ih]
     by_cases hs : s = p.1
     · have : ¬ s = k := fun e => hk (e.symm.trans hs)
       simp [hs, this]
       intro e; exact absurd e.symm hk
     · simp [hs]
theorem KeptIs.cut {L : List Pc} {kl : List (ByteArray × Value)} (h : KeptIs L kl) {p : Pc} (hp : p.b = none) : KeptIs (L ++ [p]) kl := by
 intro s
 rw [h s]
 have : keptB (L ++ [p]) s = keptB L s := by
  unfold keptB
  rw [ofName_snoc]
  split <;> simp [hp]
 rw [this]
theorem KeptIs.put {L : List Pc} {kl : List (ByteArray × Value)} (h : KeptIs L kl) {p : Pc} (hp : p.b.isSome = true) : KeptIs (L ++ [p]) (mput p.nm (.bool true) kl) := by
 intro s
 rw [mget_mput, h s]
 have : keptB (L ++ [p]) s = if s = p.nm then true else keptB L s := by
  unfold keptB
  rw [ofName_snoc]
  by_cases e : s = p.nm
  · simp [e, hp]
  · rw [if_neg (fun h : p.nm = s => e h.symm), if_neg e]
 rw [this]
 by_cases e : s = p.nm <;> simp [e]
/-! The third loop: what was kept is safe. -/
end Go.Proofs.YtfhbmblbidcmmaaGreat
namespace Go.Proofs.YtfhbmblbidcmmaaGreat
set_option linter.unusedSimpArgs false
set_option linter.unusedVariables false
open Go.Dk
theorem fput_mem {nm : ByteArray} {f : Fl} {p : ByteArray × Fl} : ∀ {fs : List (ByteArray × Fl)}, p ∈ fput nm f fs → p = (nm, f) ∨ p ∈ fs
 | [], h => by simp [fput] at h; exact .inl h
 | q :: l, h => by
   unfold fput at h
   split at h
   · rcases List.mem_cons.1 h with h | h
     · exact .inl h
     · exact .inr (List.mem_cons_of_mem _ h)
   · rcases List.mem_cons.1 h with h | h
     · exact .inr (by simp [h])
     · rcases fput_mem h with h | h
       · exact .inl h
       · exact .inr (List.mem_cons_of_mem _ h)
theorem fput_nodup {nm : ByteArray} {f : Fl} : ∀ {fs : List (ByteArray × Fl)}, (fs.map (·.1)).Nodup → ((fput nm f fs).map (·.1)).Nodup
 | [], _ => by simp [fput]
 | q :: l, h => by
   simp only [List.map_cons, List.nodup_cons] at h
   unfold fput
   by_cases hk : nm = q.1
   · rw [if_pos hk]; simp only [List.map_cons, List.nodup_cons, hk]; exact h
   · rw [if_neg hk]
     simp only [List.map_cons, List.nodup_cons]
     refine ⟨?_, fput_nodup h.2⟩
     intro hm
     obtain ⟨p, hp, e⟩ := List.mem_map.1 hm
     rcases fput_mem hp with rfl | hp
     · exact hk e
     · exact h.1 (List.mem_map.2 ⟨p, hp, e⟩)
theorem fput_len {nm : ByteArray} {f : Fl} : ∀ {fs : List (ByteArray × Fl)}, (fput nm f fs).length = if (fget nm fs).isSome then fs.length else fs.length + 1
 | [] => by simp [fput, fget]
 | q :: l => by
   unfold fput fget
   by_cases hk : nm = q.1
   · rw [if_pos hk, if_pos hk]; simp
   · rw [if_neg hk, if_neg hk]
     have := fput_len (nm := nm) (f := f) (fs := l)
     simp only [List.length_cons, this]
     split <;> rfl
theorem fget_fput {nm k : ByteArray} {f : Fl} : ∀ {fs : List (ByteArray × Fl)}, fget k (fput nm f fs) = if k = nm then some f else fget k fs
 | [] => by simp [fput, fget]
 | q :: l => by
   unfold fput
   by_cases hk : nm = q.1
   · rw [if_pos hk]
     unfold fget
     by_cases h : k = nm
     · simp [h]
     · have : ¬ k = q.1 := fun e => h (e.trans hk.symm)
       simp [h, this]
   · rw [if_neg hk]
     unfold fget
     rw [fget_fput (fs := l)]
     by_cases h : k = q.1
     · have : ¬ k = nm := fun e => hk (e.symm.trans h)
       rw [if_pos h, if_neg this, if_pos h]
     · simp [h]
theorem fget_mem {k : ByteArray} {f : Fl} : ∀ {fs : List (ByteArray × Fl)}, fget k fs = some f → (k, f) ∈ fs
 | [], h => by simp [fget] at h
 | q :: l, h => by
   unfold fget at h
   split at h
   · rename_i e; cases h; simp [e]
   · exact List.mem_cons_of_mem _ (fget_mem h)
theorem had_le_sum {nm : ByteArray} : ∀ {fs : List (ByteArray × Fl)}, had (fget nm fs) ≤ sum fs
 | [] => by simp [fget, had]
 | q :: l => by
   have ih := had_le_sum (nm := nm) (fs := l)
   unfold fget
   split
   · simp [had, Dk.sum]
   · simp only [Dk.sum, List.map_cons, List.sum_cons] at ih ⊢; omega
theorem fits_size {m : Nat} {d : Dk} (ok : Ok m d) {nm : ByteArray} {n : Int} (h : d.fits (d.get nm) n = 0) (h0 : 0 ≤ n) : n ≤ big ∧ ((d.get nm).isSome = false → d.files.length < 16) := by
 unfold Dk.fits at h
 by_cases h1 : ((d.get nm).isNone && decide (16 ≤ d.files.length)) = true
 · rw [if_pos h1] at h; cases h
 rw [if_neg h1] at h
 by_cases h2 : (decide ((had (d.get nm) : Int) < n) && decide (d.room < (sum d.files : Int) - had (d.get nm) + n)) = true
 · rw [if_pos h2] at h; cases h
 refine ⟨?_, ?_⟩
 · have hs : had (d.get nm) ≤ sum d.files := had_le_sum
   have hr := ok.room
   by_cases h3 : (had (d.get nm) : Int) < n
   · have h4 : ¬ (d.room < (sum d.files : Int) - had (d.get nm) + n) := fun h4 => h2 (by simp [h3, h4])
     omega
   · have h5 : had (d.get nm) ≤ big := by
      cases hg : d.get nm with
      | none => simp [had]
      | some f => exact (ok.sz (nm, f) (fget_mem hg)).1
     omega
 · intro hn
   have hn' : (d.get nm).isNone = true := by cases hg : d.get nm <;> simp_all
   rw [hn'] at h1
   simpa using h1
theorem ok_more {m m' : Nat} {d : Dk} (ok : Ok m d) (h : m ≤ m') : Ok m' d :=
 ⟨ok.nd, ok.room, by have := ok.left; omega, by have := ok.changes; omega, by have := ok.pend; omega, ok.nf, ok.sz, ok.pc, ok.pn⟩
theorem ok_down {m : Nat} {d : Dk} (ok : Ok m d) : Ok m { d with down := true } := ⟨ok.nd, ok.room, ok.left, ok.changes, ok.pend, ok.nf, ok.sz, ok.pc, ok.pn⟩
theorem ok_new (room : Int) (h1 : 0 ≤ room) (h2 : room ≤ big) : Ok 0 (Dk.new room) :=
 ⟨by simp [Dk.new], ⟨h1, h2⟩, by simp [Dk.new], by simp [Dk.new], by simp [Dk.new], by simp [Dk.new], by simp [Dk.new], by simp [Dk.new], by simp [Dk.new]⟩
theorem ok_write {m : Nat} {d : Dk} (ok : Ok m d) (nm : ByteArray) (k : Int) (b : List UInt8) : Ok (m + 1 + b.length) (d.write nm k b).2 := by
 unfold Dk.write
 split
 · exact ok_more ok (by omega)
 split
 · exact ok_more ok (by omega)
 split
 · exact ok_more ok (by omega)
 split
 · exact ok_more ok (by omega)
 split
 · exact ok_down (ok_more ok (by omega))
 rename_i hm hr hb hf hst
 have hf' : d.fits (d.get nm) (max (had (d.get nm)) (k + b.length)) = 0 := by simpa using hf
 obtain ⟨k, rfl⟩ := Int.eq_ofNat_of_zero_le (show 0 ≤ k by omega)
 obtain ⟨g1, g2⟩ := fits_size ok hf' (by omega)
 have hkb : k + b.length ≤ big := by omega
 simp only [Int.toNat_natCast] at *
 show Ok _ (d.written nm k b)
 have hfl : (((d.get nm).getD Dk.fl0).now.length ≤ big) ∧ (((d.get nm).getD Dk.fl0).safe.length ≤ big) := by
  cases hg : d.get nm with
  | none => simp [Dk.fl0]
  | some f => exact ok.sz (nm, f) (fget_mem hg)
 refine ⟨fput_nodup ok.nd, ok.room, ?_, ?_, ?_, ?_, ?_, ?_, ?_⟩
 · have := ok.left; show -((m + 1 + b.length : Nat) : Int) ≤ d.left - 1 ∧ d.left - 1 ≤ _; omega
 · have := ok.changes; show 0 ≤ d.changes + 1 ∧ d.changes + 1 ≤ ((m + 1 + b.length : Nat) : Int); omega
 · show (d.pend ++ sect nm k b).length ≤ _
   rw [List.length_append]
   have := ok.pend
   have := sect_len nm b.length k b (Nat.le_refl _)
   omega
 · show (fput nm _ d.files).length ≤ 16
   rw [fput_len]
   have := ok.nf
   split
   · exact this
   · rename_i h
     have := g2 (by simpa [Dk.get] using h)
     omega
 · intro p hp
   rcases fput_mem hp with rfl | hp
   · refine ⟨?_, hfl.2⟩
     show (laid _ k b).length ≤ big
     rw [laid_len]; omega
   · exact ok.sz p hp
 · intro p hp
   rcases List.mem_append.1 hp with hp | hp
   · exact ok.pc p hp
   · obtain ⟨_, l, h1, h2, _⟩ := sect_mem nm b.length k b (Nat.le_refl _) p hp
     rw [h1]; simp only [Option.getD_some]; omega
 · intro p hp
   show (fget p.nm (fput nm _ d.files)).isSome = true
   rw [fget_fput]
   split
   · rfl
   · rename_i hne
     rcases List.mem_append.1 hp with hp | hp
     · exact ok.pn p hp
     · exact absurd (sect_mem nm b.length k b (Nat.le_refl _) p hp).1 hne
theorem ok_put {m : Nat} {d : Dk} (ok : Ok m d) {nm : ByteArray} {f : Fl} (h1 : f.now.length ≤ big) (h2 : f.safe.length ≤ big) (h3 : (d.get nm).isSome = false → d.files.length < 16) : Ok m (d.put nm f) := by
 refine ⟨fput_nodup ok.nd, ok.room, ok.left, ok.changes, ok.pend, ?_, ?_, ok.pc, ?_⟩
 · show (fput nm f d.files).length ≤ 16
   rw [fput_len]
   have := ok.nf
   split
   · exact this
   · rename_i h
     have := h3 (by simpa [Dk.get] using h)
     omega
 · intro p hp
   rcases fput_mem hp with rfl | hp
   · exact ⟨h1, h2⟩
   · exact ok.sz p hp
 · intro p hp
   show (fget p.nm (fput nm f d.files)).isSome = true
   rw [fget_fput]
   split
   · rfl
   · exact ok.pn p hp
theorem ok_settled {m : Nat} {d : Dk} (ok : Ok m d) (nm : ByteArray) : Ok m (d.settled nm) := by
 refine ⟨ok.nd, ok.room, ok.left, ok.changes, ?_, ok.nf, ok.sz, fun p hp => ok.pc p (List.mem_filter.1 hp).1, fun p hp => ok.pn p (List.mem_filter.1 hp).1⟩
 have := ok.pend
 have h2 : (d.settled nm).pend.length ≤ d.pend.length := List.length_filter_le _ _
 omega
theorem ok_ticked {m : Nat} {d : Dk} (ok : Ok m d) : Ok (m + 1) d.ticked := by
 refine ⟨ok.nd, ok.room, ?_, ?_, ?_, ok.nf, ok.sz, ok.pc, ok.pn⟩
 · have := ok.left; show -((m + 1 : Nat) : Int) ≤ d.left - 1 ∧ d.left - 1 ≤ _; omega
 · have := ok.changes; show 0 ≤ d.changes + 1 ∧ d.changes + 1 ≤ ((m + 1 : Nat) : Int); omega
 · have := ok.pend; show d.pend.length ≤ m + 1; omega
theorem ok_load {m : Nat} {d : Dk} (ok : Ok m d) (nm : ByteArray) (b : List UInt8) : Ok m (d.load nm b).2 := by
 unfold Dk.load
 split
 · exact ok
 split
 · exact ok
 rename_i h
 have hf : d.fits (d.get nm) (b.length : Nat) = 0 := by simpa using h
 obtain ⟨g1, g2⟩ := fits_size ok hf (by omega)
 exact ok_put (ok_settled ok nm) (by show b.length ≤ big; omega) (by show b.length ≤ big; omega) g2
theorem ok_sync {m : Nat} {d : Dk} (ok : Ok m d) (nm : ByteArray) : Ok (m + 1) (d.sync nm).2 := by
 unfold Dk.sync
 split
 · exact ok_more ok (by omega)
 split
 · exact ok_down (ok_more ok (by omega))
 rename_i h _
 have hm : d.may nm true = 0 := by simpa using h
 have hg := may_some hm
 obtain ⟨f, hf⟩ := Option.isSome_iff_exists.1 hg
 have hz := ok.sz (nm, f) (fget_mem hf)
 have e : (d.get nm).getD Dk.fl0 = f := by rw [hf]; rfl
 simp only [e]
 exact ok_settled (ok_put (f := { f with safe := f.now, sure := true }) (ok_ticked ok) hz.1 hz.1 (fun h => by have h' : (d.get nm).isSome = false := h; rw [hg] at h'; cases h')) nm
end Go.Proofs.YtfhbmblbidcmmaaGreat
