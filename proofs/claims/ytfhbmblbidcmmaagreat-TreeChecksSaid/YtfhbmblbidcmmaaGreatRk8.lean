/-
  Of any pages in a file a root is found to be a tree just if it is one in the form of the document. No condition. (part 8)
-/
import Derived.Test.YtfhbmblbidcmmaaGreatRk4
import Derived.Deep.DeepCutAuto
import Derived.Outline
import Derived.Deep.RegionLaw
import Derived.Test.YtfhbmblbidcmmaaGreatRk7
set_option linter.unusedSimpArgs false
set_option linter.unusedVariables false
namespace Go.Proofs.YtfhbmblbidcmmaaGreat
set_option linter.unusedSimpArgs false
set_option linter.unusedVariables false
open Go.RowKit Go.Sl Go.Dk
attribute [local go_sem ↓] Go.wp_at_zero Go.wp_at_succ
theorem Reads.from {B : Assn} {a : Option Addr} {n c : Nat} {l : List UInt8} (h : Reads B (.slice a n c) l) (lo : Nat) (h1 : lo ≤ n) : Reads B (.slice (cutA a c lo 1) (n - lo) (c - lo)) (l.drop lo) := by
 intro F w hs
 have hb := h F w hs
 obtain ⟨hn, _⟩ := hb.n
 have := hb.cut lo n h1 (Nat.le_refl _)
 rw [List.take_of_length_le (by simp; omega)] at this
 exact this
theorem Reads.to {B : Assn} {a : Option Addr} {n c : Nat} {l : List UInt8} (h : Reads B (.slice a n c) l) (hi : Nat) (h1 : hi ≤ n) : Reads B (.slice (cutA a c 0 1) hi c) (l.take hi) := by
 intro F w hs
 have := (h F w hs).cut 0 hi (by omega) h1
 simpa using this
def SectRel (nm : ByteArray) (k : Nat) (b : List UInt8) (j : Nat) (qs : List Np) : Prop := pents qs ++ sect nm (k + j) (b.drop j) = sect nm k b
theorem SectRel.zero (nm : ByteArray) (k : Nat) (b : List UInt8) : SectRel nm k b 0 [] := by simp [SectRel, pents]
theorem SectRel.step {nm : ByteArray} {k : Nat} {b : List UInt8} {j : Nat} {qs : List Np} (h : SectRel nm k b j qs) (hj : j < b.length) (v : Value) :
 SectRel nm k b (j + Dk.part (k + j) (b.length - j)) (qs ++ [⟨v, ⟨nm, k + j, some ((b.drop j).take (Dk.part (k + j) (b.length - j)))⟩⟩]) := by
 unfold SectRel at *
 rw [← h, sect_cons nm (k + j) (b.drop j) (by simp; omega)]
 simp [pents, Nat.add_assoc, List.drop_drop]
theorem SectRel.done {nm : ByteArray} {k : Nat} {b : List UInt8} {j : Nat} {qs : List Np} (h : SectRel nm k b j qs) (hj : b.length ≤ j) : pents qs = sect nm k b := by
 unfold SectRel at h
 rw [← h, List.drop_of_length_le hj, sect_nil, List.append_nil]
theorem pieceA_new (v : Value) (nm : ByteArray) (k : Nat) (l : List UInt8) (hv : notNil v) : pieceA ⟨v, ⟨nm, k, some l⟩⟩ = rw TB 1 v (bys l) := by
 show pur (notNil v) * rw TB 1 v (bys l) = _
 have : pur (notNil v) = 1 := by
  funext h
  apply propext
  exact ⟨fun h => h.2, fun h => ⟨hv, h⟩⟩
 rw [this, one_sep]
theorem rw_notNil {e s : Nat} {a : Option Addr} {n c : Nat} {xs : List Value} {F : Assn} {w : World} (hs : Sat (rw e s (.slice a n c) xs * F) w) (ha : a ≠ none) : notNil (.slice a n c) := by
 rcases hs.rw_open with ⟨h1, _⟩ | ⟨g, n', cap', sp, h1, _⟩
 · cases h1; exact absurd rfl ha
 · cases h1; exact ⟨g, _, _, rfl⟩
set_option maxRecDepth 100000 in
set_option maxHeartbeats 4000000 in
theorem wrote_found (D M : Nat) (l1 : List Nf) (x : Nf) (l2 : List Nf) (pv : Value) (ps : List Np) (d : Dk) (k : Nat) (v : Value) (b : List UInt8) (B F : Assn) (w : World) (hB : Reads B v b) (hs : Sat (diskA D M (l1 ++ x :: l2) pv ps d * (B * F)) w)
 (hl1 : ∀ m ∈ l1, m.nm ≠ x.nm) (hf : fents (l1 ++ x :: l2) = d.files) (hlen : lens (l1 ++ x :: l2) ≤ 4611686018427387904)
 (hsz : x.nm.size ≤ 9223372036854775807) (hn : named x.nm = true) (hd : d.down = false) (hk : k ≤ x.f.now.length) (hb0 : 0 < b.length) (hb : b.length ≤ 1099511627776) (hx : x.f.now.length ≤ 1099511627776) (hp : ps.length ≤ 1099511627776)
 (hfit : d.fits (some x.f) (max (x.f.now.length : Nat) (k + b.length : Nat)) = 0) (hst : d.stop = false) (h1 : -4611686018427387904 ≤ d.left) (h1' : d.left ≤ 9223372036854775807) (h2 : 0 ≤ d.changes) (h3 : d.changes ≤ 4611686018427387904) :
 Calls Tryz.prog 147 #[.pointer (some ⟨D, 0, none⟩), .string x.nm, .int .i64 k, v] w fun e w' => ∃ nv pv' qs, e = .returned (.int .i64 0) ∧ pents qs = sect x.nm k b ∧
  Sat (fileA { x with f := { x.f with now := laid x.f.now k b }, nv := nv } * (coreD D M pv' d.ticked * (pendA pv' (ps ++ qs) * (mp skey M ((l1 ++ x :: l2).map kvF) * (filesA l1 * (filesA l2 * (B * F))))))) w' := by
 obtain ⟨i0, E⟩ := elemB
 obtain ⟨i1, E1⟩ := elemP
 obtain ⟨xa, xc, rfl, hxc, hxm⟩ := (hB _ _ (hs.take B)).len
 have hmay := may_found D M l1 x l2 pv ps d false (B * F) w hs hl1 hsz hn hd
 have hfits : ∀ q : Int, q = max ((x.f.now.length : Nat) : Int) ((k + b.length : Nat) : Int) → Calls Tryz.prog 69 #[.pointer (some ⟨D, 0, none⟩), .pointer (some ⟨x.b, 0, none⟩), .int .i64 q] w fun e w' => e = .returned (.int .i64 0) ∧ Sat (diskA D M (l1 ++ x :: l2) pv ps d * (B * F)) w' := by
  rintro q rfl
  have := fits_some D M l1 x l2 pv ps d (max (x.f.now.length : Nat) (k + b.length : Nat)) (B * F) w hs hf hlen (by omega) (by omega)
  rw [hfit] at this
  exact this
 have HF : Aside (∀ q : Int, q = max ((x.f.now.length : Nat) : Int) ((k + b.length : Nat) : Int) → Calls Tryz.prog 69 #[.pointer (some ⟨D, 0, none⟩), .pointer (some ⟨x.b, 0, none⟩), .int .i64 q] w fun e w' => e = .returned (.int .i64 0) ∧ Sat (diskA D M (l1 ++ x :: l2) pv ps d * (B * F)) w') := hfits
 clear hfits
 have c0 : w.cell? ⟨x.b, 0, none⟩ = some x.nv := by rw [disk_file] at hs; unfold fileA at hs; exact hs.c x.b 0
 obtain ⟨va, vc, hv, hv1, hv2⟩ : ∃ a c, x.nv = .slice a x.f.now.length c ∧ x.f.now.length ≤ c ∧ c ≤ 9223372036854775807 := by rw [disk_file] at hs; unfold fileA at hs; exact rw_vb (hs.take (rw TB 1 x.nv (bys x.f.now)))
 rw [hv] at c0
 have HV : Aside (x.nv = .slice va x.f.now.length vc) := hv
 have hb0' : ((b.length : Int) == 0) = false := by rw [beq_eq_false_iff_ne]; omega
 have hkk : ¬ (x.f.now.length : Int) < k := by omega
 clear hs hf hlen hfit hn hv
 go_enter Tryz.func147, Tryz.ntmps147
 go_wp2_with fail
 refine hmay.mono ?_
 rintro e w' ⟨rfl, rfl⟩
 go_upto_region 11 with (fail)
 go_cut [10] (fun t10 wx => t10 = .int .i64 0 ∧ Sat (diskA D M (l1 ++ x :: l2) pv ps d * (B * F)) wx)
 case first =>
  go_wp2_with (go_at_call 69; refine (HF.out _ ?_).mono ?_; omega; rintro e w1 ⟨rfl, hs1⟩)
  all_goals
   go_meet
   exact ⟨rfl, hs1⟩
 case rest =>
  obtain ⟨rfl, hs1⟩ := hcut
  clear HF hmay c0
  have hch := change_go D M pv d _ _ (hs1.eq (by rw [disk_core, sep_assoc])) hst h1 h1' h2 h3
  clear hs1 hst h1 h1' h2 h3
  go_wp2_with fail
  refine hch.mono ?_
  rintro e w2 ⟨rfl, hs2⟩
  clear hch
  obtain ⟨R, HR⟩ : ∃ R, Aside (mp skey M ((l1 ++ x :: l2).map kvF) * (filesA l1 * (filesA l2 * F)) = R) := ⟨_, rfl⟩
  have hs3 : Sat (rw TB 1 (.slice va x.f.now.length vc) (bys x.f.now) * (B * (hdr x.b TF 3 * (Sl.cell x.b 0 (.slice va x.f.now.length vc) * (Sl.cell x.b 1 x.sv * (Sl.cell x.b 2 (.bool x.f.sure) * (rw TB 1 x.sv (bys x.f.safe) * (coreD D M pv d.ticked * (pendA pv ps * R))))))))) w2 := by
   refine hs2.eq ?_
   rw [← HR.out, filesA_append, filesA]
   unfold fileA
   rw [HV.out]
   ac_rfl
  have c0 := hs3.c x.b 0
  have hlay := lay_any _ x.f.now k (.slice xa b.length xc) b B _ hB w2 hs3 (by omega) (by omega)
  clear hs2
  go_wp2_with fail
  refine hlay.mono ?_
  rintro e w3 ⟨nv, rfl, hs4⟩
  obtain ⟨na, nc, hnv, _, _⟩ := rw_vb hs4
  obtain ⟨nl, hnl⟩ : ∃ n, (laid x.f.now k b).length = n := ⟨_, rfl⟩
  rw [hnl] at hnv
  subst hnv
  clear hnl
  have k0 := hs4.c x.b 0
  have f0 := hs4.f x.b 0
  have hs5 := hs4.upd x.b 0 (.slice na nl nc)
  unfold pendA at hs5
  rw [coreD_x] at hs5
  obtain ⟨pa, pn, pc, hpv, hpl2, hpc, hpm⟩ := rw_v (hs5.take (rw TP 3 pv (prows ps)))
  rw [prows_len] at hpl2
  obtain rfl : ps.length = pn := by omega
  rw [hpv] at hs5
  obtain ⟨R2, HR2⟩ : ∃ R2, Aside (rw TB 1 (.slice na nl nc) (bys (laid x.f.now k b)) * (hdr x.b TF 3 * (Sl.cell x.b 0 (.slice na nl nc) * (Sl.cell x.b 1 x.sv * (Sl.cell x.b 2 (.bool x.f.sure) * (rw TB 1 x.sv (bys x.f.safe) * (coreX D M d.ticked * R)))))) = R2) := ⟨_, rfl⟩
  have hs6 : Sat (Sl.cell D 6 (.slice pa ps.length pc) * (rw TP 3 (.slice pa ps.length pc) (prows ps) * (piecesA ps * (B * R2)))) (w3.setCell ⟨x.b, 0, none⟩ (.slice na nl nc)) := hs5.eq (by rw [← HR2.out]; ac_rfl)
  clear hs3 c0 hlay hs4 hs5 hpv hpl2
  go_wp2_with fail
  go_loopg [2, 3] b.length (fun g t2 t3 wr => ∃ (j : Nat) (ya : Option Addr) (yc : Nat) (pa' : Option Addr) (pc' : Nat) (qs : List Np), t2 = .int .i64 (k + j : Nat) ∧ t3 = .slice ya (b.length - j) yc ∧ j ≤ b.length ∧ qs.length ≤ j ∧
   Aside (g = b.length - j ∧ Reads B (.slice ya (b.length - j) yc) (b.drop j) ∧ SectRel x.nm k b j qs) ∧
   Sat (Sl.cell D 6 (.slice pa' (ps.length + qs.length) pc') * (rw TP 3 (.slice pa' (ps.length + qs.length) pc') (prows (ps ++ qs)) * (piecesA (ps ++ qs) * (B * R2)))) wr)
  case atStart => exact ⟨0, xa, xc, pa, pc, [], rfl, rfl, by omega, by simp, ⟨rfl, hB, SectRel.zero _ _ _⟩, by simpa using hs6⟩
  case round =>
   obtain ⟨j, ya, yc, pa', pc', qs, rfl, rfl, hj, hq, A, hsr⟩ := hrel
   clear hs6 k0 f0
   obtain ⟨hg, hY, hrel2⟩ := A.out
   by_cases hjl : j < b.length
   · have hgt : (0 : Int) < ((b.length - j : Nat) : Int) := by omega
     obtain ⟨p, hp1⟩ : ∃ p, Dk.part (k + j) (b.length - j) = p := ⟨_, rfl⟩
     have hpp := part_pos (k := k + j) (n := b.length - j) (by omega)
     rw [hp1] at hpp
     have HS := hrel2.step hjl
     rw [hp1] at HS
     have HS' : Aside (∀ v, SectRel x.nm k b (j + p) (qs ++ [⟨v, ⟨x.nm, k + j, some ((b.drop j).take p)⟩⟩])) := HS
     have HP : Aside (Dk.part (k + j) (b.length - j) = p) := hp1
     have hyc : b.length - j ≤ yc ∧ yc ≤ maxLen := by have := (hY _ _ (hsr.take B)).n; omega
     have HY : Aside (Reads B (.slice ya (b.length - j) yc) (b.drop j)) := hY
     have HG : Aside (gk = b.length - j) := hg
     clear HS hp1 hY hrel2 A hg
     have hif : (if 64 - ((k : Int) + (j : Int)) % 64 < ((b.length - j : Nat) : Int) then 64 - ((k : Int) + (j : Int)) % 64 else ((b.length - j : Nat) : Int)) = (p : Nat) := by
      have h := HP.out
      unfold Dk.part at h
      split <;> omega
     have HI : Aside ((if 64 - ((k : Int) + (j : Int)) % 64 < ((b.length - j : Nat) : Int) then 64 - ((k : Int) + (j : Int)) % 64 else ((b.length - j : Nat) : Int)) = (p : Nat)) := hif
     clear hif
     have hYto := Reads.to HY.out p (by omega)
     have hlp : ((b.drop j).take p).length = p := by simp; omega
     have q1 := (rw_new0 (e := TB) (s := 1) hsr).drew
     have hsrc1 := (hYto _ _ (q1.take B)).src (P := Tryz.prog)
     rw [hlp] at hsrc1
     have hto := at_to (P := Tryz.prog) E (a := ya) (n := b.length - j) (c := yc) p (by omega)
     have hfrom := at_from (P := Tryz.prog) E (a := ya) (n := b.length - j) (c := yc) p (by omega)
     have c6 := hsr.c D 6
     have hD : D < wr.heap.size := World.block_lt_of_cell? _ _ c6
     have hyc1 : p ≤ yc := by omega
     have hpsl : ps.length + qs.length ≤ 2199023255552 := by omega
     clear hlp hyc hYto
     go_upto_region 23 with (fail)
     rw [HI.out]
     go_region_law first
      | (refine step_append_sl E rfl (.tmp 92) (.tmp 95) rfl rfl rfl q1 hsrc1 (by unfold maxLen; omega) (by omega) ?_; intro a3 c3 w3 hs7 hnn; have HN : Aside (notNil (.slice a3 p c3)) := (by have hz := rw_notNil hs7 (by intro e; exact absurd (hnn.1 e).1 (by simp)); simpa using hz : notNil (.slice a3 p c3)); simp only [Nat.zero_add, List.nil_append] at hs7; have d6 := hs7.c D 6; have hD3 : D < w3.heap.size := World.block_lt_of_cell? _ _ d6; have hs8 := hs7.alloc #[.string x.nm, .int .i64 ((k : Int) + (j : Int)), .slice a3 p c3] TP; have hsrc2 := Src.new (P := Tryz.prog) (s := 3) hs8 rfl (by intro u hu; simp at hu; rcases hu with rfl | rfl | rfl <;> rfl); have hs9 := hs8.take (rw TP 3 (.slice pa' (ps.length + qs.length) pc') (prows (ps ++ qs))); clear hnn hs8)
      | (refine step_append_sl E1 rfl (.tmp 89) (.tmp 98) rfl rfl rfl hs9 hsrc2 (by unfold maxLen; omega) (by omega) ?_; intro a4 c4 w4 hs10 hnn4; have e6 := hs10.c D 6; have f6 := hs10.f D 6; clear hnn4)
     all_goals
      have hs11 := hs10.upd D 6 (.slice a4 (ps.length + qs.length + 1) c4)
      clear hs7 hs9 hs10 hsrc2 hsrc1 q1 d6 hsr
      go_wp2_with fail
      go_quiet (fail)
      go_wp2
      go_roundg (b.length - (j + p))
      case measure => have := HG.out; omega
      case rel =>
       refine ⟨j + p, cutA ya yc p 1, yc - p, a4, c4, qs ++ [⟨.slice a3 p c3, ⟨x.nm, k + j, some ((b.drop j).take p)⟩⟩], by go_num, by rw [Nat.sub_sub], by omega, by simp; omega, ⟨rfl, ?_, HS'.out _⟩, ?_⟩
       · have hz := Reads.from HY.out p (by omega)
         rw [Nat.sub_sub, List.drop_drop] at hz
         exact hz
       · rw [← List.append_assoc, prows_append, piecesA_snoc, pieceA_new _ _ _ _ HN.out]
         have e7 : prows [(⟨.slice a3 p c3, ⟨x.nm, k + j, some ((b.drop j).take p)⟩⟩ : Np)] = [.string x.nm, .int .i64 ((k : Int) + (j : Int)), .slice a3 p c3] := by simp [prows, prow]
         rw [e7, List.length_append]
         simp only [List.length_cons, List.length_nil, Nat.zero_add, ← Nat.add_assoc]
         refine Sat.weak (B := block w3.heap.size TP [.string x.nm, .int .i64 ((k : Int) + (j : Int)), .slice a3 p c3]) (Sat.drewN _ (hs11.eq ?_))
         ac_rfl
   · have hgt : ¬ (0 : Int) < ((b.length - j : Nat) : Int) := by omega
     have HD : Aside (pents qs = sect x.nm k b) := hrel2.done (by omega)
     clear A hg hY hrel2
     go_wp2
     go_ret
     refine ⟨rfl, .slice na nl nc, .slice pa' (ps.length + qs.length) pc', qs, HD.out, hsr.eq ?_⟩
     rw [← HR2.out, ← HR.out, coreD_x]
     unfold fileA pendA
     dsimp only
     simp only [List.map_append, List.map_cons]
     ac_rfl
theorem write_put {M D : Nat} {ms : List (ByteArray × Value)} (nm : ByteArray) {G : Assn} {w : World} (hs : Sat (mp skey M ms * G) w) :
 ∃ w', (Instr.mapUpdate TFM (.map (some M)) (.string nm) (.pointer (some ⟨w.heap.size, 0, none⟩))).run Tryz.prog (w.alloc (.cells #[.slice none 0 0, .slice none 0 0, .bool false] TF)) = .ok () w' ∧
  Sat (fileA ⟨w.heap.size, nm, Dk.fl0, .slice none 0 0, .slice none 0 0⟩ * (mp skey M (mput nm (.pointer (some ⟨w.heap.size, 0, none⟩)) ms) * G)) w' := by
 have hs1 := (((hs.alloc #[.slice none 0 0, .slice none 0 0, .bool false] TF).rw_nil (e := TB) (s := 1)).rw_nil (e := TB) (s := 1))
 obtain ⟨o, ho, hs2⟩ := (hs1.take (mp skey M ms)).mp_open
 obtain ⟨o', ho', hup⟩ := run_mapUpdate_mp (P := Tryz.prog) keyOkS Tryz.underlying148 hs2.obj ho nm (.pointer (some ⟨w.heap.size, 0, none⟩))
 refine ⟨_, hup, ?_⟩
 have hs3 := Sat.mp_shut ho' (hs2.setRaw o')
 refine hs3.eq ?_
 unfold fileA Dk.fl0
 simp only [block, Sl.cells, sep_one, List.length_cons, List.length_nil, Nat.zero_add, Nat.reduceAdd, bys, List.map_nil]
 ac_rfl
set_option maxRecDepth 100000 in
set_option maxHeartbeats 4000000 in
theorem wrote_none (D M : Nat) (ns : List Nf) (nm : ByteArray) (pv : Value) (ps : List Np) (d : Dk) (k : Nat) (v : Value) (b : List UInt8) (B F : Assn) (w : World) (hB : Reads B v b) (hs : Sat (diskA D M ns pv ps d * (B * F)) w)
 (hno : ∀ m ∈ ns, m.nm ≠ nm) (hf : fents ns = d.files) (hlen : lens ns ≤ 4611686018427387904)
 (hsz : nm.size ≤ 9223372036854775807) (hn : named nm = true) (hd : d.down = false) (hk : k ≤ 0) (hb0 : 0 < b.length) (hb : b.length ≤ 1099511627776) (hp : ps.length ≤ 1099511627776)
 (hfit : d.fits none (max ((0 : Nat) : Int) ((k + b.length : Nat) : Int)) = 0) (hst : d.stop = false) (h1 : -4611686018427387904 ≤ d.left) (h1' : d.left ≤ 9223372036854775807) (h2 : 0 ≤ d.changes) (h3 : d.changes ≤ 4611686018427387904) :
 Calls Tryz.prog 147 #[.pointer (some ⟨D, 0, none⟩), .string nm, .int .i64 k, v] w fun e w' => ∃ xb nv pv' qs, e = .returned (.int .i64 0) ∧ pents qs = sect nm k b ∧
  Sat (fileA ⟨xb, nm, ⟨laid [] k b, [], false⟩, nv, .slice none 0 0⟩ * (coreD D M pv' d.ticked * (pendA pv' (ps ++ qs) * (mp skey M (mput nm (.pointer (some ⟨xb, 0, none⟩)) (ns.map kvF)) * (filesA ns * (B * F)))))) w' := by
 obtain ⟨i0, E⟩ := elemB
 obtain ⟨i1, E1⟩ := elemP
 obtain ⟨xa, xc, rfl, hxc, hxm⟩ := (hB _ _ (hs.take B)).len
 have hmay := may_none D M ns pv ps d nm (B * F) w hs hno hsz hn hd
 have HF : Aside (∀ q : Int, q = max ((0 : Nat) : Int) ((k + b.length : Nat) : Int) → Calls Tryz.prog 69 #[.pointer (some ⟨D, 0, none⟩), .pointer none, .int .i64 q] w fun e w' => e = .returned (.int .i64 0) ∧ Sat (diskA D M ns pv ps d * (B * F)) w') := by
  rintro q rfl
  have := fits_none D M ns pv ps d (max ((0 : Nat) : Int) ((k + b.length : Nat) : Int)) (B * F) w hs hf hlen (by omega) (by omega)
  rw [hfit] at this
  exact this
 have hb0' : ((b.length : Int) == 0) = false := by rw [beq_eq_false_iff_ne]; omega
 have hkk : ¬ (0 : Int) < k := by omega
 clear hs hf hlen hfit hn
 go_enter Tryz.func147, Tryz.ntmps147
 go_wp2_with fail
 refine hmay.mono ?_
 rintro e w' ⟨rfl, rfl⟩
 go_upto_region 11 with (fail)
 go_cut [10] (fun t10 wx => t10 = .int .i64 0 ∧ Sat (diskA D M ns pv ps d * (B * F)) wx)
 case first =>
  go_wp2_with (go_at_call 69; refine (HF.out _ ?_).mono ?_; omega; rintro e w1 ⟨rfl, hs1⟩)
  all_goals
   go_meet
   exact ⟨rfl, hs1⟩
 case rest =>
  obtain ⟨rfl, hs1⟩ := hcut
  clear HF hmay
  have hch := change_go D M pv d _ _ (hs1.eq (by rw [disk_core, sep_assoc])) hst h1 h1' h2 h3
  clear hs1 hst h1 h1' h2 h3
  go_wp2_with fail
  refine hch.mono ?_
  rintro e w2 ⟨rfl, hs2⟩
  clear hch
  have hs2a : Sat (mp skey M (ns.map kvF) * (coreD D M pv d.ticked * (filesA ns * (pendA pv ps * (B * F))))) w2 := hs2.eq (by ac_rfl)
  obtain ⟨w2b, hup, hs2b⟩ := write_put (D := D) nm hs2a
  have c5 : w2.cell? ⟨D, 5, none⟩ = some (.map (some M)) := by unfold coreD at hs2; exact hs2.c D 5
  have hD0 : D < w2.heap.size := World.block_lt_of_cell? _ _ c5
  clear hs2 hs2a
  obtain ⟨R, HR⟩ : ∃ R, Aside (mp skey M (mput nm (.pointer (some ⟨w2.heap.size, 0, none⟩)) (ns.map kvF)) * (filesA ns * F) = R) := ⟨_, rfl⟩
  have hs3 : Sat (rw TB 1 (.slice none 0 0) (bys []) * (B * (hdr w2.heap.size TF 3 * (Sl.cell w2.heap.size 0 (.slice none 0 0) * (Sl.cell w2.heap.size 1 (.slice none 0 0) * (Sl.cell w2.heap.size 2 (.bool false) * (rw TB 1 (.slice none 0 0) (bys []) * (coreD D M pv d.ticked * (pendA pv ps * R))))))))) w2b := by
   refine hs2b.eq ?_
   rw [← HR.out]
   unfold fileA Dk.fl0
   dsimp only
   ac_rfl
  have c0 := hs3.c w2.heap.size 0
  have hlay := lay_any _ [] k (.slice xa b.length xc) b B _ hB w2b hs3 (by simp) (by omega)
  clear hs2b
  go_wp2_with fail
  refine hlay.mono ?_
  rintro e w3 ⟨nv, rfl, hs4⟩
  obtain ⟨na, nc, hnv, _, _⟩ := rw_vb hs4
  obtain ⟨nl, hnl⟩ : ∃ n, (laid [] k b).length = n := ⟨_, rfl⟩
  rw [hnl] at hnv
  subst hnv
  clear hnl
  have k0 := hs4.c w2.heap.size 0
  have f0 := hs4.f w2.heap.size 0
  have hs5 := hs4.upd w2.heap.size 0 (.slice na nl nc)
  unfold pendA at hs5
  rw [coreD_x] at hs5
  obtain ⟨pa, pn, pc, hpv, hpl2, hpc, hpm⟩ := rw_v (hs5.take (rw TP 3 pv (prows ps)))
  rw [prows_len] at hpl2
  obtain rfl : ps.length = pn := by omega
  rw [hpv] at hs5
  obtain ⟨R2, HR2⟩ : ∃ R2, Aside (rw TB 1 (.slice na nl nc) (bys (laid [] k b)) * (hdr w2.heap.size TF 3 * (Sl.cell w2.heap.size 0 (.slice na nl nc) * (Sl.cell w2.heap.size 1 (.slice none 0 0) * (Sl.cell w2.heap.size 2 (.bool false) * (rw TB 1 (.slice none 0 0) (bys []) * (coreX D M d.ticked * R)))))) = R2) := ⟨_, rfl⟩
  have hs6 : Sat (Sl.cell D 6 (.slice pa ps.length pc) * (rw TP 3 (.slice pa ps.length pc) (prows ps) * (piecesA ps * (B * R2)))) (w3.setCell ⟨w2.heap.size, 0, none⟩ (.slice na nl nc)) := hs5.eq (by rw [← HR2.out]; ac_rfl)
  clear hs3 c0 hlay hs4 hs5 hpv hpl2
  go_wp2_with fail
  go_loopg [2, 3] b.length (fun g t2 t3 wr => ∃ (j : Nat) (ya : Option Addr) (yc : Nat) (pa' : Option Addr) (pc' : Nat) (qs : List Np), t2 = .int .i64 (k + j : Nat) ∧ t3 = .slice ya (b.length - j) yc ∧ j ≤ b.length ∧ qs.length ≤ j ∧
   Aside (g = b.length - j ∧ Reads B (.slice ya (b.length - j) yc) (b.drop j) ∧ SectRel nm k b j qs) ∧
   Sat (Sl.cell D 6 (.slice pa' (ps.length + qs.length) pc') * (rw TP 3 (.slice pa' (ps.length + qs.length) pc') (prows (ps ++ qs)) * (piecesA (ps ++ qs) * (B * R2)))) wr)
  case atStart => exact ⟨0, xa, xc, pa, pc, [], rfl, rfl, by omega, by simp, ⟨rfl, hB, SectRel.zero _ _ _⟩, by simpa using hs6⟩
  case round =>
   obtain ⟨j, ya, yc, pa', pc', qs, rfl, rfl, hj, hq, A, hsr⟩ := hrel
   clear hs6 k0 f0
   obtain ⟨hg, hY, hrel2⟩ := A.out
   by_cases hjl : j < b.length
   · have hgt : (0 : Int) < ((b.length - j : Nat) : Int) := by omega
     obtain ⟨p, hp1⟩ : ∃ p, Dk.part (k + j) (b.length - j) = p := ⟨_, rfl⟩
     have hpp := part_pos (k := k + j) (n := b.length - j) (by omega)
     rw [hp1] at hpp
     have HS := hrel2.step hjl
     rw [hp1] at HS
     have HS' : Aside (∀ v, SectRel nm k b (j + p) (qs ++ [⟨v, ⟨nm, k + j, some ((b.drop j).take p)⟩⟩])) := HS
     have HP : Aside (Dk.part (k + j) (b.length - j) = p) := hp1
     have hyc : b.length - j ≤ yc ∧ yc ≤ maxLen := by have := (hY _ _ (hsr.take B)).n; omega
     have HY : Aside (Reads B (.slice ya (b.length - j) yc) (b.drop j)) := hY
     have HG : Aside (gk = b.length - j) := hg
     clear HS hp1 hY hrel2 A hg
     have hif : (if 64 - ((k : Int) + (j : Int)) % 64 < ((b.length - j : Nat) : Int) then 64 - ((k : Int) + (j : Int)) % 64 else ((b.length - j : Nat) : Int)) = (p : Nat) := by
      have h := HP.out
      unfold Dk.part at h
      split <;> omega
     have HI : Aside ((if 64 - ((k : Int) + (j : Int)) % 64 < ((b.length - j : Nat) : Int) then 64 - ((k : Int) + (j : Int)) % 64 else ((b.length - j : Nat) : Int)) = (p : Nat)) := hif
     clear hif
     have hYto := Reads.to HY.out p (by omega)
     have hlp : ((b.drop j).take p).length = p := by simp; omega
     have q1 := (rw_new0 (e := TB) (s := 1) hsr).drew
     have hsrc1 := (hYto _ _ (q1.take B)).src (P := Tryz.prog)
     rw [hlp] at hsrc1
     have hto := at_to (P := Tryz.prog) E (a := ya) (n := b.length - j) (c := yc) p (by omega)
     have hfrom := at_from (P := Tryz.prog) E (a := ya) (n := b.length - j) (c := yc) p (by omega)
     have c6 := hsr.c D 6
     have hD : D < wr.heap.size := World.block_lt_of_cell? _ _ c6
     have hyc1 : p ≤ yc := by omega
     have hpsl : ps.length + qs.length ≤ 2199023255552 := by omega
     clear hlp hyc hYto
     go_upto_region 23 with (fail)
     rw [HI.out]
     go_region_law first
      | (refine step_append_sl E rfl (.tmp 92) (.tmp 95) rfl rfl rfl q1 hsrc1 (by unfold maxLen; omega) (by omega) ?_; intro a3 c3 w3 hs7 hnn; have HN : Aside (notNil (.slice a3 p c3)) := (by have hz := rw_notNil hs7 (by intro e; exact absurd (hnn.1 e).1 (by simp)); simpa using hz : notNil (.slice a3 p c3)); simp only [Nat.zero_add, List.nil_append] at hs7; have d6 := hs7.c D 6; have hD3 : D < w3.heap.size := World.block_lt_of_cell? _ _ d6; have hs8 := hs7.alloc #[.string nm, .int .i64 ((k : Int) + (j : Int)), .slice a3 p c3] TP; have hsrc2 := Src.new (P := Tryz.prog) (s := 3) hs8 rfl (by intro u hu; simp at hu; rcases hu with rfl | rfl | rfl <;> rfl); have hs9 := hs8.take (rw TP 3 (.slice pa' (ps.length + qs.length) pc') (prows (ps ++ qs))); clear hnn hs8)
      | (refine step_append_sl E1 rfl (.tmp 89) (.tmp 98) rfl rfl rfl hs9 hsrc2 (by unfold maxLen; omega) (by omega) ?_; intro a4 c4 w4 hs10 hnn4; have e6 := hs10.c D 6; have f6 := hs10.f D 6; clear hnn4)
     all_goals
      have hs11 := hs10.upd D 6 (.slice a4 (ps.length + qs.length + 1) c4)
      clear hs7 hs9 hs10 hsrc2 hsrc1 q1 d6 hsr
      go_wp2_with fail
      go_quiet (fail)
      go_wp2
      go_roundg (b.length - (j + p))
      case measure => have := HG.out; omega
      case rel =>
       refine ⟨j + p, cutA ya yc p 1, yc - p, a4, c4, qs ++ [⟨.slice a3 p c3, ⟨nm, k + j, some ((b.drop j).take p)⟩⟩], by go_num, by rw [Nat.sub_sub], by omega, by simp; omega, ⟨rfl, ?_, HS'.out _⟩, ?_⟩
       · have hz := Reads.from HY.out p (by omega)
         rw [Nat.sub_sub, List.drop_drop] at hz
         exact hz
       · rw [← List.append_assoc, prows_append, piecesA_snoc, pieceA_new _ _ _ _ HN.out]
         have e7 : prows [(⟨.slice a3 p c3, ⟨nm, k + j, some ((b.drop j).take p)⟩⟩ : Np)] = [.string nm, .int .i64 ((k : Int) + (j : Int)), .slice a3 p c3] := by simp [prows, prow]
         rw [e7, List.length_append]
         simp only [List.length_cons, List.length_nil, Nat.zero_add, ← Nat.add_assoc]
         refine Sat.weak (B := block w3.heap.size TP [.string nm, .int .i64 ((k : Int) + (j : Int)), .slice a3 p c3]) (Sat.drewN _ (hs11.eq ?_))
         ac_rfl
   · have hgt : ¬ (0 : Int) < ((b.length - j : Nat) : Int) := by omega
     have HD : Aside (pents qs = sect nm k b) := hrel2.done (by omega)
     clear A hg hY hrel2
     go_wp2
     go_ret
     refine ⟨rfl, w2.heap.size, .slice na nl nc, .slice pa' (ps.length + qs.length) pc', qs, HD.out, hsr.eq ?_⟩
     rw [← HR2.out, ← HR.out, coreD_x]
     unfold fileA pendA
     dsimp only
     ac_rfl
end Go.Proofs.YtfhbmblbidcmmaaGreat
namespace Go.Proofs.YtfhbmblbidcmmaaGreat
set_option linter.unusedSimpArgs false
set_option linter.unusedVariables false
open Go.RowKit Go.Sl Go.Dk Go.Tr
attribute [local go_sem ↓] Go.wp_at_zero Go.wp_at_succ
attribute [local go_sem] Go.Sl.cell_sat Go.Sl.frozen_sat
theorem parts2 {g e : Nat} {v1 v2 : Value} {l1 l2 : List UInt8} {B F : Assn} {w : World} (h1 : Reads B v1 l1) (h2 : Reads B v2 l2) (hs : Sat (block g e [v1, v2] * (B * F)) w) : PartsAt w (.slice (some ⟨g, 0, none⟩) 2 2) [l1, l2] := by
 refine ⟨some ⟨g, 0, none⟩, 2, rfl, by simp, fun i l hl => ?_⟩
 have hb := hs.take B
 have hs2 := hs
 simp only [block, Sl.cells, sep_one] at hs2
 match i, hl with
 | 0, hl => cases hl; exact ⟨g, 0, v1, rfl, hs2.c g 0, h1 _ _ hb⟩
 | 1, hl => cases hl; exact ⟨g, 0, v2, rfl, hs2.c g 1, h2 _ _ hb⟩
 | i + 2, hl => cases hl
set_option maxRecDepth 100000 in
set_option maxHeartbeats 3200000 in
theorem pageOpen_any (no : Int) (v : Value) (b : List UInt8) (B F : Assn) (w : World) (hB : Reads B v b) (hs : Sat (B * F) w) (hbl : b.length ≤ 1099511627776) :
 Calls Tryz.prog 159 #[.int .i64 no, v] w fun e w' => ∃ a c, e = .returned (.tuple #[.int .i64 (pageOpen no b).1, .slice a (pageOpen no b).2.1.length c, .int .i64 (pageOpen no b).2.2]) ∧ Sat (rw TB 1 (.slice a (pageOpen no b).2.1.length c) (bys (pageOpen no b).2.1) * (B * F)) w' := by
 obtain ⟨i0, E⟩ := elemB
 obtain ⟨va, vc, rfl, hvc, hvm⟩ := (hB F w hs).len
 obtain ⟨⟨zk, zb, ze⟩, hz⟩ : ∃ r, pageOpen no b = r := ⟨_, rfl⟩
 rw [hz]
 unfold pageOpen at hz
 by_cases hno : no < 0 ∨ 1048576 ≤ no
 · rw [if_pos hno] at hz
   obtain ⟨rfl, rfl, rfl⟩ : zk = 0 ∧ zb = [] ∧ ze = 1 := by simpa [eq_comm] using hz
   clear hz
   by_cases g1 : no < 0
   · have g1' : decide (no < 0) = true := by simpa using g1
     go_enter Tryz.func159, Tryz.ntmps159
     go_wp2
     go_ret3
     exact ⟨none, 0, rfl, by simpa [bys] using hs.rw_nil⟩
   · have g1' : decide (no < 0) = false := by simpa using g1
     have g2 : 1048576 ≤ no := by omega
     go_enter Tryz.func159, Tryz.ntmps159
     go_wp2
     go_ret3
     exact ⟨none, 0, rfl, by simpa [bys] using hs.rw_nil⟩
 · rw [if_neg hno] at hz
   obtain ⟨no, rfl⟩ := Int.eq_ofNat_of_zero_le (show 0 ≤ no by omega)
   have g2 : ¬ (1048576 : Int) ≤ no := by omega
   by_cases hlen : b.length ≠ 256
   · rw [if_pos hlen] at hz
     obtain ⟨rfl, rfl, rfl⟩ : zk = 0 ∧ zb = [] ∧ ze = 3 := by simpa [eq_comm] using hz
     have hl' : ((b.length : Int) != 256) = true := by simp; omega
     clear hz hno
     go_enter Tryz.func159, Tryz.ntmps159
     go_wp2
     go_ret3
     exact ⟨none, 0, rfl, by simpa [bys] using hs.rw_nil⟩
   · have hlen' : b.length = 256 := by omega
     rw [if_neg hlen] at hz
     rw [hlen'] at hB hvc ⊢
     have HB : Aside (Reads B (.slice va 256 vc) b) := hB
     have HLN : Aside (b.length = 256) := hlen'
     have r1 : Reads B (.slice (cutA va vc 8 1) 4 (vc - 8)) ((b.drop 8).take 4) := fun F w h => (hB F w h).cut 8 12 (by omega) (by omega)
     have r2 : Reads B (.slice (cutA va vc 0 1) 8 vc) (b.take 8) := Reads.to hB 8 (by omega)
     have r3 : Reads B (.slice (cutA va vc 12 1) 244 (vc - 12)) (b.drop 12) := Reads.from hB 12 (by omega)
     have hli := leInt_any _ _ w (r1 F w hs) (by simp; omega) (by simp; omega)
     have hc1 : ∀ w, (Instr.sliceAt 26 (.slice va 256 vc) (some (.int .i64 8)) (some (.int .i64 12)) none).run Tryz.prog w = .ok (.slice (cutA va vc 8 1) 4 (vc - 8)) w := fun w => at_cut E 8 12 (by omega) (by omega) w
     have hc2 : ∀ w, (Instr.sliceAt 26 (.slice va 256 vc) none (some (.int .i64 8)) none).run Tryz.prog w = .ok (.slice (cutA va vc 0 1) 8 vc) w := fun w => at_to E 8 (by omega) w
     have hc3 : ∀ w, (Instr.sliceAt 26 (.slice va 256 vc) (some (.int .i64 12)) none none).run Tryz.prog w = .ok (.slice (cutA va vc 12 1) 244 (vc - 12)) w := fun w => at_from E 12 (by omega) w
     have hcr := crc_lt (b.take 8 ++ b.drop 12)
     have HCR : Aside (∀ (g e : Nat) (F : Assn) (w : World), Sat (block g e [.slice (cutA va vc 0 1) 8 vc, .slice (cutA va vc 12 1) 244 (vc - 12)] * (B * F)) w → Calls Tryz.prog 183 #[.slice (some ⟨g, 0, none⟩) 2 2] w fun e w' => e = .returned (.int .u32 (crc (b.take 8 ++ b.drop 12) : Nat)) ∧ w = w') := fun g e F w h => by
      have := crcOf_any _ _ w (parts2 r2 r3 h)
      simpa using this
     obtain ⟨cr, hcre⟩ : ∃ z, crc (b.take 8 ++ b.drop 12) = z := ⟨_, rfl⟩
     obtain ⟨su, hsue⟩ : ∃ z, lei ((b.drop 8).take 4) = z := ⟨_, rfl⟩
     rw [hcre] at hcr HCR hz
     rw [hsue] at hli hz
     have HZ : Aside _ := hz
     clear hz r1 r2 r3 hcre hsue hno hlen hlen' hB
     haveI := hs.i
     go_enter Tryz.func159, Tryz.ntmps159
     go_wp2_with fail
     refine hli.mono ?_
     rintro e w1 ⟨rfl, rfl⟩
     clear hli
     go_upto_region 6 with (fail)
     have hw1 : IntKind.i64.wrap (cr : Int) = cr := IntWalk.i64_in _ (by omega)
     obtain ⟨bz, hbz⟩ : ∃ q : Bool, ((su : Int) != (cr : Int)) = q := ⟨_, rfl⟩
     have HBZ : Aside (((su : Int) != (cr : Int)) = bz) := hbz
     clear hbz
     go_cut [38] (fun t38 wx => t38 = .bool bz ∧ Sat (B * F) wx)
     case first =>
      go_region_law first
       | (go_simp; go_at_call 183; refine (HCR.out w.heap.size _ _ _ (satI : Sat (block w.heap.size _ _ * (B * F)) _)).mono ?_; rintro e w3 ⟨rfl, rfl⟩)
      all_goals
       go_wp2_with fail
       go_meet
       exact ⟨by rw [HBZ.out], satI_weak (C := block w.heap.size _ _) (sep_comm _ _)⟩
     case rest =>
      obtain ⟨rfl, hs1⟩ := hcut
      clear hs hw1 HCR hc1 hc2 hc3 this
      have hz := HZ.out
      by_cases hsc : su ≠ cr
      · rw [if_pos hsc] at hz
        obtain ⟨rfl, rfl, rfl⟩ : zk = 0 ∧ zb = [] ∧ ze = 5 := by simpa [eq_comm] using hz
        obtain rfl : bz = true := by rw [← HBZ.out]; simp; omega
        clear hz HZ hsc hcr HBZ
        go_wp2
        go_ret3
        exact ⟨none, 0, rfl, by simpa [bys] using hs1.rw_nil⟩
      · rw [if_neg hsc] at hz
        obtain rfl : bz = false := by rw [← HBZ.out]; simp; omega
        have hl2 := HLN.out
        have hon := leOn_any _ b B F _ HB.out hs1 (by omega)
        have HZ2 : Aside _ := hz
        clear hz HZ hsc hl2 hcr HBZ
        go_wp2_with fail
        refine hon.mono ?_
        rintro e w2 ⟨R, ra, rc, rfl, hs2⟩
        clear hon hs1
        have hl2 := HLN.out
        have h3 := rdInt_go R ra rc b 0 1 _ w2 hs2 (by omega) (by omega) (by omega) (by omega)
        have h4 := fun w h => rdZeros_go R ra rc b 1 1 (B * F) w h (by omega) (by omega)
        clear hl2
        rw [List.drop_zero, Nat.zero_add] at h3
        go_wp2_with fail
        refine h3.mono ?_
        rintro e w3 ⟨rfl, hs3⟩
        clear h3 hs2
        have hl3 := HLN.out
        have hk8 := lei_lt (b.take 1)
        have hk9 : lei (b.take 1) < 256 := by
         have : (b.take 1).length = 1 := by simp; omega
         rw [this] at hk8; omega
        obtain ⟨kk, hkk⟩ : ∃ q, lei (b.take 1) = q := ⟨_, rfl⟩
        rw [hkk] at hk9 ⊢
        have hz := HZ2.out
        rw [hkk] at hz
        obtain ⟨bq, hbq⟩ : ∃ q : Bool, ((b.drop 1).take 1).any (· != 0) = q := ⟨_, rfl⟩
        rw [hbq] at h4
        have hbq2 : (b.drop 1).take 1 ≠ [0] ↔ bq = true := by
         have hl1 : ((b.drop 1).take 1).length = 1 := by simp; omega
         obtain ⟨y, hy⟩ : ∃ y, (b.drop 1).take 1 = [y] := List.length_eq_one_iff.1 hl1
         rw [← hbq, hy]
         simp
        clear HZ2 hk8 hkk hbq
        cases bq with
        | true =>
          rw [if_pos (.inl (hbq2.2 rfl))] at hz
          obtain ⟨rfl, rfl, rfl⟩ : zk = 0 ∧ zb = [] ∧ ze = 4 := by simpa [eq_comm] using hz
          have h5 := fun w h => rdInt_go R ra rc b 1 2 (B * F) w h (by omega) (by omega) (by omega) (by omega)
          have h6 := fun w h => rdInt_go R ra rc b (1 + 2) 4 (B * F) w h (by omega) (by omega) (by omega) (by omega)
          obtain ⟨n5, hn5⟩ : ∃ q, lei ((b.drop 1).take 2) = q := ⟨_, rfl⟩
          obtain ⟨n6, hn6⟩ : ∃ q, lei ((b.drop (1 + 2)).take 4) = q := ⟨_, rfl⟩
          rw [hn5] at h5
          rw [hn6] at h6
          clear hz hbq2 hn5 hn6 hl3
          have H4 := h4 w3 hs3
          simp only [if_true] at H4
          clear h4
          go_wp2_with fail
          refine H4.mono ?_
          rintro e w4 ⟨rfl, hs4⟩
          have H5 := h5 w4 hs4
          clear H4 hs3 h5
          go_wp2_with fail
          refine H5.mono ?_
          rintro e w5 ⟨rfl, hs5⟩
          have H6 := h6 w5 hs5
          clear H5 hs4 h6
          go_wp2_with fail
          refine H6.mono ?_
          rintro e w6 ⟨rfl, hs6⟩
          go_wp2
          go_ret3
          exact ⟨none, 0, rfl, by simpa [bys] using (Sat.right hs6).rw_nil⟩
        | false =>
          have hne : ¬ ((b.drop 1).take 1 ≠ [0]) := fun h => by have := hbq2.1 h; cases this
          have h5 := fun w h => rdInt_go R ra rc b 2 2 (B * F) w h (by omega) (by omega) (by omega) (by omega)
          have h6 := fun w h => rdInt_go R ra rc b (2 + 2) 4 (B * F) w h (by omega) (by omega) (by omega) (by omega)
          obtain ⟨nn, hnn⟩ : ∃ q, lei ((b.drop 2).take 2) = q := ⟨_, rfl⟩
          obtain ⟨ow, how⟩ : ∃ q, lei ((b.drop 4).take 4) = q := ⟨_, rfl⟩
          rw [hnn] at h5 hz
          rw [show 2 + 2 = 4 from rfl, how] at h6
          rw [how] at hz
          have H4 := h4 w3 hs3
          simp only [Bool.false_eq_true, if_false] at H4
          obtain ⟨bd, hbd⟩ : ∃ q : Bool, decide (kk < 1 ∨ 9 < kk ∨ 244 < nn ∨ ow ≠ no) = q := ⟨_, rfl⟩
          have HBD : Aside (decide (kk < 1 ∨ 9 < kk ∨ 244 < nn ∨ ow ≠ no) = bd) := hbd
          have HZ3 : Aside ((if kk < 1 ∨ 9 < kk ∨ 244 < nn ∨ ow ≠ no then (0, [], 4) else if (b.drop (12 + nn)).any (· != 0) then (0, [], 4) else ((kk : Int), (b.drop 12).take nn, 0)) = (zk, zb, ze)) := (by
           rw [← hz]
           by_cases hbad : kk < 1 ∨ 9 < kk ∨ 244 < nn ∨ ow ≠ no
           · rw [if_pos hbad, if_pos (.inr (by omega))]
           · have hb2 : ¬ ((b.drop 1).take 1 ≠ [0] ∨ kk < 1 ∨ 9 < kk ∨ 244 < nn ∨ (ow : Int) ≠ (no : Int)) := by
              rintro (h | h)
              · exact hne h
              · omega
             rw [if_neg hbad, if_neg hb2] : _ = _)
          clear hz hbq2 hnn how hl3 h4 hbd hne
          go_wp2_with fail
          refine H4.mono ?_
          rintro e w4 ⟨rfl, hs4⟩
          have H5 := h5 w4 hs4
          clear H4 hs3 h5
          go_wp2_with fail
          refine H5.mono ?_
          rintro e w5 ⟨rfl, hs5⟩
          have H6 := h6 w5 hs5
          clear H5 hs4 h6
          go_wp2_with fail
          refine H6.mono ?_
          rintro e w6 ⟨rfl, hs6⟩
          clear H6 hs5
          go_upto_region 13 with (fail)
          go_cut [76] (fun t76 wx => t76 = .bool bd ∧ w6 = wx)
          case first =>
           by_cases c1 : kk < 1
           · have HB1 : Aside (bd = true) := (by rw [← HBD.out]; simp [c1] : _ = _)
             have c1' : decide ((kk : Int) < 1) = true := by simp; omega
             clear c1
             go_wp2_with fail
             go_meet
             exact ⟨by rw [HB1.out], rfl⟩
           · have c1' : decide ((kk : Int) < 1) = false := by simp; omega
             by_cases c2 : 9 < kk
             · have HB1 : Aside (bd = true) := (by rw [← HBD.out]; simp [c2] : _ = _)
               have c2' : decide ((9 : Int) < kk) = true := by simp; omega
               clear c1 c2
               go_wp2_with fail
               go_meet
               exact ⟨by rw [HB1.out], rfl⟩
             · have c2' : decide ((9 : Int) < kk) = false := by simp; omega
               by_cases c3 : 244 < nn
               · have HB1 : Aside (bd = true) := (by rw [← HBD.out]; simp [c3] : _ = _)
                 have c3' : decide ((244 : Int) < nn) = true := by simp; omega
                 clear c1 c2 c3
                 go_wp2_with fail
                 go_meet
                 exact ⟨by rw [HB1.out], rfl⟩
               · have c3' : decide ((244 : Int) < nn) = false := by simp; omega
                 by_cases c4 : ow ≠ no
                 · have HB1 : Aside (bd = true) := (by rw [← HBD.out]; simp [c4] : _ = _)
                   have c4' : ((ow : Int) != (no : Int)) = true := by simp; omega
                   clear c1 c2 c3 c4
                   go_wp2_with fail
                   go_meet
                   exact ⟨by rw [HB1.out], rfl⟩
                 · have HB1 : Aside (bd = false) := (by rw [← HBD.out]; simp; omega : _ = _)
                   have c4' : ((ow : Int) != (no : Int)) = false := by simp; omega
                   clear c1 c2 c3 c4
                   go_wp2_with fail
                   go_meet
                   exact ⟨by rw [HB1.out], rfl⟩
          case rest =>
           obtain ⟨rfl, rfl⟩ := hcut
           have hz := HZ3.out
           cases bd with
           | true =>
             rw [if_pos (of_decide_eq_true HBD.out)] at hz
             obtain ⟨rfl, rfl, rfl⟩ : zk = 0 ∧ zb = [] ∧ ze = 4 := by simpa [eq_comm] using hz
             clear hz HZ3
             go_wp2
             go_ret3
             exact ⟨none, 0, rfl, by simpa [bys] using (Sat.right hs6).rw_nil⟩
           | false =>
             have hbad := of_decide_eq_false HBD.out
             rw [if_neg hbad] at hz
             have hl3 := HLN.out
             have hnn : nn ≤ 244 := by omega
             have h7 := rdTake_go R ra rc b 8 4 (B * F) w6 hs6 (by omega) (by omega)
             have h8 := fun F w h => rdTake_go R ra rc b 12 nn F w h (by omega) (by omega)
             have h9 := fun F w h => rdLeft_any R ra rc b (12 + nn) F w h (by omega) (by omega)
             have h10 := fun F w h => rdZeros_go R ra rc b (12 + nn) (256 - (12 + nn)) F w h (by omega) (by omega)
             rw [hl3] at h9
             have e10 : (b.drop (12 + nn)).take (256 - (12 + nn)) = b.drop (12 + nn) := List.take_of_length_le (by simp; omega)
             rw [e10] at h10
             have HLT : Aside (((b.drop 12).take nn).length = nn) := (by simp; omega : _ = _)
             obtain ⟨az, haz⟩ : ∃ q : Bool, (b.drop (12 + nn)).any (· != 0) = q := ⟨_, rfl⟩
             rw [haz] at h10 hz
             have HZ4 : Aside ((if az then (0, [], 4) else ((kk : Int), (b.drop 12).take nn, 0)) = (zk, zb, ze)) := hz
             clear hz HZ3 hbad hl3 e10 haz
             go_wp2_with fail
             refine h7.mono ?_
             rintro e w7 ⟨b7, d7, rfl, hs7⟩
             clear h7 hs6
             have H8 := h8 (rw TB 1 (.slice b7 4 d7) (bys ((b.drop 8).take 4)) * (B * F)) w7 (hs7.eq (by ac_rfl))
             clear h8 hs7
             go_wp2_with fail
             refine H8.mono ?_
             rintro e w8 ⟨b8, d8, rfl, hs8⟩
             clear H8
             have hs9 : Sat (rdA R ra rc b (12 + nn) * (rw TB 1 (.slice b8 nn d8) (bys ((b.drop 12).take nn)) * (rw TB 1 (.slice b7 4 d7) (bys ((b.drop 8).take 4)) * (B * F)))) w8 := hs8.eq (by ac_rfl)
             clear hs8
             have H9 := h9 _ w8 hs9
             clear h9
             go_wp2_with fail
             refine H9.mono ?_
             rintro e w9 ⟨rfl, hs10⟩
             clear H9 hs9
             have H10 := h10 _ w9 hs10
             clear h10
             go_wp2_with fail
             refine H10.mono ?_
             rintro e w10 ⟨rfl, hs11⟩
             clear H10 hs10
             have hz := HZ4.out
             cases az with
             | true =>
               obtain ⟨rfl, rfl, rfl⟩ : zk = 0 ∧ zb = [] ∧ ze = 4 := by simpa [eq_comm] using hz
               clear hz HZ4
               go_wp2
               go_ret3
               exact ⟨none, 0, rfl, by simpa [bys] using (Sat.weak (A := B * F) (B := rdA R ra rc b (12 + nn) * (rw TB 1 (.slice b8 nn d8) (bys ((b.drop 12).take nn)) * rw TB 1 (.slice b7 4 d7) (bys ((b.drop 8).take 4)))) (hs11.eq (by show rdA R ra rc b (12 + nn) * _ = _; ac_rfl))).rw_nil⟩
             | false =>
               obtain ⟨rfl, rfl, rfl⟩ : zk = kk ∧ zb = (b.drop 12).take nn ∧ ze = 0 := by simpa [eq_comm] using hz
               clear hz HZ4
               go_wp2
               go_ret3
               refine ⟨b8, d8, by rw [HLT.out]; rfl, ?_⟩
               rw [HLT.out]
               exact Sat.weak (B := rdA R ra rc b (12 + nn + (256 - (12 + nn))) * rw TB 1 (.slice b7 4 d7) (bys ((b.drop 8).take 4))) (hs11.eq (by show rdA R ra rc b (12 + nn + (256 - (12 + nn))) * _ = _; ac_rfl))
end Go.Proofs.YtfhbmblbidcmmaaGreat
namespace Go.Proofs.YtfhbmblbidcmmaaGreat
set_option linter.unusedSimpArgs false
set_option linter.unusedVariables false
open Go.RowKit Go.Sl Go.Dk Go.Tr
attribute [local go_sem ↓] Go.wp_at_zero Go.wp_at_succ
attribute [local go_sem] Go.Sl.cell_sat Go.Sl.frozen_sat
def erow (x : Ent) : List Value := [.int .i64 x.src, .int .i64 x.pos, .int .i64 x.len, .int .i64 x.lines]
def krow (k : Kd) : List Value := [.int .i64 k.page, .int .i64 k.bytes, .int .i64 k.lines, .int .i64 k.scraps]
abbrev entV (x : Ent) : Value := .agg #[.int .i64 x.src, .int .i64 x.pos, .int .i64 x.len, .int .i64 x.lines]
abbrev kidV (k : Kd) : Value := .agg #[.int .i64 k.page, .int .i64 k.bytes, .int .i64 k.lines, .int .i64 k.scraps]
theorem counted_any (a b : Int) (w : World) : Calls Tryz.prog 190 #[.int .i64 a, .int .i64 b] w fun e w' => e = .returned (.bool (decide (-1 ≤ a ∧ a ≤ b))) ∧ w = w' := by
 by_cases h1 : -1 ≤ a
 · have h1' : decide (-1 ≤ a) = true := by simpa using h1
   by_cases h2 : a ≤ b
   · have h2' : decide (a ≤ b) = true := by simpa using h2
     have HR : Aside (decide (-1 ≤ a ∧ a ≤ b) = true) := (by simp [h1, h2] : _ = _)
     go_enter Tryz.func190, Tryz.ntmps190
     go_wp2
     go_ret
     first | exact ⟨by rw [HR.out]; rfl, rfl⟩ | exact ⟨rfl, rfl⟩
   · have h2' : decide (a ≤ b) = false := by simpa using h2
     have HR : Aside (decide (-1 ≤ a ∧ a ≤ b) = false) := (by simp [h1, h2] : _ = _)
     go_enter Tryz.func190, Tryz.ntmps190
     go_wp2
     go_ret
     first | exact ⟨by rw [HR.out]; rfl, rfl⟩ | exact ⟨rfl, rfl⟩
 · have h1' : decide (-1 ≤ a) = false := by simpa using h1
   have HR : Aside (decide (-1 ≤ a ∧ a ≤ b) = false) := (by simp [h1] : _ = _)
   go_enter Tryz.func190, Tryz.ntmps190
   go_wp2
   go_ret
   first | exact ⟨by rw [HR.out]; rfl, rfl⟩ | exact ⟨rfl, rfl⟩
set_option maxHeartbeats 1600000 in
theorem mayEnt_any (s o l n : Int) (F : Assn) (w : World) (hs : Sat F w) :
 Calls Tryz.prog 162 #[entV ⟨s, o, l, n⟩] w fun e w' => e = .returned (.bool (mayEnt ⟨s, o, l, n⟩)) ∧ Sat F w' := by
 by_cases h0 : s = 0
 · subst h0
   by_cases c0 : 0 ≤ o
   · have d0 : decide (0 ≤ o) = true := by simpa using c0
     by_cases c1 : o ≤ 16777216
     · have d1 : decide (o ≤ 16777216) = true := by simpa using c1
       by_cases c2 : 1 ≤ l
       · have d2 : decide (1 ≤ l) = true := by simpa using c2
         by_cases c3 : l ≤ 16777216 - o
         · have d3 : decide (l ≤ 16777216 - o) = true := by simpa using c3
           by_cases c4 : l ≤ 1048576
           · have d4 : decide (l ≤ 1048576) = true := by simpa using c4
             have hco := fun w => counted_any n l w
             by_cases c5 : -1 ≤ n ∧ n ≤ l
             · rw [decide_eq_true c5] at hco
               have hco := fun w => hco w
               by_cases c6 : n = -1
               · subst c6
                 have HR : Aside (mayEnt ⟨0, o, l, -1⟩ = true) := (by unfold mayEnt; simp; omega : _ = _)
                 haveI := hs.i
                 go_enter Tryz.func162, Tryz.ntmps162
                 go_wp2_with (go_at_call 190; refine (hco _).mono ?_; rintro e w' ⟨rfl, rfl⟩)
                 go_ret
                 exact ⟨by rw [HR.out]; rfl, (hs.alloc #[.int .i64 0, .int .i64 o, .int .i64 l, .int .i64 (-1)] 77 |>.alloc #[.int .i64 0, .int .i64 o, .int .i64 l] 75).right.right⟩
               · have d6 : (n == -1) = false := by simpa using c6
                 have HR : Aside (mayEnt ⟨0, o, l, n⟩ = false) := (by unfold mayEnt; simp; omega : _ = _)
                 haveI := hs.i
                 go_enter Tryz.func162, Tryz.ntmps162
                 go_wp2_with (go_at_call 190; refine (hco _).mono ?_; rintro e w' ⟨rfl, rfl⟩)
                 go_ret
                 exact ⟨by rw [HR.out]; rfl, (hs.alloc #[.int .i64 0, .int .i64 o, .int .i64 l, .int .i64 n] 77 |>.alloc #[.int .i64 0, .int .i64 o, .int .i64 l] 75).right.right⟩
             · rw [decide_eq_false c5] at hco
               have HR : Aside (mayEnt ⟨0, o, l, n⟩ = false) := (by unfold mayEnt; simp; omega : _ = _)
               haveI := hs.i
               go_enter Tryz.func162, Tryz.ntmps162
               go_wp2_with (go_at_call 190; refine (hco _).mono ?_; rintro e w' ⟨rfl, rfl⟩)
               go_ret
               exact ⟨by rw [HR.out]; rfl, (hs.alloc #[.int .i64 0, .int .i64 o, .int .i64 l, .int .i64 n] 77 |>.alloc #[.int .i64 0, .int .i64 o, .int .i64 l] 75).right.right⟩
           · have d4 : decide (l ≤ 1048576) = false := by simpa using c4
             have HR : Aside (mayEnt ⟨0, o, l, n⟩ = false) := (by unfold mayEnt; simp; omega : _ = _)
             haveI := hs.i
             go_enter Tryz.func162, Tryz.ntmps162
             go_wp2
             go_ret
             exact ⟨by rw [HR.out]; rfl, (hs.alloc #[.int .i64 0, .int .i64 o, .int .i64 l, .int .i64 n] 77 |>.alloc #[.int .i64 0, .int .i64 o, .int .i64 l] 75).right.right⟩
         · have d3 : decide (l ≤ 16777216 - o) = false := by simpa using c3
           have HR : Aside (mayEnt ⟨0, o, l, n⟩ = false) := (by unfold mayEnt; simp; omega : _ = _)
           haveI := hs.i
           go_enter Tryz.func162, Tryz.ntmps162
           go_wp2
           go_ret
           exact ⟨by rw [HR.out]; rfl, (hs.alloc #[.int .i64 0, .int .i64 o, .int .i64 l, .int .i64 n] 77 |>.alloc #[.int .i64 0, .int .i64 o, .int .i64 l] 75).right.right⟩
       · have d2 : decide (1 ≤ l) = false := by simpa using c2
         have HR : Aside (mayEnt ⟨0, o, l, n⟩ = false) := (by unfold mayEnt; simp; omega : _ = _)
         haveI := hs.i
         go_enter Tryz.func162, Tryz.ntmps162
         go_wp2
         go_ret
         exact ⟨by rw [HR.out]; rfl, (hs.alloc #[.int .i64 0, .int .i64 o, .int .i64 l, .int .i64 n] 77 |>.alloc #[.int .i64 0, .int .i64 o, .int .i64 l] 75).right.right⟩
     · have d1 : decide (o ≤ 16777216) = false := by simpa using c1
       have HR : Aside (mayEnt ⟨0, o, l, n⟩ = false) := (by unfold mayEnt; simp; omega : _ = _)
       haveI := hs.i
       go_enter Tryz.func162, Tryz.ntmps162
       go_wp2
       go_ret
       exact ⟨by rw [HR.out]; rfl, (hs.alloc #[.int .i64 0, .int .i64 o, .int .i64 l, .int .i64 n] 77 |>.alloc #[.int .i64 0, .int .i64 o, .int .i64 l] 75).right.right⟩
   · have d0 : decide (0 ≤ o) = false := by simpa using c0
     have HR : Aside (mayEnt ⟨0, o, l, n⟩ = false) := (by unfold mayEnt; simp; omega : _ = _)
     haveI := hs.i
     go_enter Tryz.func162, Tryz.ntmps162
     go_wp2
     go_ret
     exact ⟨by rw [HR.out]; rfl, (hs.alloc #[.int .i64 0, .int .i64 o, .int .i64 l, .int .i64 n] 77 |>.alloc #[.int .i64 0, .int .i64 o, .int .i64 l] 75).right.right⟩
 · have e0 : (s == 0) = false := by simpa using h0
   by_cases h1 : s = 1
   · subst h1
     by_cases c0 : 0 ≤ o
     · have d0 : decide (0 ≤ o) = true := by simpa using c0
       by_cases c1 : o ≤ 16777216
       · have d1 : decide (o ≤ 16777216) = true := by simpa using c1
         by_cases c2 : 1 ≤ l
         · have d2 : decide (1 ≤ l) = true := by simpa using c2
           by_cases c3 : l ≤ 16777216 - o
           · have d3 : decide (l ≤ 16777216 - o) = true := by simpa using c3
             by_cases c4 : l ≤ 1048576
             · have d4 : decide (l ≤ 1048576) = true := by simpa using c4
               have hco := fun w => counted_any n l w
               by_cases c5 : -1 ≤ n ∧ n ≤ l
               · rw [decide_eq_true c5] at hco
                 have hco := fun w => hco w
                 have HR : Aside (mayEnt ⟨1, o, l, n⟩ = true) := (by unfold mayEnt; simp; omega : _ = _)
                 haveI := hs.i
                 go_enter Tryz.func162, Tryz.ntmps162
                 go_wp2_with (go_at_call 190; refine (hco _).mono ?_; rintro e w' ⟨rfl, rfl⟩)
                 go_ret
                 exact ⟨by rw [HR.out]; rfl, (hs.alloc #[.int .i64 1, .int .i64 o, .int .i64 l, .int .i64 n] 77 |>.alloc #[.int .i64 1, .int .i64 o, .int .i64 l] 75).right.right⟩
               · rw [decide_eq_false c5] at hco
                 have HR : Aside (mayEnt ⟨1, o, l, n⟩ = false) := (by unfold mayEnt; simp; omega : _ = _)
                 haveI := hs.i
                 go_enter Tryz.func162, Tryz.ntmps162
                 go_wp2_with (go_at_call 190; refine (hco _).mono ?_; rintro e w' ⟨rfl, rfl⟩)
                 go_ret
                 exact ⟨by rw [HR.out]; rfl, (hs.alloc #[.int .i64 1, .int .i64 o, .int .i64 l, .int .i64 n] 77 |>.alloc #[.int .i64 1, .int .i64 o, .int .i64 l] 75).right.right⟩
             · have d4 : decide (l ≤ 1048576) = false := by simpa using c4
               have HR : Aside (mayEnt ⟨1, o, l, n⟩ = false) := (by unfold mayEnt; simp; omega : _ = _)
               haveI := hs.i
               go_enter Tryz.func162, Tryz.ntmps162
               go_wp2
               go_ret
               exact ⟨by rw [HR.out]; rfl, (hs.alloc #[.int .i64 1, .int .i64 o, .int .i64 l, .int .i64 n] 77 |>.alloc #[.int .i64 1, .int .i64 o, .int .i64 l] 75).right.right⟩
           · have d3 : decide (l ≤ 16777216 - o) = false := by simpa using c3
             have HR : Aside (mayEnt ⟨1, o, l, n⟩ = false) := (by unfold mayEnt; simp; omega : _ = _)
             haveI := hs.i
             go_enter Tryz.func162, Tryz.ntmps162
             go_wp2
             go_ret
             exact ⟨by rw [HR.out]; rfl, (hs.alloc #[.int .i64 1, .int .i64 o, .int .i64 l, .int .i64 n] 77 |>.alloc #[.int .i64 1, .int .i64 o, .int .i64 l] 75).right.right⟩
         · have d2 : decide (1 ≤ l) = false := by simpa using c2
           have HR : Aside (mayEnt ⟨1, o, l, n⟩ = false) := (by unfold mayEnt; simp; omega : _ = _)
           haveI := hs.i
           go_enter Tryz.func162, Tryz.ntmps162
           go_wp2
           go_ret
           exact ⟨by rw [HR.out]; rfl, (hs.alloc #[.int .i64 1, .int .i64 o, .int .i64 l, .int .i64 n] 77 |>.alloc #[.int .i64 1, .int .i64 o, .int .i64 l] 75).right.right⟩
       · have d1 : decide (o ≤ 16777216) = false := by simpa using c1
         have HR : Aside (mayEnt ⟨1, o, l, n⟩ = false) := (by unfold mayEnt; simp; omega : _ = _)
         haveI := hs.i
         go_enter Tryz.func162, Tryz.ntmps162
         go_wp2
         go_ret
         exact ⟨by rw [HR.out]; rfl, (hs.alloc #[.int .i64 1, .int .i64 o, .int .i64 l, .int .i64 n] 77 |>.alloc #[.int .i64 1, .int .i64 o, .int .i64 l] 75).right.right⟩
     · have d0 : decide (0 ≤ o) = false := by simpa using c0
       have HR : Aside (mayEnt ⟨1, o, l, n⟩ = false) := (by unfold mayEnt; simp; omega : _ = _)
       haveI := hs.i
       go_enter Tryz.func162, Tryz.ntmps162
       go_wp2
       go_ret
       exact ⟨by rw [HR.out]; rfl, (hs.alloc #[.int .i64 1, .int .i64 o, .int .i64 l, .int .i64 n] 77 |>.alloc #[.int .i64 1, .int .i64 o, .int .i64 l] 75).right.right⟩
   · have e1 : (s == 1) = false := by simpa using h1
     have HR : Aside (mayEnt ⟨s, o, l, n⟩ = false) := (by unfold mayEnt; simp; omega : _ = _)
     haveI := hs.i
     go_enter Tryz.func162, Tryz.ntmps162
     go_wp2
     go_ret
     exact ⟨by rw [HR.out]; rfl, (hs.alloc #[.int .i64 s, .int .i64 o, .int .i64 l, .int .i64 n] 77 |>.alloc #[.int .i64 s, .int .i64 o, .int .i64 l] 75).right.right⟩
end Go.Proofs.YtfhbmblbidcmmaaGreat
namespace Go.Proofs.YtfhbmblbidcmmaaGreat
set_option linter.unusedSimpArgs false
set_option linter.unusedVariables false
open Go.RowKit Go.Sl Go.Dk Go.Tr
attribute [local go_sem ↓] Go.wp_at_zero Go.wp_at_succ
attribute [local go_sem] Go.Sl.cell_sat Go.Sl.frozen_sat
set_option maxHeartbeats 1600000 in
theorem mayKid_any (p b l s : Int) (F : Assn) (w : World) (hs : Sat F w) :
 Calls Tryz.prog 163 #[kidV ⟨p, b, l, s⟩] w fun e w' => e = .returned (.bool (mayKid ⟨p, b, l, s⟩)) ∧ Sat F w' := by
 have hco := fun w => counted_any l b w
 by_cases c0 : 1 ≤ p
 · have d0 : decide (1 ≤ p) = true := by simpa using c0
   by_cases c1 : p < 1048576
   · have d1 : decide (p < 1048576) = true := by simpa using c1
     by_cases c2 : 1 ≤ b
     · have d2 : decide (1 ≤ b) = true := by simpa using c2
       by_cases c3 : b ≤ 1048576
       · have d3 : decide (b ≤ 1048576) = true := by simpa using c3
         by_cases c5 : -1 ≤ l ∧ l ≤ b
         · rw [decide_eq_true c5] at hco
           by_cases c6 : 1 ≤ s
           · have d6 : decide (1 ≤ s) = true := by simpa using c6
             by_cases c7 : s ≤ b
             · have d7 : decide (s ≤ b) = true := by simpa using c7
               have HR : Aside (mayKid ⟨p, b, l, s⟩ = true) := (by unfold mayKid; simp; omega : _ = _)
               haveI := hs.i
               go_enter Tryz.func163, Tryz.ntmps163
               go_wp2_with (go_at_call 190; refine (hco _).mono ?_; rintro e w' ⟨rfl, rfl⟩)
               go_ret
               exact ⟨by rw [HR.out]; rfl, (hs.alloc #[.int .i64 p, .int .i64 b, .int .i64 l, .int .i64 s] 141).right⟩
             · have d7 : decide (s ≤ b) = false := by simpa using c7
               have HR : Aside (mayKid ⟨p, b, l, s⟩ = false) := (by unfold mayKid; simp; omega : _ = _)
               haveI := hs.i
               go_enter Tryz.func163, Tryz.ntmps163
               go_wp2_with (go_at_call 190; refine (hco _).mono ?_; rintro e w' ⟨rfl, rfl⟩)
               go_ret
               exact ⟨by rw [HR.out]; rfl, (hs.alloc #[.int .i64 p, .int .i64 b, .int .i64 l, .int .i64 s] 141).right⟩
           · have d6 : decide (1 ≤ s) = false := by simpa using c6
             have HR : Aside (mayKid ⟨p, b, l, s⟩ = false) := (by unfold mayKid; simp; omega : _ = _)
             haveI := hs.i
             go_enter Tryz.func163, Tryz.ntmps163
             go_wp2_with (go_at_call 190; refine (hco _).mono ?_; rintro e w' ⟨rfl, rfl⟩)
             go_ret
             exact ⟨by rw [HR.out]; rfl, (hs.alloc #[.int .i64 p, .int .i64 b, .int .i64 l, .int .i64 s] 141).right⟩
         · rw [decide_eq_false c5] at hco
           have HR : Aside (mayKid ⟨p, b, l, s⟩ = false) := (by unfold mayKid; simp; omega : _ = _)
           haveI := hs.i
           go_enter Tryz.func163, Tryz.ntmps163
           go_wp2_with (go_at_call 190; refine (hco _).mono ?_; rintro e w' ⟨rfl, rfl⟩)
           go_ret
           exact ⟨by rw [HR.out]; rfl, (hs.alloc #[.int .i64 p, .int .i64 b, .int .i64 l, .int .i64 s] 141).right⟩
       · have d3 : decide (b ≤ 1048576) = false := by simpa using c3
         have HR : Aside (mayKid ⟨p, b, l, s⟩ = false) := (by unfold mayKid; simp; omega : _ = _)
         haveI := hs.i
         go_enter Tryz.func163, Tryz.ntmps163
         go_wp2
         go_ret
         exact ⟨by rw [HR.out]; rfl, (hs.alloc #[.int .i64 p, .int .i64 b, .int .i64 l, .int .i64 s] 141).right⟩
     · have d2 : decide (1 ≤ b) = false := by simpa using c2
       have HR : Aside (mayKid ⟨p, b, l, s⟩ = false) := (by unfold mayKid; simp; omega : _ = _)
       haveI := hs.i
       go_enter Tryz.func163, Tryz.ntmps163
       go_wp2
       go_ret
       exact ⟨by rw [HR.out]; rfl, (hs.alloc #[.int .i64 p, .int .i64 b, .int .i64 l, .int .i64 s] 141).right⟩
   · have d1 : decide (p < 1048576) = false := by simpa using c1
     have HR : Aside (mayKid ⟨p, b, l, s⟩ = false) := (by unfold mayKid; simp; omega : _ = _)
     haveI := hs.i
     go_enter Tryz.func163, Tryz.ntmps163
     go_wp2
     go_ret
     exact ⟨by rw [HR.out]; rfl, (hs.alloc #[.int .i64 p, .int .i64 b, .int .i64 l, .int .i64 s] 141).right⟩
 · have d0 : decide (1 ≤ p) = false := by simpa using c0
   have HR : Aside (mayKid ⟨p, b, l, s⟩ = false) := (by unfold mayKid; simp; omega : _ = _)
   haveI := hs.i
   go_enter Tryz.func163, Tryz.ntmps163
   go_wp2
   go_ret
   exact ⟨by rw [HR.out]; rfl, (hs.alloc #[.int .i64 p, .int .i64 b, .int .i64 l, .int .i64 s] 141).right⟩
end Go.Proofs.YtfhbmblbidcmmaaGreat
